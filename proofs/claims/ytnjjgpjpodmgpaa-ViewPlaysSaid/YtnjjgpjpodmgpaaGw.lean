/- The VC library of this seat: from a function's loaded code to a statement without frames ('wpE'), and its soundness ('calls_of_wpE'). Conditions: none; it speaks of any program. -/
import Derived.Lib.SliceRun
import Derived.WalkKit
import Derived.Laws.StructEq
set_option linter.unusedVariables false
namespace Go.Proofs.Ytnjjgpjpodmgpaa

/-- 'returned', with R of the value and the world. -/
def Ret (R : Value → World → Prop) : Ending → World → Prop
  | .returned v, w => R v w
  | _, _ => False

theorem call_mono {P : Program} {g : FuncId} {args : Array Value} {w : World} {R R' : Value → World → Prop}
    (h : Calls P g args w (Ret R)) (k : ∀ v w', R v w' → R' v w') : Calls P g args w (Ret R') :=
  h.mono fun e w' hr => by cases e <;> first | exact k _ _ hr | exact hr.elim

/-- A call, closed to reduction. -/
structure CallS (P : Program) (g : FuncId) (args : Array Value) (w : World) (R : Value → World → Prop) : Prop where
  h : Calls P g args w (Ret R)

theorem CallS.of {P : Program} {g : FuncId} {args : Array Value} {w : World} {R R' : Value → World → Prop}
    (h : Calls P g args w (Ret R)) (k : ∀ v w', R v w' → R' v w') : CallS P g args w R' := ⟨call_mono h k⟩

abbrev Fr := Nat → Value

def ev (f : Fr) : Operand → Value
  | .tmp t => f t
  | .const v => v
  | .global g => .pointer (some ⟨g, 0, none⟩)
  | .func g => .func (.func g) #[] #[]

def put (f : Fr) (d : Option Nat) (v : Value) : Fr :=
  match d with
  | some d => fun t => cond (Nat.beq t d) v (f t)
  | none => f

/-- The act's frame is f; it has N slots; nothing is deferred. -/
structure FR (N : Nat) (a : Act) (f : Fr) : Prop where
  size : a.tmps.size = N
  defers : a.defers = []
  get : ∀ t, a.tmps.getD t undef = f t

theorem FR.eval {N : Nat} {a : Act} {f : Fr} (h : FR N a f) (o : Operand) : a.eval o = ev f o := by
  cases o with
  | tmp t => exact h.get t
  | _ => rfl

theorem FR.put {N : Nat} {a : Act} {f : Fr} (h : FR N a f) (d : Option Nat) (v : Value) (hd : ∀ k, d = some k → k < N) : FR N (a.put d v) (put f d v) := by
  cases d with
  | none => exact h
  | some d =>
    have hlt := hd d rfl
    refine ⟨by simp [Act.put, h.size], by simp [Act.put, h.defers], fun t => ?_⟩
    have hs := h.size
    have hg := h.get t
    simp only [Act.put, Go.Proofs.Ytnjjgpjpodmgpaa.put]
    by_cases e : t = d
    · subst e
      simp [Array.getD, hs, hlt]
    · have hb : Nat.beq t d = false := by
        cases hq : Nat.beq t d with
        | false => rfl
        | true => exact absurd (Nat.eq_of_beq_eq_true hq) e
      rw [hb]
      simp only [cond_false]
      rw [← hg]
      simp only [Array.getD_eq_getD_getElem?, Array.getElem?_setIfInBounds]
      rw [if_neg (fun q => e q.symm)]

/-! ### typed existentials by a type's zero value -/

def ex1 (z : Value) (K : Value → Prop) : Prop :=
  match z with
  | .int k _ => ∃ n : Int, K (.int k n)
  | .bool _ => ∃ b : Bool, K (.bool b)
  | .string _ => ∃ s : ByteArray, K (.string s)
  | .pointer _ => ∃ p : Option Addr, K (.pointer p)
  | .slice _ _ _ => ∃ (a : Option Addr) (l c : Nat), K (.slice a l c)
  | .map _ => ∃ r : Option Nat, K (.map r)
  | .float k _ => ∃ n : Nat, K (.float k n)
  | .complex k _ _ => ∃ n m : Nat, K (.complex k n m)
  | _ => ∃ v : Value, K v

def exL : List Value → (List Value → Prop) → Prop
  | [], K => K []
  | z :: zs, K => ex1 z fun v => exL zs fun vs => K (v :: vs)

def exC (z : Value) (K : Value → Prop) : Prop :=
  match z with
  | .agg zs => exL zs.toList fun vs => K (.agg vs.toArray)
  | z => ex1 z K

def exT : List Value → (List Value → Prop) → Prop
  | [], K => K []
  | z :: zs, K => exC z fun v => exT zs fun vs => K (v :: vs)

def exV (z : Value) (K : Value → Prop) : Prop :=
  match z with
  | .tuple zs => exT zs.toList fun vs => K (.tuple vs.toArray)
  | z => exC z K

theorem ex1_of {z : Value} {K : Value → Prop} (h : ex1 z K) : ∃ v, K v := by
  cases z <;> simp only [ex1] at h
  case slice => obtain ⟨a, l, c, h⟩ := h; exact ⟨_, h⟩
  case complex => obtain ⟨n, m, h⟩ := h; exact ⟨_, h⟩
  all_goals (obtain ⟨x, h⟩ := h; exact ⟨_, h⟩)

theorem exL_of : ∀ {zs : List Value} {K : List Value → Prop}, exL zs K → ∃ vs, vs.length = zs.length ∧ K vs
  | [], _, h => ⟨[], rfl, h⟩
  | _ :: zs, K, h => by
    obtain ⟨v, h⟩ := ex1_of h
    obtain ⟨vs, hl, h⟩ := exL_of h
    exact ⟨v :: vs, by simp [hl], h⟩

theorem exC_of {z : Value} {K : Value → Prop} (h : exC z K) : ∃ v, K v := by
  unfold exC at h
  split at h
  · obtain ⟨vs, _, h⟩ := exL_of h; exact ⟨_, h⟩
  · exact ex1_of h

theorem exT_of : ∀ {zs : List Value} {K : List Value → Prop}, exT zs K → ∃ vs, K vs
  | [], _, h => ⟨[], h⟩
  | _ :: zs, K, h => by
    obtain ⟨v, h⟩ := exC_of h
    obtain ⟨vs, h⟩ := exT_of h
    exact ⟨v :: vs, h⟩

theorem exV_of {z : Value} {K : Value → Prop} (h : exV z K) : ∃ v, K v := by
  unfold exV at h
  split at h
  · obtain ⟨vs, h⟩ := exT_of h; exact ⟨_, h⟩
  · exact exC_of h

def zeroOf (P : Program) (t : TypeId) : Value :=
  match P.info? t with
  | some i => (match i.zero with | some z => z | none => undef)
  | none => undef

def ifB (b : Bool) (A B : Prop) : Prop := match b with | true => A | false => B

theorem ifB_iff {b : Bool} {A B : Prop} : ifB b A B ↔ (b = true → A) ∧ (b = false → B) := by cases b <;> simp [ifB]
theorem ifB_intro {b : Bool} {A B : Prop} (h1 : b = true → A) (h2 : b = false → B) : ifB b A B := ifB_iff.2 ⟨h1, h2⟩
theorem ifD {c : Prop} [Decidable c] {A B : Prop} (h1 : c → A) (h2 : ¬ c → B) : ifB (decide c) A B :=
  ifB_intro (fun h => h1 (of_decide_eq_true h)) (fun h => h2 (of_decide_eq_false h))
theorem ifB_true {b : Bool} {A B : Prop} (hb : b = true) (h : A) : ifB b A B := by subst hb; exact h
theorem ifB_false {b : Bool} {A B : Prop} (hb : b = false) (h : B) : ifB b A B := by subst hb; exact h
theorem ifD_true {c : Prop} [Decidable c] {A B : Prop} (hc : c) (h : A) : ifB (decide c) A B := ifB_true (decide_eq_true hc) h
theorem ifD_false {c : Prop} [Decidable c] {A B : Prop} (hc : ¬ c) (h : B) : ifB (decide c) A B := ifB_false (decide_eq_false hc) h

def someA (p : Option Addr) (K : Addr → Prop) : Prop := match p with | some a => K a | none => False

/-- An operation that is left as it stands: it comes to some value and world, of which K. -/
def RunE (P : Program) (s : Sem Value) (w : World) (z : Value) (K : Value → World → Prop) : Prop :=
  exV z fun u => ∃ w' : World, s.run P w = .ok u w' ∧ K u w'

/-- An operation without a value, that is left as it stands. -/
def RunU (P : Program) (s : Sem Unit) (w : World) (K : World → Prop) : Prop := ∃ w' : World, s.run P w = .ok () w' ∧ K w'

/-- A step of a range over a map: there is none, or one. -/
def NextE (P : Program) (s : Sem Value) (w : World) (K : Value → World → Prop) : Prop :=
  ∃ (b : Bool) (k v : Value) (w' : World), s.run P w = .ok (.tuple (cond b #[.bool true, k, v] #[.bool false])) w' ∧ (b = false → K (.tuple #[.bool false]) w') ∧ (b = true → K (.tuple #[.bool true, k, v]) w')

def got (r : Result Next) (K : Value → World → Prop) : Prop :=
  match r with
  | .ok (.value v) w' => K v w'
  | .ok .skip w' => K undef w'
  | _ => False

/-! ### loads and stores -/

/-- The cells from a on hold vs. -/
def CellsAt (w : World) (a : Addr) (vs : List Value) : Prop := ∀ (j : Nat) (v : Value), vs[j]? = some v → w.cell? (a.add j) = some v

def isAggD : TypeDesc → Bool
  | .struct _ => true
  | .array _ _ => true
  | _ => false

def ldE (P : Program) (t : TypeId) (w : World) (a : Addr) (K : Value → Prop) : Prop :=
  match P.underlying t, P.info? t with
  | some d, some i =>
    match isAggD d, i.zero with
    | true, some (.agg zs) => cond (Nat.beq zs.toList.length i.size) (exL zs.toList fun vs => CellsAt w a vs ∧ K (.agg vs.toArray)) False
    | false, some z => exV z fun u => w.cell? a = some u ∧ K u
    | _, _ => False
  | _, _ => False

/-- n cells from a on may be written. -/
def WrC (w : World) (a : Addr) (n : Nat) : Prop := ∀ j : Nat, j < n → (w.cell? (a.add j)).isSome = true ∧ w.frozen? (a.add j) = false

/-- The cells from a (place i) on are written. -/
def wrFrom (a : Addr) : Nat → List Value → World → World
  | _, [], w => w
  | i, v :: vs, w => wrFrom a (i + 1) vs (w.setCell (a.add i) v)

def wr (w : World) (a : Addr) (vs : List Value) : World := wrFrom a 0 vs w

def stE (P : Program) (t : TypeId) (w : World) (a : Addr) (v : Value) (K : World → Prop) : Prop :=
  match P.info? t with
  | some i => cond (Nat.beq v.cells.size i.size && v.cells.toList.all Value.oneCell') (WrC w a v.cells.toList.length ∧ ∀ w1 : World, w1 = wr w a v.cells.toList → K w1) False
  | none => False

theorem run_sizeOf' {P : Program} {t : TypeId} {i : TypeInfo} (h : P.info? t = some i) (w : World) : (sizeOf t).run P w = .ok i.size w := by
  simp [sizeOf, typeInfo, h]

theorem run_isAgg' {P : Program} {t : TypeId} {d : TypeDesc} (h : P.underlying t = some d) (w : World) : (isAgg t).run P w = .ok (isAggD d) w := by
  simp only [isAgg, Sem.run_bind, run_underlying h, Result.andThen_ok]
  cases d <;> rfl

theorem ldE_sound {P : Program} {t : TypeId} {w : World} {a : Addr} {K : Value → Prop} (h : ldE P t w a K) :
    ∃ v, (loadVar t a).run P w = .ok v w ∧ K v := by
  unfold ldE at h
  split at h
  case h_2 => exact h.elim
  case h_1 d i hd hi =>
    split at h
    case h_3 => exact h.elim
    case h_1 zs hda hz =>
      cases hb : Nat.beq zs.toList.length i.size with
      | false => rw [hb] at h; exact h.elim
      | true =>
        rw [hb] at h
        obtain ⟨vs, hl, h⟩ := exL_of h
        obtain ⟨hc, hk⟩ := h
        refine ⟨_, ?_, hk⟩
        have hsz : i.size = vs.length := by rw [hl]; exact (Nat.eq_of_beq_eq_true hb).symm
        simp only [loadVar, Sem.run_bind, run_isAgg' hd, hda, Result.andThen_ok, if_true, run_sizeOf' hi, hsz,
          run_loadCells_list (P := P) w a vs (fun j v hv => by simpa using hc j v hv), Sem.run_pure]
    case h_2 z hda hz =>
      obtain ⟨v, hc, hk⟩ := exV_of h
      refine ⟨v, ?_, hk⟩
      simp only [loadVar, Sem.run_bind, run_isAgg' hd, hda, Result.andThen_ok, Bool.false_eq_true, if_false, run_load, hc]

theorem storeCells_sound {P : Program} (a : Addr) : ∀ (vs : List Value) (i : Nat) (w : World), vs.all Value.oneCell' = true →
    (∀ j : Nat, j < vs.length → (w.cell? (a.add (i + j))).isSome = true ∧ w.frozen? (a.add (i + j)) = false) → (storeCells a vs i).run P w = .ok () (wrFrom a i vs w)
  | [], i, w, _, _ => by simp [storeCells, wrFrom]
  | v :: vs, i, w, h1, h => by
    simp only [List.all_cons, Bool.and_eq_true] at h1
    have h0 := h 0 (by simp)
    simp only [Nat.add_zero] at h0
    obtain ⟨u, hu⟩ := Option.isSome_iff_exists.1 h0.1
    simp only [storeCells, Sem.run_bind, run_store P w (a.add i) v .plain h1.1, hu, h0.2, Bool.false_eq_true, if_false, Result.andThen_ok, wrFrom]
    refine storeCells_sound a vs (i + 1) _ h1.2 fun j hj => ?_
    have hx := h (j + 1) (by simp; omega)
    rw [show i + 1 + j = i + (j + 1) by omega]
    refine ⟨?_, by rw [World.frozen?_setCell]; exact hx.2⟩
    by_cases e : a.add i = a.add (i + (j + 1))
    · rw [← e]
      rw [World.cell?_setCell_same w (a.add i) v hu]
      rfl
    · rw [World.cell?_setCell_other w (a.add i) (a.add (i + (j + 1))) v e]
      exact hx.1

theorem stE_sound {P : Program} {t : TypeId} {w : World} {a : Addr} {v : Value} {K : World → Prop} (h : stE P t w a v K) :
    ∃ w', (storeVar t a v).run P w = .ok () w' ∧ K w' := by
  unfold stE at h
  split at h
  case h_2 => exact h.elim
  case h_1 i hi =>
    cases hb : (Nat.beq v.cells.size i.size && v.cells.toList.all Value.oneCell') with
    | false => rw [hb] at h; exact h.elim
    | true =>
      rw [hb] at h
      simp only [Bool.and_eq_true] at hb
      obtain ⟨hw, hk⟩ := h
      refine ⟨_, ?_, hk _ rfl⟩
      have hsz : v.cells.size = i.size := Nat.eq_of_beq_eq_true hb.1
      simp only [storeVar, Sem.run_bind, run_sizeOf' hi, Result.andThen_ok, hsz, ne_eq, not_true_eq_false, if_false]
      exact storeCells_sound a _ 0 w hb.2 (by intro j hj; simpa using hw j hj)

/-! ### one operation -/

def callOk (P : Program) (g : FuncId) : Bool :=
  match P.funcs[g]? with
  | some fn => fn.body.isSome && !(fn.name == "runtime.NumGoroutine")
  | none => false

def alE (P : Program) (e : TypeId) (w : World) (c : Array Value) (K : Value → World → Prop) : Prop :=
  ∀ (b : Nat) (w1 : World), b = w.heap.size → w1 = w.alloc (.cells c e) → K (.pointer (some ⟨b, 0, none⟩)) w1

def bndI (d : Int) : Option Value → Option Int
  | none => some d
  | some (.int _ n) => some n
  | _ => none

def subA (a : Option Addr) (l c s : Nat) : Option Addr := if c = l then a else a.map (·.add (l * s))

def shlV (k : IntKind) (a b : Int) : Int := k.wrap (a * 2 ^ min b.toNat k.bits)
def shrV (k : IntKind) (a b : Int) : Int := a.fdiv (2 ^ min b.toNat k.bits)

/-- The bytes bs lie from a on. -/
def BytesAt (w : World) (a : Option Addr) (bs : List UInt8) : Prop := ∀ (j : Nat) (b : UInt8), bs[j]? = some b → ∃ x : Addr, a = some x ∧ w.cell? (x.add j) = some (.int .u8 (b.toNat : Int))

/-- A call of a function that has no body here. -/
def ExtE (P : Program) (g : FuncId) (args : Array Value) (w : World) (z : Value) (K : Value → World → Prop) : Prop :=
  exV z fun u => ∃ w' : World, (callFunc g args).run P w = .ok (.value u) w' ∧ K u w'

def opE (P : Program) (o : Oper) (f : Fr) (w : World) (K : Value → World → Prop) : Prop :=
  match o.op with
  | .move x => K (ev f x) w
  | .assign x => K (ev f x) w
  | .pick c a b => match ev f c with | .bool q => ifB q (K (ev f a) w) (K (ev f b) w) | _ => False
  | .alloc e => match P.info? e with
    | some i => (match i.zero with | some z => alE P e w z.cells K | none => False)
    | none => False
  | .box e x => alE P e w (ev f x).cells K
  | .load t x => match ev f x with | .pointer p => someA p fun a => ldE P t w a fun v => K v w | _ => False
  | .store t x y => match ev f x with | .pointer p => someA p fun a => stE P t w a (ev f y) fun w' => K undef w' | _ => False
  | .nilCheck x => match ev f x with | .pointer p => someA p fun a => K (.pointer (some a)) w | _ => got ((execOp (ev f) o).run P w) K
  | .fieldAddr s x i => match P.underlying s, ev f x with
    | some (.struct fs), .pointer p => (match fs[i]? with
      | some fld => (match P.info? fld.type with
        | some ti => cond (Nat.beq ti.size 0) False (someA p fun a => K (.pointer (some (a.add fld.offset))) w)
        | none => False)
      | none => False)
    | _, _ => False
  | .indexAddr t x ix => match P.underlying t, ev f x, ev f ix with
    | some (.slice e), .slice base len _, .int _ i => (match P.info? e with
      | some ti => 0 ≤ i ∧ i < (len : Int) ∧ someA base fun a => K (.pointer (some (a.add (cond (Nat.beq ti.size 1) i.toNat (i.toNat * ti.size))))) w
      | none => False)
    | some (.array n e), .pointer p, .int _ i => (match P.info? e with
      | some ti => 0 ≤ i ∧ i < (n : Int) ∧ someA p fun a => K (.pointer (some (a.add (cond (Nat.beq ti.size 1) i.toNat (i.toNat * ti.size))))) w
      | none => False)
    | _, _, _ => False
  | .index t x ix => match P.underlying t, ev f x, ev f ix with
    | some .string, .string s, .int _ i => 0 ≤ i ∧ ∃ b : UInt8, s[i.toNat]? = some b ∧ K (.int .u8 (b.toNat : Int)) w
    | _, _, _ => RunE P (Instr.index t (ev f x) (ev f ix)) w (zeroOf P o.type) K
  | .slice t x lo hi mx => match mx, P.underlying t, ev f x, bndI 0 (lo.map (ev f)) with
    | none, some .string, .string s, some l => (match bndI (s.size : Int) (hi.map (ev f)) with
      | some h => 0 ≤ l ∧ l ≤ h ∧ h ≤ (s.size : Int) ∧ K (.string (s.extract l.toNat h.toNat)) w
      | none => False)
    | none, some (.slice e), .slice a n c, some l => (match P.info? e, bndI (n : Int) (hi.map (ev f)) with
      | some ti, some h => 0 ≤ l ∧ l ≤ h ∧ h ≤ (c : Int) ∧ K (.slice (subA a l.toNat c ti.size) (h.toNat - l.toNat) (c - l.toNat)) w
      | _, _ => False)
    | _, _, _, _ => RunE P (Instr.sliceAt t (ev f x) (lo.map (ev f)) (hi.map (ev f)) (mx.map (ev f))) w (zeroOf P o.type) K
  | .makeSlice t l c => match P.underlying t, ev f l, ev f c with
    | some (.slice e), .int _ l, .int _ c => (match P.info? e with
      | some ti => (match ti.zero with
        | some z => 0 ≤ l ∧ l ≤ c ∧ (ti.bytes : Int) * c ≤ 281474976710656 ∧ c ≤ 9223372036854775807 ∧
            ∀ (b : Nat) (w1 : World), b = w.heap.size → w1 = w.alloc (.cells (madeCells z.cells (c.toNat * ti.size)) e) → K (.slice (some ⟨b, 0, none⟩) l.toNat c.toNat) w1
        | none => False)
      | none => False)
    | _, _, _ => False
  | .buildSlice t n ps => match P.underlying t with
    | some (.slice e) => (match P.info? e with
      | some ti => (match ti.zero with
        | some z => (match Instr.fill (fun i => some (i * ti.size, ti.size)) ((Array.range (n * ti.size)).map (z.cells[· % z.cells.size]!)) (ps.map fun (i, x) => (i, ev f x)).toList with
          | some cells => cond (Nat.ble (n * ti.size) 16777216) (∀ (b : Nat) (w1 : World), b = w.heap.size → w1 = w.alloc (.cells cells e) → K (.slice (some ⟨b, 0, none⟩) n n) w1) False
          | none => False)
        | none => False)
      | none => False)
    | _ => False
  | .makeMap t r => RunE P (Instr.makeMap t (r.map (ev f))) w (zeroOf P o.type) K
  | .lookup t x ix ok => RunE P (Instr.lookup t (ev f x) (ev f ix) ok) w (zeroOf P o.type) K
  | .mapUpdate t m k x => RunU P (Instr.mapUpdate t (ev f m) (ev f k) (ev f x)) w fun w' => K undef w'
  | .insert t m k x => RunU P (Instr.mapUpdate t (ev f m) (ev f k) (ev f x)) w fun w' => K undef w'
  | .mapEntry t m k => RunE P (Instr.mapEntry t (ev f m) (ev f k)) w (.tuple #[match P.underlying t with | some (.map _ e) => zeroOf P e | _ => .nilIface, .int .i64 0]) K
  | .entryStore t m s x => RunU P (Instr.entryStore t (ev f m) (ev f s) (ev f x)) w fun w' => K undef w'
  | .range t x => RunE P (Instr.range t (ev f x)) w (.pointer none) K
  | .next it b => cond b (RunE P (Instr.next (ev f it) b o.type) w (zeroOf P o.type) K) (NextE P (Instr.next (ev f it) b o.type) w K)
  | .extract t ix => match ev f t with
    | .tuple vs => (match vs[ix]? with | some v => K v w | none => False)
    | _ => False
  | .convert src dst x => match ev f x with
    | .int _ _ => got ((execOp (ev f) o).run P w) K
    | .slice a l c => (match P.underlying src, P.underlying dst with
      | some (.slice e), some .string => (match P.underlying e with
        | some (.int .u8) => ∃ bs : List UInt8, bs.length = l ∧ BytesAt w a bs ∧ K (.string ⟨bs.toArray⟩) w
        | _ => False)
      | _, _ => RunE P (convert src dst (.slice a l c)) w (zeroOf P o.type) K)
    | x => RunE P (convert src dst x) w (zeroOf P o.type) K
  | .binOp op t x y _ => match op, ev f x, ev f y with
    | .eql, .pointer p, .pointer none => (match P.underlying t with | some (.pointer _) => K (.bool p.isNone) w | _ => False)
    | .neq, .pointer p, .pointer none => (match P.underlying t with | some (.pointer _) => K (.bool (!p.isNone)) w | _ => False)
    | .eql, .slice p _ _, .slice none _ _ => (match P.underlying t with | some (.slice _) => K (.bool p.isNone) w | _ => False)
    | .neq, .slice p _ _, .slice none _ _ => (match P.underlying t with | some (.slice _) => K (.bool (!p.isNone)) w | _ => False)
    | .shl, .int k a, .int _ b => 0 ≤ b ∧ K (.int k (shlV k a b)) w
    | .shr, .int k a, .int _ b => 0 ≤ b ∧ K (.int k (shrV k a b)) w
    | .quo, .int k a, .int k' b => cond (decide (k = k')) (b ≠ 0 ∧ K (.int k (k.wrap (a.tdiv b))) w) False
    | .rem, .int k a, .int k' b => cond (decide (k = k')) (b ≠ 0 ∧ K (.int k (a.tmod b)) w) False
    | .and, .int k a, .int k' b => cond (decide (k = k')) (K (.int k (bits .and k a b)) w) False
    | .or, .int k a, .int k' b => cond (decide (k = k')) (K (.int k (bits .or k a b)) w) False
    | .xor, .int k a, .int k' b => cond (decide (k = k')) (K (.int k (bits .xor k a b)) w) False
    | .andNot, .int k a, .int k' b => cond (decide (k = k')) (K (.int k (bits .andNot k a b)) w) False
    | .eql, .string a, .string b => K (.bool (decide (a = b))) w
    | .neq, .string a, .string b => K (.bool (!decide (a = b))) w
    | .eql, .agg xs, .agg ys => cond (P.eqGuardType P.depth t) False (RunE P (binOp .eql t (.agg xs) (.agg ys)) w (.bool false) K)
    | .neq, .agg xs, .agg ys => cond (P.eqGuardType P.depth t) False (RunE P (binOp .neq t (.agg xs) (.agg ys)) w (.bool false) K)
    | .add, .string a, .string b => (((a.size + b.size : Nat) : Int) ≤ 9223372036854775807 ∧ K (.string (a ++ b)) w)
    | op, .float k a, .float k' b => RunE P (binOp op t (.float k a) (.float k' b)) w (zeroOf P o.type) K
    | op, .complex k a b, .complex k' c d => RunE P (binOp op t (.complex k a b) (.complex k' c d)) w (zeroOf P o.type) K
    | .eql, .pointer p, .pointer (some q) => RunE P (binOp .eql t (.pointer p) (.pointer (some q))) w (.bool false) K
    | .neq, .pointer p, .pointer (some q) => RunE P (binOp .neq t (.pointer p) (.pointer (some q))) w (.bool false) K
    | _, _, _ => got ((execOp (ev f) o).run P w) K
  | .call c => match c.callee with
    | .value g => (match ev f g with
      | .func (.func g) first captured => cond (callOk P g) (CallS P g (first ++ c.args.map (ev f) ++ captured) w fun v w' => exV (zeroOf P o.type) fun u => v = u ∧ K u w') (ExtE P g (first ++ c.args.map (ev f) ++ captured) w (zeroOf P o.type) K)
      | _ => False)
    | .builtin b => (match b with
      | .append => RunE P (Builtin.append_ c.argTypes o.type (c.args.map (ev f))) w (zeroOf P o.type) K
      | .copy => RunE P (Builtin.copy_ c.argTypes o.type (c.args.map (ev f))) w (.int .i64 0) K
      | .clear => RunE P (Builtin.clear_ c.argTypes o.type (c.args.map (ev f))) w (.tuple #[]) K
      | .delete => RunE P (Builtin.delete_ c.argTypes o.type (c.args.map (ev f))) w (.tuple #[]) K
      | .len => (match c.args.toList.map (ev f) with
        | [.slice base n c'] => (match c.argTypes.toList.map P.underlying with | [some (.slice _)] => K (.int .i64 (n : Int)) w | _ => False)
        | [.string s] => (match c.argTypes.toList.map P.underlying with | [some .string] => K (.int .i64 (s.size : Int)) w | _ => False)
        | _ => RunE P (Builtin.len_ c.argTypes o.type (c.args.map (ev f))) w (.int .i64 0) K)
      | .min => RunE P (Builtin.min_ c.argTypes o.type (c.args.map (ev f))) w (zeroOf P o.type) K
      | .max => RunE P (Builtin.max_ c.argTypes o.type (c.args.map (ev f))) w (zeroOf P o.type) K
      | .complex => RunE P (Builtin.complex_ c.argTypes o.type (c.args.map (ev f))) w (zeroOf P o.type) K
      | .real => RunE P (Builtin.real_ c.argTypes o.type (c.args.map (ev f))) w (zeroOf P o.type) K
      | .imag => RunE P (Builtin.imag_ c.argTypes o.type (c.args.map (ev f))) w (zeroOf P o.type) K
      | .unsafeSliceData => RunE P (Builtin.unsafeSliceData_ c.argTypes o.type (c.args.map (ev f))) w (zeroOf P o.type) K
      | .unsafeString => RunE P (Builtin.unsafeString_ c.argTypes o.type (c.args.map (ev f))) w (zeroOf P o.type) K
      | _ => False)
    | _ => False
  | _ => got ((execOp (ev f) o).run P w) K



/-! ### soundness of one operation -/

section
variable {P : Program} {o : Oper} {a : Act} {next : Act → World → Prop} {Q : Exit → Act → World → Prop} {K : Value → World → Prop} {w : World}

/-- What a run comes to, a call by its contract. -/
def Res (P : Program) (r : Result Next) (K : Value → World → Prop) : Prop :=
  match r with
  | .ok (.value v) w' => K v w'
  | .ok .skip w' => K undef w'
  | .ok (.enter g args) w' => Calls P g args w' (Ret K)
  | _ => False

theorem Res.upon {r : Result Next} (h : Res P r K) (hK : ∀ v w', K v w' → next (a.put o.dst v) w') : o.upon P a next Q r := by
  unfold Res at h
  split at h
  · exact hK _ _ h
  · exact hK _ _ h
  · refine Calls.mono h fun e w' hr => ?_
    cases e with
    | returned v => exact hK _ _ hr
    | panicked ch => exact hr.elim
    | outgrown => exact hr.elim
  · exact h.elim

theorem upon_got {r : Result Next} (h : got r K) : Res P r K := by
  unfold got at h
  split at h
  · exact h
  · exact h
  · exact h.elim

theorem upon_run {s : Sem Value} {z : Value} (h : RunE P s w z K) : Res P ((do pure (.value (← s)) : Sem Next).run P w) K := by
  obtain ⟨v, w', hr, hk⟩ := exV_of h
  simp only [Sem.run_bind, hr, Result.andThen_ok, Sem.run_pure]
  exact hk

theorem upon_val {s : Sem Value} {v : Value} {w' : World} (hr : s.run P w = .ok v w') (h : K v w') : Res P ((do pure (.value (← s)) : Sem Next).run P w) K := by
  simp only [Sem.run_bind, hr, Result.andThen_ok, Sem.run_pure]
  exact h

theorem upon_runU {s : Sem Unit} {K' : World → Prop} (h : RunU P s w K') (hK : ∀ w', K' w' → K undef w') : Res P ((do s; pure .skip : Sem Next).run P w) K := by
  obtain ⟨w', hr, hx⟩ := h
  simp only [Sem.run_bind, hr, Result.andThen_ok, Sem.run_pure]
  exact hK _ hx

theorem someA_of {p : Option Addr} {K : Addr → Prop} (h : someA p K) : ∃ x, p = some x ∧ K x := by
  cases p with
  | none => exact h.elim
  | some x => exact ⟨x, rfl, h⟩

theorem run_fieldAt' {s : TypeId} {fs : Array Field} {i : Nat} {fld : Field} {ti : TypeInfo} (hs : P.underlying s = some (.struct fs)) (hf : fs[i]? = some fld)
    (hi : P.info? fld.type = some ti) (hz : ti.size ≠ 0) (x : Addr) : (Instr.fieldAt s (.pointer (some x)) i).run P w = .ok (.pointer (some (x.add fld.offset))) w := by
  simp only [Instr.fieldAt, Sem.run_bind, run_underlying hs, Result.andThen_ok, hf, Instr.sureAddr, Sem.run_pure, fieldPlace, run_sizeOf' hi, hz, if_false]

theorem run_indexAt_slice' {t e : TypeId} {ti : TypeInfo} (ht : P.underlying t = some (.slice e)) (hi : P.info? e = some ti) (x : Addr) (len cap : Nat) (k : IntKind) (i : Int) (h0 : 0 ≤ i) (h1 : i < (len : Int)) :
    (Instr.indexAt t (.slice (some x) len cap) (.int k i)).run P w = .ok (.pointer (some (x.add (i.toNat * ti.size)))) w := by
  have hp : P.elem t = e := by simp [Program.elem, ht]
  rw [run_indexAt_slice w t x len cap k i (by rw [hp]; exact ht), if_pos ⟨h0, h1⟩, hp, run_sizeOf' hi]
  rfl

theorem run_indexAt_array' {t e : TypeId} {n : Nat} {ti : TypeInfo} (ht : P.underlying t = some (.array n e)) (hi : P.info? e = some ti) (x : Addr) (k : IntKind) (i : Int) (h0 : 0 ≤ i) (h1 : i < (n : Int)) :
    (Instr.indexAt t (.pointer (some x)) (.int k i)).run P w = .ok (.pointer (some (x.add (i.toNat * ti.size)))) w := by
  have hp : P.elem t = e := by simp [Program.elem, ht]
  have hn : P.arrayLen t = n := by simp [Program.arrayLen, ht]
  rw [run_indexAt_array w t x k i (by rw [hp, hn]; exact ht), hn, if_pos ⟨h0, h1⟩, hp, run_sizeOf' hi]
  rfl

theorem mul_size {n m : Nat} : (cond (Nat.beq m 1) n (n * m)) = n * m := by
  cases h : Nat.beq m 1 with
  | false => rfl
  | true => have := Nat.eq_of_beq_eq_true h; subst this; simp

theorem run_callFunc {g : FuncId} (h : callOk P g = true) (args : Array Value) : (callFunc g args).run P w = .ok (.enter g args) w := by
  unfold callOk at h
  split at h
  case h_2 => cases h
  case h_1 fn hfn =>
    simp only [Bool.and_eq_true, Bool.not_eq_true'] at h
    obtain ⟨hb, hn⟩ := h
    have hno : fn.body.isNone = false := by cases hx : fn.body <;> simp_all
    simp only [callFunc, Sem.run_bind, run_program, Result.andThen_ok, hfn, hn, Bool.false_eq_true, if_false, hno, Sem.run_pure]

theorem run_bounds (w : World) (isSl : Bool) (n c : Nat) {lo hi : Option Value} {l h : Int} (hl : bndI 0 lo = some l) (hh : bndI (n : Int) hi = some h) (h0 : 0 ≤ l) (h1 : l ≤ h) (h2 : h ≤ (c : Int)) :
    (Instr.sliceBounds isSl n c lo hi none).run P w = .ok (l.toNat, h.toNat, c) w := by
  have low : ∀ (v : Option Value), bndI 0 v = some l → ((match v with | some v => Instr.sliceBound v h.toNat .sliceB | none => pure 0 : Sem Nat).run P w = .ok l.toNat w) := by
    intro v hv
    cases v with
    | none => simp only [bndI, Option.some.injEq] at hv; subst hv; rfl
    | some v =>
      cases v <;> simp only [bndI] at hv <;> try cases hv
      rw [run_sliceBound w _ _ _ _ h0 (by omega)]
  cases hi with
  | none =>
    simp only [bndI, Option.some.injEq] at hh
    subst hh
    have hlow := low lo hl
    simp only [Int.toNat_natCast] at hlow
    unfold Instr.sliceBounds
    cases lo with
    | none => simp only [bndI, Option.some.injEq] at hl; subst hl; simp [Sem.run_pure]
    | some v => simp only at hlow; simp [hlow]
  | some v =>
    cases v <;> simp only [bndI] at hh <;> try cases hh
    rename_i k
    have hlow := low lo hl
    have hhigh := run_sliceBound (P := P) w k h c (if isSl then BoundsCode.sliceAcap else BoundsCode.sliceAlen) (by omega) h2
    unfold Instr.sliceBounds
    cases lo with
    | none => simp only [bndI, Option.some.injEq] at hl; subst hl; simp [hhigh]
    | some v => simp only at hlow; simp [hhigh, hlow]

theorem foldl_push (bs : List UInt8) : ∀ acc : ByteArray, (bs.map fun b => (b.toNat : Int)).foldl (fun r n => r.push (UInt8.ofNat n.toNat)) acc = ⟨acc.data ++ bs.toArray⟩ := by
  induction bs with
  | nil => intro acc; simp
  | cons b bs ih =>
    intro acc
    simp only [List.map_cons, List.foldl_cons, Int.toNat_natCast]
    rw [ih]
    have : UInt8.ofNat b.toNat = b := by simp
    rw [this]
    apply congrArg
    apply Array.ext'
    simp [ByteArray.push]

theorem run_bytesStr (w : World) (a : Option Addr) {l : Nat} (c : Nat) {bs : List UInt8} (hl : bs.length = l) (hb : BytesAt w a bs) :
    (Conv.bytesToString (.slice a l c)).run P w = .ok (.string ⟨bs.toArray⟩) w := by
  cases a with
  | none =>
    have : bs = [] := by
      cases bs with
      | nil => rfl
      | cons b bs => obtain ⟨x, hx, _⟩ := hb 0 b rfl; cases hx
    subst this
    rfl
  | some x =>
    have hc := run_loadCells_list (P := P) w x ((bs.map fun b => (b.toNat : Int)).map (Value.int .u8)) (by
      intro j v hv
      simp only [List.map_map, List.getElem?_map, Option.map_eq_some_iff, Function.comp] at hv
      obtain ⟨b, hbj, rfl⟩ := hv
      obtain ⟨y, hy, hcell⟩ := hb j b hbj
      cases hy
      exact hcell)
    simp only [List.length_map, hl] at hc
    rw [run_bytesToString w x l c _ hc, foldl_push]
    simp

theorem one_of_map {α β : Type} {g : α → β} {x : Array α} {y : β} (h : x.toList.map g = [y]) : ∃ u, x = #[u] := by
  obtain ⟨l⟩ := x
  cases l with
  | nil => simp at h
  | cons u l =>
    cases l with
    | nil => exact ⟨u, rfl⟩
    | cons v l => simp at h

theorem str_eq (a b : ByteArray) : (a.toList == b.toList) = decide (a = b) := by
  rw [← beq_toListBytes]
  obtain ⟨⟨x⟩⟩ := a
  obtain ⟨⟨y⟩⟩ := b
  show ((⟨x⟩ : Array UInt8) == ⟨y⟩) = _
  simp only [ByteArray.mk.injEq, Array.mk.injEq]
  by_cases e : x = y
  · subst e; simp
  · simp [e]

end

theorem opE_res {P : Program} {o : Oper} {f : Fr} {w : World} {K : Value → World → Prop} (h : opE P o f w K) : Res P ((execOp (ev f) o).run P w) K := by
  obtain ⟨dst, op, ty, pos, after, guard⟩ := o
  cases op <;> simp only [opE] at h
  case move x => exact h
  case assign x => exact h
  case pick c x y =>
    split at h
    · rename_i q hq
      simp only [execOp, hq, asBool, pure_bind, Sem.run_pure]
      cases q <;> exact h
    · exact h.elim
  case alloc e =>
    split at h
    · rename_i i hi
      split at h
      · rename_i z hz
        have hr : (Instr.alloc e true (.tuple #[])).run P w = .ok (.pointer (some ⟨w.heap.size, 0, none⟩)) (w.alloc (.cells z.cells e)) := by
          simp [Instr.alloc, zeroValue, typeInfo, hi, hz, newVar, newRow]
        exact upon_val hr (h _ _ rfl rfl)
      · exact h.elim
    · exact h.elim
  case box e x =>
    have hr : (Instr.box e (ev f x)).run P w = .ok (.pointer (some ⟨w.heap.size, 0, none⟩)) (w.alloc (.cells (ev f x).cells e)) := by
      simp [Instr.box, newVar, newRow]
    exact upon_val hr (h _ _ rfl rfl)
  case load t x =>
    split at h
    · rename_i p hp
      obtain ⟨x', rfl, h⟩ := someA_of h
      obtain ⟨v, hr, hk⟩ := ldE_sound (K := fun v => K v w) h
      have hr' : (Instr.loadAt t (ev f x)).run P w = .ok v w := by rw [hp]; simp only [Instr.loadAt, Instr.sureAddr, Sem.run_bind, Sem.run_pure, Result.andThen_ok]; exact hr
      exact upon_val hr' hk
    · exact h.elim
  case store t x y =>
    split at h
    · rename_i p hp
      obtain ⟨x', rfl, h⟩ := someA_of h
      obtain ⟨w', hr, hk⟩ := stE_sound h
      have hr' : (Instr.storeAt t (ev f x) (ev f y)).run P w = .ok () w' := by rw [hp]; simp only [Instr.storeAt, Instr.sureAddr, Sem.run_bind, Sem.run_pure, Result.andThen_ok]; exact hr
      exact upon_runU (K' := fun w' => K undef w') ⟨_, hr', hk⟩ (fun w' hk => hk)
    · exact h.elim
  case nilCheck x =>
    split at h
    · rename_i p hp
      obtain ⟨x', rfl, h⟩ := someA_of h
      simp only [execOp, hp, Sem.run_pure]
      exact h
    · exact upon_got h
  case fieldAddr s x i =>
    split at h
    · rename_i fs p hs hp
      split at h
      · rename_i fld hf
        split at h
        · rename_i ti hi
          cases hb : Nat.beq ti.size 0 with
          | true => rw [hb] at h; exact h.elim
          | false =>
            rw [hb] at h
            obtain ⟨x', rfl, h⟩ := someA_of h
            have hz : ti.size ≠ 0 := fun e => by rw [e] at hb; cases hb
            have hr : (Instr.fieldAt s (ev f x) i).run P w = .ok (.pointer (some (x'.add fld.offset))) w := by rw [hp]; exact run_fieldAt' hs hf hi hz x'
            exact upon_val hr h
        · exact h.elim
      · exact h.elim
    · exact h.elim
  case indexAddr t x ix =>
    split at h
    · rename_i e base len cap k i ht hx hi
      split at h
      · rename_i ti hti
        obtain ⟨h0, h1, h⟩ := h
        obtain ⟨x', rfl, h⟩ := someA_of h
        rw [mul_size] at h
        have hr : (Instr.indexAt t (ev f x) (ev f ix)).run P w = .ok (.pointer (some (x'.add (i.toNat * ti.size)))) w := by rw [hx, hi]; exact run_indexAt_slice' ht hti x' len cap k i h0 h1
        exact upon_val hr h
      · exact h.elim
    · rename_i n e p k i ht hx hi
      split at h
      · rename_i ti hti
        obtain ⟨h0, h1, h⟩ := h
        obtain ⟨x', rfl, h⟩ := someA_of h
        rw [mul_size] at h
        have hr : (Instr.indexAt t (ev f x) (ev f ix)).run P w = .ok (.pointer (some (x'.add (i.toNat * ti.size)))) w := by rw [hx, hi]; exact run_indexAt_array' ht hti x' k i h0 h1
        exact upon_val hr h
      · exact h.elim
    · exact h.elim
  case index t x ix =>
    split at h
    · rename_i s k i ht hx hi
      obtain ⟨h0, b, hb, h⟩ := h
      have hr : (Instr.index t (ev f x) (ev f ix)).run P w = .ok (.int .u8 (b.toNat : Int)) w := by
        rw [hx, hi]
        simp only [Instr.index, asIntOf, pure_bind, Sem.run_bind, run_underlying ht, Result.andThen_ok, h0, if_true, hb, Sem.run_pure]
      exact upon_val hr h
    · exact upon_run h
  case slice t x lo hi mx =>
    split at h
    · rename_i s l ht hx hl
      split at h
      · rename_i hh hhi
        obtain ⟨h0, h1, h2, h⟩ := h
        have hr : (Instr.sliceAt t (ev f x) (lo.map (ev f)) (hi.map (ev f)) none).run P w = .ok (.string (s.extract l.toNat hh.toNat)) w := by
          rw [run_sliceAt_string w t _ _ _ _ ht, hx]
          simp only [Instr.slice, Sem.run_bind, run_underlying ht, Result.andThen_ok, Option.isSome_none, Bool.false_eq_true, if_false, Sem.run_pure, run_bounds w false s.size s.size hl hhi h0 h1 h2]
        exact upon_val hr h
      · exact h.elim
    · rename_i e a n c l ht hx hl
      split at h
      · rename_i ti hh hti hhi
        obtain ⟨h0, h1, h2, h⟩ := h
        have hp : P.elem t = e := by simp [Program.elem, ht]
        have hr : (Instr.sliceAt t (ev f x) (lo.map (ev f)) (hi.map (ev f)) none).run P w = .ok (.slice (subA a l.toNat c ti.size) (hh.toNat - l.toNat) (c - l.toNat)) w := by
          rw [run_sliceAt_slice w t _ _ _ _ (by rw [hp]; exact ht), hx]
          simp only [Instr.slice, Sem.run_bind, run_underlying ht, Result.andThen_ok, run_sizeOf' hti, Sem.run_pure, run_bounds w true n c hl hhi h0 h1 h2]
          rfl
        exact upon_val hr h
      · exact h.elim
    · exact upon_run h
  case makeSlice t l c =>
    split at h
    · rename_i e kl l' kc c' ht hl hc
      split at h
      · rename_i ti hi
        split at h
        · rename_i z hz
          obtain ⟨h0, h1, h2, h3, h⟩ := h
          have hr := run_make (P := P) w t e ti z ht hi hz kl kc l' c' h0 h1 h2 h3
          have hr' : (Instr.makeSlice t (ev f l) (ev f c)).run P w = .ok (.slice (some ⟨w.heap.size, 0, none⟩) l'.toNat c'.toNat) (w.alloc (.cells (madeCells z.cells (c'.toNat * ti.size)) e)) := by rw [hl, hc]; exact hr
          exact upon_val hr' (h _ _ rfl rfl)
        · exact h.elim
      · exact h.elim
    · exact h.elim
  case buildSlice t n ps =>
    split at h
    · rename_i e ht
      split at h
      · rename_i ti hi
        split at h
        · rename_i z hz
          split at h
          · rename_i cells hcells
            cases hb : (Nat.ble (n * ti.size) 16777216) with
            | false => rw [hb] at h; exact h.elim
            | true =>
              rw [hb] at h
              have hle : ¬ (n * ti.size > 2 ^ 24) := by have := Nat.le_of_ble_eq_true hb; omega
              have hr : (Instr.buildSlice t n (ps.map fun (i, x) => (i, ev f x))).run P w = .ok (.slice (some ⟨w.heap.size, 0, none⟩) n n) (w.alloc (.cells cells e)) := by
                by_cases hne : n * ti.size = 0
                · rw [hne] at hcells
                  have e0 : ∀ g : Nat → Value, (Array.range 0).map g = #[] := fun g => by simp
                  rw [e0] at hcells
                  simp only [Instr.buildSlice, Sem.run_bind, run_underlying ht, Result.andThen_ok, run_sizeOf' hi, hle, hne, if_true, if_false, Sem.run_pure, e0, hcells, newRow, run_newObj]
                  rfl
                · simp only [Instr.buildSlice, Sem.run_bind, run_underlying ht, Result.andThen_ok, run_sizeOf' hi, hle, hne, if_false, Sem.run_pure, zeroValue, typeInfo, run_program, hi, hz, hcells, newRow, run_newObj]
                  rfl
              exact upon_val hr (h _ _ rfl rfl)
          · exact h.elim
        · exact h.elim
      · exact h.elim
    · exact h.elim
  case makeMap => exact upon_run h
  case lookup => exact upon_run h
  case mapUpdate => exact upon_runU h fun w' hk => hk
  case insert => exact upon_runU h fun w' hk => hk
  case mapEntry => exact upon_run h
  case entryStore => exact upon_runU h fun w' hk => hk
  case range => exact upon_run h
  case next it b =>
    cases b with
    | true => exact upon_run h
    | false =>
      obtain ⟨b, k, v, w', hr, h0, h1⟩ := h
      cases b with
      | true => exact upon_val hr (h1 rfl)
      | false => exact upon_val hr (h0 rfl)
  case extract t ix =>
    split at h
    · rename_i vs hv
      split at h
      · rename_i v hi
        have hr : (Instr.extract (ev f t) ix).run P w = .ok v w := by rw [hv]; simp [Instr.extract, hi]
        exact upon_val hr h
      · exact h.elim
    · exact h.elim
  case convert src dst x =>
    split at h
    · exact upon_got h
    · rename_i a' l c hx
      split at h
      · rename_i e hs hd
        split at h
        · rename_i he
          obtain ⟨bs, hl, hb, h⟩ := h
          have hr : (convert src dst (ev f x)).run P w = .ok (.string ⟨bs.toArray⟩) w := by
            rw [hx, run_convert_bytes_string w src dst e a' l c hs he hd]
            exact run_bytesStr w a' c hl hb
          exact upon_val hr h
        · exact h.elim
      · have h' : RunE P (convert src dst (ev f x)) w (zeroOf P ty) K := by rw [hx]; exact h
        exact upon_run h'
    · exact upon_run h
  case binOp op t x y yt =>
    split at h
    · rename_i p hx hy
      split at h
      · rename_i e ht
        have hp : P.underlying t = some (.pointer (P.pointee t)) := by simp [Program.pointee, ht]
        simp only [execOp, hx, hy, eqGuard_at_pointer, pure_bind, Sem.run_bind, run_eql_pointer_nil w t p hp, Result.andThen_ok, Sem.run_pure]
        exact h
      · exact h.elim
    · rename_i p hx hy
      split at h
      · rename_i e ht
        have hp : P.underlying t = some (.pointer (P.pointee t)) := by simp [Program.pointee, ht]
        simp only [execOp, hx, hy, eqGuard_at_pointer, pure_bind, Sem.run_bind, run_neq_pointer_nil w t p hp, Result.andThen_ok, Sem.run_pure]
        exact h
      · exact h.elim
    · rename_i p n c n' c' hx hy
      split at h
      · rename_i e ht
        simp only [execOp, hx, hy, eqGuard_at_slice, pure_bind, Sem.run_bind, Lib.run_eql_slice_nil w t e p n c n' c' ht, Result.andThen_ok, Sem.run_pure]
        exact h
      · exact h.elim
    · rename_i p n c n' c' hx hy
      split at h
      · rename_i e ht
        have hr : (binOp .neq t (.slice p n c) (.slice none n' c')).run P w = .ok (.bool (!p.isNone)) w := by
          simp only [binOp]
          simp [Op.equal, Op.maxDepth, Lib.run_equalIn_slice_nil w 9999 t e p n c n' c' ht]
        simp only [execOp, hx, hy, eqGuard_at_slice, pure_bind, Sem.run_bind, hr, Result.andThen_ok, Sem.run_pure]
        exact h
      · exact h.elim
    · rename_i k a' yk b hx hy
      have hr : (do eqGuard .shl t x y (ev f x) (ev f y); binOp .shl t (ev f x) (ev f y) : Sem Value).run P w = .ok (.int k (shlV k a' b)) w := by
        rw [hx, hy, eqGuard_at_int, binOp_shl]
        simp only [pure_bind, Op.shift, show ¬ b < 0 from by omega, if_false, Sem.run_pure, shlV]
      exact upon_val hr h.2
    · rename_i k a' yk b hx hy
      have hr : (do eqGuard .shr t x y (ev f x) (ev f y); binOp .shr t (ev f x) (ev f y) : Sem Value).run P w = .ok (.int k (shrV k a' b)) w := by
        rw [hx, hy, eqGuard_at_int, binOp_shr]
        simp only [pure_bind, Op.shift, show ¬ b < 0 from by omega, if_false, Sem.run_pure, shrV]
      exact upon_val hr h.2
    · rename_i k a' k' b hx hy
      by_cases hk : k = k'
      · subst hk
        simp only [decide_true, cond_true] at h
        have hr : (do eqGuard .quo t x y (ev f x) (ev f y); binOp .quo t (ev f x) (ev f y) : Sem Value).run P w = .ok (.int k (k.wrap (a'.tdiv b))) w := by
          rw [hx, hy, eqGuard_at_int, binOp_quo]
          simp only [pure_bind, Op.intDiv, h.1, if_false, Sem.run_pure]
        exact upon_val hr h.2
      · simp only [hk, decide_false, cond_false] at h
    · rename_i k a' k' b hx hy
      by_cases hk : k = k'
      · subst hk
        simp only [decide_true, cond_true] at h
        have hr : (do eqGuard .rem t x y (ev f x) (ev f y); binOp .rem t (ev f x) (ev f y) : Sem Value).run P w = .ok (.int k (a'.tmod b)) w := by
          rw [hx, hy, eqGuard_at_int, binOp_rem]
          simp only [pure_bind, Op.intDiv, h.1, if_false, Sem.run_pure]
        exact upon_val hr h.2
      · simp only [hk, decide_false, cond_false] at h
    · rename_i k a' k' b hx hy
      by_cases hk : k = k'
      · subst hk
        simp only [decide_true, cond_true] at h
        simp only [execOp, hx, hy, eqGuard_at_int, binOp_and, intBits_and, pure_bind, Sem.run_pure]
        exact h
      · simp only [hk, decide_false, cond_false] at h
    · rename_i k a' k' b hx hy
      by_cases hk : k = k'
      · subst hk
        simp only [decide_true, cond_true] at h
        simp only [execOp, hx, hy, eqGuard_at_int, binOp_or, intBits_or, pure_bind, Sem.run_pure]
        exact h
      · simp only [hk, decide_false, cond_false] at h
    · rename_i k a' k' b hx hy
      by_cases hk : k = k'
      · subst hk
        simp only [decide_true, cond_true] at h
        simp only [execOp, hx, hy, eqGuard_at_int, binOp_xor, intBits_xor, pure_bind, Sem.run_pure]
        exact h
      · simp only [hk, decide_false, cond_false] at h
    · rename_i k a' k' b hx hy
      by_cases hk : k = k'
      · subst hk
        simp only [decide_true, cond_true] at h
        simp only [execOp, hx, hy, eqGuard_at_int, binOp_andNot, intBits_andNot, pure_bind, Sem.run_pure]
        exact h
      · simp only [hk, decide_false, cond_false] at h
    · rename_i a' b hx hy
      simp only [execOp, hx, hy, eqGuard_at_string, pure_bind, binOp, Op.stringOp, Sem.run_pure, str_eq]
      exact h
    · rename_i a' b hx hy
      simp only [execOp, hx, hy, eqGuard_at_string, pure_bind, binOp, Op.stringOp, Sem.run_pure, str_eq]
      exact h
    · rename_i xs ys hx hy
      cases hg : P.eqGuardType P.depth t with
      | true => rw [hg] at h; exact h.elim
      | false =>
        rw [hg] at h
        obtain ⟨q, w', hr, hk⟩ := h
        have hr' : (do eqGuard .eql t x y (ev f x) (ev f y); binOp .eql t (ev f x) (ev f y) : Sem Value).run P w = .ok (.bool q) w' := by
          rw [hx, hy, Sem.run_bind, run_eqGuard_agg w .eql t x y xs ys hg]; exact hr
        exact upon_val hr' hk
    · rename_i xs ys hx hy
      cases hg : P.eqGuardType P.depth t with
      | true => rw [hg] at h; exact h.elim
      | false =>
        rw [hg] at h
        obtain ⟨q, w', hr, hk⟩ := h
        have hr' : (do eqGuard .neq t x y (ev f x) (ev f y); binOp .neq t (ev f x) (ev f y) : Sem Value).run P w = .ok (.bool q) w' := by
          rw [hx, hy, Sem.run_bind, run_eqGuard_agg w .neq t x y xs ys hg]; exact hr
        exact upon_val hr' hk
    · rename_i a' b hx hy
      have h0 : ¬ (((a'.size + b.size : Nat) : Int) > IntKind.i64.max) := by rw [IntKind.max_i64]; omega
      simp only [execOp, hx, hy, eqGuard_at_string, pure_bind, binOp, Op.stringOp, h0, if_false, Sem.run_pure]
      exact h.2
    · rename_i hx hy
      simp only [execOp, hx, hy, eqGuard_at_float, pure_bind]
      exact upon_run h
    · rename_i hx hy
      simp only [execOp, hx, hy, eqGuard_at_complex, pure_bind]
      exact upon_run h
    · rename_i hx hy
      obtain ⟨u, w', hr, hk⟩ := h
      simp only [execOp, hx, hy, eqGuard_at_pointer, pure_bind]
      exact upon_val hr hk
    · rename_i hx hy
      obtain ⟨u, w', hr, hk⟩ := h
      simp only [execOp, hx, hy, eqGuard_at_pointer, pure_bind]
      exact upon_val hr hk
    · exact upon_got h
  case call c =>
    obtain ⟨callee, args, argTypes⟩ := c
    cases callee with
    | invoke r m => exact h.elim
    | value g =>
      simp only at h
      split at h
      · rename_i g' first captured hg
        cases hc : callOk P g' with
        | false =>
          rw [hc] at h
          simp only [cond_false] at h
          obtain ⟨u, w', hr, hk⟩ := exV_of h
          have hr' : (execOp (ev f) ⟨dst, .call ⟨.value g, args, argTypes⟩, ty, pos, after, guard⟩).run P w = .ok (.value u) w' := by
            simp only [execOp, resolve, Deferred.ofValue, hg, pure_bind, invoke]
            exact hr
          rw [hr']
          exact hk
        | true =>
          rw [hc] at h
          simp only [cond_true] at h
          have hr : (execOp (ev f) ⟨dst, .call ⟨.value g, args, argTypes⟩, ty, pos, after, guard⟩).run P w = .ok (.enter g' (first ++ args.map (ev f) ++ captured)) w := by
            simp only [execOp, resolve, Deferred.ofValue, hg, pure_bind, invoke]
            exact run_callFunc hc _
          rw [hr]
          refine call_mono h.h fun v w' hr => ?_
          obtain ⟨u, rfl, hk⟩ := exV_of (show exV (zeroOf P ty) (fun u => v = u ∧ K u w') from hr)
          exact hk
      · exact h.elim
    | builtin b =>
      cases b <;> simp only [] at h
      case append => exact upon_run h
      case copy => exact upon_run h
      case clear => exact upon_run h
      case delete => exact upon_run h
      case min => exact upon_run h
      case max => exact upon_run h
      case complex => exact upon_run h
      case real => exact upon_run h
      case imag => exact upon_run h
      case unsafeSliceData => exact upon_run h
      case unsafeString => exact upon_run h
      case len =>
        split at h
        · rename_i base n c' hl
          split at h
          · rename_i e hty
            obtain ⟨x, rfl⟩ := one_of_map hl
            obtain ⟨t, rfl⟩ := one_of_map hty
            have hx : ev f x = .slice base n c' := by simpa using hl
            have ht : P.underlying t = some (.slice e) := by simpa using hty
            have hr : (Builtin.len_ #[t] ty (#[x].map (ev f))).run P w = .ok (.int .i64 (n : Int)) w := by
              simp only [List.map_toArray, List.map_cons, List.map_nil, hx]
              have hp : P.elem t = e := by simp [Program.elem, ht]
              rw [run_len_slice w t ty base n c' (by rw [hp]; exact ht)]
              rfl
            exact upon_val hr h
          · exact h.elim
        · rename_i s hl
          split at h
          · rename_i hty
            obtain ⟨x, rfl⟩ := one_of_map hl
            obtain ⟨t, rfl⟩ := one_of_map hty
            have hx : ev f x = .string s := by simpa using hl
            have ht : P.underlying t = some .string := by simpa using hty
            have hr : (Builtin.len_ #[t] ty (#[x].map (ev f))).run P w = .ok (.int .i64 (s.size : Int)) w := by
              simp only [List.map_toArray, List.map_cons, List.map_nil, hx]
              rw [run_len_string w t ty s ht]
              rfl
            exact upon_val hr h
          · exact h.elim
        · exact upon_run h
  all_goals exact upon_got h

theorem opE_sound {P : Program} {o : Oper} {f : Fr} {a : Act} {N : Nat} {w : World} {K : Value → World → Prop} {next : Act → World → Prop} {Q : Exit → Act → World → Prop}
    (hF : FR N a f) (h : opE P o f w K) (hK : ∀ v w', K v w' → next (a.put o.dst v) w') : o.wp P a w next Q := by
  have he : a.eval = ev f := funext hF.eval
  unfold Oper.wp
  rw [he]
  exact (opE_res h).upon hK


/-! ### lists of operations -/

/-- The type that a part of a tuple is taken apart to. -/
def partT (all : List Oper) (d : Option Nat) (ix : Nat) : TypeId :=
  match all with
  | [] => 0
  | o :: rest => (match o.op with
    | .extract (.tmp t) i => cond (match d with | some d => Nat.beq t d && Nat.beq i ix | none => false) o.type (partT rest d ix)
    | _ => partT rest d ix)

def partZ (P : Program) (t : TypeId) : Value := cond (Nat.beq t 0) .nilIface (zeroOf P t)

/-- An operation in its list. -/
def opX (P : Program) (all : List Oper) (o : Oper) (f : Fr) (w : World) (K : Value → World → Prop) : Prop :=
  match o.op with
  | .entry it => RunE P (Instr.entry (ev f it)) w (.tuple #[partZ P (partT all o.dst 0), partZ P (partT all o.dst 1)]) K
  | _ => opE P o f w K

theorem opX_sound {P : Program} {all : List Oper} {o : Oper} {f : Fr} {a : Act} {N : Nat} {w : World} {K : Value → World → Prop} {next : Act → World → Prop} {Q : Exit → Act → World → Prop}
    (hF : FR N a f) (h : opX P all o f w K) (hK : ∀ v w', K v w' → next (a.put o.dst v) w') : o.wp P a w next Q := by
  unfold opX at h
  split at h
  · rename_i it hop
    have he : a.eval = ev f := funext hF.eval
    unfold Oper.wp
    rw [he]
    refine Res.upon (K := K) ?_ hK
    have hx : execOp (ev f) o = (do pure (.value (← Instr.entry (ev f it))) : Sem Next) := by
      unfold execOp
      rw [hop]
    rw [hx]
    exact upon_run h
  · exact opE_sound hF h hK

def opsE (P : Program) (all : List Oper) (next : Fr → World → Prop) : List Oper → Fr → World → Prop
  | [], f, w => next f w
  | o :: rest, f, w =>
    match o.guard with
    | none => opX P all o f w fun v w' => opsE P all next rest (put f o.dst v) w'
    | some (j, want) =>
      match (all[j]?).bind (·.dst) with
      | none => opsE P all next rest (put f o.dst undef) w
      | some d =>
        match f d with
        | .bool q =>
          match want with
          | true => ifB q (opE P o (put f (some d) (.bool true)) w fun v w' => opsE P all next rest (put (put f (some d) (.bool true)) o.dst v) w')
              (opsE P all next rest (put (put f (some d) (.bool false)) o.dst undef) w)
          | false => ifB q (opsE P all next rest (put (put f (some d) (.bool true)) o.dst undef) w)
              (opE P o (put f (some d) (.bool false)) w fun v w' => opsE P all next rest (put (put f (some d) (.bool false)) o.dst v) w')
        | _ => opsE P all next rest (put f o.dst undef) w

def Pres (M : Nat → Bool) (f f' : Fr) : Prop := ∀ t, M t = false → f' t = f t

theorem Pres.refl (M : Nat → Bool) (f : Fr) : Pres M f f := fun _ _ => rfl
theorem Pres.trans {M : Nat → Bool} {f g h : Fr} (a : Pres M f g) (b : Pres M g h) : Pres M f h := fun t ht => (b t ht).trans (a t ht)

def dstOk (M : Nat → Bool) (N : Nat) (o : Oper) : Bool := match o.dst with | some d => M d && Nat.blt d N | none => true

theorem beq_self (d : Nat) : Nat.beq d d = true := by simp
theorem beq_ne {t d : Nat} (h : t ≠ d) : Nat.beq t d = false := by
  cases hq : Nat.beq t d with
  | false => rfl
  | true => exact absurd (Nat.eq_of_beq_eq_true hq) h

theorem Pres.put {M : Nat → Bool} {N : Nat} {f f' : Fr} (h : Pres M f f') {o : Oper} (ho : dstOk M N o = true) (v : Value) : Pres M f (put f' o.dst v) := by
  intro t ht
  unfold dstOk at ho
  cases hd : o.dst with
  | none => exact h t ht
  | some d =>
    rw [hd] at ho
    simp only [Bool.and_eq_true] at ho
    have hne : t ≠ d := fun e => by subst e; rw [ho.1] at ht; cases ht
    simp only [Go.Proofs.Ytnjjgpjpodmgpaa.put, beq_ne hne, cond_false]
    exact h t ht

theorem dst_lt {M : Nat → Bool} {N : Nat} {o : Oper} (ho : dstOk M N o = true) : ∀ k, o.dst = some k → k < N := by
  intro k hk
  unfold dstOk at ho
  rw [hk] at ho
  simp only [Bool.and_eq_true] at ho
  exact Nat.le_of_ble_eq_true ho.2

theorem put_same {f : Fr} {d : Nat} {v : Value} (h : f d = v) : put f (some d) v = f := by
  funext t
  by_cases e : t = d
  · subst e; simp [put, h]
  · simp [put, beq_ne e]

theorem FR.at? {N : Nat} {a : Act} {f : Fr} (h : FR N a f) {d : Nat} {q : Bool} (hd : f d = .bool q) : a.tmps[d]? = some (.bool q) := by
  have hg := h.get d
  rw [hd] at hg
  by_cases hlt : d < a.tmps.size
  · simp [Array.getD, hlt] at hg; simp [hlt, hg]
  · simp [Array.getD, hlt, undef] at hg

theorem FR.at?' {N : Nat} {a : Act} {f : Fr} (h : FR N a f) (d : Nat) : a.tmps[d]? = some (f d) ∨ a.tmps[d]? = none := by
  have hg := h.get d
  by_cases hlt : d < a.tmps.size
  · left; simp [Array.getD, hlt] at hg; simp [hlt, hg]
  · right; simp [Nat.le_of_not_lt hlt]

def boolOf (v : Option Value) : Option Bool := match v with | some (.bool b) => some b | _ => none

theorem yielded_none {all : List Oper} {tmps : Array Value} {j : Nat} (h : (all[j]?).bind (·.dst) = none) : yielded all.toArray tmps j = none := by
  simp only [yielded, List.getElem?_toArray]
  rw [h]
  rfl

theorem yielded_some {all : List Oper} {tmps : Array Value} {j d : Nat} (h : (all[j]?).bind (·.dst) = some d) : yielded all.toArray tmps j = boolOf (tmps[d]?) := by
  simp only [yielded, List.getElem?_toArray]
  rw [h]
  rfl

theorem opsE_sound {P : Program} {all : List Oper} {next : Fr → World → Prop} {N : Nat} {M : Nat → Bool} {Q : Exit → Act → World → Prop} {f0 : Fr}
    (hQ : ∀ a' f' w', FR N a' f' → Pres M f0 f' → next f' w' → Q .normal a' w') :
    ∀ (ops : List Oper) (f : Fr) (w : World) (a : Act), (∀ o ∈ ops, dstOk M N o = true) → FR N a f → Pres M f0 f → opsE P all next ops f w → wpList P all.toArray Q ops a w
  | [], f, w, a, _, hF, hP, h => hQ a f w hF hP h
  | o :: rest, f, w, a, hin, hF, hP, h => by
    have ho := hin o (by simp)
    have hrest : ∀ o ∈ rest, dstOk M N o = true := fun x hx => hin x (by simp [hx])
    have run : ∀ (f : Fr), FR N a f → Pres M f0 f → (opE P o f w fun v w' => opsE P all next rest (put f o.dst v) w') → o.wp P a w (wpList P all.toArray Q rest) Q := by
      intro f hF hP h
      exact opE_sound hF h fun v w' hk => opsE_sound hQ rest _ _ _ hrest (hF.put _ _ (dst_lt ho)) (hP.put ho v) hk
    have runX : ∀ (f : Fr), FR N a f → Pres M f0 f → (opX P all o f w fun v w' => opsE P all next rest (put f o.dst v) w') → o.wp P a w (wpList P all.toArray Q rest) Q := by
      intro f hF hP h
      exact opX_sound hF h fun v w' hk => opsE_sound hQ rest _ _ _ hrest (hF.put _ _ (dst_lt ho)) (hP.put ho v) hk
    have skip : ∀ (f : Fr), FR N a f → Pres M f0 f → opsE P all next rest (put f o.dst undef) w → wpList P all.toArray Q rest (a.put o.dst undef) w :=
      fun f hF hP h => opsE_sound hQ rest _ _ _ hrest (hF.put _ _ (dst_lt ho)) (hP.put ho _) h
    unfold wpList
    unfold opsE at h
    split at h
    · rename_i hg
      rw [if_pos (by simp [Region.wanted, hg])]
      exact .inl (runX f hF hP h)
    · rename_i j want hg
      have hy : Region.wanted o (yielded all.toArray a.tmps) = (yielded all.toArray a.tmps j == some want) := by
        simp only [Region.wanted, hg]
      rw [hy]
      split at h
      · rename_i hd
        rw [yielded_none hd]
        exact skip f hF hP h
      · rename_i d hd
        rw [yielded_some hd]
        split at h
        · rename_i q hq
          rw [hF.at? hq]
          cases want <;> cases q <;> simp only [ifB] at h <;> rw [put_same hq] at h
          · exact .inl (run f hF hP h)
          · exact skip f hF hP h
          · exact skip f hF hP h
          · exact .inl (run f hF hP h)
        · rename_i hq
          rcases hF.at?' d with e | e
          · rw [e]
            have : boolOf (some (f d)) = none := by
              unfold boolOf
              split
              · rename_i b hb; exact (hq b (by simpa using hb)).elim
              · rfl
            rw [this]
            exact skip f hF hP h
          · rw [e]
            exact skip f hF hP h


/-! ### a region that draws its order: the operations that only read ('silent') in whatever order, the others ('loud') in their one order -/

def loudB (o : Oper) : Bool :=
  match o.op with
  | .call c => (match c.callee with
    | .builtin .len => false
    | .builtin .min => false
    | .builtin .max => false
    | _ => true)
  | .move _ => false
  | .assign _ => false
  | .pick .. => false
  | .load .. => false
  | .nilCheck _ => false
  | .binOp .. => false
  | .unOp .. => false
  | .convert .. => false
  | .slice .. => false
  | .fieldAddr .. => false
  | .field .. => false
  | .indexAddr .. => false
  | .index .. => false
  | .lookup .. => false
  | .extract .. => false
  | .build .. => false
  | _ => true

def intOp (op : BinOp) (k : IntKind) (a b : Int) : Option Value :=
  match op with
  | .add => some (.int k (k.wrap (a + b)))
  | .sub => some (.int k (k.wrap (a - b)))
  | .mul => some (.int k (k.wrap (a * b)))
  | .eql => some (.bool (a == b))
  | .neq => some (.bool (a != b))
  | .lss => some (.bool (a < b))
  | .leq => some (.bool (a ≤ b))
  | .gtr => some (.bool (a > b))
  | .geq => some (.bool (a ≥ b))
  | _ => none

/-- A silent operation: opE that leaves the world. -/
def opS (P : Program) (o : Oper) (f : Fr) (w : World) (K : Value → Prop) : Prop :=
  match o.op with
  | .move x => K (ev f x)
  | .assign x => K (ev f x)
  | .load t x => match ev f x with | .pointer p => someA p fun a => ldE P t w a K | _ => False
  | .nilCheck x => match ev f x with | .pointer p => someA p fun a => K (.pointer (some a)) | _ => False
  | .fieldAddr s x i => match P.underlying s, ev f x with
    | some (.struct fs), .pointer p => (match fs[i]? with
      | some fld => (match P.info? fld.type with
        | some ti => cond (Nat.beq ti.size 0) False (someA p fun a => K (.pointer (some (a.add fld.offset))))
        | none => False)
      | none => False)
    | _, _ => False
  | .extract t ix => match ev f t with
    | .tuple vs => (match vs[ix]? with | some v => K v | none => False)
    | _ => False
  | .binOp op t x y yt => match ev f x, ev f y with
    | .int k a, .int k' b => (match decide (k = k'), intOp op k a b with
      | true, some v => K v
      | _, _ => opE P o f w fun v w' => w' = w ∧ K v)
    | _, _ => opE P o f w fun v w' => w' = w ∧ K v
  | _ => opE P o f w fun v w' => w' = w ∧ K v

def persB (o : Oper) : Bool :=
  match o.op with
  | .move _ => true
  | .assign _ => true
  | .nilCheck _ => true
  | .fieldAddr .. => true
  | .extract .. => true
  | _ => false

/-- The run of a silent operation. -/
def Sil (P : Program) (o : Oper) (f : Fr) (w : World) (v : Value) : Prop :=
  (execOp (ev f) o).run P w = .ok (.value v) w ∧ (persB o = true → ∀ w', (execOp (ev f) o).run P w' = .ok (.value v) w')

theorem Sil.all {P : Program} {o : Oper} {f : Fr} {w : World} {v : Value} (h : ∀ w', (execOp (ev f) o).run P w' = .ok (.value v) w') : Sil P o f w v := ⟨h w, fun _ => h⟩
theorem Sil.one {P : Program} {o : Oper} {f : Fr} {w : World} {v : Value} (hp : persB o = false) (h : (execOp (ev f) o).run P w = .ok (.value v) w) : Sil P o f w v := ⟨h, fun e => by rw [hp] at e; cases e⟩

theorem opS_pers {P : Program} {o : Oper} {f : Fr} {w w' : World} {K : Value → Prop} (hp : persB o = true) (h : opS P o f w K) : opS P o f w' K := by
  obtain ⟨dst, op, ty, pos, after, guard⟩ := o
  cases op <;> simp only [persB, Bool.false_eq_true] at hp <;> exact h

theorem res_v {P : Program} {s : Sem Value} {w : World} {K : Value → World → Prop} (h : Res P ((do pure (.value (← s)) : Sem Next).run P w) K) :
    ∃ v w', (do pure (.value (← s)) : Sem Next).run P w = .ok (.value v) w' ∧ K v w' := by
  simp only [Sem.run_bind, Sem.run_pure] at h ⊢
  cases hr : s.run P w with
  | ok v w' => rw [hr] at h; exact ⟨v, w', rfl, h⟩
  | halt x w' => rw [hr] at h; exact h.elim

theorem sil_v {P : Program} {o : Oper} {f : Fr} {w : World} {K : Value → Prop} {s : Sem Value} (hp : persB o = false) (he : execOp (ev f) o = (do pure (.value (← s)) : Sem Next))
    (h : opE P o f w fun v w' => w' = w ∧ K v) : ∃ v, Sil P o f w v ∧ K v := by
  have hr := opE_res h
  rw [he] at hr
  obtain ⟨v, w', hv, rfl, hk⟩ := res_v hr
  exact ⟨v, .one hp (by rw [he]; exact hv), hk⟩

theorem intOp_run {P : Program} {op : BinOp} {k : IntKind} {a b : Int} {v : Value} {t : TypeId} {w : World} (h : intOp op k a b = some v) : (binOp op t (.int k a) (.int k b)).run P w = .ok v w := by
  cases op <;> simp only [intOp, reduceCtorEq, Option.some.injEq] at h <;> subst h <;>
    first
      | (rw [binOp_add]; rfl) | (rw [binOp_sub]; rfl) | (rw [binOp_mul]; rfl) | (rw [binOp_eql]; rfl) | (rw [binOp_neq]; rfl)
      | (rw [binOp_lss]; rfl) | (rw [binOp_leq]; rfl) | (rw [binOp_gtr]; rfl) | (rw [binOp_geq]; rfl)

theorem opS_sil {P : Program} {o : Oper} {f : Fr} {w : World} {K : Value → Prop} (hl : loudB o = false) (h : opS P o f w K) : ∃ v, Sil P o f w v ∧ K v := by
  obtain ⟨dst, op, ty, pos, after, guard⟩ := o
  cases op <;> simp only [loudB, Bool.true_eq_false] at hl <;> simp only [opS] at h
  case move x => exact ⟨_, .all fun _ => rfl, h⟩
  case assign x => exact ⟨_, .all fun _ => rfl, h⟩
  case pick c x y =>
    simp only [opE] at h
    split at h
    · rename_i q hq
      cases q with
      | true => exact ⟨ev f x, .one rfl (by simp [execOp, hq, asBool]), h.2⟩
      | false => exact ⟨ev f y, .one rfl (by simp [execOp, hq, asBool]), h.2⟩
    · exact h.elim
  case load t x =>
    split at h
    · rename_i p hp
      obtain ⟨x', rfl, h⟩ := someA_of h
      obtain ⟨v, hr, hk⟩ := ldE_sound h
      refine ⟨v, .one rfl ?_, hk⟩
      have hr' : (Instr.loadAt t (ev f x)).run P w = .ok v w := by rw [hp]; simp only [Instr.loadAt, Instr.sureAddr, Sem.run_bind, Sem.run_pure, Result.andThen_ok]; exact hr
      simp only [execOp, Sem.run_bind, hr', Result.andThen_ok, Sem.run_pure]
    · exact h.elim
  case nilCheck x =>
    split at h
    · rename_i p hp
      obtain ⟨x', rfl, h⟩ := someA_of h
      exact ⟨_, .all fun w' => by simp only [execOp, hp, Sem.run_pure], h⟩
    · exact h.elim
  case fieldAddr s x i =>
    split at h
    · rename_i fs p hs hp
      split at h
      · rename_i fld hf
        split at h
        · rename_i ti hi
          cases hb : Nat.beq ti.size 0 with
          | true => rw [hb] at h; exact h.elim
          | false =>
            rw [hb] at h
            obtain ⟨x', rfl, h⟩ := someA_of h
            have hz : ti.size ≠ 0 := fun e => by rw [e] at hb; cases hb
            refine ⟨_, .all fun w' => ?_, h⟩
            simp only [execOp, hp, Sem.run_bind, run_fieldAt' hs hf hi hz x', Result.andThen_ok, Sem.run_pure]
        · exact h.elim
      · exact h.elim
    · exact h.elim
  case extract t ix =>
    split at h
    · rename_i vs hv
      split at h
      · rename_i v hi
        exact ⟨v, .all fun w' => by simp [execOp, hv, Instr.extract, hi], h⟩
      · exact h.elim
    · exact h.elim
  case binOp op t x y yt =>
    split at h
    · rename_i k a k' b hx hy
      split at h
      · rename_i v hk hv
        have hk' : k = k' := of_decide_eq_true hk
        subst hk'
        refine ⟨v, .one rfl ?_, h⟩
        have hr := intOp_run (P := P) (t := t) (w := w) hv
        simp only [execOp, hx, hy, eqGuard_at_int, pure_bind, Sem.run_bind, hr, Result.andThen_ok, Sem.run_pure]
      · exact sil_v rfl rfl h
    · exact sil_v rfl rfl h
  case call c =>
    obtain ⟨callee, args, argTypes⟩ := c
    cases callee with
    | invoke r m => simp at hl
    | value g => simp at hl
    | builtin b =>
      cases b <;> simp only [Bool.true_eq_false] at hl
      case len => exact sil_v rfl rfl h
      case min => exact sil_v rfl rfl h
      case max => exact sil_v rfl rfl h
  all_goals exact sil_v rfl rfl h

def wantF (ops : List Oper) (f : Fr) (o : Oper) : Bool :=
  match o.guard with
  | none => true
  | some (j, want) =>
    match (ops[j]?).bind (·.dst) with
    | none => false
    | some d => boolOf (some (f d)) == some want

def gS (P : Program) (ops : List Oper) (o : Oper) (f : Fr) (w : World) (K : Fr → Prop) : Prop :=
  match o.guard with
  | none => opS P o f w fun v => K (put f o.dst v)
  | some (j, want) =>
    match (ops[j]?).bind (·.dst) with
    | none => K (put f o.dst undef)
    | some d =>
      match f d with
      | .bool q =>
        match want with
        | true => ifB q (opS P o (put f (some d) (.bool true)) w fun v => K (put (put f (some d) (.bool true)) o.dst v)) (K (put (put f (some d) (.bool false)) o.dst undef))
        | false => ifB q (K (put (put f (some d) (.bool true)) o.dst undef)) (opS P o (put f (some d) (.bool false)) w fun v => K (put (put f (some d) (.bool false)) o.dst v))
      | _ => K (put f o.dst undef)

def gL (P : Program) (ops : List Oper) (o : Oper) (f : Fr) (w : World) (K : Fr → World → Prop) : Prop :=
  match o.guard with
  | none => opE P o f w fun v w' => K (put f o.dst v) w'
  | some (j, want) =>
    match (ops[j]?).bind (·.dst) with
    | none => K (put f o.dst undef) w
    | some d =>
      match f d with
      | .bool q =>
        match want with
        | true => ifB q (opE P o (put f (some d) (.bool true)) w fun v w' => K (put (put f (some d) (.bool true)) o.dst v) w') (K (put (put f (some d) (.bool false)) o.dst undef) w)
        | false => ifB q (K (put (put f (some d) (.bool true)) o.dst undef) w) (opE P o (put f (some d) (.bool false)) w fun v w' => K (put (put f (some d) (.bool false)) o.dst v) w')
      | _ => K (put f o.dst undef) w

/-- What a silent operation gives at f and w. -/
def OKv (P : Program) (ops : List Oper) (o : Oper) (f : Fr) (w : World) (v : Value) : Prop :=
  (wantF ops f o = true ∧ Sil P o f w v) ∨ (wantF ops f o = false ∧ v = undef)

theorem gS_of {P : Program} {ops : List Oper} {o : Oper} {f : Fr} {w : World} {K : Fr → Prop} (hl : loudB o = false) (h : gS P ops o f w K) :
    ∃ v, OKv P ops o f w v ∧ K (put f o.dst v) := by
  unfold gS at h
  unfold OKv wantF
  split at h
  · rename_i hg
    obtain ⟨v, hs, hk⟩ := opS_sil hl h
    exact ⟨v, .inl ⟨rfl, hs⟩, hk⟩
  · rename_i j want hg
    split at h
    · rename_i hd
      try simp only [hd]
      exact ⟨undef, .inr ⟨by trivial, rfl⟩, h⟩
    · rename_i d hd
      try simp only [hd]
      split at h
      · rename_i q hq
        rw [hq]
        cases want <;> cases q <;> simp only [ifB] at h <;> rw [put_same hq] at h
        · obtain ⟨v, hs, hk⟩ := opS_sil hl h
          exact ⟨v, .inl ⟨rfl, hs⟩, hk⟩
        · exact ⟨undef, .inr ⟨rfl, rfl⟩, h⟩
        · exact ⟨undef, .inr ⟨rfl, rfl⟩, h⟩
        · obtain ⟨v, hs, hk⟩ := opS_sil hl h
          exact ⟨v, .inl ⟨rfl, hs⟩, hk⟩
      · rename_i hq
        have : boolOf (some (f d)) = none := by
          unfold boolOf
          split
          · rename_i b hb; exact (hq b (by simpa using hb)).elim
          · rfl
        rw [this]
        exact ⟨undef, .inr ⟨rfl, rfl⟩, h⟩

theorem gS_pers {P : Program} {ops : List Oper} {o : Oper} {f : Fr} {w w' : World} {K : Fr → Prop} (hp : persB o = true) (h : gS P ops o f w K) : gS P ops o f w' K := by
  unfold gS at *
  split at h
  · exact opS_pers hp h
  · rename_i j want hg
    split at h
    · exact h
    · rename_i d hd
      split at h
      · rename_i q hq
        cases want <;> cases q <;> simp only [ifB] at h ⊢ <;> first | exact h | exact opS_pers hp h
      · exact h

theorem gL_of {P : Program} {ops : List Oper} {o : Oper} {f : Fr} {w : World} {K : Fr → World → Prop} (h : gL P ops o f w K) :
    (wantF ops f o = true ∧ Res P ((execOp (ev f) o).run P w) fun v w' => K (put f o.dst v) w') ∨ (wantF ops f o = false ∧ K (put f o.dst undef) w) := by
  unfold gL at h
  unfold wantF
  split at h
  · rename_i hg
    exact .inl ⟨rfl, opE_res h⟩
  · rename_i j want hg
    split at h
    · rename_i hd
      try simp only [hd]
      exact .inr ⟨by trivial, h⟩
    · rename_i d hd
      try simp only [hd]
      split at h
      · rename_i q hq
        rw [hq]
        cases want <;> cases q <;> simp only [ifB] at h <;> rw [put_same hq] at h
        · exact .inl ⟨rfl, opE_res h⟩
        · exact .inr ⟨rfl, h⟩
        · exact .inr ⟨rfl, h⟩
        · exact .inl ⟨rfl, opE_res h⟩
      · rename_i hq
        have : boolOf (some (f d)) = none := by
          unfold boolOf
          split
          · rename_i b hb; exact (hq b (by simpa using hb)).elim
          · rfl
        rw [this]
        exact .inr ⟨rfl, h⟩

def isLoud (ops : List Oper) (o : Oper) : Bool :=
  loudB o || (match o.op with
    | .assign _ => (match o.dst with | some d => ops.any (fun p => (Oper.looksAt ops.toArray p).contains d) | none => false)
    | _ => false)

/-- What every operation waits for, by way of others too. -/
def clos : List Oper → List (List Nat) → List (List Nat)
  | [], acc => acc
  | o :: os, acc => clos os (acc ++ [((o.after.toList.filter (Region.binds .any)).flatMap fun e => e.on :: acc.getD e.on []).eraseDups])

def stabs (P : Program) (ops : List Oper) (skip : Nat → Bool) (f : Fr) (w : World) : List Nat → Prop → Prop
  | [], K => K
  | i :: is, K => match ops[i]? with
    | some o => cond (isLoud ops o || persB o || skip i) (stabs P ops skip f w is K)
        (gS P ops o f w (fun f' => match o.dst with | some d => f' d = f d | none => True) ∧ stabs P ops skip f w is K)
    | none => False

def silPass (P : Program) (ops : List Oper) (w : World) : Nat → List Oper → List Nat → Fr → (List Nat → Fr → Prop) → Prop
  | _, [], D, f, K => K D f
  | i, o :: rest, D, f, K =>
    cond (!isLoud ops o && !D.contains i && o.after.toList.all (fun e => !Region.binds .any e || D.contains e.on))
      (gS P ops o f w fun f' => silPass P ops w (i + 1) rest (i :: D) f' K)
      (silPass P ops w (i + 1) rest D f K)

def drawGo (P : Program) (ops : List Oper) (cl : List (List Nat)) (next : Fr → World → Prop) : List Nat → List Nat → Fr → World → Prop
  | [], _, f, w => next f w
  | l :: ls, D, f, w => match ops[l]? with
    | none => False
    | some o => gL P ops o f w fun f1 w1 => stabs P ops (fun i => (cl.getD l []).contains i) f1 w1 D (silPass P ops w1 0 ops (l :: D) f1 fun D2 f2 => drawGo P ops cl next ls D2 f2 w1)

def louds (ops : List Oper) : List Nat := (List.range ops.length).filter fun i => match ops[i]? with | some o => isLoud ops o | none => false

def pairOk (ops : List Oper) (cl : List (List Nat)) (i : Nat) (oi : Oper) (j : Nat) (oj : Oper) : Bool :=
  Nat.beq i j ||
  ((match oj.dst with
    | some t => (!(Oper.looksAt ops.toArray oi).contains t || ((cl.getD i []).contains j || ((cl.getD j []).contains i && (isLoud ops oi || isLoud ops oj)))) &&
        (!(oi.dst == some t) || (((cl.getD j []).contains i || (cl.getD i []).contains j) && (isLoud ops oi || isLoud ops oj)))
    | none => true) &&
   (!(isLoud ops oi && isLoud ops oj && Nat.blt i j) || (cl.getD j []).contains i))

def drawOk (ops : List Oper) : Bool :=
  Region.noSelect ops.toArray &&
  (ops.zipIdx.all fun p =>
    p.1.after.toList.all (fun e => !Region.binds .any e || Nat.blt e.on p.2) &&
    (isLoud ops p.1 || (match p.1.dst with | some t => !(Oper.looksAt ops.toArray p.1).contains t | none => true)) &&
    ops.zipIdx.all fun q => pairOk ops (clos ops []) p.2 p.1 q.2 q.1)

def drawE (P : Program) (ops : List Oper) (next : Fr → World → Prop) (f : Fr) (w : World) : Prop :=
  cond (P.follows .mixedOrders && drawOk ops)
    (∀ w1 : World, w1 = w.drew → silPass P ops w1 0 ops [] f fun D f1 => drawGo P ops (clos ops []) next (louds ops) D f1 w1) False

section draws
variable {P : Program} {ops : List Oper}

/-- What o looks at. -/
abbrev looks (ops : List Oper) (o : Oper) : List Nat := Oper.looksAt ops.toArray o

theorem ev_agree {o : Oper} {f g : Nat → Value} (h : ∀ t, t ∈ looks ops o → f t = g t) : ∀ x ∈ o.op.operands, ev f x = ev g x := by
  intro x hx
  cases x with
  | tmp t => exact h t (List.mem_append_left _ (List.mem_filterMap.2 ⟨.tmp t, by simpa using hx, rfl⟩))
  | _ => rfl

theorem wantF_agree {o : Oper} {f g : Nat → Value} (h : ∀ t, t ∈ looks ops o → f t = g t) : wantF ops f o = wantF ops g o := by
  unfold wantF
  split
  · rfl
  · rename_i j want hg
    split
    · rfl
    · rename_i d hd
      rw [h d (by simp [looks, Oper.looksAt, hg, hd])]

theorem okv_agree {o : Oper} {f g : Fr} {w : World} {v : Value} (hs : ∀ cs b, o.op ≠ .select cs b) (h : ∀ t, t ∈ looks ops o → f t = g t) (k : OKv P ops o f w v) : OKv P ops o g w v := by
  unfold OKv Sil at *
  rw [← wantF_agree h, ← execOp_congr o hs (ev_agree h)]
  exact k

theorem wanted_act {o : Oper} {a : Act} {f : Fr} (h : ∀ t, t ∈ looks ops o → a.tmps.getD t undef = f t) : Region.wanted o (yielded ops.toArray a.tmps) = wantF ops f o := by
  unfold wantF Region.wanted
  cases hg : o.guard with
  | none => rfl
  | some gw =>
    obtain ⟨j, want⟩ := gw
    cases hd : (ops[j]?).bind (·.dst) with
    | none =>
      have hy : yielded ops.toArray a.tmps j = none := by unfold yielded; simp [hd]
      simp only [hy, hd]
      rfl
    | some d =>
      have hfd := h d (by simp [looks, Oper.looksAt, hg, hd])
      have hy : yielded ops.toArray a.tmps j = boolOf (some (f d)) := by
        rw [← hfd]
        unfold yielded
        by_cases hlt : d < a.tmps.size
        · simp [hd, Array.getD, hlt, boolOf]; rfl
        · simp [hd, Array.getD, hlt, boolOf, undef]
      simp only [hy, hd]

theorem eval_act {o : Oper} {a : Act} {f : Fr} (hs : ∀ cs b, o.op ≠ .select cs b) (h : ∀ t, t ∈ looks ops o → a.tmps.getD t undef = f t) : execOp a.eval o = execOp (ev f) o :=
  execOp_congr o hs fun x hx => by
    have hx' := ev_agree (f := fun t => a.tmps.getD t undef) (g := f) h x hx
    cases x with
    | tmp t => exact hx'
    | _ => rfl

theorem clos_spec : ∀ (os : List Oper) (acc : List (List Nat)) (i : Nat) (j : Nat), j ∈ (clos os acc).getD i [] →
    j ∈ acc.getD i [] ∨ ∃ o, acc.length ≤ i ∧ os[i - acc.length]? = some o ∧ ∃ e ∈ o.after, Region.binds .any e = true ∧ (j = e.on ∨ j ∈ (clos os acc).getD e.on [])
  | [], acc, i, j, h => .inl h
  | o :: os, acc, i, j, h => by
    unfold clos at h
    have mono : ∀ (os : List Oper) (acc : List (List Nat)) (k x : Nat), x ∈ acc.getD k [] → x ∈ (clos os acc).getD k [] := by
      intro os
      induction os with
      | nil => intro acc k x hx; exact hx
      | cons o os ih =>
        intro acc k x hx
        unfold clos
        refine ih _ k x ?_
        by_cases hk : k < acc.length
        · simp only [List.getD_eq_getElem?_getD, List.getElem?_append_left hk] at hx ⊢; exact hx
        · rw [List.getD_eq_getElem?_getD, List.getElem?_eq_none (Nat.le_of_not_lt hk)] at hx; simp at hx
    rcases clos_spec os _ i j h with h1 | ⟨o', hle, ho', e, he, hb, hj⟩
    · by_cases hi : i < acc.length
      · left
        simp only [List.getD_eq_getElem?_getD, List.getElem?_append_left hi] at h1 ⊢
        exact h1
      · right
        by_cases hi' : i = acc.length
        · subst hi'
          refine ⟨o, Nat.le_refl _, by simp, ?_⟩
          simp only [List.getD_eq_getElem?_getD, List.getElem?_append_right (Nat.le_refl _), Nat.sub_self, List.getElem?_cons_zero, Option.getD_some, List.mem_eraseDups, List.mem_flatMap, List.mem_filter, Array.mem_toList_iff] at h1
          obtain ⟨e, ⟨he, hb⟩, hj⟩ := h1
          refine ⟨e, he, hb, ?_⟩
          rcases List.mem_cons.1 hj with hj | hj
          · exact .inl hj
          · right
            refine mono (o :: os) acc e.on j ?_
            simpa [List.getD_eq_getElem?_getD] using hj
        · have : (acc ++ [((o.after.toList.filter (Region.binds .any)).flatMap fun e => e.on :: acc.getD e.on []).eraseDups])[i]? = none := by
            apply List.getElem?_eq_none
            simp
            omega
          rw [List.getD_eq_getElem?_getD, this] at h1
          simp at h1
    · right
      simp only [List.length_append, List.length_cons, List.length_nil] at hle ho'
      refine ⟨o', by omega, ?_, e, he, hb, ?_⟩
      · rw [show i - acc.length = (i - (acc.length + 1)) + 1 by omega, List.getElem?_cons_succ]
        exact ho'
      · rcases hj with hj | hj
        · exact .inl hj
        · right; unfold clos; exact hj

abbrev CL (ops : List Oper) (i : Nat) : List Nat := (clos ops []).getD i []

/-- What drawOk says. -/
structure DOk (ops : List Oper) : Prop where
  edge : ∀ (i : Nat) (o : Oper), ops[i]? = some o → ∀ e ∈ o.after, Region.binds .any e = true → e.on < i
  sel : ∀ (i : Nat) (o : Oper), ops[i]? = some o → ∀ cs b, o.op ≠ .select cs b
  own : ∀ (i : Nat) (o : Oper), ops[i]? = some o → isLoud ops o = false → ∀ t, o.dst = some t → t ∉ looks ops o
  read : ∀ (i : Nat) (oi : Oper) (j : Nat) (oj : Oper) (t : Nat), ops[i]? = some oi → ops[j]? = some oj → i ≠ j → oj.dst = some t → t ∈ looks ops oi →
    j ∈ CL ops i ∨ (i ∈ CL ops j ∧ (isLoud ops oi = true ∨ isLoud ops oj = true))
  write : ∀ (i : Nat) (oi : Oper) (j : Nat) (oj : Oper) (t : Nat), ops[i]? = some oi → ops[j]? = some oj → i ≠ j → oj.dst = some t → oi.dst = some t →
    (i ∈ CL ops j ∨ j ∈ CL ops i) ∧ (isLoud ops oi = true ∨ isLoud ops oj = true)
  tot : ∀ (i : Nat) (oi : Oper) (j : Nat) (oj : Oper), ops[i]? = some oi → ops[j]? = some oj → i < j → isLoud ops oi = true → isLoud ops oj = true → i ∈ CL ops j

theorem drawOk_spec (h : drawOk ops = true) : DOk ops := by
  unfold drawOk at h
  simp only [Bool.and_eq_true, List.all_eq_true] at h
  obtain ⟨hsel, hall⟩ := h
  have at' : ∀ i o, ops[i]? = some o → (o, i) ∈ ops.zipIdx := fun i o ho => by
    rw [List.mem_zipIdx_iff_getElem?]; exact ho
  have pair : ∀ i oi j oj, ops[i]? = some oi → ops[j]? = some oj → i ≠ j → pairOk ops (clos ops []) i oi j oj = true := fun i oi j oj hi hj _ => (hall _ (at' i oi hi)).2 _ (at' j oj hj)
  refine ⟨?_, ?_, ?_, ?_, ?_, ?_⟩
  · intro i o ho e he hb
    have := (hall _ (at' i o ho)).1.1 e (by simpa using he)
    simp only [hb, Bool.not_true, Bool.false_or] at this
    exact Nat.le_of_ble_eq_true this
  · intro i o ho cs b
    exact Region.noSelect_spec hsel i o cs b (by simpa using ho)
  · intro i o ho hl t ht
    have := (hall _ (at' i o ho)).1.2
    simp only [hl, Bool.false_or, ht, Bool.not_eq_true', List.contains_eq_mem, decide_eq_false_iff_not] at this
    exact this
  · intro i oi j oj t hi hj hne ht hin
    have := pair i oi j oj hi hj hne
    unfold pairOk at this
    rw [beq_ne hne, ht] at this
    simp only [Bool.false_or, Bool.and_eq_true, Bool.or_eq_true, Bool.not_eq_true', List.contains_eq_mem, decide_eq_true_eq, decide_eq_false_iff_not] at this
    exact (this.1.1).resolve_left (fun q => q hin)
  · intro i oi j oj t hi hj hne ht ht'
    have := pair i oi j oj hi hj hne
    unfold pairOk at this
    rw [beq_ne hne, ht] at this
    simp only [Bool.false_or, Bool.and_eq_true, Bool.or_eq_true, Bool.not_eq_true', List.contains_eq_mem, decide_eq_true_eq, decide_eq_false_iff_not] at this
    exact (this.1.2).resolve_left (fun q => by rw [ht'] at q; simp at q)
  · intro i oi j oj hi hj hlt hl1 hl2
    have := pair i oi j oj hi hj (by omega)
    unfold pairOk at this
    rw [beq_ne (by omega : i ≠ j)] at this
    have hb : Nat.blt i j = true := Nat.ble_eq_true_of_le hlt
    simp only [hl1, hl2, hb, Bool.and_self, Bool.not_true, Bool.false_or, Bool.and_eq_true, List.contains_eq_mem, decide_eq_true_eq] at this
    exact this.2

/-- A set of operations that holds all that its members wait for. -/
def Down (ops : List Oper) (S : Nat → Prop) : Prop := ∀ i, S i → ∀ o, ops[i]? = some o → ∀ e ∈ o.after, Region.binds .any e = true → S e.on

theorem Down.cl (hd : DOk ops) {S : Nat → Prop} (h : Down ops S) : ∀ i, (∀ o, ops[i]? = some o → ∀ e ∈ o.after, Region.binds .any e = true → S e.on) → ∀ j ∈ CL ops i, S j := by
  intro i
  induction i using Nat.strongRecOn with
  | _ i ih =>
    intro hi j hj
    rcases clos_spec ops [] i j hj with h0 | ⟨o, _, ho, e, he, hb, hje⟩
    · simp at h0
    · simp only [List.length_nil, Nat.sub_zero] at ho
      rcases hje with rfl | hje
      · exact hi o ho e he hb
      · exact ih e.on (hd.edge i o ho e he hb) (fun o' ho' e' he' hb' => h e.on (hi o ho e he hb) o' ho' e' he' hb') j hje

structure DInv (P : Program) (ops : List Oper) (N : Nat) (M : Nat → Bool) (f0 : Fr) (Li : Nat → Prop) (D : List Nat) (f : Fr) (a : Act) (w : World) : Prop where
  ld : ∀ i, Li i → i ∈ D
  dl : ∀ i ∈ D, i < ops.length
  dd : Down ops (fun i => i ∈ D)
  lw : Down ops Li
  ll : ∀ i ∈ D, ∀ o, ops[i]? = some o → isLoud ops o = true → Li i
  at' : ∀ t, (∀ i ∈ D, ∀ o, ops[i]? = some o → o.dst = some t → Li i) → a.tmps.getD t undef = f t
  ok : ∀ i ∈ D, ¬ Li i → ∀ o, ops[i]? = some o → ∃ v, OKv P ops o f w v ∧ (∀ d, o.dst = some d → f d = v)
  size : a.tmps.size = N
  defers : a.defers = []
  pres : Pres M f0 f

/-- A silent operation whose waits are done is taken in. -/
theorem DInv.take (hd : DOk ops) {N : Nat} {M : Nat → Bool} (hin : ∀ o ∈ ops, dstOk M N o = true) {f0 f : Fr} {Li : Nat → Prop} {D : List Nat} {a : Act} {w : World} (I : DInv P ops N M f0 Li D f a w)
    {k : Nat} {o : Oper} (hk : ops[k]? = some o) (hl : isLoud ops o = false) (hn : k ∉ D) (hw : ∀ e ∈ o.after, Region.binds .any e = true → e.on ∈ D) {v : Value} (hv : OKv P ops o f w v) :
    DInv P ops N M f0 Li (k :: D) (put f o.dst v) a w := by
  have hlt : k < ops.length := (List.getElem?_eq_some_iff.1 hk).1
  have ho := hin o (List.mem_of_getElem? hk)
  -- what is pending does not look at k's slot, nor write it
  have far : ∀ i ∈ D, ¬ Li i → ∀ o', ops[i]? = some o' → ∀ d, o.dst = some d → d ∉ looks ops o' ∧ o'.dst ≠ some d := by
    intro i hi hni o' ho' d hdst
    have hl' : isLoud ops o' = false := by
      cases hq : isLoud ops o' with
      | false => rfl
      | true => exact absurd (I.ll i hi o' ho' hq) hni
    have hne : i ≠ k := fun e => hn (e ▸ hi)
    constructor
    · intro hin'
      rcases hd.read i o' k o d ho' hk hne hdst hin' with hc | ⟨_, hc | hc⟩
      · exact hn (Down.cl hd I.dd i (fun o'' ho'' e he hb => I.dd i hi o'' ho'' e he hb) k hc)
      · rw [hl'] at hc; cases hc
      · rw [hl] at hc; cases hc
    · intro hsame
      rcases (hd.write i o' k o d ho' hk hne hdst hsame).2 with hc | hc
      · rw [hl'] at hc; cases hc
      · rw [hl] at hc; cases hc
  have putne : ∀ t, o.dst ≠ some t → put f o.dst v t = f t := by
    intro t ht
    cases hdst : o.dst with
    | none => rfl
    | some d =>
      have : t ≠ d := fun e => ht (by rw [hdst, e])
      simp [put, beq_ne this]
  refine ⟨fun i hi => List.mem_cons_of_mem _ (I.ld i hi), ?_, ?_, I.lw, ?_, ?_, ?_, I.size, I.defers, I.pres.put ho v⟩
  · intro i hi
    rcases List.mem_cons.1 hi with rfl | hi
    · exact hlt
    · exact I.dl i hi
  · intro i hi o' ho' e he hb
    rcases List.mem_cons.1 hi with rfl | hi
    · rw [hk] at ho'; cases ho'; exact List.mem_cons_of_mem _ (hw e he hb)
    · exact List.mem_cons_of_mem _ (I.dd i hi o' ho' e he hb)
  · intro i hi o' ho' hl'
    rcases List.mem_cons.1 hi with rfl | hi
    · rw [hk] at ho'; cases ho'; rw [hl] at hl'; cases hl'
    · exact I.ll i hi o' ho' hl'
  · intro t ht
    have hnl : ¬ Li k := fun q => hn (I.ld k q)
    have hne : o.dst ≠ some t := fun e => hnl (ht k (by simp) o hk e)
    rw [putne t hne]
    exact I.at' t fun i hi o' ho' he => ht i (List.mem_cons_of_mem _ hi) o' ho' he
  · intro i hi hni o' ho'
    rcases List.mem_cons.1 hi with rfl | hi
    · rw [hk] at ho'
      cases ho'
      refine ⟨v, okv_agree (hd.sel i o hk) (fun t ht => ?_) hv, fun d hdst => by rw [hdst]; simp [put]⟩
      exact (putne t (fun e => hd.own i o hk hl t e ht)).symm
    · obtain ⟨u, hu, hfd⟩ := I.ok i hi hni o' ho'
      refine ⟨u, okv_agree (hd.sel i o' ho') (fun t ht => ?_) hu, fun d hdst => ?_⟩
      · exact (putne t (fun e => (far i hi hni o' ho' t e).1 ht)).symm
      · rw [putne d (fun e => (far i hi hni o' ho' d e).2 hdst)]
        exact hfd d hdst

theorem loud_of {o : Oper} (h : isLoud ops o = false) : loudB o = false := by
  unfold isLoud at h
  simp only [Bool.or_eq_false_iff] at h
  exact h.1

/-- The pass over the silent ones: the invariant stays, and all that can be taken in is. -/
theorem silPass_inv (hd : DOk ops) {N : Nat} {M : Nat → Bool} (hin : ∀ o ∈ ops, dstOk M N o = true) {f0 : Fr} {Li : Nat → Prop} {a : Act} {w : World} {K : List Nat → Fr → Prop} :
    ∀ (rest : List Oper) (k : Nat) (D : List Nat) (f : Fr), ops.drop k = rest → DInv P ops N M f0 Li D f a w →
      (∀ i o, i < k → ops[i]? = some o → isLoud ops o = false → (∀ e ∈ o.after, Region.binds .any e = true → e.on ∈ D) → i ∈ D) →
      silPass P ops w k rest D f K →
      ∃ D' f', DInv P ops N M f0 Li D' f' a w ∧ (∀ i o, ops[i]? = some o → isLoud ops o = false → (∀ e ∈ o.after, Region.binds .any e = true → e.on ∈ D') → i ∈ D') ∧
        (∀ i ∈ D', i ∈ D ∨ ∃ o, ops[i]? = some o ∧ isLoud ops o = false) ∧ (∀ i ∈ D, i ∈ D') ∧ K D' f'
  | [], k, D, f, hr, I, hdone, h => by
    refine ⟨D, f, I, fun i o ho hl hw => hdone i o ?_ ho hl hw, fun i hi => .inl hi, fun i hi => hi, h⟩
    have hlt := (List.getElem?_eq_some_iff.1 ho).1
    have hle : ops.length ≤ k := by simpa using hr
    omega
  | o :: rest, k, D, f, hr, I, hdone, h => by
    have hk : ops[k]? = some o := by
      have := congrArg (fun l => l[0]?) hr
      simpa using this
    have hr' : ops.drop (k + 1) = rest := by
      have := congrArg List.tail hr
      simpa using this
    unfold silPass at h
    cases hc : (!isLoud ops o && !D.contains k && o.after.toList.all (fun e => !Region.binds .any e || D.contains e.on)) with
    | false =>
      rw [hc] at h
      refine silPass_inv hd hin rest (k + 1) D f hr' I ?_ h
      intro i oi hi hoi hl hw
      by_cases hik : i = k
      · subst hik
        rw [hk] at hoi
        cases hoi
        have hall : o.after.toList.all (fun e => !Region.binds .any e || D.contains e.on) = true := by
          simp only [List.all_eq_true, Bool.or_eq_true, Bool.not_eq_true', List.contains_eq_mem, decide_eq_true_eq]
          intro e he
          cases hb : Region.binds .any e with
          | false => exact .inl rfl
          | true => exact .inr (hw e (by simpa using he) hb)
        rw [hl, hall] at hc
        simpa using hc
      · exact hdone i oi (by omega) hoi hl hw
    | true =>
      rw [hc] at h
      simp only [Bool.and_eq_true, Bool.not_eq_true', List.contains_eq_mem, decide_eq_false_iff_not, List.all_eq_true, Bool.or_eq_true, decide_eq_true_eq] at hc
      obtain ⟨⟨hl, hn⟩, hw⟩ := hc
      have hw' : ∀ e ∈ o.after, Region.binds .any e = true → e.on ∈ D := fun e he hb => (hw e (by simpa using he)).resolve_left (by rw [hb]; simp)
      obtain ⟨v, hv, hk'⟩ := gS_of (P := P) (ops := ops) (o := o) (f := f) (w := w) (K := fun f' => silPass P ops w (k + 1) rest (k :: D) f' K) (loud_of hl) h
      obtain ⟨D', f', I', h1, h2, h3, h4⟩ := silPass_inv hd hin rest (k + 1) (k :: D) (put f o.dst v) hr' (I.take hd hin hk hl hn hw' hv) (by
        intro i oi hi hoi hli hwi
        by_cases hik : i = k
        · subst hik; simp
        · refine List.mem_cons_of_mem _ (hdone i oi (by omega) hoi hli fun e he hb => ?_)
          rcases List.mem_cons.1 (hwi e he hb) with he' | he'
          · have := hd.edge i oi hoi e he hb
            omega
          · exact he') hk'
      refine ⟨D', f', I', h1, fun i hi => ?_, fun i hi => h3 i (List.mem_cons_of_mem _ hi), h4⟩
      rcases h2 i hi with hq | hq
      · rcases List.mem_cons.1 hq with rfl | hq
        · exact .inr ⟨o, hk, hl⟩
        · exact .inl hq
      · exact .inr hq

theorem stabs_of {skip : Nat → Bool} {f : Fr} {w : World} {K : Prop} : ∀ (D : List Nat), stabs P ops skip f w D K →
    K ∧ ∀ i ∈ D, ∀ o, ops[i]? = some o → isLoud ops o = false → persB o = false → skip i = false → ∃ v, OKv P ops o f w v ∧ ∀ d, o.dst = some d → f d = v
  | [], h => ⟨h, fun i hi => by cases hi⟩
  | i :: is, h => by
    unfold stabs at h
    split at h
    · rename_i o ho
      cases hc : (isLoud ops o || persB o || skip i) with
      | true =>
        rw [hc] at h
        obtain ⟨hk, hr⟩ := stabs_of is h
        refine ⟨hk, fun j hj oj hoj hl hp hs => ?_⟩
        rcases List.mem_cons.1 hj with rfl | hj
        · rw [ho] at hoj; cases hoj; rw [hl, hp, hs] at hc; cases hc
        · exact hr j hj oj hoj hl hp hs
      | false =>
        rw [hc] at h
        obtain ⟨h0, h⟩ := h
        obtain ⟨hk, hr⟩ := stabs_of is h
        refine ⟨hk, fun j hj oj hoj hl hp hs => ?_⟩
        rcases List.mem_cons.1 hj with rfl | hj
        · rw [ho] at hoj
          cases hoj
          obtain ⟨v, hv, hd⟩ := gS_of (loud_of hl) h0
          refine ⟨v, hv, fun d hdst => ?_⟩
          rw [hdst] at hd
          simp only [put, beq_self, cond_true] at hd
          exact hd.symm
        · exact hr j hj oj hoj hl hp hs
    · exact h.elim

theorem okv_pers {o : Oper} {f : Fr} {w w' : World} {v : Value} (hp : persB o = true) (h : OKv P ops o f w v) : OKv P ops o f w' v := by
  rcases h with ⟨h1, _, h2⟩ | h
  · exact .inl ⟨h1, h2 hp w', h2⟩
  · exact .inr h

theorem getD_put {a : Act} {f : Fr} {N : Nat} {o : Oper} {M : Nat → Bool} (hs : a.tmps.size = N) (ho : dstOk M N o = true) (v : Value) (t : Nat) :
    (o.dst = some t → (a.put o.dst v).tmps.getD t undef = v) ∧ (o.dst ≠ some t → (a.put o.dst v).tmps.getD t undef = a.tmps.getD t undef) := by
  have hlt := dst_lt ho
  cases hd : o.dst with
  | none => exact ⟨(fun e => by cases e), fun _ => rfl⟩
  | some d =>
    have hd' : d < a.tmps.size := by rw [hs]; exact hlt d hd
    refine ⟨fun e => ?_, fun e => ?_⟩
    · cases e
      simp [Act.put, Array.getD, hd']
    · have hne : d ≠ t := fun e' => e (by rw [e'])
      by_cases ht : t < a.tmps.size
      · simp [Act.put, Array.getD, ht, hne]
      · simp [Act.put, Array.getD, ht]

theorem put_at {f : Fr} {o : Oper} (v : Value) (t : Nat) : (o.dst = some t → put f o.dst v t = v) ∧ (o.dst ≠ some t → put f o.dst v t = f t) := by
  cases hd : o.dst with
  | none => exact ⟨(fun e => by cases e), fun _ => rfl⟩
  | some d =>
    refine ⟨fun e => ?_, fun e => ?_⟩
    · cases e; simp [put]
    · have hne : t ≠ d := fun e' => e (by rw [e'])
      simp [put, beq_ne hne]

theorem act_size (a : Act) (d : Option Nat) (v : Value) : (a.put d v).tmps.size = a.tmps.size := by cases d <;> simp [Act.put]
theorem act_defers (a : Act) (d : Option Nat) (v : Value) : (a.put d v).defers = a.defers := by cases d <;> simp [Act.put]

abbrev Lst (listed : Array Bool) (i : Nat) : Prop := listed.getD i false = true

theorem li_set {listed : Array Bool} {i : Nat} (hi : i < listed.size) (j : Nat) : Lst (listed.setIfInBounds i true) j ↔ Lst listed j ∨ j = i := by
  unfold Lst
  by_cases h : j = i
  · subst h
    simp [hi]
  · rw [getD_set_ne false (Ne.symm h)]
    simp [h]

theorem draw_core (hd : DOk ops) {N : Nat} {M : Nat → Bool} (hin : ∀ o ∈ ops, dstOk M N o = true) {f0 : Fr} {next : Fr → World → Prop} {Q : Exit → Act → World → Prop}
    (hQ : ∀ a' f' w', FR N a' f' → Pres M f0 f' → next f' w' → Q .normal a' w') :
    ∀ (fuel : Nat) (listed : Array Bool) (U D ls : List Nat) (f : Fr) (a : Act) (w : World), listed.size = ops.length → U.length = fuel → U.Nodup → (∀ i, i ∈ U ↔ i < ops.length ∧ ¬ Lst listed i) →
      DInv P ops N M f0 (Lst listed) D f a w →
      (∀ i o, ops[i]? = some o → isLoud ops o = false → (∀ e ∈ o.after, Region.binds .any e = true → e.on ∈ D) → i ∈ D) →
      ls.Pairwise (· < ·) → (∀ i ∈ ls, ∃ o, ops[i]? = some o ∧ isLoud ops o = true) → (∀ i o, ops[i]? = some o → isLoud ops o = true → (i ∈ ls ↔ ¬ Lst listed i)) →
      drawGo P ops (clos ops []) next ls D f w → wpAny P .any ops.toArray Q fuel listed a w := by
  intro fuel
  induction fuel with
  | zero =>
    intro listed U D ls f a w hsz hU _ hUm I _ _ hl1 hl2 h
    have hU' : U = [] := List.eq_nil_of_length_eq_zero hU
    subst hU'
    have hall : ∀ i, i < ops.length → Lst listed i := fun i hi => Classical.byContradiction fun q => by have := (hUm i).2 ⟨hi, q⟩; cases this
    have hls : ls = [] := by
      cases ls with
      | nil => rfl
      | cons l ls =>
        obtain ⟨o, ho, hlo⟩ := hl1 l (by simp)
        exact absurd (hall l (List.getElem?_eq_some_iff.1 ho).1) ((hl2 l o ho hlo).1 (by simp))
    subst hls
    refine ⟨?_, hQ a f w ⟨I.size, I.defers, fun t => I.at' t fun i hi _ _ _ => hall i (I.dl i hi)⟩ I.pres h⟩
    cases hr : Region.ready .any ops.toArray listed with
    | nil => rfl
    | cons x xs =>
      have hx : x ∈ Region.ready .any ops.toArray listed := by rw [hr]; simp
      obtain ⟨hx0, o, ho, _⟩ := mem_ready.1 hx
      have hlt : x < ops.length := by
        have := (Array.getElem?_eq_some_iff.1 ho).1
        simpa using this
      have h1 := hall x hlt
      have hlt' : x < listed.size := by rw [hsz]; exact hlt
      unfold Lst at h1
      simp [Array.getD, hlt'] at h1 hx0
      rw [h1] at hx0
      cases hx0
  | succ fuel ih =>
    intro listed U D ls f a w hsz hU hUn hUm I hdone hls hl1 hl2 h
    refine ⟨fun hr => ?_, fun i hi => ?_⟩
    · have hall : ∀ i, i < ops.length → Lst listed i := by
        intro i
        induction i using Nat.strongRecOn with
        | _ i ihi =>
          intro hi
          refine Classical.byContradiction fun q => ?_
          have hmem : i ∈ Region.ready .any ops.toArray listed := by
            refine mem_ready.2 ⟨?_, ops[i], by simp [hi], fun e he hb => ?_⟩
            · have hlt' : i < listed.size := by rw [hsz]; exact hi
              unfold Lst at q
              simpa [Array.getD, hlt'] using q
            · have := hd.edge i ops[i] (by simp [hi]) e he hb
              exact ihi e.on this (by omega)
          rw [hr] at hmem
          cases hmem
      have hls0 : ls = [] := by
        cases ls with
        | nil => rfl
        | cons l ls =>
          obtain ⟨o, ho, hlo⟩ := hl1 l (by simp)
          exact absurd (hall l (List.getElem?_eq_some_iff.1 ho).1) ((hl2 l o ho hlo).1 (by simp))
      subst hls0
      exact hQ a f w ⟨I.size, I.defers, fun t => I.at' t fun i hi _ _ _ => hall i (I.dl i hi)⟩ I.pres h
    · obtain ⟨hi0, o, ho, hwait⟩ := mem_ready.1 hi
      have ho : ops[i]? = some o := by simpa using ho
      have hlt : i < ops.length := (List.getElem?_eq_some_iff.1 ho).1
      have hlt' : i < listed.size := by rw [hsz]; exact hlt
      have hnl : ¬ Lst listed i := by
        unfold Lst
        simp [Array.getD, hlt'] at hi0 ⊢
        exact hi0
      have hom := hin o (List.mem_of_getElem? ho)
      have set := li_set (listed := listed) hlt'
      have hw' : ∀ o', ops[i]? = some o' → ∀ e ∈ o'.after, Region.binds .any e = true → Lst listed e.on := fun o' ho' => by rw [ho] at ho'; cases ho'; exact hwait
      have cli : ∀ j ∈ CL ops i, Lst listed j := Down.cl hd I.lw i hw'
      have U' : (U.erase i).length = fuel ∧ (U.erase i).Nodup ∧ ∀ j, j ∈ U.erase i ↔ j < ops.length ∧ ¬ Lst (listed.setIfInBounds i true) j := by
        refine ⟨?_, hUn.erase i, fun j => ?_⟩
        · rw [List.length_erase_of_mem ((hUm i).2 ⟨hlt, hnl⟩), hU]
          rfl
        · rw [hUn.mem_erase_iff, hUm, set]
          constructor
          · rintro ⟨h1, h2, h3⟩
            exact ⟨h2, fun q => q.elim h3 h1⟩
          · rintro ⟨h1, h2⟩
            exact ⟨fun q => h2 (.inr q), h1, fun q => h2 (.inl q)⟩
      have hsz' : (listed.setIfInBounds i true).size = ops.length := by simpa using hsz
      have lw' : Down ops (Lst (listed.setIfInBounds i true)) := by
        intro j hj oj hoj e he hb
        rw [set]
        left
        rcases (set j).1 hj with hj | rfl
        · exact I.lw j hj oj hoj e he hb
        · exact hw' oj hoj e he hb
      cases hlo : isLoud ops o with
      | false =>
        have hiD : i ∈ D := hdone i o ho hlo fun e he hb => I.ld _ (hwait e he hb)
        obtain ⟨v, hv, hfv⟩ := I.ok i hiD hnl o ho
        have agree : ∀ t, t ∈ looks ops o → a.tmps.getD t undef = f t := by
          intro t ht
          refine I.at' t fun j hj oj hoj hdst => ?_
          by_cases hji : j = i
          · subst hji
            rw [ho] at hoj
            cases hoj
            exact absurd ht (hd.own j o ho hlo t hdst)
          · rcases hd.read i o j oj t ho hoj (Ne.symm hji) hdst ht with hc | ⟨_, hc | hc⟩
            · exact cli j hc
            · rw [hlo] at hc; cases hc
            · exact I.ll j hj oj hoj hc
        have next' : wpAny P .any ops.toArray Q fuel (listed.setIfInBounds i true) (a.put o.dst v) w := by
          refine ih _ (U.erase i) D ls f _ w hsz' U'.1 U'.2.1 U'.2.2 ?_ hdone hls hl1 (fun j oj hoj hloj => ?_) h
          · refine ⟨fun j hj => ?_, I.dl, I.dd, lw', fun j hj oj hoj hq => (set j).2 (.inl (I.ll j hj oj hoj hq)), fun t ht => ?_, fun j hj hq => I.ok j hj fun q => hq ((set j).2 (.inl q)), ?_, ?_, I.pres⟩
            · rcases (set j).1 hj with hj | rfl
              · exact I.ld j hj
              · exact hiD
            · by_cases hdt : o.dst = some t
              · rw [(getD_put (f := f) I.size hom v t).1 hdt, hfv t hdt]
              · rw [(getD_put (f := f) I.size hom v t).2 hdt]
                refine I.at' t fun j hj oj hoj hq => ?_
                rcases (set j).1 (ht j hj oj hoj hq) with h' | rfl
                · exact h'
                · rw [ho] at hoj; cases hoj; exact absurd hq hdt
            · rw [act_size]; exact I.size
            · rw [act_defers]; exact I.defers
          · rw [hl2 j oj hoj hloj, set]
            constructor
            · intro q q'
              rcases q' with q' | rfl
              · exact q q'
              · rw [ho] at hoj; cases hoj; rw [hlo] at hloj; cases hloj
            · exact fun q q' => q (.inl q')
        unfold wpOp
        have ho' : ops.toArray[i]? = some o := by simpa using ho
        simp only [ho']
        rw [wanted_act agree]
        rcases hv with ⟨hw1, hs, _⟩ | ⟨hw1, rfl⟩
        · rw [hw1, if_pos rfl]
          refine .inl ?_
          unfold Oper.wp
          rw [eval_act (hd.sel i o ho) agree, hs]
          exact next'
        · rw [hw1, if_neg (by simp)]
          exact next'
      | true =>
        have hiD : i ∉ D := fun q => hnl (I.ll i q o ho hlo)
        have himem : i ∈ ls := (hl2 i o ho hlo).2 hnl
        have agree : ∀ t, t ∈ looks ops o → a.tmps.getD t undef = f t := by
          intro t ht
          refine I.at' t fun j hj oj hoj hdst => ?_
          have hji : j ≠ i := fun e => hiD (e ▸ hj)
          rcases hd.read i o j oj t ho hoj (Ne.symm hji) hdst ht with hc | ⟨hc, _⟩
          · exact cli j hc
          · exact absurd (Down.cl hd I.dd j (fun o' ho' e he hb => I.dd j hj o' ho' e he hb) i hc) hiD
        cases ls with
        | nil => cases himem
        | cons l ls' =>
          have hli : l = i := by
            rcases List.mem_cons.1 himem with e | hm
            · exact e.symm
            · exfalso
              have hlt2 : l < i := (List.pairwise_cons.1 hls).1 i hm
              obtain ⟨ol, hol, hll⟩ := hl1 l (by simp)
              exact (hl2 l ol hol hll).1 (by simp) (cli l (hd.tot l ol i o hol ho hlt2 hll hlo))
          subst hli
          unfold drawGo at h
          rw [ho] at h
          have go : ∀ (v : Value) (w1 : World), stabs P ops (fun j => ((clos ops []).getD l []).contains j) (put f o.dst v) w1 D
              (silPass P ops w1 0 ops (l :: D) (put f o.dst v) fun D2 f2 => drawGo P ops (clos ops []) next ls' D2 f2 w1) →
              wpAny P .any ops.toArray Q fuel (listed.setIfInBounds l true) (a.put o.dst v) w1 := by
            intro v w1 hst
            obtain ⟨hsil, hst⟩ := stabs_of D hst
            have I' : DInv P ops N M f0 (Lst (listed.setIfInBounds l true)) (l :: D) (put f o.dst v) (a.put o.dst v) w1 := by
              refine ⟨fun j hj => ?_, fun j hj => ?_, fun j hj oj hoj e he hb => ?_, lw', fun j hj oj hoj hq => ?_, fun t ht => ?_, fun j hj hq oj hoj => ?_, ?_, ?_, I.pres.put hom v⟩
              · rcases (set j).1 hj with hj | rfl
                · exact List.mem_cons_of_mem _ (I.ld j hj)
                · simp
              · rcases List.mem_cons.1 hj with rfl | hj
                · exact hlt
                · exact I.dl j hj
              · refine List.mem_cons_of_mem _ ?_
                rcases List.mem_cons.1 hj with rfl | hj
                · exact I.ld _ (hw' oj hoj e he hb)
                · exact I.dd j hj oj hoj e he hb
              · rw [set]
                rcases List.mem_cons.1 hj with rfl | hj
                · exact .inr rfl
                · exact .inl (I.ll j hj oj hoj hq)
              · by_cases hdt : o.dst = some t
                · rw [(getD_put (f := f) I.size hom v t).1 hdt, (put_at v t).1 hdt]
                · rw [(getD_put (f := f) I.size hom v t).2 hdt, (put_at v t).2 hdt]
                  refine I.at' t fun j hj oj hoj hq => ?_
                  rcases (set j).1 (ht j (List.mem_cons_of_mem _ hj) oj hoj hq) with h' | rfl
                  · exact h'
                  · exact absurd hj hiD
              · have hnj : ¬ Lst listed j := fun q => hq ((set j).2 (.inl q))
                have hjl : j ≠ l := fun q => hq ((set j).2 (.inr q))
                have hjD : j ∈ D := (List.mem_cons.1 hj).resolve_left hjl
                have hsj : isLoud ops oj = false := by
                  cases hq' : isLoud ops oj with
                  | false => rfl
                  | true => exact absurd (I.ll j hjD oj hoj hq') hnj
                have hskip : ((clos ops []).getD l []).contains j = false := by
                  cases hc : ((clos ops []).getD l []).contains j with
                  | false => rfl
                  | true => exact absurd (cli j (by simpa using hc)) hnj
                cases hp : persB oj with
                | false => exact hst j hjD oj hoj hsj hp hskip
                | true =>
                  obtain ⟨u, hu, hfu⟩ := I.ok j hjD hnj oj hoj
                  have hlj : l ∉ CL ops j := fun hc => hiD (Down.cl hd I.dd j (fun o' ho' e he hb => I.dd j hjD o' ho' e he hb) l hc)
                  have hjl' : j ∉ CL ops l := fun hc => hnj (cli j hc)
                  refine ⟨u, okv_pers hp (okv_agree (hd.sel j oj hoj) (fun t ht => ?_) hu), fun d hdst => ?_⟩
                  · refine ((put_at v t).2 fun e => ?_).symm
                    rcases hd.read j oj l o t hoj ho hjl e ht with hc | ⟨hc, _⟩
                    · exact hlj hc
                    · exact hjl' hc
                  · rw [(put_at v d).2 fun e => ?_]
                    · exact hfu d hdst
                    · rcases (hd.write j oj l o d hoj ho hjl e hdst).1 with hc | hc
                      · exact hjl' hc
                      · exact hlj hc
              · rw [act_size]; exact I.size
              · rw [act_defers]; exact I.defers
            obtain ⟨D', f', I'', h1, _, _, h4⟩ := silPass_inv hd hin ops 0 (l :: D) (put f o.dst v) rfl I' (fun j _ hj => absurd hj (Nat.not_lt_zero j)) hsil
            refine ih _ (U.erase l) D' ls' f' _ w1 hsz' U'.1 U'.2.1 U'.2.2 I'' h1 (List.pairwise_cons.1 hls).2 (fun j hj => hl1 j (by simp [hj])) (fun j oj hoj hloj => ?_) h4
            have hb := hl2 j oj hoj hloj
            rw [set]
            constructor
            · intro hj q
              rcases q with q | rfl
              · exact hb.1 (by simp [hj]) q
              · exact absurd ((List.pairwise_cons.1 hls).1 j hj) (Nat.lt_irrefl _)
            · intro q
              exact (List.mem_cons.1 (hb.2 fun q' => q (.inl q'))).resolve_left fun e => q (.inr e)
          unfold wpOp
          have ho' : ops.toArray[l]? = some o := by simpa using ho
          simp only [ho']
          rw [wanted_act agree]
          rcases gL_of h with ⟨hw1, hr⟩ | ⟨hw1, hr⟩
          · rw [hw1, if_pos rfl]
            refine .inl ?_
            unfold Oper.wp
            rw [eval_act (hd.sel l o ho) agree]
            exact hr.upon go
          · rw [hw1, if_neg (by simp)]
            exact go _ _ hr

theorem drawE_sound {next : Fr → World → Prop} {N : Nat} {M : Nat → Bool} {Q : Exit → Act → World → Prop} {f : Fr} {a : Act} {w : World} {id : Nat}
    (hQ : ∀ a' f' w', FR N a' f' → Pres M f f' → next f' w' → Q .normal a' w') (hin : ∀ o ∈ ops, dstOk M N o = true) (hF : FR N a f) (h : drawE P ops next f w) :
    (Code.region id ops.toArray true).wp P Q a w := by
  unfold drawE at h
  cases hc : (P.follows .mixedOrders && drawOk ops) with
  | false => rw [hc] at h; exact h.elim
  | true =>
    rw [hc] at h
    simp only [Bool.and_eq_true] at hc
    have hd := drawOk_spec hc.2
    refine wp_region_any hc.1 ?_
    have hli : ∀ i, ¬ Lst (Array.replicate ops.length false) i := fun i => by
      unfold Lst
      by_cases hi : i < ops.length <;> simp [Array.getD, hi]
    have h' := h w.drew rfl
    have I : DInv P ops N M f (Lst (Array.replicate ops.length false)) [] f a w.drew :=
      ⟨fun i hi => absurd hi (hli i), (fun i hi => by cases hi), (fun i hi => by cases hi), fun i hi => absurd hi (hli i), (fun i hi => by cases hi), fun t _ => hF.get t, (fun i hi => by cases hi), hF.size, hF.defers, Pres.refl _ _⟩
    obtain ⟨D', f', I', h1, _, _, h4⟩ := silPass_inv hd hin ops 0 [] f rfl I (fun j _ hj => absurd hj (Nat.not_lt_zero j)) h'
    refine draw_core hd hin hQ ops.length (Array.replicate ops.length false) (List.range ops.length) D' (louds ops) f' a w.drew (by simp) (by simp) List.nodup_range (fun i => ?_) I' h1 ?_ (fun i hi => ?_) (fun i o ho hlo => ?_) h4
    · rw [List.mem_range]
      exact ⟨fun q => ⟨q, hli i⟩, fun q => q.1⟩
    · exact List.Pairwise.filter _ List.pairwise_lt_range
    · unfold louds at hi
      have hi' := List.mem_filter.1 hi
      have hlt := List.mem_range.1 hi'.1
      refine ⟨ops[i], by simp [hlt], ?_⟩
      simpa [hlt] using hi'.2
    · refine ⟨fun _ => hli i, fun _ => ?_⟩
      unfold louds
      rw [List.mem_filter, List.mem_range]
      exact ⟨(List.getElem?_eq_some_iff.1 ho).1, by rw [ho]; exact hlo⟩

end draws

/-! ### code -/

structure Ks where
  next : Fr → World → Prop
  ret : Fr → World → Prop
  exit : Nat → Fr → World → Prop
  goto : Nat → Fr → World → Prop

def Ks.of (K : Ks) : Exit → Fr → World → Prop
  | .normal => K.next
  | .ret => K.ret
  | .exit i => K.exit i
  | .goto l => K.goto l
  | _ => fun _ _ => False

structure LI where
  live : List (Nat × Value)
  junk : List Nat

def LI.has (li : LI) (t : Nat) : Bool := li.live.any (fun p => Nat.beq t p.1) || li.junk.any (Nat.beq t)

structure Ann where
  loop : Nat → LI
  lab : Nat → Option LI
  cut : Nat → Option LI

def PredTy : List (Nat × Value) → Type
  | [] => World → Prop
  | (_, .int _ _) :: r => Int → PredTy r
  | (_, .bool _) :: r => Bool → PredTy r
  | (_, .string _) :: r => ByteArray → PredTy r
  | (_, .pointer _) :: r => Option Addr → PredTy r
  | (_, .slice _ _ _) :: r => Option Addr → Nat → Nat → PredTy r
  | (_, .map _) :: r => Option Nat → PredTy r
  | (_, .float _ _) :: r => Value → PredTy r
  | (_, .complex _ _ _) :: r => Value → PredTy r
  | (_, .chan _) :: r => Value → PredTy r
  | (_, .func _ _ _) :: r => Value → PredTy r
  | (_, .nilFunc) :: r => Value → PredTy r
  | (_, .iface _ _) :: r => Value → PredTy r
  | (_, .nilIface) :: r => Value → PredTy r
  | (_, .agg _) :: r => Value → PredTy r
  | (_, .tuple _) :: r => Value → PredTy r

def applyI : (L : List (Nat × Value)) → PredTy L → Fr → World → Prop
  | [], I, _, w => I w
  | (t, .int k _) :: r, I, f, w => match f t with | .int k' n => cond (decide (k' = k)) (applyI r (I n) f w) False | _ => False
  | (t, .bool _) :: r, I, f, w => match f t with | .bool n => applyI r (I n) f w | _ => False
  | (t, .string _) :: r, I, f, w => match f t with | .string n => applyI r (I n) f w | _ => False
  | (t, .pointer _) :: r, I, f, w => match f t with | .pointer n => applyI r (I n) f w | _ => False
  | (t, .slice _ _ _) :: r, I, f, w => match f t with | .slice a l c => applyI r (I a l c) f w | _ => False
  | (t, .map _) :: r, I, f, w => match f t with | .map n => applyI r (I n) f w | _ => False
  | (t, .float _ _) :: r, I, f, w => applyI r (I (f t)) f w
  | (t, .complex _ _ _) :: r, I, f, w => applyI r (I (f t)) f w
  | (t, .chan _) :: r, I, f, w => applyI r (I (f t)) f w
  | (t, .func _ _ _) :: r, I, f, w => applyI r (I (f t)) f w
  | (t, .nilFunc) :: r, I, f, w => applyI r (I (f t)) f w
  | (t, .iface _ _) :: r, I, f, w => applyI r (I (f t)) f w
  | (t, .nilIface) :: r, I, f, w => applyI r (I (f t)) f w
  | (t, .agg _) :: r, I, f, w => applyI r (I (f t)) f w
  | (t, .tuple _) :: r, I, f, w => applyI r (I (f t)) f w

def roundI : (L : List (Nat × Value)) → PredTy L → Fr → (Fr → (World → Prop) → Prop) → Prop
  | [], I, f, K => K f I
  | (t, .int k _) :: r, I, f, K => ∀ x : Int, roundI r (I x) (put f (some t) (.int k x)) K
  | (t, .bool _) :: r, I, f, K => ∀ x : Bool, roundI r (I x) (put f (some t) (.bool x)) K
  | (t, .string _) :: r, I, f, K => ∀ x : ByteArray, roundI r (I x) (put f (some t) (.string x)) K
  | (t, .pointer _) :: r, I, f, K => ∀ x : Option Addr, roundI r (I x) (put f (some t) (.pointer x)) K
  | (t, .slice _ _ _) :: r, I, f, K => ∀ (x : Option Addr) (l c : Nat), roundI r (I x l c) (put f (some t) (.slice x l c)) K
  | (t, .map _) :: r, I, f, K => ∀ x : Option Nat, roundI r (I x) (put f (some t) (.map x)) K
  | (t, .float _ _) :: r, I, f, K => ∀ x : Value, roundI r (I x) (put f (some t) x) K
  | (t, .complex _ _ _) :: r, I, f, K => ∀ x : Value, roundI r (I x) (put f (some t) x) K
  | (t, .chan _) :: r, I, f, K => ∀ x : Value, roundI r (I x) (put f (some t) x) K
  | (t, .func _ _ _) :: r, I, f, K => ∀ x : Value, roundI r (I x) (put f (some t) x) K
  | (t, .nilFunc) :: r, I, f, K => ∀ x : Value, roundI r (I x) (put f (some t) x) K
  | (t, .iface _ _) :: r, I, f, K => ∀ x : Value, roundI r (I x) (put f (some t) x) K
  | (t, .nilIface) :: r, I, f, K => ∀ x : Value, roundI r (I x) (put f (some t) x) K
  | (t, .agg _) :: r, I, f, K => ∀ x : Value, roundI r (I x) (put f (some t) x) K
  | (t, .tuple _) :: r, I, f, K => ∀ x : Value, roundI r (I x) (put f (some t) x) K

theorem roundI_of : ∀ (L : List (Nat × Value)) (I : PredTy L) (f g : Fr) (w : World) (K : Fr → (World → Prop) → Prop), applyI L I f w → roundI L I g K →
    (∀ t, L.any (fun p => Nat.beq t p.1) = false → g t = f t) → ∃ Iw : World → Prop, Iw w ∧ K f Iw
  | [], I, f, g, w, K, ha, hr, hg => by
    have : g = f := funext fun t => hg t rfl
    subst this
    exact ⟨I, ha, hr⟩
  | (t, z) :: r, I, f, g, w, K, ha, hr, hg => by
    have step : ∀ v, f t = v → ∀ t', r.any (fun p => Nat.beq t' p.1) = false → put g (some t) v t' = f t' := by
      intro v hv t' ht'
      by_cases e : t' = t
      · subst e; simp [put, hv]
      · simp only [put, beq_ne e, cond_false]
        exact hg t' (by simp only [List.any_cons, beq_ne e, Bool.false_or]; exact ht')
    cases z <;> simp only [applyI] at ha <;> simp only [roundI] at hr
    case int k n =>
      split at ha
      · rename_i k' m hf
        by_cases hk : k' = k
        · subst hk
          simp only [decide_true, cond_true] at ha
          exact roundI_of r _ f _ w K ha (hr m) (step _ hf)
        · simp only [hk, decide_false, cond_false] at ha
      · exact ha.elim
    case bool =>
      split at ha
      · rename_i m hf; exact roundI_of r _ f _ w K ha (hr m) (step _ hf)
      · exact ha.elim
    case string =>
      split at ha
      · rename_i m hf; exact roundI_of r _ f _ w K ha (hr m) (step _ hf)
      · exact ha.elim
    case pointer =>
      split at ha
      · rename_i m hf; exact roundI_of r _ f _ w K ha (hr m) (step _ hf)
      · exact ha.elim
    case slice =>
      split at ha
      · rename_i m l c hf; exact roundI_of r _ f _ w K ha (hr m l c) (step _ hf)
      · exact ha.elim
    case map =>
      split at ha
      · rename_i m hf; exact roundI_of r _ f _ w K ha (hr m) (step _ hf)
      · exact ha.elim
    all_goals exact roundI_of r _ f _ w K ha (hr (f t)) (step _ rfl)

def junked (J : List Nat) (jv : Nat → Value) (f : Fr) : Fr := fun t => cond (J.any (Nat.beq t)) (jv t) (f t)

def LoopE (li : LI) (B : (Fr → World → Prop) → Fr → World → Prop) (f : Fr) (w : World) : Prop :=
  ∃ I : Nat → PredTy li.live, (∃ n, applyI li.live (I n) f w) ∧
    ∀ (n : Nat) (jv : Nat → Value), roundI li.live (I n) (junked li.junk jv f) fun f' Iw => ∀ w', Iw w' → B (fun f'' w'' => ∃ m, m < n ∧ applyI li.live (I m) f'' w'') f' w'

/-- Ways that meet again: what holds where they meet. -/
def CutE (li : LI) (X : (Fr → World → Prop) → Prop) (Y : Fr → World → Prop) (f : Fr) : Prop :=
  ∃ J : PredTy li.live, X (fun f' w' => applyI li.live J f' w') ∧
    ∀ jv : Nat → Value, roundI li.live J (junked li.junk jv f) fun f' Jw => ∀ w', Jw w' → Y f' w'

def writesOk (M : Nat → Bool) (N : Nat) : Code → Bool
  | .region _ ops _ => ops.toList.all (dstOk M N)
  | .seq a b => writesOk M N a && writesOk M N b
  | .cond _ a b => writesOk M N a && writesOk M N b
  | .block _ c => writesOk M N c
  | .loop c => writesOk M N c
  | .scope c => writesOk M N c
  | .rangeFunc .. => false
  | _ => true

def reg1 : Code → Option Nat
  | .region id _ _ => some id
  | .seq a b => match reg1 a with | some i => some i | none => reg1 b
  | .cond _ a b => match reg1 a with | some i => some i | none => reg1 b
  | .block _ c => reg1 c
  | .loop c => reg1 c
  | .scope c => reg1 c
  | _ => none

def gotoE (W : Code → Ks → Fr → World → Prop) (A : Ann) (N : Nat) (c : Code) (K : Ks) : Nat → Nat → Fr → World → Prop
  | 0, _, _, _ => False
  | m + 1, l, f, w =>
    match findLabel c l with
    | none => K.goto l f w
    | some rest =>
      match A.lab l with
      | none => W rest ⟨K.next, K.ret, K.exit, gotoE W A N c K m⟩ f w
      | some li => cond (writesOk li.has N rest)
          (LoopE li (fun next f w => W rest ⟨K.next, K.ret, K.exit, fun l' f' w' => cond (Nat.beq l' l) (next f' w') (gotoE W A N c K m l' f' w')⟩ f w) f w) False


def wpE (P : Program) (A : Ann) (N : Nat) : Nat → Code → Ks → Fr → World → Prop
  | 0, _, _, _, _ => False
  | n + 1, c, K, f, w =>
    match c with
    | .skip => K.next f w
    | .label _ => K.next f w
    | .ret => K.ret f w
    | .exit i => K.exit i f w
    | .goto l => K.goto l f w
    | .seq x y => match (match reg1 y with | some i => A.cut i | none => none) with
      | none => wpE P A N n x ⟨fun f w => wpE P A N n y K f w, K.ret, K.exit, K.goto⟩ f w
      | some li => cond (writesOk li.has N x) (CutE li (fun nx => wpE P A N n x ⟨nx, K.ret, K.exit, K.goto⟩ f w) (fun f w => wpE P A N n y K f w) f) False
    | .cond c x y => match ev f c with | .bool q => ifB q (wpE P A N n x K f w) (wpE P A N n y K f w) | _ => False
    | .block i c => wpE P A N n c ⟨K.next, K.ret, fun j f w => cond (Nat.beq j i) (K.next f w) (K.exit j f w), K.goto⟩ f w
    | .loop c => match reg1 c with
      | some id => cond (writesOk (A.loop id).has N c) (LoopE (A.loop id) (fun next f w => wpE P A N n c ⟨next, K.ret, K.exit, K.goto⟩ f w) f w) False
      | none => False
    | .scope c => wpE P A N n c ⟨K.next, K.ret, K.exit, gotoE (wpE P A N n) A N c K 6⟩ f w
    | .region _ ops false => opsE P ops.toList K.next ops.toList f w
    | .region _ ops true => drawE P ops.toList K.next f w
    | .rangeFunc .. => False
    | .refuse _ => False

/-! ### soundness of code -/

section
variable {P : Program} {Q : Exit → Act → World → Prop} {a : Act} {w : World}

theorem wp_loop_n {c : Code} (J : Nat → Act → World → Prop) (h0 : ∃ n, J n a w)
    (round : ∀ n a w, J n a w → c.wp P (Exit.then (fun a' w' => ∃ m, m < n ∧ J m a' w') Q) a w) : (Code.loop c).wp P Q a w := by
  intro b k cs
  have key : ∀ n a w, J n a w → ∃ e a' w', Q e a' w' ∧ Arrives P (lone (b.at a (.code c :: .inLoop c :: k)) cs w) b k cs e a' w' := by
    intro n
    induction n using Nat.strongRecOn with
    | _ n ih =>
      intro a w hJ
      obtain ⟨e, a₁, w₁, hq, harr⟩ := round n a w hJ b (.inLoop c :: k) cs
      cases e with
      | normal =>
        obtain ⟨m, hlt, hJ₁⟩ := hq
        obtain ⟨e₂, a₂, w₂, hq₂, harr₂⟩ := ih m hlt a₁ w₁ hJ₁
        exact ⟨e₂, a₂, w₂, hq₂, .of_steps (Steps.trans harr (.one step_inLoop)) harr₂⟩
      | exit id => exact ⟨_, a₁, w₁, hq, .pass (x := .inLoop c) rfl (fun _ _ => .inl (by simp)) harr⟩
      | goto l => exact ⟨_, a₁, w₁, hq, .pass (x := .inLoop c) rfl (fun _ _ => .inl (by simp)) harr⟩
      | ret => exact ⟨_, a₁, w₁, hq, .pass (x := .inLoop c) rfl (fun _ _ => .inl (by simp)) harr⟩
      | panic ch => exact ⟨_, a₁, w₁, hq, .pass (x := .inLoop c) rfl (fun _ _ => .inl (by simp)) harr⟩
      | outgrown => exact ⟨_, a₁, w₁, hq, .pass (x := .inLoop c) rfl (fun _ _ => .inl (by simp)) harr⟩
  obtain ⟨n, hn⟩ := h0
  obtain ⟨e, a', w', hq, harr⟩ := key n a w hn
  exact ⟨e, a', w', hq, .of_steps (.one step_loop) harr⟩

/-- From 'code' on, inside the scope of c. -/
def From (P : Program) (code c : Code) (Q : Exit → Act → World → Prop) (a : Act) (w : World) : Prop :=
  ∀ (b : Frame) (k : List Item) (cs : List Frame), ∃ e a' w', Q e a' w' ∧ Arrives P (lone (b.at a (.code code :: .inScope c :: k)) cs w) b k cs e a' w'

def afterE (P : Program) (c : Code) (Q : Exit → Act → World → Prop) (e : Exit) (a : Act) (w : World) : Prop :=
  match e with
  | .goto l => (match findLabel c l with | some rest => From P rest c Q a w | none => Q (.goto l) a w)
  | e => Q e a w

theorem from_of_wp {code c : Code} {Qj : Exit → Act → World → Prop} (h : code.wp P Qj a w) (hq : ∀ e a' w', Qj e a' w' → afterE P c Q e a' w') : From P code c Q a w := by
  intro b k cs
  obtain ⟨e, a₁, w₁, hj, harr⟩ := h b (.inScope c :: k) cs
  have hx := hq _ _ _ hj
  cases e with
  | normal => exact ⟨.normal, a₁, w₁, hx, Steps.trans harr (.one step_inScope)⟩
  | exit id => exact ⟨.exit id, a₁, w₁, hx, fun k' hk => harr k' (by simp [exitTo, hk])⟩
  | goto l =>
    simp only [afterE] at hx
    split at hx
    · rename_i rest hf
      obtain ⟨e₂, a₂, w₂, hq₂, harr₂⟩ := hx b k cs
      exact ⟨e₂, a₂, w₂, hq₂, .of_steps (harr _ (by simp [gotoIn, hf])) harr₂⟩
    · rename_i hf
      exact ⟨.goto l, a₁, w₁, hx, fun k' hk => harr k' (by simp [gotoIn, hf, hk])⟩
  | ret => exact ⟨_, a₁, w₁, hx, harr⟩
  | panic ch => exact ⟨_, a₁, w₁, hx, harr⟩
  | outgrown => exact ⟨_, a₁, w₁, hx, harr⟩

theorem wp_scope_from {c : Code} (h : From P c c Q a w) : (Code.scope c).wp P Q a w := by
  intro b k cs
  obtain ⟨e, a₁, w₁, hq, harr⟩ := h b k cs
  exact ⟨e, a₁, w₁, hq, .of_steps (.one step_scope) harr⟩
end

theorem writesOk_label {M : Nat → Bool} {N : Nat} : ∀ {c : Code} {l : Nat} {rest : Code}, findLabel c l = some rest → writesOk M N c = true → writesOk M N rest = true
  | .seq x y, l, rest, h, hw => by
    simp only [writesOk, Bool.and_eq_true] at hw
    simp only [findLabel] at h
    split at h
    · rename_i r hr
      simp only [Option.some.injEq] at h
      subst h
      simp only [writesOk, Bool.and_eq_true]
      exact ⟨writesOk_label hr hw.1, hw.2⟩
    · exact writesOk_label h hw.2
  | .label l', l, rest, h, _ => by
    simp only [findLabel] at h
    split at h
    · simp only [Option.some.injEq] at h; subst h; rfl
    · cases h
  | .skip, _, _, h, _ => by simp [findLabel] at h
  | .region .., _, _, h, _ => by simp [findLabel] at h
  | .cond .., _, _, h, _ => by simp [findLabel] at h
  | .block .., _, _, h, _ => by simp [findLabel] at h
  | .loop _, _, _, h, _ => by simp [findLabel] at h
  | .rangeFunc .., _, _, h, _ => by simp [findLabel] at h
  | .exit _, _, _, h, _ => by simp [findLabel] at h
  | .scope _, _, _, h, _ => by simp [findLabel] at h
  | .goto _, _, _, h, _ => by simp [findLabel] at h
  | .ret, _, _, h, _ => by simp [findLabel] at h
  | .refuse _, _, _, h, _ => by simp [findLabel] at h

theorem writesOk_and {M M' : Nat → Bool} {N : Nat} : ∀ {c : Code}, writesOk M N c = true → writesOk M' N c = true → writesOk (fun t => M t && M' t) N c = true
  | .region _ ops _, h, h' => by
    simp only [writesOk, List.all_eq_true] at *
    intro o ho
    have h1 := h o ho
    have h2 := h' o ho
    unfold dstOk at *
    cases hd : o.dst with
    | none => rfl
    | some d =>
      rw [hd] at h1 h2
      simp only [Bool.and_eq_true] at h1 h2 ⊢
      exact ⟨⟨h1.1, h2.1⟩, h1.2⟩
  | .seq x y, h, h' => by
    simp only [writesOk, Bool.and_eq_true] at *
    exact ⟨writesOk_and h.1 h'.1, writesOk_and h.2 h'.2⟩
  | .cond _ x y, h, h' => by
    simp only [writesOk, Bool.and_eq_true] at *
    exact ⟨writesOk_and h.1 h'.1, writesOk_and h.2 h'.2⟩
  | .block _ c, h, h' => by simp only [writesOk] at *; exact writesOk_and h h'
  | .loop c, h, h' => by simp only [writesOk] at *; exact writesOk_and h h'
  | .scope c, h, h' => by simp only [writesOk] at *; exact writesOk_and h h'
  | .rangeFunc .., h, _ => by simp [writesOk] at h
  | .skip, _, _ => rfl
  | .exit _, _, _ => rfl
  | .label _, _, _ => rfl
  | .goto _, _, _ => rfl
  | .ret, _, _ => rfl
  | .refuse _, _, _ => rfl

def QK (N : Nat) (M : Nat → Bool) (f0 : Fr) (K : Ks) : Exit → Act → World → Prop :=
  fun e a' w' => ∃ f', FR N a' f' ∧ Pres M f0 f' ∧ K.of e f' w'

def Sound (P : Program) (N : Nat) (W : Code → Ks → Fr → World → Prop) : Prop :=
  ∀ (c : Code) (K : Ks) (f : Fr) (w : World) (a : Act) (M : Nat → Bool), writesOk M N c = true → FR N a f → W c K f w → c.wp P (QK N M f K) a w

theorem Pres.and {M M' : Nat → Bool} {f f' : Fr} (h : Pres (fun t => M t && M' t) f f') : Pres M f f' := fun t ht => h t (by simp [ht])

/-- What a loop's relation gives at a round's head. -/
theorem LoopE.elim {li : LI} {B : (Fr → World → Prop) → Fr → World → Prop} {f : Fr} {w : World} (h : LoopE li B f w) :
    ∃ I : Nat → PredTy li.live, (∃ n, applyI li.live (I n) f w) ∧
      ∀ n f' w' (M : Nat → Bool), Pres (fun t => M t && li.has t) f f' → applyI li.live (I n) f' w' → B (fun f'' w'' => ∃ m, m < n ∧ applyI li.live (I m) f'' w'') f' w' := by
  obtain ⟨I, h0, hr⟩ := h
  refine ⟨I, h0, fun n f' w' M hP ha => ?_⟩
  obtain ⟨Iw, hIw, hk⟩ := roundI_of li.live (I n) f' (junked li.junk f' f) w' _ ha (hr n f') (by
    intro t ht
    unfold junked
    cases hj : li.junk.any (Nat.beq t) with
    | true => rfl
    | false => exact (hP t (by simp only [LI.has, ht, hj, Bool.or_self, Bool.and_false])).symm)
  exact hk w' hIw

theorem CutE.elim {li : LI} {X : (Fr → World → Prop) → Prop} {Y : Fr → World → Prop} {f : Fr} (h : CutE li X Y f) :
    ∃ J : PredTy li.live, X (fun f' w' => applyI li.live J f' w') ∧
      ∀ f' w' (M : Nat → Bool), Pres (fun t => M t && li.has t) f f' → applyI li.live J f' w' → Y f' w' := by
  obtain ⟨J, h0, hr⟩ := h
  refine ⟨J, h0, fun f' w' M hP ha => ?_⟩
  obtain ⟨Iw, hIw, hk⟩ := roundI_of li.live J f' (junked li.junk f' f) w' _ ha (hr f') (by
    intro t ht
    unfold junked
    cases hj : li.junk.any (Nat.beq t) with
    | true => rfl
    | false => exact (hP t (by simp only [LI.has, ht, hj, Bool.or_self, Bool.and_false])).symm)
  exact hk w' hIw

theorem gotoE_sound {P : Program} {A : Ann} {N : Nat} {W : Code → Ks → Fr → World → Prop} (hW : Sound P N W) {c : Code} {K : Ks} {M : Nat → Bool} (hc : writesOk M N c = true) {f0 : Fr} :
    ∀ (m l : Nat) (f : Fr) (w : World) (a : Act), FR N a f → Pres M f0 f → gotoE W A N c K m l f w → afterE P c (QK N M f0 K) (.goto l) a w
  | 0, _, _, _, _, _, _, h => h.elim
  | m + 1, l, f, w, a, hF, hP, h => by
    simp only [afterE]
    unfold gotoE at h
    split at h
    · rename_i hf
      rw [hf]
      exact ⟨f, hF, hP, h⟩
    · rename_i rest hf
      rw [hf]
      have hwr := writesOk_label hf hc
      simp only at h ⊢
      split at h
      · refine from_of_wp (hW rest _ f w a M hwr hF h) ?_
        rintro e a' w' ⟨f', hF', hP', hk⟩
        cases e with
        | goto l' => exact gotoE_sound hW hc m l' f' w' a' hF' (hP.trans hP') hk
        | normal => exact ⟨f', hF', hP.trans hP', hk⟩
        | ret => exact ⟨f', hF', hP.trans hP', hk⟩
        | exit i => exact ⟨f', hF', hP.trans hP', hk⟩
        | panic ch => exact hk.elim
        | outgrown => exact hk.elim
      · rename_i li hl
        cases hwo : writesOk li.has N rest with
        | false => rw [hwo] at h; exact h.elim
        | true =>
          rw [hwo] at h
          simp only [cond_true] at h
          obtain ⟨I, ⟨n0, h0⟩, hr⟩ := LoopE.elim h
          have key : ∀ n a' w' f', FR N a' f' → Pres (fun t => M t && li.has t) f f' → applyI li.live (I n) f' w' → From P rest c (QK N M f0 K) a' w' := by
            intro n
            induction n using Nat.strongRecOn with
            | _ n ih =>
              intro a' w' f' hF' hP' ha
              have hb := hr _ _ _ _ hP' ha
              refine from_of_wp (hW rest _ f' w' a' _ (writesOk_and hwr hwo) hF' hb) ?_
              rintro e a'' w'' ⟨f'', hF'', hP'', hk⟩
              have hP3 : Pres M f0 f'' := hP.trans (Pres.and (hP'.trans hP''))
              cases e with
              | goto l' =>
                simp only [Ks.of] at hk
                cases hl' : Nat.beq l' l with
                | true =>
                  rw [hl'] at hk
                  have := Nat.eq_of_beq_eq_true hl'
                  subst this
                  simp only [afterE, hf]
                  obtain ⟨m', hm', ha'⟩ := hk
                  exact ih m' hm' a'' w'' f'' hF'' (hP'.trans hP'') ha'
                | false =>
                  rw [hl'] at hk
                  exact gotoE_sound hW hc m l' f'' w'' a'' hF'' hP3 hk
              | normal => exact ⟨f'', hF'', hP3, hk⟩
              | ret => exact ⟨f'', hF'', hP3, hk⟩
              | exit i => exact ⟨f'', hF'', hP3, hk⟩
              | panic ch => exact hk.elim
              | outgrown => exact hk.elim
          exact key n0 a w f hF (Pres.refl _ _) h0

theorem wpE_sound (P : Program) (A : Ann) (N : Nat) : ∀ n, Sound P N (wpE P A N n)
  | 0 => fun _ _ _ _ _ _ _ _ h => h.elim
  | n + 1 => by
    have ih := wpE_sound P A N n
    intro c K f w a M hM hF h
    unfold wpE at h
    cases c with
    | skip => exact wp_skip ⟨f, hF, Pres.refl _ _, h⟩
    | label l => exact wp_label ⟨f, hF, Pres.refl _ _, h⟩
    | ret => exact wp_ret ⟨f, hF, Pres.refl _ _, h⟩
    | exit i => exact wp_exit ⟨f, hF, Pres.refl _ _, h⟩
    | goto l => exact wp_goto ⟨f, hF, Pres.refl _ _, h⟩
    | seq x y =>
      simp only [writesOk, Bool.and_eq_true] at hM
      simp only at h
      split at h
      · refine wp_seq (Code.wp_mono ?_ (ih x _ f w a M hM.1 hF h))
        rintro e a' w' ⟨f', hF', hP', hk⟩
        cases e with
        | normal =>
          refine Code.wp_mono ?_ (ih y K f' w' a' M hM.2 hF' hk)
          rintro e a'' w'' ⟨f'', hF'', hP'', hk'⟩
          exact ⟨f'', hF'', hP'.trans hP'', hk'⟩
        | ret => exact ⟨f', hF', hP', hk⟩
        | exit i => exact ⟨f', hF', hP', hk⟩
        | goto l => exact ⟨f', hF', hP', hk⟩
        | panic ch => exact hk.elim
        | outgrown => exact hk.elim
      · rename_i li hli
        cases hwo : writesOk li.has N x with
        | false => rw [hwo] at h; exact h.elim
        | true =>
          rw [hwo] at h
          simp only [cond_true] at h
          obtain ⟨J, hX, hY⟩ := CutE.elim h
          refine wp_seq (Code.wp_mono ?_ (ih x _ f w a _ (writesOk_and hM.1 hwo) hF hX))
          rintro e a' w' ⟨f', hF', hP', hk⟩
          cases e with
          | normal =>
            refine Code.wp_mono ?_ (ih y K f' w' a' M hM.2 hF' (hY _ _ _ hP' hk))
            rintro e a'' w'' ⟨f'', hF'', hP'', hk'⟩
            exact ⟨f'', hF'', (Pres.and hP').trans hP'', hk'⟩
          | ret => exact ⟨f', hF', Pres.and hP', hk⟩
          | exit i => exact ⟨f', hF', Pres.and hP', hk⟩
          | goto l => exact ⟨f', hF', Pres.and hP', hk⟩
          | panic ch => exact hk.elim
          | outgrown => exact hk.elim
    | cond o x y =>
      simp only [writesOk, Bool.and_eq_true] at hM
      simp only at h
      split at h
      · rename_i q hq
        have he : a.eval o = .bool q := (hF.eval o).trans hq
        cases q with
        | true => exact wp_cond_true he (ih x K f w a M hM.1 hF h)
        | false => exact wp_cond_false he (ih y K f w a M hM.2 hF h)
      · exact h.elim
    | block i c =>
      refine wp_block (Code.wp_mono ?_ (ih c _ f w a M hM hF h))
      rintro e a' w' ⟨f', hF', hP', hk⟩
      cases e with
      | exit j =>
        simp only [Ks.of] at hk
        simp only [Exit.inBlock]
        by_cases hj : j = i
        · subst hj
          rw [if_pos rfl]
          rw [beq_self] at hk
          exact ⟨f', hF', hP', hk⟩
        · rw [if_neg hj]
          rw [beq_ne hj] at hk
          exact ⟨f', hF', hP', hk⟩
      | normal => exact ⟨f', hF', hP', hk⟩
      | ret => exact ⟨f', hF', hP', hk⟩
      | goto l => exact ⟨f', hF', hP', hk⟩
      | panic ch => exact hk.elim
      | outgrown => exact hk.elim
    | loop c =>
      simp only at h
      split at h
      · rename_i id hid
        cases hwo : writesOk (A.loop id).has N c with
        | false => rw [hwo] at h; exact h.elim
        | true =>
          rw [hwo] at h
          simp only [cond_true] at h
          obtain ⟨I, ⟨n0, h0⟩, hr⟩ := LoopE.elim h
          simp only [writesOk] at hM
          refine wp_loop_n (fun m a' w' => ∃ f', FR N a' f' ∧ Pres (fun t => M t && (A.loop id).has t) f f' ∧ applyI (A.loop id).live (I m) f' w') ⟨n0, f, hF, Pres.refl _ _, h0⟩ ?_
          rintro m a' w' ⟨f', hF', hP', ha⟩
          have hb := hr _ _ _ _ hP' ha
          refine Code.wp_mono ?_ (ih c _ f' w' a' _ (writesOk_and hM hwo) hF' hb)
          rintro e a'' w'' ⟨f'', hF'', hP'', hk⟩
          have hP3 : Pres M f f'' := Pres.and (hP'.trans hP'')
          cases e with
          | normal =>
            obtain ⟨m', hm', ha'⟩ := hk
            exact ⟨m', hm', f'', hF'', hP'.trans hP'', ha'⟩
          | ret => exact ⟨f'', hF'', hP3, hk⟩
          | exit i => exact ⟨f'', hF'', hP3, hk⟩
          | goto l => exact ⟨f'', hF'', hP3, hk⟩
          | panic ch => exact hk.elim
          | outgrown => exact hk.elim
      · exact h.elim
    | scope c =>
      simp only [writesOk] at hM
      refine wp_scope_from (from_of_wp (ih c _ f w a M hM hF h) ?_)
      rintro e a' w' ⟨f', hF', hP', hk⟩
      cases e with
      | goto l => exact gotoE_sound ih hM _ l f' w' a' hF' hP' hk
      | normal => exact ⟨f', hF', hP', hk⟩
      | ret => exact ⟨f', hF', hP', hk⟩
      | exit i => exact ⟨f', hF', hP', hk⟩
      | panic ch => exact hk.elim
      | outgrown => exact hk.elim
    | region id ops draw =>
      simp only [writesOk, List.all_eq_true] at hM
      cases draw with
      | false =>
        refine wp_region_list ?_
        have := opsE_sound (P := P) (all := ops.toList) (next := K.next) (N := N) (M := M) (Q := QK N M f K) (f0 := f)
          (fun a' f' w' hF' hP' hk => ⟨f', hF', hP', hk⟩) ops.toList f w a hM hF (Pres.refl _ _) h
        simpa using this
      | true =>
        have := drawE_sound (P := P) (ops := ops.toList) (next := K.next) (N := N) (M := M) (Q := QK N M f K) (f := f) (a := a) (w := w) (id := id)
          (fun a' f' w' hF' hP' hk => ⟨f', hF', hP', hk⟩) hM hF h
        simpa using this
    | rangeFunc x y z u => exact h.elim
    | refuse s => exact h.elim

/-! ### a function -/

def resL (P : Program) : List ResultVar → Fr → World → (List Value → Prop) → Prop
  | [], _, _, K => K []
  | .tmp t :: rs, f, w, K => resL P rs f w fun vs => K (f t :: vs)
  | .cell d t :: rs, f, w, K => match f d with
    | .pointer p => someA p fun a => ldE P t w a fun v => resL P rs f w fun vs => K (v :: vs)
    | _ => False

def resE (P : Program) (rs : List ResultVar) (f : Fr) (w : World) (K : Value → Prop) : Prop :=
  resL P rs f w fun vs => K (match vs with | [v] => v | vs => .tuple vs.toArray)

def resOne (tmps : Array Value) : ResultVar → Sem Value
  | .tmp t => pure (tmps.getD t undef)
  | .cell d t => do loadVar t (← asAddr (tmps.getD d undef))

theorem results_eq (fn : Func) (tmps : Array Value) : results fn tmps = (do
    let vs ← fn.results.mapM (resOne tmps)
    pure (if h : vs.size = 1 then vs[0] else .tuple vs)) := by
  unfold results
  congr 1

theorem resL_sound {P : Program} {N : Nat} {a : Act} {f : Fr} {w : World} (hF : FR N a f) : ∀ (rs : List ResultVar) (K : List Value → Prop), resL P rs f w K →
    ∃ vs : List Value, (rs.mapM (resOne a.tmps)).run P w = .ok vs w ∧ K vs
  | [], K, h => ⟨[], by simp, h⟩
  | .tmp t :: rs, K, h => by
    obtain ⟨vs, hr, hk⟩ := resL_sound hF rs _ h
    refine ⟨f t :: vs, ?_, hk⟩
    simp only [List.mapM_cons, resOne, Sem.run_bind, Sem.run_pure, Result.andThen_ok, hr, hF.get]
  | .cell d t :: rs, K, h => by
    simp only [resL] at h
    split at h
    · rename_i p hp
      obtain ⟨x, rfl, h⟩ := someA_of h
      obtain ⟨v, hv, h⟩ := ldE_sound (K := fun v => resL P rs f w fun vs => K (v :: vs)) h
      obtain ⟨vs, hr, hk⟩ := resL_sound hF rs _ h
      refine ⟨v :: vs, ?_, hk⟩
      simp only [List.mapM_cons, resOne, Sem.run_bind, hF.get, hp, asAddr, Sem.run_pure, Result.andThen_ok, hv, hr]
    · exact h.elim

theorem resE_sound {P : Program} {fn : Func} {N : Nat} {a : Act} {f : Fr} {w : World} {K : Value → Prop} (hF : FR N a f) (h : resE P fn.results.toList f w K) :
    ∃ v, (results fn a.tmps).run P w = .ok v w ∧ K v := by
  obtain ⟨vs, hr, hk⟩ := resL_sound hF _ _ h
  refine ⟨_, ?_, hk⟩
  have hm : (fn.results.mapM (resOne a.tmps)).run P w = .ok vs.toArray w := by
    rw [Array.mapM_eq_mapM_toList]
    simp only [Sem.run_map, hr, Result.andThen_ok]
  rw [results_eq]
  simp only [Sem.run_bind, hm, Result.andThen_ok, Sem.run_pure]
  match vs with
  | [] => rfl
  | [v] => rfl
  | v :: u :: vs => simp

def frame0 (args : Array Value) : Fr := fun t => args.toList.getD t undef

def K0 (P : Program) (fn : Func) (R : Value → World → Prop) : Ks :=
  ⟨fun f w => resE P fn.results.toList f w fun v => R v w, fun f w => resE P fn.results.toList f w fun v => R v w, fun _ _ _ => False, fun _ _ _ => False⟩

/-- A function's call, out of its code's statement. -/
theorem calls_of_wpE {P : Program} {A : Ann} {g : FuncId} {fn : Func} {c : Code} {args : Array Value} {w : World} {R : Value → World → Prop}
    (hf : P.funcs[g]? = some fn) (hb : fn.body = some c) (hw : writesOk (fun _ => true) fn.ntmps c = true) (hn : Nat.ble args.size fn.ntmps = true)
    (h : wpE P A fn.ntmps 1000 c (K0 P fn R) (frame0 args) w) : Calls P g args w (Ret R) := by
  refine calls_of_wp hf hb ?_
  have hle : args.size ≤ fn.ntmps := Nat.le_of_ble_eq_true hn
  have hF : FR fn.ntmps { tmps := args ++ Array.replicate (fn.ntmps - args.size) undef, defers := [] } (frame0 args) := by
    refine ⟨by simp; omega, rfl, fun t => ?_⟩
    simp only [frame0, Array.getD_eq_getD_getElem?, Array.getElem?_append, List.getD_eq_getElem?_getD, Array.getElem?_toList]
    split
    · rfl
    · rename_i hlt
      rw [Array.getElem?_eq_none (Nat.le_of_not_lt hlt), Array.getElem?_replicate]
      split <;> rfl
  refine Code.wp_mono ?_ (wpE_sound P A fn.ntmps 1000 c _ _ w _ (fun _ => true) hw hF h)
  rintro e a' w' ⟨f', hF', _, hk⟩
  cases e with
  | normal => obtain ⟨v, hr, hR⟩ := resE_sound (fn := fn) (K := fun v => R v w') hF' hk; exact ⟨hF'.defers, v, hr, hR⟩
  | ret => obtain ⟨v, hr, hR⟩ := resE_sound (fn := fn) (K := fun v => R v w') hF' hk; exact ⟨hF'.defers, v, hr, hR⟩
  | exit i => exact hk.elim
  | goto l => exact hk.elim
  | panic ch => exact hk.elim
  | outgrown => exact hk.elim

def bodyOf (fn : Func) : Code := match fn.body with | some c => c | none => .skip

def LI.none : LI := ⟨[], []⟩

theorem calls_of_body {P : Program} {A : Ann} {g : FuncId} {fn : Func} {args : Array Value} {w : World} {R : Value → World → Prop}
    (hf : P.funcs[g]? = some fn) (hb : fn.body.isSome = true) (hw : writesOk (fun _ => true) fn.ntmps (bodyOf fn) = true) (hn : Nat.ble args.size fn.ntmps = true)
    (h : wpE P A fn.ntmps 1000 (bodyOf fn) (K0 P fn R) (frame0 args) w) : Calls P g args w (Ret R) := by
  obtain ⟨c, hc⟩ := Option.isSome_iff_exists.1 hb
  have : bodyOf fn = c := by simp [bodyOf, hc]
  rw [this] at hw h
  exact calls_of_wpE hf hc hw hn h
end Go.Proofs.Ytnjjgpjpodmgpaa
