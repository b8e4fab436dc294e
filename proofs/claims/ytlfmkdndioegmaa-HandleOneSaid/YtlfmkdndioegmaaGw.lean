/- The VC library of this seat: from a function's loaded code to a statement without frames ('wpE'), and its soundness ('calls_of_wpE'). Conditions: none; it speaks of any program. -/
import Derived.WalkKit
import Derived.Laws.StructEq
set_option linter.unusedVariables false
namespace Go.Proofs.Ytlfmkdndioegmaa

/-- 'returned', with R of the value and the world. -/
def Ret (R : Value → World → Prop) : Ending → World → Prop
  | .returned v, w => R v w
  | _, _ => False

theorem call_mono {P : Program} {g : FuncId} {args : Array Value} {w : World} {R R' : Value → World → Prop}
    (h : Calls P g args w (Ret R)) (k : ∀ v w', R v w' → R' v w') : Calls P g args w (Ret R') :=
  h.mono fun e w' hr => by cases e <;> first | exact k _ _ hr | exact hr.elim

/-- A call, closed to reduction. -/
structure CallS (P : Program) (g : FuncId) (args : Array Value) (w : World) (R : Value → World → Prop) : Prop where
  h : Calls P g args w (Ret R)

theorem CallS.of {P : Program} {g : FuncId} {args : Array Value} {w : World} {R R' : Value → World → Prop}
    (h : Calls P g args w (Ret R)) (k : ∀ v w', R v w' → R' v w') : CallS P g args w R' := ⟨call_mono h k⟩

abbrev Fr := Nat → Value

def ev (f : Fr) : Operand → Value
  | .tmp t => f t
  | .const v => v
  | .global g => .pointer (some ⟨g, 0, none⟩)
  | .func g => .func (.func g) #[] #[]

def put (f : Fr) (d : Option Nat) (v : Value) : Fr :=
  match d with
  | some d => fun t => cond (Nat.beq t d) v (f t)
  | none => f

/-- The act's frame is f; it has N slots; nothing is deferred. -/
structure FR (N : Nat) (a : Act) (f : Fr) : Prop where
  size : a.tmps.size = N
  defers : a.defers = []
  get : ∀ t, a.tmps.getD t undef = f t

theorem FR.eval {N : Nat} {a : Act} {f : Fr} (h : FR N a f) (o : Operand) : a.eval o = ev f o := by
  cases o with
  | tmp t => exact h.get t
  | _ => rfl

theorem FR.put {N : Nat} {a : Act} {f : Fr} (h : FR N a f) (d : Option Nat) (v : Value) (hd : ∀ k, d = some k → k < N) : FR N (a.put d v) (put f d v) := by
  cases d with
  | none => exact h
  | some d =>
    have hlt := hd d rfl
    refine ⟨by simp [Act.put, h.size], by simp [Act.put, h.defers], fun t => ?_⟩
    have hs := h.size
    have hg := h.get t
    simp only [Act.put, Go.Proofs.Ytlfmkdndioegmaa.put]
    by_cases e : t = d
    · subst e
      simp [Array.getD, hs, hlt]
    · have hb : Nat.beq t d = false := by
        cases hq : Nat.beq t d with
        | false => rfl
        | true => exact absurd (Nat.eq_of_beq_eq_true hq) e
      rw [hb]
      simp only [cond_false]
      rw [← hg]
      simp only [Array.getD_eq_getD_getElem?, Array.getElem?_setIfInBounds]
      rw [if_neg (fun q => e q.symm)]

/-! ### typed existentials by a type's zero value -/

def ex1 (z : Value) (K : Value → Prop) : Prop :=
  match z with
  | .int k _ => ∃ n : Int, K (.int k n)
  | .bool _ => ∃ b : Bool, K (.bool b)
  | .string _ => ∃ s : ByteArray, K (.string s)
  | .pointer _ => ∃ p : Option Addr, K (.pointer p)
  | .slice _ _ _ => ∃ (a : Option Addr) (l c : Nat), K (.slice a l c)
  | .map _ => ∃ r : Option Nat, K (.map r)
  | _ => ∃ v : Value, K v

def exL : List Value → (List Value → Prop) → Prop
  | [], K => K []
  | z :: zs, K => ex1 z fun v => exL zs fun vs => K (v :: vs)

def exC (z : Value) (K : Value → Prop) : Prop :=
  match z with
  | .agg zs => exL zs.toList fun vs => K (.agg vs.toArray)
  | z => ex1 z K

def exT : List Value → (List Value → Prop) → Prop
  | [], K => K []
  | z :: zs, K => exC z fun v => exT zs fun vs => K (v :: vs)

def exV (z : Value) (K : Value → Prop) : Prop :=
  match z with
  | .tuple zs => exT zs.toList fun vs => K (.tuple vs.toArray)
  | z => exC z K

theorem ex1_of {z : Value} {K : Value → Prop} (h : ex1 z K) : ∃ v, K v := by
  cases z <;> simp only [ex1] at h
  case slice => obtain ⟨a, l, c, h⟩ := h; exact ⟨_, h⟩
  all_goals (obtain ⟨x, h⟩ := h; exact ⟨_, h⟩)

theorem exL_of : ∀ {zs : List Value} {K : List Value → Prop}, exL zs K → ∃ vs, vs.length = zs.length ∧ K vs
  | [], _, h => ⟨[], rfl, h⟩
  | _ :: zs, K, h => by
    obtain ⟨v, h⟩ := ex1_of h
    obtain ⟨vs, hl, h⟩ := exL_of h
    exact ⟨v :: vs, by simp [hl], h⟩

theorem exC_of {z : Value} {K : Value → Prop} (h : exC z K) : ∃ v, K v := by
  unfold exC at h
  split at h
  · obtain ⟨vs, _, h⟩ := exL_of h; exact ⟨_, h⟩
  · exact ex1_of h

theorem exT_of : ∀ {zs : List Value} {K : List Value → Prop}, exT zs K → ∃ vs, K vs
  | [], _, h => ⟨[], h⟩
  | _ :: zs, K, h => by
    obtain ⟨v, h⟩ := exC_of h
    obtain ⟨vs, h⟩ := exT_of h
    exact ⟨v :: vs, h⟩

theorem exV_of {z : Value} {K : Value → Prop} (h : exV z K) : ∃ v, K v := by
  unfold exV at h
  split at h
  · obtain ⟨vs, h⟩ := exT_of h; exact ⟨_, h⟩
  · exact exC_of h

def zeroOf (P : Program) (t : TypeId) : Value :=
  match P.info? t with
  | some i => (match i.zero with | some z => z | none => undef)
  | none => undef

def ifB (b : Bool) (A B : Prop) : Prop := match b with | true => A | false => B

theorem ifB_iff {b : Bool} {A B : Prop} : ifB b A B ↔ (b = true → A) ∧ (b = false → B) := by cases b <;> simp [ifB]
theorem ifB_intro {b : Bool} {A B : Prop} (h1 : b = true → A) (h2 : b = false → B) : ifB b A B := ifB_iff.2 ⟨h1, h2⟩
theorem ifD {c : Prop} [Decidable c] {A B : Prop} (h1 : c → A) (h2 : ¬ c → B) : ifB (decide c) A B :=
  ifB_intro (fun h => h1 (of_decide_eq_true h)) (fun h => h2 (of_decide_eq_false h))
theorem ifB_true {b : Bool} {A B : Prop} (hb : b = true) (h : A) : ifB b A B := by subst hb; exact h
theorem ifB_false {b : Bool} {A B : Prop} (hb : b = false) (h : B) : ifB b A B := by subst hb; exact h
theorem ifD_true {c : Prop} [Decidable c] {A B : Prop} (hc : c) (h : A) : ifB (decide c) A B := ifB_true (decide_eq_true hc) h
theorem ifD_false {c : Prop} [Decidable c] {A B : Prop} (hc : ¬ c) (h : B) : ifB (decide c) A B := ifB_false (decide_eq_false hc) h

def someA (p : Option Addr) (K : Addr → Prop) : Prop := match p with | some a => K a | none => False

/-- An operation that is left as it stands: it comes to some value and world, of which K. -/
def RunE (P : Program) (s : Sem Value) (w : World) (z : Value) (K : Value → World → Prop) : Prop :=
  exV z fun u => ∃ w' : World, s.run P w = .ok u w' ∧ K u w'

/-- An operation without a value, that is left as it stands. -/
def RunU (P : Program) (s : Sem Unit) (w : World) (K : World → Prop) : Prop := ∃ w' : World, s.run P w = .ok () w' ∧ K w'

def got (r : Result Next) (K : Value → World → Prop) : Prop :=
  match r with
  | .ok (.value v) w' => K v w'
  | .ok .skip w' => K undef w'
  | _ => False

/-! ### loads and stores -/

/-- The cells from a on hold vs. -/
def CellsAt (w : World) (a : Addr) (vs : List Value) : Prop := ∀ (j : Nat) (v : Value), vs[j]? = some v → w.cell? (a.add j) = some v

def isAggD : TypeDesc → Bool
  | .struct _ => true
  | .array _ _ => true
  | _ => false

def ldE (P : Program) (t : TypeId) (w : World) (a : Addr) (K : Value → Prop) : Prop :=
  match P.underlying t, P.info? t with
  | some d, some i =>
    match isAggD d, i.zero with
    | true, some (.agg zs) => cond (Nat.beq zs.toList.length i.size) (exL zs.toList fun vs => CellsAt w a vs ∧ K (.agg vs.toArray)) False
    | false, some z => exV z fun u => w.cell? a = some u ∧ K u
    | _, _ => False
  | _, _ => False

/-- n cells from a on may be written. -/
def WrC (w : World) (a : Addr) (n : Nat) : Prop := ∀ j : Nat, j < n → (w.cell? (a.add j)).isSome = true ∧ w.frozen? (a.add j) = false

/-- The cells from a (place i) on are written. -/
def wrFrom (a : Addr) : Nat → List Value → World → World
  | _, [], w => w
  | i, v :: vs, w => wrFrom a (i + 1) vs (w.setCell (a.add i) v)

def wr (w : World) (a : Addr) (vs : List Value) : World := wrFrom a 0 vs w

def stE (P : Program) (t : TypeId) (w : World) (a : Addr) (v : Value) (K : World → Prop) : Prop :=
  match P.info? t with
  | some i => cond (Nat.beq v.cells.size i.size && v.cells.toList.all Value.oneCell') (WrC w a v.cells.toList.length ∧ ∀ w1 : World, w1 = wr w a v.cells.toList → K w1) False
  | none => False

theorem run_sizeOf' {P : Program} {t : TypeId} {i : TypeInfo} (h : P.info? t = some i) (w : World) : (sizeOf t).run P w = .ok i.size w := by
  simp [sizeOf, typeInfo, h]

theorem run_isAgg' {P : Program} {t : TypeId} {d : TypeDesc} (h : P.underlying t = some d) (w : World) : (isAgg t).run P w = .ok (isAggD d) w := by
  simp only [isAgg, Sem.run_bind, run_underlying h, Result.andThen_ok]
  cases d <;> rfl

theorem ldE_sound {P : Program} {t : TypeId} {w : World} {a : Addr} {K : Value → Prop} (h : ldE P t w a K) :
    ∃ v, (loadVar t a).run P w = .ok v w ∧ K v := by
  unfold ldE at h
  split at h
  case h_2 => exact h.elim
  case h_1 d i hd hi =>
    split at h
    case h_3 => exact h.elim
    case h_1 zs hda hz =>
      cases hb : Nat.beq zs.toList.length i.size with
      | false => rw [hb] at h; exact h.elim
      | true =>
        rw [hb] at h
        obtain ⟨vs, hl, h⟩ := exL_of h
        obtain ⟨hc, hk⟩ := h
        refine ⟨_, ?_, hk⟩
        have hsz : i.size = vs.length := by rw [hl]; exact (Nat.eq_of_beq_eq_true hb).symm
        simp only [loadVar, Sem.run_bind, run_isAgg' hd, hda, Result.andThen_ok, if_true, run_sizeOf' hi, hsz,
          run_loadCells_list (P := P) w a vs (fun j v hv => by simpa using hc j v hv), Sem.run_pure]
    case h_2 z hda hz =>
      obtain ⟨v, hc, hk⟩ := exV_of h
      refine ⟨v, ?_, hk⟩
      simp only [loadVar, Sem.run_bind, run_isAgg' hd, hda, Result.andThen_ok, Bool.false_eq_true, if_false, run_load, hc]

theorem storeCells_sound {P : Program} (a : Addr) : ∀ (vs : List Value) (i : Nat) (w : World), vs.all Value.oneCell' = true →
    (∀ j : Nat, j < vs.length → (w.cell? (a.add (i + j))).isSome = true ∧ w.frozen? (a.add (i + j)) = false) → (storeCells a vs i).run P w = .ok () (wrFrom a i vs w)
  | [], i, w, _, _ => by simp [storeCells, wrFrom]
  | v :: vs, i, w, h1, h => by
    simp only [List.all_cons, Bool.and_eq_true] at h1
    have h0 := h 0 (by simp)
    simp only [Nat.add_zero] at h0
    obtain ⟨u, hu⟩ := Option.isSome_iff_exists.1 h0.1
    simp only [storeCells, Sem.run_bind, run_store P w (a.add i) v .plain h1.1, hu, h0.2, Bool.false_eq_true, if_false, Result.andThen_ok, wrFrom]
    refine storeCells_sound a vs (i + 1) _ h1.2 fun j hj => ?_
    have hx := h (j + 1) (by simp; omega)
    rw [show i + 1 + j = i + (j + 1) by omega]
    refine ⟨?_, by rw [World.frozen?_setCell]; exact hx.2⟩
    by_cases e : a.add i = a.add (i + (j + 1))
    · rw [← e]
      rw [World.cell?_setCell_same w (a.add i) v hu]
      rfl
    · rw [World.cell?_setCell_other w (a.add i) (a.add (i + (j + 1))) v e]
      exact hx.1

theorem stE_sound {P : Program} {t : TypeId} {w : World} {a : Addr} {v : Value} {K : World → Prop} (h : stE P t w a v K) :
    ∃ w', (storeVar t a v).run P w = .ok () w' ∧ K w' := by
  unfold stE at h
  split at h
  case h_2 => exact h.elim
  case h_1 i hi =>
    cases hb : (Nat.beq v.cells.size i.size && v.cells.toList.all Value.oneCell') with
    | false => rw [hb] at h; exact h.elim
    | true =>
      rw [hb] at h
      simp only [Bool.and_eq_true] at hb
      obtain ⟨hw, hk⟩ := h
      refine ⟨_, ?_, hk _ rfl⟩
      have hsz : v.cells.size = i.size := Nat.eq_of_beq_eq_true hb.1
      simp only [storeVar, Sem.run_bind, run_sizeOf' hi, Result.andThen_ok, hsz, ne_eq, not_true_eq_false, if_false]
      exact storeCells_sound a _ 0 w hb.2 (by intro j hj; simpa using hw j hj)

/-! ### one operation -/

def callOk (P : Program) (g : FuncId) : Bool :=
  match P.funcs[g]? with
  | some fn => fn.body.isSome && !(fn.name == "runtime.NumGoroutine")
  | none => false

def alE (P : Program) (e : TypeId) (w : World) (c : Array Value) (K : Value → World → Prop) : Prop :=
  ∀ (b : Nat) (w1 : World), b = w.heap.size → w1 = w.alloc (.cells c e) → K (.pointer (some ⟨b, 0, none⟩)) w1

def bndI (d : Int) : Option Value → Option Int
  | none => some d
  | some (.int _ n) => some n
  | _ => none

def subA (a : Option Addr) (l c s : Nat) : Option Addr := if c = l then a else a.map (·.add (l * s))

def shlV (k : IntKind) (a b : Int) : Int := k.wrap (a * 2 ^ min b.toNat k.bits)
def shrV (k : IntKind) (a b : Int) : Int := a.fdiv (2 ^ min b.toNat k.bits)

/-- The bytes bs lie from a on. -/
def BytesAt (w : World) (a : Option Addr) (bs : List UInt8) : Prop := ∀ (j : Nat) (b : UInt8), bs[j]? = some b → ∃ x : Addr, a = some x ∧ w.cell? (x.add j) = some (.int .u8 (b.toNat : Int))

def opE (P : Program) (o : Oper) (f : Fr) (w : World) (K : Value → World → Prop) : Prop :=
  match o.op with
  | .move x => K (ev f x) w
  | .assign x => K (ev f x) w
  | .pick c a b => match ev f c with | .bool q => ifB q (K (ev f a) w) (K (ev f b) w) | _ => False
  | .alloc e => match P.info? e with
    | some i => (match i.zero with | some z => alE P e w z.cells K | none => False)
    | none => False
  | .box e x => alE P e w (ev f x).cells K
  | .load t x => match ev f x with | .pointer p => someA p fun a => ldE P t w a fun v => K v w | _ => False
  | .store t x y => match ev f x with | .pointer p => someA p fun a => stE P t w a (ev f y) fun w' => K undef w' | _ => False
  | .nilCheck x => match ev f x with | .pointer p => someA p fun a => K (.pointer (some a)) w | _ => got ((execOp (ev f) o).run P w) K
  | .fieldAddr s x i => match P.underlying s, ev f x with
    | some (.struct fs), .pointer p => (match fs[i]? with
      | some fld => (match P.info? fld.type with
        | some ti => cond (Nat.beq ti.size 0) False (someA p fun a => K (.pointer (some (a.add fld.offset))) w)
        | none => False)
      | none => False)
    | _, _ => False
  | .indexAddr t x ix => match P.underlying t, ev f x, ev f ix with
    | some (.slice e), .slice base len _, .int _ i => (match P.info? e with
      | some ti => 0 ≤ i ∧ i < (len : Int) ∧ someA base fun a => K (.pointer (some (a.add (cond (Nat.beq ti.size 1) i.toNat (i.toNat * ti.size))))) w
      | none => False)
    | some (.array n e), .pointer p, .int _ i => (match P.info? e with
      | some ti => 0 ≤ i ∧ i < (n : Int) ∧ someA p fun a => K (.pointer (some (a.add (cond (Nat.beq ti.size 1) i.toNat (i.toNat * ti.size))))) w
      | none => False)
    | _, _, _ => False
  | .index t x ix => match P.underlying t, ev f x, ev f ix with
    | some .string, .string s, .int _ i => 0 ≤ i ∧ ∃ b : UInt8, s[i.toNat]? = some b ∧ K (.int .u8 (b.toNat : Int)) w
    | _, _, _ => RunE P (Instr.index t (ev f x) (ev f ix)) w (zeroOf P o.type) K
  | .slice t x lo hi mx => match mx, P.underlying t, ev f x, bndI 0 (lo.map (ev f)) with
    | none, some .string, .string s, some l => (match bndI (s.size : Int) (hi.map (ev f)) with
      | some h => 0 ≤ l ∧ l ≤ h ∧ h ≤ (s.size : Int) ∧ K (.string (s.extract l.toNat h.toNat)) w
      | none => False)
    | none, some (.slice e), .slice a n c, some l => (match P.info? e, bndI (n : Int) (hi.map (ev f)) with
      | some ti, some h => 0 ≤ l ∧ l ≤ h ∧ h ≤ (c : Int) ∧ K (.slice (subA a l.toNat c ti.size) (h.toNat - l.toNat) (c - l.toNat)) w
      | _, _ => False)
    | _, _, _, _ => RunE P (Instr.sliceAt t (ev f x) (lo.map (ev f)) (hi.map (ev f)) (mx.map (ev f))) w (zeroOf P o.type) K
  | .makeSlice t l c => match P.underlying t, ev f l, ev f c with
    | some (.slice e), .int _ l, .int _ c => (match P.info? e with
      | some ti => (match ti.zero with
        | some z => 0 ≤ l ∧ l ≤ c ∧ (ti.bytes : Int) * c ≤ 281474976710656 ∧ c ≤ 9223372036854775807 ∧
            ∀ (b : Nat) (w1 : World), b = w.heap.size → w1 = w.alloc (.cells (madeCells z.cells (c.toNat * ti.size)) e) → K (.slice (some ⟨b, 0, none⟩) l.toNat c.toNat) w1
        | none => False)
      | none => False)
    | _, _, _ => False
  | .buildSlice t n ps => match P.underlying t with
    | some (.slice e) => (match P.info? e with
      | some ti => (match ti.zero with
        | some z => (match Instr.fill (fun i => some (i * ti.size, ti.size)) ((Array.range (n * ti.size)).map (z.cells[· % z.cells.size]!)) (ps.map fun (i, x) => (i, ev f x)).toList with
          | some cells => cond (Nat.ble (n * ti.size) 16777216 && !(Nat.beq (n * ti.size) 0)) (∀ (b : Nat) (w1 : World), b = w.heap.size → w1 = w.alloc (.cells cells e) → K (.slice (some ⟨b, 0, none⟩) n n) w1) False
          | none => False)
        | none => False)
      | none => False)
    | _ => False
  | .makeMap t r => RunE P (Instr.makeMap t (r.map (ev f))) w (zeroOf P o.type) K
  | .lookup t x ix ok => RunE P (Instr.lookup t (ev f x) (ev f ix) ok) w (zeroOf P o.type) K
  | .mapUpdate t m k x => RunU P (Instr.mapUpdate t (ev f m) (ev f k) (ev f x)) w fun w' => K undef w'
  | .insert t m k x => RunU P (Instr.mapUpdate t (ev f m) (ev f k) (ev f x)) w fun w' => K undef w'
  | .mapEntry t m k => RunE P (Instr.mapEntry t (ev f m) (ev f k)) w .nilIface K
  | .entryStore t m s x => RunU P (Instr.entryStore t (ev f m) (ev f s) (ev f x)) w fun w' => K undef w'
  | .range t x => RunE P (Instr.range t (ev f x)) w .nilIface K
  | .next it b => RunE P (Instr.next (ev f it) b o.type) w (zeroOf P o.type) K
  | .extract t ix => match ev f t with
    | .tuple vs => (match vs[ix]? with | some v => K v w | none => False)
    | _ => False
  | .convert src dst x => match ev f x with
    | .int _ _ => got ((execOp (ev f) o).run P w) K
    | .slice a l c => (match P.underlying src, P.underlying dst with
      | some (.slice e), some .string => (match P.underlying e with
        | some (.int .u8) => ∃ bs : List UInt8, bs.length = l ∧ BytesAt w a bs ∧ K (.string ⟨bs.toArray⟩) w
        | _ => False)
      | _, _ => RunE P (convert src dst (.slice a l c)) w (zeroOf P o.type) K)
    | x => RunE P (convert src dst x) w (zeroOf P o.type) K
  | .binOp op t x y _ => match op, ev f x, ev f y with
    | .eql, .pointer p, .pointer none => (match P.underlying t with | some (.pointer _) => K (.bool p.isNone) w | _ => False)
    | .neq, .pointer p, .pointer none => (match P.underlying t with | some (.pointer _) => K (.bool (!p.isNone)) w | _ => False)
    | .shl, .int k a, .int _ b => 0 ≤ b ∧ K (.int k (shlV k a b)) w
    | .shr, .int k a, .int _ b => 0 ≤ b ∧ K (.int k (shrV k a b)) w
    | .quo, .int k a, .int k' b => cond (decide (k = k')) (b ≠ 0 ∧ K (.int k (k.wrap (a.tdiv b))) w) False
    | .rem, .int k a, .int k' b => cond (decide (k = k')) (b ≠ 0 ∧ K (.int k (a.tmod b)) w) False
    | .and, .int k a, .int k' b => cond (decide (k = k')) (K (.int k (bits .and k a b)) w) False
    | .or, .int k a, .int k' b => cond (decide (k = k')) (K (.int k (bits .or k a b)) w) False
    | .xor, .int k a, .int k' b => cond (decide (k = k')) (K (.int k (bits .xor k a b)) w) False
    | .andNot, .int k a, .int k' b => cond (decide (k = k')) (K (.int k (bits .andNot k a b)) w) False
    | .eql, .string a, .string b => K (.bool (decide (a = b))) w
    | .neq, .string a, .string b => K (.bool (!decide (a = b))) w
    | .eql, .agg xs, .agg ys => cond (P.eqGuardType P.depth t) False (RunE P (binOp .eql t (.agg xs) (.agg ys)) w (.bool false) K)
    | .neq, .agg xs, .agg ys => cond (P.eqGuardType P.depth t) False (RunE P (binOp .neq t (.agg xs) (.agg ys)) w (.bool false) K)
    | .add, .string a, .string b => (((a.size + b.size : Nat) : Int) ≤ 9223372036854775807 ∧ K (.string (a ++ b)) w)
    | _, _, _ => got ((execOp (ev f) o).run P w) K
  | .call c => match c.callee with
    | .value g => (match ev f g with
      | .func (.func g) first captured => cond (callOk P g) (CallS P g (first ++ c.args.map (ev f) ++ captured) w fun v w' => exV (zeroOf P o.type) fun u => v = u ∧ K u w') False
      | _ => False)
    | .builtin b => (match b with
      | .append => RunE P (Builtin.append_ c.argTypes o.type (c.args.map (ev f))) w (zeroOf P o.type) K
      | .copy => RunE P (Builtin.copy_ c.argTypes o.type (c.args.map (ev f))) w (.int .i64 0) K
      | .clear => RunE P (Builtin.clear_ c.argTypes o.type (c.args.map (ev f))) w (.tuple #[]) K
      | .delete => RunE P (Builtin.delete_ c.argTypes o.type (c.args.map (ev f))) w (.tuple #[]) K
      | .len => (match c.args.toList.map (ev f) with
        | [.slice base n c'] => (match c.argTypes.toList.map P.underlying with | [some (.slice _)] => K (.int .i64 (n : Int)) w | _ => False)
        | [.string s] => (match c.argTypes.toList.map P.underlying with | [some .string] => K (.int .i64 (s.size : Int)) w | _ => False)
        | _ => RunE P (Builtin.len_ c.argTypes o.type (c.args.map (ev f))) w (.int .i64 0) K)
      | .min => RunE P (Builtin.min_ c.argTypes o.type (c.args.map (ev f))) w (zeroOf P o.type) K
      | .max => RunE P (Builtin.max_ c.argTypes o.type (c.args.map (ev f))) w (zeroOf P o.type) K
      | _ => False)
    | _ => False
  | _ => got ((execOp (ev f) o).run P w) K



/-! ### soundness of one operation -/

section
variable {P : Program} {o : Oper} {a : Act} {next : Act → World → Prop} {Q : Exit → Act → World → Prop} {K : Value → World → Prop} {w : World}

theorem upon_got {r : Result Next} (h : got r K) (hK : ∀ v w', K v w' → next (a.put o.dst v) w') : o.upon P a next Q r := by
  unfold got at h
  split at h
  · exact hK _ _ h
  · exact hK _ _ h
  · exact h.elim

theorem upon_run {s : Sem Value} {z : Value} (h : RunE P s w z K) (hK : ∀ v w', K v w' → next (a.put o.dst v) w') :
    o.upon P a next Q ((do pure (.value (← s)) : Sem Next).run P w) := by
  obtain ⟨v, w', hr, hk⟩ := exV_of h
  simp only [Sem.run_bind, hr, Result.andThen_ok, Sem.run_pure]
  exact hK _ _ hk

theorem upon_val {s : Sem Value} {v : Value} {w' : World} (hr : s.run P w = .ok v w') (h : K v w') (hK : ∀ v w', K v w' → next (a.put o.dst v) w') :
    o.upon P a next Q ((do pure (.value (← s)) : Sem Next).run P w) := by
  simp only [Sem.run_bind, hr, Result.andThen_ok, Sem.run_pure]
  exact hK _ _ h

theorem upon_runU {s : Sem Unit} {K' : World → Prop} (h : RunU P s w K') (hK : ∀ w', K' w' → next (a.put o.dst undef) w') :
    o.upon P a next Q ((do s; pure .skip : Sem Next).run P w) := by
  obtain ⟨w', hr, hx⟩ := h
  simp only [Sem.run_bind, hr, Result.andThen_ok, Sem.run_pure]
  exact hK _ hx

theorem someA_of {p : Option Addr} {K : Addr → Prop} (h : someA p K) : ∃ x, p = some x ∧ K x := by
  cases p with
  | none => exact h.elim
  | some x => exact ⟨x, rfl, h⟩

theorem run_fieldAt' {s : TypeId} {fs : Array Field} {i : Nat} {fld : Field} {ti : TypeInfo} (hs : P.underlying s = some (.struct fs)) (hf : fs[i]? = some fld)
    (hi : P.info? fld.type = some ti) (hz : ti.size ≠ 0) (x : Addr) : (Instr.fieldAt s (.pointer (some x)) i).run P w = .ok (.pointer (some (x.add fld.offset))) w := by
  simp only [Instr.fieldAt, Sem.run_bind, run_underlying hs, Result.andThen_ok, hf, Instr.sureAddr, Sem.run_pure, fieldPlace, run_sizeOf' hi, hz, if_false]

theorem run_indexAt_slice' {t e : TypeId} {ti : TypeInfo} (ht : P.underlying t = some (.slice e)) (hi : P.info? e = some ti) (x : Addr) (len cap : Nat) (k : IntKind) (i : Int) (h0 : 0 ≤ i) (h1 : i < (len : Int)) :
    (Instr.indexAt t (.slice (some x) len cap) (.int k i)).run P w = .ok (.pointer (some (x.add (i.toNat * ti.size)))) w := by
  have hp : P.elem t = e := by simp [Program.elem, ht]
  rw [run_indexAt_slice w t x len cap k i (by rw [hp]; exact ht), if_pos ⟨h0, h1⟩, hp, run_sizeOf' hi]
  rfl

theorem run_indexAt_array' {t e : TypeId} {n : Nat} {ti : TypeInfo} (ht : P.underlying t = some (.array n e)) (hi : P.info? e = some ti) (x : Addr) (k : IntKind) (i : Int) (h0 : 0 ≤ i) (h1 : i < (n : Int)) :
    (Instr.indexAt t (.pointer (some x)) (.int k i)).run P w = .ok (.pointer (some (x.add (i.toNat * ti.size)))) w := by
  have hp : P.elem t = e := by simp [Program.elem, ht]
  have hn : P.arrayLen t = n := by simp [Program.arrayLen, ht]
  rw [run_indexAt_array w t x k i (by rw [hp, hn]; exact ht), hn, if_pos ⟨h0, h1⟩, hp, run_sizeOf' hi]
  rfl

theorem mul_size {n m : Nat} : (cond (Nat.beq m 1) n (n * m)) = n * m := by
  cases h : Nat.beq m 1 with
  | false => rfl
  | true => have := Nat.eq_of_beq_eq_true h; subst this; simp

theorem run_callFunc {g : FuncId} (h : callOk P g = true) (args : Array Value) : (callFunc g args).run P w = .ok (.enter g args) w := by
  unfold callOk at h
  split at h
  case h_2 => cases h
  case h_1 fn hfn =>
    simp only [Bool.and_eq_true, Bool.not_eq_true'] at h
    obtain ⟨hb, hn⟩ := h
    have hno : fn.body.isNone = false := by cases hx : fn.body <;> simp_all
    simp only [callFunc, Sem.run_bind, run_program, Result.andThen_ok, hfn, hn, Bool.false_eq_true, if_false, hno, Sem.run_pure]

theorem run_bounds (w : World) (isSl : Bool) (n c : Nat) {lo hi : Option Value} {l h : Int} (hl : bndI 0 lo = some l) (hh : bndI (n : Int) hi = some h) (h0 : 0 ≤ l) (h1 : l ≤ h) (h2 : h ≤ (c : Int)) :
    (Instr.sliceBounds isSl n c lo hi none).run P w = .ok (l.toNat, h.toNat, c) w := by
  have low : ∀ (v : Option Value), bndI 0 v = some l → ((match v with | some v => Instr.sliceBound v h.toNat .sliceB | none => pure 0 : Sem Nat).run P w = .ok l.toNat w) := by
    intro v hv
    cases v with
    | none => simp only [bndI, Option.some.injEq] at hv; subst hv; rfl
    | some v =>
      cases v <;> simp only [bndI] at hv <;> try cases hv
      rw [run_sliceBound w _ _ _ _ h0 (by omega)]
  cases hi with
  | none =>
    simp only [bndI, Option.some.injEq] at hh
    subst hh
    have hlow := low lo hl
    simp only [Int.toNat_natCast] at hlow
    unfold Instr.sliceBounds
    cases lo with
    | none => simp only [bndI, Option.some.injEq] at hl; subst hl; simp [Sem.run_pure]
    | some v => simp only at hlow; simp [hlow]
  | some v =>
    cases v <;> simp only [bndI] at hh <;> try cases hh
    rename_i k
    have hlow := low lo hl
    have hhigh := run_sliceBound (P := P) w k h c (if isSl then BoundsCode.sliceAcap else BoundsCode.sliceAlen) (by omega) h2
    unfold Instr.sliceBounds
    cases lo with
    | none => simp only [bndI, Option.some.injEq] at hl; subst hl; simp [hhigh]
    | some v => simp only at hlow; simp [hhigh, hlow]

theorem foldl_push (bs : List UInt8) : ∀ acc : ByteArray, (bs.map fun b => (b.toNat : Int)).foldl (fun r n => r.push (UInt8.ofNat n.toNat)) acc = ⟨acc.data ++ bs.toArray⟩ := by
  induction bs with
  | nil => intro acc; simp
  | cons b bs ih =>
    intro acc
    simp only [List.map_cons, List.foldl_cons, Int.toNat_natCast]
    rw [ih]
    have : UInt8.ofNat b.toNat = b := by simp
    rw [this]
    apply congrArg
    apply Array.ext'
    simp [ByteArray.push]

theorem run_bytesStr (w : World) (a : Option Addr) {l : Nat} (c : Nat) {bs : List UInt8} (hl : bs.length = l) (hb : BytesAt w a bs) :
    (Conv.bytesToString (.slice a l c)).run P w = .ok (.string ⟨bs.toArray⟩) w := by
  cases a with
  | none =>
    have : bs = [] := by
      cases bs with
      | nil => rfl
      | cons b bs => obtain ⟨x, hx, _⟩ := hb 0 b rfl; cases hx
    subst this
    rfl
  | some x =>
    have hc := run_loadCells_list (P := P) w x ((bs.map fun b => (b.toNat : Int)).map (Value.int .u8)) (by
      intro j v hv
      simp only [List.map_map, List.getElem?_map, Option.map_eq_some_iff, Function.comp] at hv
      obtain ⟨b, hbj, rfl⟩ := hv
      obtain ⟨y, hy, hcell⟩ := hb j b hbj
      cases hy
      exact hcell)
    simp only [List.length_map, hl] at hc
    rw [run_bytesToString w x l c _ hc, foldl_push]
    simp

theorem one_of_map {α β : Type} {g : α → β} {x : Array α} {y : β} (h : x.toList.map g = [y]) : ∃ u, x = #[u] := by
  obtain ⟨l⟩ := x
  cases l with
  | nil => simp at h
  | cons u l =>
    cases l with
    | nil => exact ⟨u, rfl⟩
    | cons v l => simp at h

theorem str_eq (a b : ByteArray) : (a.toList == b.toList) = decide (a = b) := by
  rw [← beq_toListBytes]
  obtain ⟨⟨x⟩⟩ := a
  obtain ⟨⟨y⟩⟩ := b
  show ((⟨x⟩ : Array UInt8) == ⟨y⟩) = _
  simp only [ByteArray.mk.injEq, Array.mk.injEq]
  by_cases e : x = y
  · subst e; simp
  · simp [e]

end

theorem opE_sound {P : Program} {o : Oper} {f : Fr} {a : Act} {N : Nat} {w : World} {K : Value → World → Prop} {next : Act → World → Prop} {Q : Exit → Act → World → Prop}
    (hF : FR N a f) (h : opE P o f w K) (hK : ∀ v w', K v w' → next (a.put o.dst v) w') : o.wp P a w next Q := by
  have he : a.eval = ev f := funext hF.eval
  unfold Oper.wp
  rw [he]
  obtain ⟨dst, op, ty, pos, after, guard⟩ := o
  cases op <;> simp only [opE] at h
  case move x => exact hK _ _ h
  case assign x => exact hK _ _ h
  case pick c x y =>
    split at h
    · rename_i q hq
      simp only [execOp, hq, asBool, pure_bind, Sem.run_pure]
      cases q <;> exact hK _ _ h
    · exact h.elim
  case alloc e =>
    split at h
    · rename_i i hi
      split at h
      · rename_i z hz
        have hr : (Instr.alloc e true (.tuple #[])).run P w = .ok (.pointer (some ⟨w.heap.size, 0, none⟩)) (w.alloc (.cells z.cells e)) := by
          simp [Instr.alloc, zeroValue, typeInfo, hi, hz, newVar, newRow]
        exact upon_val hr (h _ _ rfl rfl) hK
      · exact h.elim
    · exact h.elim
  case box e x =>
    have hr : (Instr.box e (ev f x)).run P w = .ok (.pointer (some ⟨w.heap.size, 0, none⟩)) (w.alloc (.cells (ev f x).cells e)) := by
      simp [Instr.box, newVar, newRow]
    exact upon_val hr (h _ _ rfl rfl) hK
  case load t x =>
    split at h
    · rename_i p hp
      obtain ⟨x', rfl, h⟩ := someA_of h
      obtain ⟨v, hr, hk⟩ := ldE_sound (K := fun v => K v w) h
      have hr' : (Instr.loadAt t (ev f x)).run P w = .ok v w := by rw [hp]; simp only [Instr.loadAt, Instr.sureAddr, Sem.run_bind, Sem.run_pure, Result.andThen_ok]; exact hr
      exact upon_val hr' hk hK
    · exact h.elim
  case store t x y =>
    split at h
    · rename_i p hp
      obtain ⟨x', rfl, h⟩ := someA_of h
      obtain ⟨w', hr, hk⟩ := stE_sound h
      have hr' : (Instr.storeAt t (ev f x) (ev f y)).run P w = .ok () w' := by rw [hp]; simp only [Instr.storeAt, Instr.sureAddr, Sem.run_bind, Sem.run_pure, Result.andThen_ok]; exact hr
      exact upon_runU (K' := fun w' => K undef w') ⟨_, hr', hk⟩ (fun w' hk => hK _ _ hk)
    · exact h.elim
  case nilCheck x =>
    split at h
    · rename_i p hp
      obtain ⟨x', rfl, h⟩ := someA_of h
      simp only [execOp, hp, Sem.run_pure]
      exact hK _ _ h
    · exact upon_got h hK
  case fieldAddr s x i =>
    split at h
    · rename_i fs p hs hp
      split at h
      · rename_i fld hf
        split at h
        · rename_i ti hi
          cases hb : Nat.beq ti.size 0 with
          | true => rw [hb] at h; exact h.elim
          | false =>
            rw [hb] at h
            obtain ⟨x', rfl, h⟩ := someA_of h
            have hz : ti.size ≠ 0 := fun e => by rw [e] at hb; cases hb
            have hr : (Instr.fieldAt s (ev f x) i).run P w = .ok (.pointer (some (x'.add fld.offset))) w := by rw [hp]; exact run_fieldAt' hs hf hi hz x'
            exact upon_val hr h hK
        · exact h.elim
      · exact h.elim
    · exact h.elim
  case indexAddr t x ix =>
    split at h
    · rename_i e base len cap k i ht hx hi
      split at h
      · rename_i ti hti
        obtain ⟨h0, h1, h⟩ := h
        obtain ⟨x', rfl, h⟩ := someA_of h
        rw [mul_size] at h
        have hr : (Instr.indexAt t (ev f x) (ev f ix)).run P w = .ok (.pointer (some (x'.add (i.toNat * ti.size)))) w := by rw [hx, hi]; exact run_indexAt_slice' ht hti x' len cap k i h0 h1
        exact upon_val hr h hK
      · exact h.elim
    · rename_i n e p k i ht hx hi
      split at h
      · rename_i ti hti
        obtain ⟨h0, h1, h⟩ := h
        obtain ⟨x', rfl, h⟩ := someA_of h
        rw [mul_size] at h
        have hr : (Instr.indexAt t (ev f x) (ev f ix)).run P w = .ok (.pointer (some (x'.add (i.toNat * ti.size)))) w := by rw [hx, hi]; exact run_indexAt_array' ht hti x' k i h0 h1
        exact upon_val hr h hK
      · exact h.elim
    · exact h.elim
  case index t x ix =>
    split at h
    · rename_i s k i ht hx hi
      obtain ⟨h0, b, hb, h⟩ := h
      have hr : (Instr.index t (ev f x) (ev f ix)).run P w = .ok (.int .u8 (b.toNat : Int)) w := by
        rw [hx, hi]
        simp only [Instr.index, asIntOf, pure_bind, Sem.run_bind, run_underlying ht, Result.andThen_ok, h0, if_true, hb, Sem.run_pure]
      exact upon_val hr h hK
    · exact upon_run h hK
  case slice t x lo hi mx =>
    split at h
    · rename_i s l ht hx hl
      split at h
      · rename_i hh hhi
        obtain ⟨h0, h1, h2, h⟩ := h
        have hr : (Instr.sliceAt t (ev f x) (lo.map (ev f)) (hi.map (ev f)) none).run P w = .ok (.string (s.extract l.toNat hh.toNat)) w := by
          rw [run_sliceAt_string w t _ _ _ _ ht, hx]
          simp only [Instr.slice, Sem.run_bind, run_underlying ht, Result.andThen_ok, Option.isSome_none, Bool.false_eq_true, if_false, Sem.run_pure, run_bounds w false s.size s.size hl hhi h0 h1 h2]
        exact upon_val hr h hK
      · exact h.elim
    · rename_i e a n c l ht hx hl
      split at h
      · rename_i ti hh hti hhi
        obtain ⟨h0, h1, h2, h⟩ := h
        have hp : P.elem t = e := by simp [Program.elem, ht]
        have hr : (Instr.sliceAt t (ev f x) (lo.map (ev f)) (hi.map (ev f)) none).run P w = .ok (.slice (subA a l.toNat c ti.size) (hh.toNat - l.toNat) (c - l.toNat)) w := by
          rw [run_sliceAt_slice w t _ _ _ _ (by rw [hp]; exact ht), hx]
          simp only [Instr.slice, Sem.run_bind, run_underlying ht, Result.andThen_ok, run_sizeOf' hti, Sem.run_pure, run_bounds w true n c hl hhi h0 h1 h2]
          rfl
        exact upon_val hr h hK
      · exact h.elim
    · exact upon_run h hK
  case makeSlice t l c =>
    split at h
    · rename_i e kl l' kc c' ht hl hc
      split at h
      · rename_i ti hi
        split at h
        · rename_i z hz
          obtain ⟨h0, h1, h2, h3, h⟩ := h
          have hr := run_make (P := P) w t e ti z ht hi hz kl kc l' c' h0 h1 h2 h3
          have hr' : (Instr.makeSlice t (ev f l) (ev f c)).run P w = .ok (.slice (some ⟨w.heap.size, 0, none⟩) l'.toNat c'.toNat) (w.alloc (.cells (madeCells z.cells (c'.toNat * ti.size)) e)) := by rw [hl, hc]; exact hr
          exact upon_val hr' (h _ _ rfl rfl) hK
        · exact h.elim
      · exact h.elim
    · exact h.elim
  case buildSlice t n ps =>
    split at h
    · rename_i e ht
      split at h
      · rename_i ti hi
        split at h
        · rename_i z hz
          split at h
          · rename_i cells hcells
            cases hb : (Nat.ble (n * ti.size) 16777216 && !(Nat.beq (n * ti.size) 0)) with
            | false => rw [hb] at h; exact h.elim
            | true =>
              rw [hb] at h
              simp only [Bool.and_eq_true] at hb
              have hle : ¬ (n * ti.size > 2 ^ 24) := by have := Nat.le_of_ble_eq_true hb.1; omega
              have hne : n * ti.size ≠ 0 := fun e => by rw [e] at hb; simp at hb
              have hr : (Instr.buildSlice t n (ps.map fun (i, x) => (i, ev f x))).run P w = .ok (.slice (some ⟨w.heap.size, 0, none⟩) n n) (w.alloc (.cells cells e)) := by
                simp only [Instr.buildSlice, Sem.run_bind, run_underlying ht, Result.andThen_ok, run_sizeOf' hi, hle, hne, if_false, Sem.run_pure, zeroValue, typeInfo, run_program, hi, hz, hcells, newRow, run_newObj]
                rfl
              exact upon_val hr (h _ _ rfl rfl) hK
          · exact h.elim
        · exact h.elim
      · exact h.elim
    · exact h.elim
  case makeMap => exact upon_run h hK
  case lookup => exact upon_run h hK
  case mapUpdate => exact upon_runU h fun w' hk => hK _ _ hk
  case insert => exact upon_runU h fun w' hk => hK _ _ hk
  case mapEntry => exact upon_run h hK
  case entryStore => exact upon_runU h fun w' hk => hK _ _ hk
  case range => exact upon_run h hK
  case next => exact upon_run h hK
  case extract t ix =>
    split at h
    · rename_i vs hv
      split at h
      · rename_i v hi
        have hr : (Instr.extract (ev f t) ix).run P w = .ok v w := by rw [hv]; simp [Instr.extract, hi]
        exact upon_val hr h hK
      · exact h.elim
    · exact h.elim
  case convert src dst x =>
    split at h
    · exact upon_got h hK
    · rename_i a' l c hx
      split at h
      · rename_i e hs hd
        split at h
        · rename_i he
          obtain ⟨bs, hl, hb, h⟩ := h
          have hr : (convert src dst (ev f x)).run P w = .ok (.string ⟨bs.toArray⟩) w := by
            rw [hx, run_convert_bytes_string w src dst e a' l c hs he hd]
            exact run_bytesStr w a' c hl hb
          exact upon_val hr h hK
        · exact h.elim
      · have h' : RunE P (convert src dst (ev f x)) w (zeroOf P ty) K := by rw [hx]; exact h
        exact upon_run h' hK
    · exact upon_run h hK
  case binOp op t x y yt =>
    split at h
    · rename_i p hx hy
      split at h
      · rename_i e ht
        have hp : P.underlying t = some (.pointer (P.pointee t)) := by simp [Program.pointee, ht]
        simp only [execOp, hx, hy, eqGuard_at_pointer, pure_bind, Sem.run_bind, run_eql_pointer_nil w t p hp, Result.andThen_ok, Sem.run_pure]
        exact hK _ _ h
      · exact h.elim
    · rename_i p hx hy
      split at h
      · rename_i e ht
        have hp : P.underlying t = some (.pointer (P.pointee t)) := by simp [Program.pointee, ht]
        simp only [execOp, hx, hy, eqGuard_at_pointer, pure_bind, Sem.run_bind, run_neq_pointer_nil w t p hp, Result.andThen_ok, Sem.run_pure]
        exact hK _ _ h
      · exact h.elim
    · rename_i k a' yk b hx hy
      have hr : (do eqGuard .shl t x y (ev f x) (ev f y); binOp .shl t (ev f x) (ev f y) : Sem Value).run P w = .ok (.int k (shlV k a' b)) w := by
        rw [hx, hy, eqGuard_at_int, binOp_shl]
        simp only [pure_bind, Op.shift, show ¬ b < 0 from by omega, if_false, Sem.run_pure, shlV]
      exact upon_val hr h.2 hK
    · rename_i k a' yk b hx hy
      have hr : (do eqGuard .shr t x y (ev f x) (ev f y); binOp .shr t (ev f x) (ev f y) : Sem Value).run P w = .ok (.int k (shrV k a' b)) w := by
        rw [hx, hy, eqGuard_at_int, binOp_shr]
        simp only [pure_bind, Op.shift, show ¬ b < 0 from by omega, if_false, Sem.run_pure, shrV]
      exact upon_val hr h.2 hK
    · rename_i k a' k' b hx hy
      by_cases hk : k = k'
      · subst hk
        simp only [decide_true, cond_true] at h
        have hr : (do eqGuard .quo t x y (ev f x) (ev f y); binOp .quo t (ev f x) (ev f y) : Sem Value).run P w = .ok (.int k (k.wrap (a'.tdiv b))) w := by
          rw [hx, hy, eqGuard_at_int, binOp_quo]
          simp only [pure_bind, Op.intDiv, h.1, if_false, Sem.run_pure]
        exact upon_val hr h.2 hK
      · simp only [hk, decide_false, cond_false] at h
    · rename_i k a' k' b hx hy
      by_cases hk : k = k'
      · subst hk
        simp only [decide_true, cond_true] at h
        have hr : (do eqGuard .rem t x y (ev f x) (ev f y); binOp .rem t (ev f x) (ev f y) : Sem Value).run P w = .ok (.int k (a'.tmod b)) w := by
          rw [hx, hy, eqGuard_at_int, binOp_rem]
          simp only [pure_bind, Op.intDiv, h.1, if_false, Sem.run_pure]
        exact upon_val hr h.2 hK
      · simp only [hk, decide_false, cond_false] at h
    · rename_i k a' k' b hx hy
      by_cases hk : k = k'
      · subst hk
        simp only [decide_true, cond_true] at h
        simp only [execOp, hx, hy, eqGuard_at_int, binOp_and, intBits_and, pure_bind, Sem.run_pure]
        exact hK _ _ h
      · simp only [hk, decide_false, cond_false] at h
    · rename_i k a' k' b hx hy
      by_cases hk : k = k'
      · subst hk
        simp only [decide_true, cond_true] at h
        simp only [execOp, hx, hy, eqGuard_at_int, binOp_or, intBits_or, pure_bind, Sem.run_pure]
        exact hK _ _ h
      · simp only [hk, decide_false, cond_false] at h
    · rename_i k a' k' b hx hy
      by_cases hk : k = k'
      · subst hk
        simp only [decide_true, cond_true] at h
        simp only [execOp, hx, hy, eqGuard_at_int, binOp_xor, intBits_xor, pure_bind, Sem.run_pure]
        exact hK _ _ h
      · simp only [hk, decide_false, cond_false] at h
    · rename_i k a' k' b hx hy
      by_cases hk : k = k'
      · subst hk
        simp only [decide_true, cond_true] at h
        simp only [execOp, hx, hy, eqGuard_at_int, binOp_andNot, intBits_andNot, pure_bind, Sem.run_pure]
        exact hK _ _ h
      · simp only [hk, decide_false, cond_false] at h
    · rename_i a' b hx hy
      simp only [execOp, hx, hy, eqGuard_at_string, pure_bind, binOp, Op.stringOp, Sem.run_pure, str_eq]
      exact hK _ _ h
    · rename_i a' b hx hy
      simp only [execOp, hx, hy, eqGuard_at_string, pure_bind, binOp, Op.stringOp, Sem.run_pure, str_eq]
      exact hK _ _ h
    · rename_i xs ys hx hy
      cases hg : P.eqGuardType P.depth t with
      | true => rw [hg] at h; exact h.elim
      | false =>
        rw [hg] at h
        obtain ⟨q, w', hr, hk⟩ := h
        have hr' : (do eqGuard .eql t x y (ev f x) (ev f y); binOp .eql t (ev f x) (ev f y) : Sem Value).run P w = .ok (.bool q) w' := by
          rw [hx, hy, Sem.run_bind, run_eqGuard_agg w .eql t x y xs ys hg]; exact hr
        exact upon_val hr' hk hK
    · rename_i xs ys hx hy
      cases hg : P.eqGuardType P.depth t with
      | true => rw [hg] at h; exact h.elim
      | false =>
        rw [hg] at h
        obtain ⟨q, w', hr, hk⟩ := h
        have hr' : (do eqGuard .neq t x y (ev f x) (ev f y); binOp .neq t (ev f x) (ev f y) : Sem Value).run P w = .ok (.bool q) w' := by
          rw [hx, hy, Sem.run_bind, run_eqGuard_agg w .neq t x y xs ys hg]; exact hr
        exact upon_val hr' hk hK
    · rename_i a' b hx hy
      have h0 : ¬ (((a'.size + b.size : Nat) : Int) > IntKind.i64.max) := by rw [IntKind.max_i64]; omega
      simp only [execOp, hx, hy, eqGuard_at_string, pure_bind, binOp, Op.stringOp, h0, if_false, Sem.run_pure]
      exact hK _ _ h.2
    · exact upon_got h hK
  case call c =>
    obtain ⟨callee, args, argTypes⟩ := c
    cases callee with
    | invoke r m => exact h.elim
    | value g =>
      simp only at h
      split at h
      · rename_i g' first captured hg
        cases hc : callOk P g' with
        | false => rw [hc] at h; exact h.elim
        | true =>
          rw [hc] at h
          simp only [cond_true] at h
          have hr : (execOp (ev f) ⟨dst, .call ⟨.value g, args, argTypes⟩, ty, pos, after, guard⟩).run P w = .ok (.enter g' (first ++ args.map (ev f) ++ captured)) w := by
            simp only [execOp, resolve, Deferred.ofValue, hg, pure_bind, invoke]
            exact run_callFunc hc _
          rw [hr, Oper.upon_enter]
          refine h.h.mono fun e w' hr => ?_
          cases e with
          | returned v =>
            obtain ⟨u, rfl, hk⟩ := exV_of (show exV (zeroOf P ty) (fun u => v = u ∧ K u w') from hr)
            exact hK _ _ hk
          | panicked ch => exact hr.elim
          | outgrown => exact hr.elim
      · exact h.elim
    | builtin b =>
      cases b <;> simp only [] at h
      case append => exact upon_run h hK
      case copy => exact upon_run h hK
      case clear => exact upon_run h hK
      case delete => exact upon_run h hK
      case min => exact upon_run h hK
      case max => exact upon_run h hK
      case len =>
        split at h
        · rename_i base n c' hl
          split at h
          · rename_i e hty
            obtain ⟨x, rfl⟩ := one_of_map hl
            obtain ⟨t, rfl⟩ := one_of_map hty
            have hx : ev f x = .slice base n c' := by simpa using hl
            have ht : P.underlying t = some (.slice e) := by simpa using hty
            have hr : (Builtin.len_ #[t] ty (#[x].map (ev f))).run P w = .ok (.int .i64 (n : Int)) w := by
              simp only [List.map_toArray, List.map_cons, List.map_nil, hx]
              have hp : P.elem t = e := by simp [Program.elem, ht]
              rw [run_len_slice w t ty base n c' (by rw [hp]; exact ht)]
              rfl
            exact upon_val hr h hK
          · exact h.elim
        · rename_i s hl
          split at h
          · rename_i hty
            obtain ⟨x, rfl⟩ := one_of_map hl
            obtain ⟨t, rfl⟩ := one_of_map hty
            have hx : ev f x = .string s := by simpa using hl
            have ht : P.underlying t = some .string := by simpa using hty
            have hr : (Builtin.len_ #[t] ty (#[x].map (ev f))).run P w = .ok (.int .i64 (s.size : Int)) w := by
              simp only [List.map_toArray, List.map_cons, List.map_nil, hx]
              rw [run_len_string w t ty s ht]
              rfl
            exact upon_val hr h hK
          · exact h.elim
        · exact upon_run h hK
  all_goals exact upon_got h hK


/-! ### lists of operations -/

def opsE (P : Program) (all : List Oper) (next : Fr → World → Prop) : List Oper → Fr → World → Prop
  | [], f, w => next f w
  | o :: rest, f, w =>
    match o.guard with
    | none => opE P o f w fun v w' => opsE P all next rest (put f o.dst v) w'
    | some (j, want) =>
      match (all[j]?).bind (·.dst) with
      | none => opsE P all next rest (put f o.dst undef) w
      | some d =>
        match f d with
        | .bool q =>
          match want with
          | true => ifB q (opE P o (put f (some d) (.bool true)) w fun v w' => opsE P all next rest (put (put f (some d) (.bool true)) o.dst v) w')
              (opsE P all next rest (put (put f (some d) (.bool false)) o.dst undef) w)
          | false => ifB q (opsE P all next rest (put (put f (some d) (.bool true)) o.dst undef) w)
              (opE P o (put f (some d) (.bool false)) w fun v w' => opsE P all next rest (put (put f (some d) (.bool false)) o.dst v) w')
        | _ => opsE P all next rest (put f o.dst undef) w

def Pres (M : Nat → Bool) (f f' : Fr) : Prop := ∀ t, M t = false → f' t = f t

theorem Pres.refl (M : Nat → Bool) (f : Fr) : Pres M f f := fun _ _ => rfl
theorem Pres.trans {M : Nat → Bool} {f g h : Fr} (a : Pres M f g) (b : Pres M g h) : Pres M f h := fun t ht => (b t ht).trans (a t ht)

def dstOk (M : Nat → Bool) (N : Nat) (o : Oper) : Bool := match o.dst with | some d => M d && Nat.blt d N | none => true

theorem beq_self (d : Nat) : Nat.beq d d = true := by simp
theorem beq_ne {t d : Nat} (h : t ≠ d) : Nat.beq t d = false := by
  cases hq : Nat.beq t d with
  | false => rfl
  | true => exact absurd (Nat.eq_of_beq_eq_true hq) h

theorem Pres.put {M : Nat → Bool} {N : Nat} {f f' : Fr} (h : Pres M f f') {o : Oper} (ho : dstOk M N o = true) (v : Value) : Pres M f (put f' o.dst v) := by
  intro t ht
  unfold dstOk at ho
  cases hd : o.dst with
  | none => exact h t ht
  | some d =>
    rw [hd] at ho
    simp only [Bool.and_eq_true] at ho
    have hne : t ≠ d := fun e => by subst e; rw [ho.1] at ht; cases ht
    simp only [Go.Proofs.Ytlfmkdndioegmaa.put, beq_ne hne, cond_false]
    exact h t ht

theorem dst_lt {M : Nat → Bool} {N : Nat} {o : Oper} (ho : dstOk M N o = true) : ∀ k, o.dst = some k → k < N := by
  intro k hk
  unfold dstOk at ho
  rw [hk] at ho
  simp only [Bool.and_eq_true] at ho
  exact Nat.le_of_ble_eq_true ho.2

theorem put_same {f : Fr} {d : Nat} {v : Value} (h : f d = v) : put f (some d) v = f := by
  funext t
  by_cases e : t = d
  · subst e; simp [put, h]
  · simp [put, beq_ne e]

theorem FR.at? {N : Nat} {a : Act} {f : Fr} (h : FR N a f) {d : Nat} {q : Bool} (hd : f d = .bool q) : a.tmps[d]? = some (.bool q) := by
  have hg := h.get d
  rw [hd] at hg
  by_cases hlt : d < a.tmps.size
  · simp [Array.getD, hlt] at hg; simp [hlt, hg]
  · simp [Array.getD, hlt, undef] at hg

theorem FR.at?' {N : Nat} {a : Act} {f : Fr} (h : FR N a f) (d : Nat) : a.tmps[d]? = some (f d) ∨ a.tmps[d]? = none := by
  have hg := h.get d
  by_cases hlt : d < a.tmps.size
  · left; simp [Array.getD, hlt] at hg; simp [hlt, hg]
  · right; simp [Nat.le_of_not_lt hlt]

def boolOf (v : Option Value) : Option Bool := match v with | some (.bool b) => some b | _ => none

theorem yielded_none {all : List Oper} {tmps : Array Value} {j : Nat} (h : (all[j]?).bind (·.dst) = none) : yielded all.toArray tmps j = none := by
  simp only [yielded, List.getElem?_toArray]
  rw [h]
  rfl

theorem yielded_some {all : List Oper} {tmps : Array Value} {j d : Nat} (h : (all[j]?).bind (·.dst) = some d) : yielded all.toArray tmps j = boolOf (tmps[d]?) := by
  simp only [yielded, List.getElem?_toArray]
  rw [h]
  rfl

theorem opsE_sound {P : Program} {all : List Oper} {next : Fr → World → Prop} {N : Nat} {M : Nat → Bool} {Q : Exit → Act → World → Prop} {f0 : Fr}
    (hQ : ∀ a' f' w', FR N a' f' → Pres M f0 f' → next f' w' → Q .normal a' w') :
    ∀ (ops : List Oper) (f : Fr) (w : World) (a : Act), (∀ o ∈ ops, dstOk M N o = true) → FR N a f → Pres M f0 f → opsE P all next ops f w → wpList P all.toArray Q ops a w
  | [], f, w, a, _, hF, hP, h => hQ a f w hF hP h
  | o :: rest, f, w, a, hin, hF, hP, h => by
    have ho := hin o (by simp)
    have hrest : ∀ o ∈ rest, dstOk M N o = true := fun x hx => hin x (by simp [hx])
    have run : ∀ (f : Fr), FR N a f → Pres M f0 f → (opE P o f w fun v w' => opsE P all next rest (put f o.dst v) w') → o.wp P a w (wpList P all.toArray Q rest) Q := by
      intro f hF hP h
      exact opE_sound hF h fun v w' hk => opsE_sound hQ rest _ _ _ hrest (hF.put _ _ (dst_lt ho)) (hP.put ho v) hk
    have skip : ∀ (f : Fr), FR N a f → Pres M f0 f → opsE P all next rest (put f o.dst undef) w → wpList P all.toArray Q rest (a.put o.dst undef) w :=
      fun f hF hP h => opsE_sound hQ rest _ _ _ hrest (hF.put _ _ (dst_lt ho)) (hP.put ho _) h
    unfold wpList
    unfold opsE at h
    split at h
    · rename_i hg
      rw [if_pos (by simp [Region.wanted, hg])]
      exact .inl (run f hF hP h)
    · rename_i j want hg
      have hy : Region.wanted o (yielded all.toArray a.tmps) = (yielded all.toArray a.tmps j == some want) := by
        simp only [Region.wanted, hg]
      rw [hy]
      split at h
      · rename_i hd
        rw [yielded_none hd]
        exact skip f hF hP h
      · rename_i d hd
        rw [yielded_some hd]
        split at h
        · rename_i q hq
          rw [hF.at? hq]
          cases want <;> cases q <;> simp only [ifB] at h <;> rw [put_same hq] at h
          · exact .inl (run f hF hP h)
          · exact skip f hF hP h
          · exact skip f hF hP h
          · exact .inl (run f hF hP h)
        · rename_i hq
          rcases hF.at?' d with e | e
          · rw [e]
            have : boolOf (some (f d)) = none := by
              unfold boolOf
              split
              · rename_i b hb; exact (hq b (by simpa using hb)).elim
              · rfl
            rw [this]
            exact skip f hF hP h
          · rw [e]
            exact skip f hF hP h

/-! ### code -/

structure Ks where
  next : Fr → World → Prop
  ret : Fr → World → Prop
  exit : Nat → Fr → World → Prop
  goto : Nat → Fr → World → Prop

def Ks.of (K : Ks) : Exit → Fr → World → Prop
  | .normal => K.next
  | .ret => K.ret
  | .exit i => K.exit i
  | .goto l => K.goto l
  | _ => fun _ _ => False

structure LI where
  live : List (Nat × Value)
  junk : List Nat

def LI.has (li : LI) (t : Nat) : Bool := li.live.any (fun p => Nat.beq t p.1) || li.junk.any (Nat.beq t)

structure Ann where
  loop : Nat → LI
  lab : Nat → Option LI
  cut : Nat → Option LI

def PredTy : List (Nat × Value) → Type
  | [] => World → Prop
  | (_, .int _ _) :: r => Int → PredTy r
  | (_, .bool _) :: r => Bool → PredTy r
  | (_, .string _) :: r => ByteArray → PredTy r
  | (_, .pointer _) :: r => Option Addr → PredTy r
  | (_, .slice _ _ _) :: r => Option Addr → Nat → Nat → PredTy r
  | (_, .map _) :: r => Option Nat → PredTy r
  | (_, .float _ _) :: r => Value → PredTy r
  | (_, .complex _ _ _) :: r => Value → PredTy r
  | (_, .chan _) :: r => Value → PredTy r
  | (_, .func _ _ _) :: r => Value → PredTy r
  | (_, .nilFunc) :: r => Value → PredTy r
  | (_, .iface _ _) :: r => Value → PredTy r
  | (_, .nilIface) :: r => Value → PredTy r
  | (_, .agg _) :: r => Value → PredTy r
  | (_, .tuple _) :: r => Value → PredTy r

def applyI : (L : List (Nat × Value)) → PredTy L → Fr → World → Prop
  | [], I, _, w => I w
  | (t, .int k _) :: r, I, f, w => match f t with | .int k' n => cond (decide (k' = k)) (applyI r (I n) f w) False | _ => False
  | (t, .bool _) :: r, I, f, w => match f t with | .bool n => applyI r (I n) f w | _ => False
  | (t, .string _) :: r, I, f, w => match f t with | .string n => applyI r (I n) f w | _ => False
  | (t, .pointer _) :: r, I, f, w => match f t with | .pointer n => applyI r (I n) f w | _ => False
  | (t, .slice _ _ _) :: r, I, f, w => match f t with | .slice a l c => applyI r (I a l c) f w | _ => False
  | (t, .map _) :: r, I, f, w => match f t with | .map n => applyI r (I n) f w | _ => False
  | (t, .float _ _) :: r, I, f, w => applyI r (I (f t)) f w
  | (t, .complex _ _ _) :: r, I, f, w => applyI r (I (f t)) f w
  | (t, .chan _) :: r, I, f, w => applyI r (I (f t)) f w
  | (t, .func _ _ _) :: r, I, f, w => applyI r (I (f t)) f w
  | (t, .nilFunc) :: r, I, f, w => applyI r (I (f t)) f w
  | (t, .iface _ _) :: r, I, f, w => applyI r (I (f t)) f w
  | (t, .nilIface) :: r, I, f, w => applyI r (I (f t)) f w
  | (t, .agg _) :: r, I, f, w => applyI r (I (f t)) f w
  | (t, .tuple _) :: r, I, f, w => applyI r (I (f t)) f w

def roundI : (L : List (Nat × Value)) → PredTy L → Fr → (Fr → (World → Prop) → Prop) → Prop
  | [], I, f, K => K f I
  | (t, .int k _) :: r, I, f, K => ∀ x : Int, roundI r (I x) (put f (some t) (.int k x)) K
  | (t, .bool _) :: r, I, f, K => ∀ x : Bool, roundI r (I x) (put f (some t) (.bool x)) K
  | (t, .string _) :: r, I, f, K => ∀ x : ByteArray, roundI r (I x) (put f (some t) (.string x)) K
  | (t, .pointer _) :: r, I, f, K => ∀ x : Option Addr, roundI r (I x) (put f (some t) (.pointer x)) K
  | (t, .slice _ _ _) :: r, I, f, K => ∀ (x : Option Addr) (l c : Nat), roundI r (I x l c) (put f (some t) (.slice x l c)) K
  | (t, .map _) :: r, I, f, K => ∀ x : Option Nat, roundI r (I x) (put f (some t) (.map x)) K
  | (t, .float _ _) :: r, I, f, K => ∀ x : Value, roundI r (I x) (put f (some t) x) K
  | (t, .complex _ _ _) :: r, I, f, K => ∀ x : Value, roundI r (I x) (put f (some t) x) K
  | (t, .chan _) :: r, I, f, K => ∀ x : Value, roundI r (I x) (put f (some t) x) K
  | (t, .func _ _ _) :: r, I, f, K => ∀ x : Value, roundI r (I x) (put f (some t) x) K
  | (t, .nilFunc) :: r, I, f, K => ∀ x : Value, roundI r (I x) (put f (some t) x) K
  | (t, .iface _ _) :: r, I, f, K => ∀ x : Value, roundI r (I x) (put f (some t) x) K
  | (t, .nilIface) :: r, I, f, K => ∀ x : Value, roundI r (I x) (put f (some t) x) K
  | (t, .agg _) :: r, I, f, K => ∀ x : Value, roundI r (I x) (put f (some t) x) K
  | (t, .tuple _) :: r, I, f, K => ∀ x : Value, roundI r (I x) (put f (some t) x) K

theorem roundI_of : ∀ (L : List (Nat × Value)) (I : PredTy L) (f g : Fr) (w : World) (K : Fr → (World → Prop) → Prop), applyI L I f w → roundI L I g K →
    (∀ t, L.any (fun p => Nat.beq t p.1) = false → g t = f t) → ∃ Iw : World → Prop, Iw w ∧ K f Iw
  | [], I, f, g, w, K, ha, hr, hg => by
    have : g = f := funext fun t => hg t rfl
    subst this
    exact ⟨I, ha, hr⟩
  | (t, z) :: r, I, f, g, w, K, ha, hr, hg => by
    have step : ∀ v, f t = v → ∀ t', r.any (fun p => Nat.beq t' p.1) = false → put g (some t) v t' = f t' := by
      intro v hv t' ht'
      by_cases e : t' = t
      · subst e; simp [put, hv]
      · simp only [put, beq_ne e, cond_false]
        exact hg t' (by simp only [List.any_cons, beq_ne e, Bool.false_or]; exact ht')
    cases z <;> simp only [applyI] at ha <;> simp only [roundI] at hr
    case int k n =>
      split at ha
      · rename_i k' m hf
        by_cases hk : k' = k
        · subst hk
          simp only [decide_true, cond_true] at ha
          exact roundI_of r _ f _ w K ha (hr m) (step _ hf)
        · simp only [hk, decide_false, cond_false] at ha
      · exact ha.elim
    case bool =>
      split at ha
      · rename_i m hf; exact roundI_of r _ f _ w K ha (hr m) (step _ hf)
      · exact ha.elim
    case string =>
      split at ha
      · rename_i m hf; exact roundI_of r _ f _ w K ha (hr m) (step _ hf)
      · exact ha.elim
    case pointer =>
      split at ha
      · rename_i m hf; exact roundI_of r _ f _ w K ha (hr m) (step _ hf)
      · exact ha.elim
    case slice =>
      split at ha
      · rename_i m l c hf; exact roundI_of r _ f _ w K ha (hr m l c) (step _ hf)
      · exact ha.elim
    case map =>
      split at ha
      · rename_i m hf; exact roundI_of r _ f _ w K ha (hr m) (step _ hf)
      · exact ha.elim
    all_goals exact roundI_of r _ f _ w K ha (hr (f t)) (step _ rfl)

def junked (J : List Nat) (jv : Nat → Value) (f : Fr) : Fr := fun t => cond (J.any (Nat.beq t)) (jv t) (f t)

def LoopE (li : LI) (B : (Fr → World → Prop) → Fr → World → Prop) (f : Fr) (w : World) : Prop :=
  ∃ I : Nat → PredTy li.live, (∃ n, applyI li.live (I n) f w) ∧
    ∀ (n : Nat) (jv : Nat → Value), roundI li.live (I n) (junked li.junk jv f) fun f' Iw => ∀ w', Iw w' → B (fun f'' w'' => ∃ m, m < n ∧ applyI li.live (I m) f'' w'') f' w'

/-- Ways that meet again: what holds where they meet. -/
def CutE (li : LI) (X : (Fr → World → Prop) → Prop) (Y : Fr → World → Prop) (f : Fr) : Prop :=
  ∃ J : PredTy li.live, X (fun f' w' => applyI li.live J f' w') ∧
    ∀ jv : Nat → Value, roundI li.live J (junked li.junk jv f) fun f' Jw => ∀ w', Jw w' → Y f' w'

def writesOk (M : Nat → Bool) (N : Nat) : Code → Bool
  | .region _ ops _ => ops.toList.all (dstOk M N)
  | .seq a b => writesOk M N a && writesOk M N b
  | .cond _ a b => writesOk M N a && writesOk M N b
  | .block _ c => writesOk M N c
  | .loop c => writesOk M N c
  | .scope c => writesOk M N c
  | .rangeFunc .. => false
  | _ => true

def reg1 : Code → Option Nat
  | .region id _ _ => some id
  | .seq a b => match reg1 a with | some i => some i | none => reg1 b
  | .cond _ a b => match reg1 a with | some i => some i | none => reg1 b
  | .block _ c => reg1 c
  | .loop c => reg1 c
  | .scope c => reg1 c
  | _ => none

def gotoE (W : Code → Ks → Fr → World → Prop) (A : Ann) (N : Nat) (c : Code) (K : Ks) : Nat → Nat → Fr → World → Prop
  | 0, _, _, _ => False
  | m + 1, l, f, w =>
    match findLabel c l with
    | none => K.goto l f w
    | some rest =>
      match A.lab l with
      | none => W rest ⟨K.next, K.ret, K.exit, gotoE W A N c K m⟩ f w
      | some li => cond (writesOk li.has N rest)
          (LoopE li (fun next f w => W rest ⟨K.next, K.ret, K.exit, fun l' f' w' => cond (Nat.beq l' l) (next f' w') (gotoE W A N c K m l' f' w')⟩ f w) f w) False

def drawE (P : Program) (ops : List Oper) (next : Fr → World → Prop) (f : Fr) (w : World) : Prop := False

def wpE (P : Program) (A : Ann) (N : Nat) : Nat → Code → Ks → Fr → World → Prop
  | 0, _, _, _, _ => False
  | n + 1, c, K, f, w =>
    match c with
    | .skip => K.next f w
    | .label _ => K.next f w
    | .ret => K.ret f w
    | .exit i => K.exit i f w
    | .goto l => K.goto l f w
    | .seq x y => match (match reg1 y with | some i => A.cut i | none => none) with
      | none => wpE P A N n x ⟨fun f w => wpE P A N n y K f w, K.ret, K.exit, K.goto⟩ f w
      | some li => cond (writesOk li.has N x) (CutE li (fun nx => wpE P A N n x ⟨nx, K.ret, K.exit, K.goto⟩ f w) (fun f w => wpE P A N n y K f w) f) False
    | .cond c x y => match ev f c with | .bool q => ifB q (wpE P A N n x K f w) (wpE P A N n y K f w) | _ => False
    | .block i c => wpE P A N n c ⟨K.next, K.ret, fun j f w => cond (Nat.beq j i) (K.next f w) (K.exit j f w), K.goto⟩ f w
    | .loop c => match reg1 c with
      | some id => cond (writesOk (A.loop id).has N c) (LoopE (A.loop id) (fun next f w => wpE P A N n c ⟨next, K.ret, K.exit, K.goto⟩ f w) f w) False
      | none => False
    | .scope c => wpE P A N n c ⟨K.next, K.ret, K.exit, gotoE (wpE P A N n) A N c K 6⟩ f w
    | .region _ ops false => opsE P ops.toList K.next ops.toList f w
    | .region _ ops true => drawE P ops.toList K.next f w
    | .rangeFunc .. => False
    | .refuse _ => False

/-! ### soundness of code -/

section
variable {P : Program} {Q : Exit → Act → World → Prop} {a : Act} {w : World}

theorem wp_loop_n {c : Code} (J : Nat → Act → World → Prop) (h0 : ∃ n, J n a w)
    (round : ∀ n a w, J n a w → c.wp P (Exit.then (fun a' w' => ∃ m, m < n ∧ J m a' w') Q) a w) : (Code.loop c).wp P Q a w := by
  intro b k cs
  have key : ∀ n a w, J n a w → ∃ e a' w', Q e a' w' ∧ Arrives P (lone (b.at a (.code c :: .inLoop c :: k)) cs w) b k cs e a' w' := by
    intro n
    induction n using Nat.strongRecOn with
    | _ n ih =>
      intro a w hJ
      obtain ⟨e, a₁, w₁, hq, harr⟩ := round n a w hJ b (.inLoop c :: k) cs
      cases e with
      | normal =>
        obtain ⟨m, hlt, hJ₁⟩ := hq
        obtain ⟨e₂, a₂, w₂, hq₂, harr₂⟩ := ih m hlt a₁ w₁ hJ₁
        exact ⟨e₂, a₂, w₂, hq₂, .of_steps (Steps.trans harr (.one step_inLoop)) harr₂⟩
      | exit id => exact ⟨_, a₁, w₁, hq, .pass (x := .inLoop c) rfl (fun _ _ => .inl (by simp)) harr⟩
      | goto l => exact ⟨_, a₁, w₁, hq, .pass (x := .inLoop c) rfl (fun _ _ => .inl (by simp)) harr⟩
      | ret => exact ⟨_, a₁, w₁, hq, .pass (x := .inLoop c) rfl (fun _ _ => .inl (by simp)) harr⟩
      | panic ch => exact ⟨_, a₁, w₁, hq, .pass (x := .inLoop c) rfl (fun _ _ => .inl (by simp)) harr⟩
      | outgrown => exact ⟨_, a₁, w₁, hq, .pass (x := .inLoop c) rfl (fun _ _ => .inl (by simp)) harr⟩
  obtain ⟨n, hn⟩ := h0
  obtain ⟨e, a', w', hq, harr⟩ := key n a w hn
  exact ⟨e, a', w', hq, .of_steps (.one step_loop) harr⟩

/-- From 'code' on, inside the scope of c. -/
def From (P : Program) (code c : Code) (Q : Exit → Act → World → Prop) (a : Act) (w : World) : Prop :=
  ∀ (b : Frame) (k : List Item) (cs : List Frame), ∃ e a' w', Q e a' w' ∧ Arrives P (lone (b.at a (.code code :: .inScope c :: k)) cs w) b k cs e a' w'

def afterE (P : Program) (c : Code) (Q : Exit → Act → World → Prop) (e : Exit) (a : Act) (w : World) : Prop :=
  match e with
  | .goto l => (match findLabel c l with | some rest => From P rest c Q a w | none => Q (.goto l) a w)
  | e => Q e a w

theorem from_of_wp {code c : Code} {Qj : Exit → Act → World → Prop} (h : code.wp P Qj a w) (hq : ∀ e a' w', Qj e a' w' → afterE P c Q e a' w') : From P code c Q a w := by
  intro b k cs
  obtain ⟨e, a₁, w₁, hj, harr⟩ := h b (.inScope c :: k) cs
  have hx := hq _ _ _ hj
  cases e with
  | normal => exact ⟨.normal, a₁, w₁, hx, Steps.trans harr (.one step_inScope)⟩
  | exit id => exact ⟨.exit id, a₁, w₁, hx, fun k' hk => harr k' (by simp [exitTo, hk])⟩
  | goto l =>
    simp only [afterE] at hx
    split at hx
    · rename_i rest hf
      obtain ⟨e₂, a₂, w₂, hq₂, harr₂⟩ := hx b k cs
      exact ⟨e₂, a₂, w₂, hq₂, .of_steps (harr _ (by simp [gotoIn, hf])) harr₂⟩
    · rename_i hf
      exact ⟨.goto l, a₁, w₁, hx, fun k' hk => harr k' (by simp [gotoIn, hf, hk])⟩
  | ret => exact ⟨_, a₁, w₁, hx, harr⟩
  | panic ch => exact ⟨_, a₁, w₁, hx, harr⟩
  | outgrown => exact ⟨_, a₁, w₁, hx, harr⟩

theorem wp_scope_from {c : Code} (h : From P c c Q a w) : (Code.scope c).wp P Q a w := by
  intro b k cs
  obtain ⟨e, a₁, w₁, hq, harr⟩ := h b k cs
  exact ⟨e, a₁, w₁, hq, .of_steps (.one step_scope) harr⟩
end

theorem writesOk_label {M : Nat → Bool} {N : Nat} : ∀ {c : Code} {l : Nat} {rest : Code}, findLabel c l = some rest → writesOk M N c = true → writesOk M N rest = true
  | .seq x y, l, rest, h, hw => by
    simp only [writesOk, Bool.and_eq_true] at hw
    simp only [findLabel] at h
    split at h
    · rename_i r hr
      simp only [Option.some.injEq] at h
      subst h
      simp only [writesOk, Bool.and_eq_true]
      exact ⟨writesOk_label hr hw.1, hw.2⟩
    · exact writesOk_label h hw.2
  | .label l', l, rest, h, _ => by
    simp only [findLabel] at h
    split at h
    · simp only [Option.some.injEq] at h; subst h; rfl
    · cases h
  | .skip, _, _, h, _ => by simp [findLabel] at h
  | .region .., _, _, h, _ => by simp [findLabel] at h
  | .cond .., _, _, h, _ => by simp [findLabel] at h
  | .block .., _, _, h, _ => by simp [findLabel] at h
  | .loop _, _, _, h, _ => by simp [findLabel] at h
  | .rangeFunc .., _, _, h, _ => by simp [findLabel] at h
  | .exit _, _, _, h, _ => by simp [findLabel] at h
  | .scope _, _, _, h, _ => by simp [findLabel] at h
  | .goto _, _, _, h, _ => by simp [findLabel] at h
  | .ret, _, _, h, _ => by simp [findLabel] at h
  | .refuse _, _, _, h, _ => by simp [findLabel] at h

theorem writesOk_and {M M' : Nat → Bool} {N : Nat} : ∀ {c : Code}, writesOk M N c = true → writesOk M' N c = true → writesOk (fun t => M t && M' t) N c = true
  | .region _ ops _, h, h' => by
    simp only [writesOk, List.all_eq_true] at *
    intro o ho
    have h1 := h o ho
    have h2 := h' o ho
    unfold dstOk at *
    cases hd : o.dst with
    | none => rfl
    | some d =>
      rw [hd] at h1 h2
      simp only [Bool.and_eq_true] at h1 h2 ⊢
      exact ⟨⟨h1.1, h2.1⟩, h1.2⟩
  | .seq x y, h, h' => by
    simp only [writesOk, Bool.and_eq_true] at *
    exact ⟨writesOk_and h.1 h'.1, writesOk_and h.2 h'.2⟩
  | .cond _ x y, h, h' => by
    simp only [writesOk, Bool.and_eq_true] at *
    exact ⟨writesOk_and h.1 h'.1, writesOk_and h.2 h'.2⟩
  | .block _ c, h, h' => by simp only [writesOk] at *; exact writesOk_and h h'
  | .loop c, h, h' => by simp only [writesOk] at *; exact writesOk_and h h'
  | .scope c, h, h' => by simp only [writesOk] at *; exact writesOk_and h h'
  | .rangeFunc .., h, _ => by simp [writesOk] at h
  | .skip, _, _ => rfl
  | .exit _, _, _ => rfl
  | .label _, _, _ => rfl
  | .goto _, _, _ => rfl
  | .ret, _, _ => rfl
  | .refuse _, _, _ => rfl

def QK (N : Nat) (M : Nat → Bool) (f0 : Fr) (K : Ks) : Exit → Act → World → Prop :=
  fun e a' w' => ∃ f', FR N a' f' ∧ Pres M f0 f' ∧ K.of e f' w'

def Sound (P : Program) (N : Nat) (W : Code → Ks → Fr → World → Prop) : Prop :=
  ∀ (c : Code) (K : Ks) (f : Fr) (w : World) (a : Act) (M : Nat → Bool), writesOk M N c = true → FR N a f → W c K f w → c.wp P (QK N M f K) a w

theorem Pres.and {M M' : Nat → Bool} {f f' : Fr} (h : Pres (fun t => M t && M' t) f f') : Pres M f f' := fun t ht => h t (by simp [ht])

/-- What a loop's relation gives at a round's head. -/
theorem LoopE.elim {li : LI} {B : (Fr → World → Prop) → Fr → World → Prop} {f : Fr} {w : World} (h : LoopE li B f w) :
    ∃ I : Nat → PredTy li.live, (∃ n, applyI li.live (I n) f w) ∧
      ∀ n f' w' (M : Nat → Bool), Pres (fun t => M t && li.has t) f f' → applyI li.live (I n) f' w' → B (fun f'' w'' => ∃ m, m < n ∧ applyI li.live (I m) f'' w'') f' w' := by
  obtain ⟨I, h0, hr⟩ := h
  refine ⟨I, h0, fun n f' w' M hP ha => ?_⟩
  obtain ⟨Iw, hIw, hk⟩ := roundI_of li.live (I n) f' (junked li.junk f' f) w' _ ha (hr n f') (by
    intro t ht
    unfold junked
    cases hj : li.junk.any (Nat.beq t) with
    | true => rfl
    | false => exact (hP t (by simp only [LI.has, ht, hj, Bool.or_self, Bool.and_false])).symm)
  exact hk w' hIw

theorem CutE.elim {li : LI} {X : (Fr → World → Prop) → Prop} {Y : Fr → World → Prop} {f : Fr} (h : CutE li X Y f) :
    ∃ J : PredTy li.live, X (fun f' w' => applyI li.live J f' w') ∧
      ∀ f' w' (M : Nat → Bool), Pres (fun t => M t && li.has t) f f' → applyI li.live J f' w' → Y f' w' := by
  obtain ⟨J, h0, hr⟩ := h
  refine ⟨J, h0, fun f' w' M hP ha => ?_⟩
  obtain ⟨Iw, hIw, hk⟩ := roundI_of li.live J f' (junked li.junk f' f) w' _ ha (hr f') (by
    intro t ht
    unfold junked
    cases hj : li.junk.any (Nat.beq t) with
    | true => rfl
    | false => exact (hP t (by simp only [LI.has, ht, hj, Bool.or_self, Bool.and_false])).symm)
  exact hk w' hIw

theorem gotoE_sound {P : Program} {A : Ann} {N : Nat} {W : Code → Ks → Fr → World → Prop} (hW : Sound P N W) {c : Code} {K : Ks} {M : Nat → Bool} (hc : writesOk M N c = true) {f0 : Fr} :
    ∀ (m l : Nat) (f : Fr) (w : World) (a : Act), FR N a f → Pres M f0 f → gotoE W A N c K m l f w → afterE P c (QK N M f0 K) (.goto l) a w
  | 0, _, _, _, _, _, _, h => h.elim
  | m + 1, l, f, w, a, hF, hP, h => by
    simp only [afterE]
    unfold gotoE at h
    split at h
    · rename_i hf
      rw [hf]
      exact ⟨f, hF, hP, h⟩
    · rename_i rest hf
      rw [hf]
      have hwr := writesOk_label hf hc
      simp only at h ⊢
      split at h
      · refine from_of_wp (hW rest _ f w a M hwr hF h) ?_
        rintro e a' w' ⟨f', hF', hP', hk⟩
        cases e with
        | goto l' => exact gotoE_sound hW hc m l' f' w' a' hF' (hP.trans hP') hk
        | normal => exact ⟨f', hF', hP.trans hP', hk⟩
        | ret => exact ⟨f', hF', hP.trans hP', hk⟩
        | exit i => exact ⟨f', hF', hP.trans hP', hk⟩
        | panic ch => exact hk.elim
        | outgrown => exact hk.elim
      · rename_i li hl
        cases hwo : writesOk li.has N rest with
        | false => rw [hwo] at h; exact h.elim
        | true =>
          rw [hwo] at h
          simp only [cond_true] at h
          obtain ⟨I, ⟨n0, h0⟩, hr⟩ := LoopE.elim h
          have key : ∀ n a' w' f', FR N a' f' → Pres (fun t => M t && li.has t) f f' → applyI li.live (I n) f' w' → From P rest c (QK N M f0 K) a' w' := by
            intro n
            induction n using Nat.strongRecOn with
            | _ n ih =>
              intro a' w' f' hF' hP' ha
              have hb := hr _ _ _ _ hP' ha
              refine from_of_wp (hW rest _ f' w' a' _ (writesOk_and hwr hwo) hF' hb) ?_
              rintro e a'' w'' ⟨f'', hF'', hP'', hk⟩
              have hP3 : Pres M f0 f'' := hP.trans (Pres.and (hP'.trans hP''))
              cases e with
              | goto l' =>
                simp only [Ks.of] at hk
                cases hl' : Nat.beq l' l with
                | true =>
                  rw [hl'] at hk
                  have := Nat.eq_of_beq_eq_true hl'
                  subst this
                  simp only [afterE, hf]
                  obtain ⟨m', hm', ha'⟩ := hk
                  exact ih m' hm' a'' w'' f'' hF'' (hP'.trans hP'') ha'
                | false =>
                  rw [hl'] at hk
                  exact gotoE_sound hW hc m l' f'' w'' a'' hF'' hP3 hk
              | normal => exact ⟨f'', hF'', hP3, hk⟩
              | ret => exact ⟨f'', hF'', hP3, hk⟩
              | exit i => exact ⟨f'', hF'', hP3, hk⟩
              | panic ch => exact hk.elim
              | outgrown => exact hk.elim
          exact key n0 a w f hF (Pres.refl _ _) h0

theorem drawE_sound {P : Program} {ops : List Oper} {next : Fr → World → Prop} {N : Nat} {M : Nat → Bool} {Q : Exit → Act → World → Prop} {f : Fr} {a : Act} {w : World} {id : Nat}
    (hQ : ∀ a' f' w', FR N a' f' → Pres M f f' → next f' w' → Q .normal a' w') (hin : ∀ o ∈ ops, dstOk M N o = true) (hF : FR N a f) (h : drawE P ops next f w) :
    (Code.region id ops.toArray true).wp P Q a w := h.elim

theorem wpE_sound (P : Program) (A : Ann) (N : Nat) : ∀ n, Sound P N (wpE P A N n)
  | 0 => fun _ _ _ _ _ _ _ _ h => h.elim
  | n + 1 => by
    have ih := wpE_sound P A N n
    intro c K f w a M hM hF h
    unfold wpE at h
    cases c with
    | skip => exact wp_skip ⟨f, hF, Pres.refl _ _, h⟩
    | label l => exact wp_label ⟨f, hF, Pres.refl _ _, h⟩
    | ret => exact wp_ret ⟨f, hF, Pres.refl _ _, h⟩
    | exit i => exact wp_exit ⟨f, hF, Pres.refl _ _, h⟩
    | goto l => exact wp_goto ⟨f, hF, Pres.refl _ _, h⟩
    | seq x y =>
      simp only [writesOk, Bool.and_eq_true] at hM
      simp only at h
      split at h
      · refine wp_seq (Code.wp_mono ?_ (ih x _ f w a M hM.1 hF h))
        rintro e a' w' ⟨f', hF', hP', hk⟩
        cases e with
        | normal =>
          refine Code.wp_mono ?_ (ih y K f' w' a' M hM.2 hF' hk)
          rintro e a'' w'' ⟨f'', hF'', hP'', hk'⟩
          exact ⟨f'', hF'', hP'.trans hP'', hk'⟩
        | ret => exact ⟨f', hF', hP', hk⟩
        | exit i => exact ⟨f', hF', hP', hk⟩
        | goto l => exact ⟨f', hF', hP', hk⟩
        | panic ch => exact hk.elim
        | outgrown => exact hk.elim
      · rename_i li hli
        cases hwo : writesOk li.has N x with
        | false => rw [hwo] at h; exact h.elim
        | true =>
          rw [hwo] at h
          simp only [cond_true] at h
          obtain ⟨J, hX, hY⟩ := CutE.elim h
          refine wp_seq (Code.wp_mono ?_ (ih x _ f w a _ (writesOk_and hM.1 hwo) hF hX))
          rintro e a' w' ⟨f', hF', hP', hk⟩
          cases e with
          | normal =>
            refine Code.wp_mono ?_ (ih y K f' w' a' M hM.2 hF' (hY _ _ _ hP' hk))
            rintro e a'' w'' ⟨f'', hF'', hP'', hk'⟩
            exact ⟨f'', hF'', (Pres.and hP').trans hP'', hk'⟩
          | ret => exact ⟨f', hF', Pres.and hP', hk⟩
          | exit i => exact ⟨f', hF', Pres.and hP', hk⟩
          | goto l => exact ⟨f', hF', Pres.and hP', hk⟩
          | panic ch => exact hk.elim
          | outgrown => exact hk.elim
    | cond o x y =>
      simp only [writesOk, Bool.and_eq_true] at hM
      simp only at h
      split at h
      · rename_i q hq
        have he : a.eval o = .bool q := (hF.eval o).trans hq
        cases q with
        | true => exact wp_cond_true he (ih x K f w a M hM.1 hF h)
        | false => exact wp_cond_false he (ih y K f w a M hM.2 hF h)
      · exact h.elim
    | block i c =>
      refine wp_block (Code.wp_mono ?_ (ih c _ f w a M hM hF h))
      rintro e a' w' ⟨f', hF', hP', hk⟩
      cases e with
      | exit j =>
        simp only [Ks.of] at hk
        simp only [Exit.inBlock]
        by_cases hj : j = i
        · subst hj
          rw [if_pos rfl]
          rw [beq_self] at hk
          exact ⟨f', hF', hP', hk⟩
        · rw [if_neg hj]
          rw [beq_ne hj] at hk
          exact ⟨f', hF', hP', hk⟩
      | normal => exact ⟨f', hF', hP', hk⟩
      | ret => exact ⟨f', hF', hP', hk⟩
      | goto l => exact ⟨f', hF', hP', hk⟩
      | panic ch => exact hk.elim
      | outgrown => exact hk.elim
    | loop c =>
      simp only at h
      split at h
      · rename_i id hid
        cases hwo : writesOk (A.loop id).has N c with
        | false => rw [hwo] at h; exact h.elim
        | true =>
          rw [hwo] at h
          simp only [cond_true] at h
          obtain ⟨I, ⟨n0, h0⟩, hr⟩ := LoopE.elim h
          simp only [writesOk] at hM
          refine wp_loop_n (fun m a' w' => ∃ f', FR N a' f' ∧ Pres (fun t => M t && (A.loop id).has t) f f' ∧ applyI (A.loop id).live (I m) f' w') ⟨n0, f, hF, Pres.refl _ _, h0⟩ ?_
          rintro m a' w' ⟨f', hF', hP', ha⟩
          have hb := hr _ _ _ _ hP' ha
          refine Code.wp_mono ?_ (ih c _ f' w' a' _ (writesOk_and hM hwo) hF' hb)
          rintro e a'' w'' ⟨f'', hF'', hP'', hk⟩
          have hP3 : Pres M f f'' := Pres.and (hP'.trans hP'')
          cases e with
          | normal =>
            obtain ⟨m', hm', ha'⟩ := hk
            exact ⟨m', hm', f'', hF'', hP'.trans hP'', ha'⟩
          | ret => exact ⟨f'', hF'', hP3, hk⟩
          | exit i => exact ⟨f'', hF'', hP3, hk⟩
          | goto l => exact ⟨f'', hF'', hP3, hk⟩
          | panic ch => exact hk.elim
          | outgrown => exact hk.elim
      · exact h.elim
    | scope c =>
      simp only [writesOk] at hM
      refine wp_scope_from (from_of_wp (ih c _ f w a M hM hF h) ?_)
      rintro e a' w' ⟨f', hF', hP', hk⟩
      cases e with
      | goto l => exact gotoE_sound ih hM _ l f' w' a' hF' hP' hk
      | normal => exact ⟨f', hF', hP', hk⟩
      | ret => exact ⟨f', hF', hP', hk⟩
      | exit i => exact ⟨f', hF', hP', hk⟩
      | panic ch => exact hk.elim
      | outgrown => exact hk.elim
    | region id ops draw =>
      simp only [writesOk, List.all_eq_true] at hM
      cases draw with
      | false =>
        refine wp_region_list ?_
        have := opsE_sound (P := P) (all := ops.toList) (next := K.next) (N := N) (M := M) (Q := QK N M f K) (f0 := f)
          (fun a' f' w' hF' hP' hk => ⟨f', hF', hP', hk⟩) ops.toList f w a hM hF (Pres.refl _ _) h
        simpa using this
      | true =>
        have := drawE_sound (P := P) (ops := ops.toList) (next := K.next) (N := N) (M := M) (Q := QK N M f K) (f := f) (a := a) (w := w) (id := id)
          (fun a' f' w' hF' hP' hk => ⟨f', hF', hP', hk⟩) hM hF h
        simpa using this
    | rangeFunc x y z u => exact h.elim
    | refuse s => exact h.elim

/-! ### a function -/

def resL (P : Program) : List ResultVar → Fr → World → (List Value → Prop) → Prop
  | [], _, _, K => K []
  | .tmp t :: rs, f, w, K => resL P rs f w fun vs => K (f t :: vs)
  | .cell d t :: rs, f, w, K => match f d with
    | .pointer p => someA p fun a => ldE P t w a fun v => resL P rs f w fun vs => K (v :: vs)
    | _ => False

def resE (P : Program) (rs : List ResultVar) (f : Fr) (w : World) (K : Value → Prop) : Prop :=
  resL P rs f w fun vs => K (match vs with | [v] => v | vs => .tuple vs.toArray)

def resOne (tmps : Array Value) : ResultVar → Sem Value
  | .tmp t => pure (tmps.getD t undef)
  | .cell d t => do loadVar t (← asAddr (tmps.getD d undef))

theorem results_eq (fn : Func) (tmps : Array Value) : results fn tmps = (do
    let vs ← fn.results.mapM (resOne tmps)
    pure (if h : vs.size = 1 then vs[0] else .tuple vs)) := by
  unfold results
  congr 1

theorem resL_sound {P : Program} {N : Nat} {a : Act} {f : Fr} {w : World} (hF : FR N a f) : ∀ (rs : List ResultVar) (K : List Value → Prop), resL P rs f w K →
    ∃ vs : List Value, (rs.mapM (resOne a.tmps)).run P w = .ok vs w ∧ K vs
  | [], K, h => ⟨[], by simp, h⟩
  | .tmp t :: rs, K, h => by
    obtain ⟨vs, hr, hk⟩ := resL_sound hF rs _ h
    refine ⟨f t :: vs, ?_, hk⟩
    simp only [List.mapM_cons, resOne, Sem.run_bind, Sem.run_pure, Result.andThen_ok, hr, hF.get]
  | .cell d t :: rs, K, h => by
    simp only [resL] at h
    split at h
    · rename_i p hp
      obtain ⟨x, rfl, h⟩ := someA_of h
      obtain ⟨v, hv, h⟩ := ldE_sound (K := fun v => resL P rs f w fun vs => K (v :: vs)) h
      obtain ⟨vs, hr, hk⟩ := resL_sound hF rs _ h
      refine ⟨v :: vs, ?_, hk⟩
      simp only [List.mapM_cons, resOne, Sem.run_bind, hF.get, hp, asAddr, Sem.run_pure, Result.andThen_ok, hv, hr]
    · exact h.elim

theorem resE_sound {P : Program} {fn : Func} {N : Nat} {a : Act} {f : Fr} {w : World} {K : Value → Prop} (hF : FR N a f) (h : resE P fn.results.toList f w K) :
    ∃ v, (results fn a.tmps).run P w = .ok v w ∧ K v := by
  obtain ⟨vs, hr, hk⟩ := resL_sound hF _ _ h
  refine ⟨_, ?_, hk⟩
  have hm : (fn.results.mapM (resOne a.tmps)).run P w = .ok vs.toArray w := by
    rw [Array.mapM_eq_mapM_toList]
    simp only [Sem.run_map, hr, Result.andThen_ok]
  rw [results_eq]
  simp only [Sem.run_bind, hm, Result.andThen_ok, Sem.run_pure]
  match vs with
  | [] => rfl
  | [v] => rfl
  | v :: u :: vs => simp

def frame0 (args : Array Value) : Fr := fun t => args.toList.getD t undef

def K0 (P : Program) (fn : Func) (R : Value → World → Prop) : Ks :=
  ⟨fun f w => resE P fn.results.toList f w fun v => R v w, fun f w => resE P fn.results.toList f w fun v => R v w, fun _ _ _ => False, fun _ _ _ => False⟩

/-- A function's call, out of its code's statement. -/
theorem calls_of_wpE {P : Program} {A : Ann} {g : FuncId} {fn : Func} {c : Code} {args : Array Value} {w : World} {R : Value → World → Prop}
    (hf : P.funcs[g]? = some fn) (hb : fn.body = some c) (hw : writesOk (fun _ => true) fn.ntmps c = true) (hn : Nat.ble args.size fn.ntmps = true)
    (h : wpE P A fn.ntmps 1000 c (K0 P fn R) (frame0 args) w) : Calls P g args w (Ret R) := by
  refine calls_of_wp hf hb ?_
  have hle : args.size ≤ fn.ntmps := Nat.le_of_ble_eq_true hn
  have hF : FR fn.ntmps { tmps := args ++ Array.replicate (fn.ntmps - args.size) undef, defers := [] } (frame0 args) := by
    refine ⟨by simp; omega, rfl, fun t => ?_⟩
    simp only [frame0, Array.getD_eq_getD_getElem?, Array.getElem?_append, List.getD_eq_getElem?_getD, Array.getElem?_toList]
    split
    · rfl
    · rename_i hlt
      rw [Array.getElem?_eq_none (Nat.le_of_not_lt hlt), Array.getElem?_replicate]
      split <;> rfl
  refine Code.wp_mono ?_ (wpE_sound P A fn.ntmps 1000 c _ _ w _ (fun _ => true) hw hF h)
  rintro e a' w' ⟨f', hF', _, hk⟩
  cases e with
  | normal => obtain ⟨v, hr, hR⟩ := resE_sound (fn := fn) (K := fun v => R v w') hF' hk; exact ⟨hF'.defers, v, hr, hR⟩
  | ret => obtain ⟨v, hr, hR⟩ := resE_sound (fn := fn) (K := fun v => R v w') hF' hk; exact ⟨hF'.defers, v, hr, hR⟩
  | exit i => exact hk.elim
  | goto l => exact hk.elim
  | panic ch => exact hk.elim
  | outgrown => exact hk.elim

def bodyOf (fn : Func) : Code := match fn.body with | some c => c | none => .skip

def LI.none : LI := ⟨[], []⟩

theorem calls_of_body {P : Program} {A : Ann} {g : FuncId} {fn : Func} {args : Array Value} {w : World} {R : Value → World → Prop}
    (hf : P.funcs[g]? = some fn) (hb : fn.body.isSome = true) (hw : writesOk (fun _ => true) fn.ntmps (bodyOf fn) = true) (hn : Nat.ble args.size fn.ntmps = true)
    (h : wpE P A fn.ntmps 1000 (bodyOf fn) (K0 P fn R) (frame0 args) w) : Calls P g args w (Ret R) := by
  obtain ⟨c, hc⟩ := Option.isSome_iff_exists.1 hb
  have : bodyOf fn = c := by simp [bodyOf, hc]
  rw [this] at hw h
  exact calls_of_wpE hf hc hw hn h
end Go.Proofs.Ytlfmkdndioegmaa
