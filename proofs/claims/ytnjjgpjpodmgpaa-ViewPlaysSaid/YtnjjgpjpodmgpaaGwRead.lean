/- What a parameter is, by its type's shape: booleans, integers, strings, slices, structs and arrays of such. Conditions: none. -/
import Derived.Test.YtnjjgpjpodmgpaaGwRow
set_option linter.unusedVariables false
set_option linter.unusedSimpArgs false
namespace Go.Proofs.Ytnjjgpjpodmgpaa
open Go.ChangeShapes Go.WideShapes Go.ChangeAt Go.RowKit

inductive Sh where
  | bool
  | int (k : IntKind)
  | str
  | row (k b : Nat) (e : Sh)
  | unit
  | pair (a b : Sh)

namespace Sh

def size : Sh → Nat
  | .unit => 0
  | .pair a b => a.size + b.size
  | _ => 1

def T : Sh → Type
  | .bool => Bool
  | .int _ => Int
  | .str => ByteArray
  | .row _ _ e => (Option Addr × Nat) × List e.T
  | .unit => Unit
  | .pair a b => a.T × b.T

def cells : (s : Sh) → s.T → List Value
  | .bool, v => [.bool v]
  | .int k, v => [.int k v]
  | .str, v => [.string v]
  | .row _ _ _, v => [.slice v.1.1 v.2.length v.1.2]
  | .unit, _ => []
  | .pair a b, v => a.cells v.1 ++ b.cells v.2

def Ok (w : World) : (s : Sh) → s.T → Prop
  | .bool, _ => True
  | .int k, v => (Lit.int k v).wf = true
  | .str, v => v.size ≤ maxLen ∧ v.size ≤ reachBytes
  | .row k b e, v => v.2.length ≤ v.1.2 ∧ v.1.2 ≤ maxLen ∧ v.2.length * b ≤ reachBytes ∧
      ∀ (i : Nat) (x : e.T), v.2[i]? = some x → (∃ a, v.1.1 = some a ∧ CellsAt w (a.add (i * k)) (e.cells x)) ∧ Ok w e x
  | .unit, _ => True
  | .pair a b, v => Ok w a v.1 ∧ Ok w b v.2

def agg : Sh → Bool
  | .unit => true
  | .pair _ _ => true
  | _ => false

def val (s : Sh) (x : s.T) : Value := match s.agg with
  | true => .agg (s.cells x).toArray
  | false => (s.cells x).headD undef

theorem cells_size : ∀ (s : Sh) (x : s.T), (s.cells x).length = s.size
  | .bool, _ => rfl
  | .int _, _ => rfl
  | .str, _ => rfl
  | .row _ _ _, _ => rfl
  | .unit, _ => rfl
  | .pair a b, x => by simp only [cells, size, List.length_append, cells_size a, cells_size b]

mutual
/-- Is s the shape of type t? -/
def of (P : Program) : Nat → TypeId → Sh → Bool
  | 0, _, _ => false
  | n + 1, t, s => match P.underlying t with
    | some .bool => (match s with | .bool => true | _ => false)
    | some (.int k) => (match s with | .int k' => decide (k = k') | _ => false)
    | some .string => (match s with | .str => true | _ => false)
    | some (.slice e) => (match s with | .row k b s' => Nat.beq (P.cellsOf e) k && Nat.beq (P.bytesOf e) b && of P n e s' | _ => false)
    | some (.struct fs) => s.agg && Nat.beq (P.cellsOf t) s.size && ofF P n 0 (fs.toList.map fun f => (f.type, f.offset)) s
    | some (.array m e) => s.agg && Nat.beq (P.cellsOf t) s.size && ofF P n 0 ((List.range m).map fun i => (e, i * P.cellsOf e)) s
    | _ => false
def ofF (P : Program) : Nat → Nat → List (TypeId × Nat) → Sh → Bool
  | 0, _, _, _ => false
  | n + 1, o, [], .unit => true
  | n + 1, o, f :: fs, .pair a b => Nat.beq f.2 o && Nat.beq (P.cellsOf f.1) a.size && of P n f.1 a && ofF P n (o + a.size) fs b
  | _ + 1, _, _, _ => false
end

section
variable {H : Type} {enc : TypeId × Value → H} {P : Program} {w : World} {sp : Nat → Bool} {held : Bool}

abbrev Reads (enc : TypeId × Value → H) (P : Program) (w : World) (sp : Nat → Bool) (held : Bool) (n : Nat) (t : TypeId) (s : Sh) : Prop :=
  ∀ (fuel : Nat) (cs : List Value) (x : DataW H × List MemPlace), DataW.trod enc P w 0 sp held fuel t cs = some x → (∀ m ∈ x.1.weights P t, m ≤ reachBytes) → ∃ v : s.T, cs = s.cells v ∧ s.Ok w v

theorem cellsAt_of {a : Addr} {n : Nat} {cs : List Value} (h : w.cells? 0 a n = some cs) : CellsAt w a cs ∧ cs.length = n := by
  obtain ⟨_, hl, hc⟩ := World.cells?_some h
  refine ⟨fun j v hj => ?_, hl⟩
  have hjl : j < cs.length := (List.getElem?_eq_some_iff.1 hj).1
  rw [hc j (by omega)]
  exact hj

theorem mem_all {e : TypeId} : ∀ {l : List (DataW H)} {i : Nat} {d : DataW H}, l[i]? = some d → ∀ m ∈ d.weights P e, m ∈ DataW.weightsAll P e l
  | [], i, d, h, _, _ => by simp at h
  | d0 :: l, 0, d, h, m, hm => by
    simp only [List.getElem?_cons_zero, Option.some.injEq] at h
    subst h
    simp only [DataW.weightsAll, List.mem_append]
    exact .inl hm
  | d0 :: l, i + 1, d, h, m, hm => by
    simp only [List.getElem?_cons_succ] at h
    simp only [DataW.weightsAll, List.mem_append]
    exact .inr (mem_all h m hm)

theorem list_of {X : Type} {Q : Nat → X → Prop} : ∀ (n : Nat), (∀ i, i < n → ∃ x, Q i x) → ∃ l : List X, l.length = n ∧ ∀ i x, l[i]? = some x → Q i x
  | 0, _ => ⟨[], rfl, fun i x h => by simp at h⟩
  | n + 1, h => by
    obtain ⟨l, hl, hq⟩ := list_of n fun i hi => h i (by omega)
    obtain ⟨x, hx⟩ := h n (by omega)
    refine ⟨l ++ [x], by simp [hl], fun i y hy => ?_⟩
    by_cases hi : i < n
    · rw [List.getElem?_append_left (by omega)] at hy
      exact hq i y hy
    · have hi' : i < n + 1 := by have := (List.getElem?_eq_some_iff.1 hy).1; simpa [hl] using this
      have : i = n := by omega
      subst this
      rw [List.getElem?_append_right (by omega), hl, Nat.sub_self] at hy
      simp at hy
      subst hy
      exact hx

theorem read_both : ∀ (n : Nat),
    (∀ (t : TypeId) (s : Sh), of P n t s = true → Reads enc P w sp held n t s) ∧
    (∀ (o : Nat) (fs : List (TypeId × Nat)) (s : Sh) (cs : List Value) (ys : List (DataW H × List MemPlace)) (m : Nat), ofF P n o fs s = true → ys.length = fs.length → cs.length = o + s.size →
      (∀ (i : Nat) f, fs[i]? = some f → DataW.trod enc P w 0 sp held m f.1 ((cs.drop f.2).take (P.cellsOf f.1)) = ys[i]?) →
      (∀ (i : Nat) f y, fs[i]? = some f → ys[i]? = some y → ∀ k ∈ y.1.weights P f.1, k ≤ reachBytes) → ∃ v : s.T, cs.drop o = s.cells v ∧ s.Ok w v)
  | 0 => ⟨fun t s h => by simp [of] at h, fun o fs s cs ys m h => by simp [ofF] at h⟩
  | n + 1 => by
    obtain ⟨ih1, ih2⟩ := read_both n
    constructor
    · intro t s h fuel cs x hx hw
      unfold of at h
      split at h
      · rename_i ht
        split at h
        · obtain ⟨b, rfl, rfl⟩ := DataW.trod_bool ht hx
          exact ⟨b, rfl, trivial⟩
        · cases h
      · rename_i k ht
        split at h
        · rename_i k'
          have hk : k = k' := of_decide_eq_true h
          subst hk
          obtain ⟨b, rfl, rfl, hb⟩ := DataW.trod_int ht hx
          exact ⟨b, rfl, hb⟩
        · cases h
      · rename_i ht
        split at h
        · obtain ⟨b, rfl, rfl, hb⟩ := DataW.trod_string ht hx
          refine ⟨b, rfl, hb, ?_⟩
          have := hw b.data.toList.length (by simp [DataW.weights])
          rwa [Array.length_toList] at this
        · cases h
      · rename_i e ht
        split at h
        · rename_i k b s'
          simp only [Bool.and_eq_true] at h
          obtain ⟨⟨hk, hb⟩, hs⟩ := h
          have hk : P.cellsOf e = k := Nat.eq_of_beq_eq_true hk
          have hb : P.bytesOf e = b := Nat.eq_of_beq_eq_true hb
          rcases DataW.trod_slice ht hx with ⟨rfl, rfl⟩ | ⟨a, len, cap, elems, rest, m, _, rfl, rfl, _, hle, hcap, hlen, hel, _, _⟩
          · exact ⟨((none, 0), []), rfl, Nat.le_refl _, Nat.zero_le _, by simp, fun i x hi => by simp at hi⟩
          · have hw1 := hw ((elems.length + rest.length) * P.bytesOf e) (by simp [DataW.weights, ht])
            obtain ⟨l, hl, hq⟩ := list_of (X := s'.T) (Q := fun i x => CellsAt w (a.add (i * k)) (s'.cells x) ∧ s'.Ok w x) len fun i hi => by
              have hi' := hel i hi
              rw [hk] at hi'
              obtain ⟨y, hy⟩ : ∃ y, elems[i]? = some y := ⟨_, List.getElem?_eq_getElem (by omega)⟩
              rw [hy] at hi'
              cases hc : w.cells? 0 (a.add (i * k)) k with
              | none => rw [hc] at hi'; simp at hi'
              | some ecs =>
                rw [hc] at hi'
                simp only [Option.bind_some] at hi'
                obtain ⟨v, rfl, hv⟩ := ih1 e s' hs m ecs y hi' fun q hq => hw q (by
                  simp only [DataW.weights, ht, List.mem_cons, List.mem_append]
                  exact .inr (.inl (mem_all (i := i) (by simp [hy]) q hq)))
                exact ⟨v, (cellsAt_of hc).1, hv⟩
            refine ⟨((some a, cap), l), by simp [cells, hl], by simpa [hl] using hle, hcap, ?_, fun i x hi => ⟨⟨a, rfl, (hq i x hi).1⟩, (hq i x hi).2⟩⟩
            rw [hb] at hw1
            simp only [hl]
            exact Nat.le_trans (Nat.mul_le_mul_right _ (by omega)) hw1
        · cases h
      · rename_i fs ht
        simp only [Bool.and_eq_true] at h
        obtain ⟨⟨_, hsz⟩, hf⟩ := h
        have hsz : P.cellsOf t = s.size := Nat.eq_of_beq_eq_true hsz
        obtain ⟨xs, m, _, rfl, hl, hxl, hx'⟩ := DataW.trod_struct ht hx
        have := ih2 0 (fs.toList.map fun f => (f.type, f.offset)) s cs xs m hf (by simp [hxl]) (by omega) (fun i f hfi => by
          simp only [List.getElem?_map, Option.map_eq_some_iff] at hfi
          obtain ⟨f', hf', rfl⟩ := hfi
          exact hx' i f' (by simpa using hf')) (fun i f y hfi hy k hk => hw k (by
            simp only [DataW.weights, ht]
            simp only [List.getElem?_map, Option.map_eq_some_iff] at hfi
            obtain ⟨f', hf', rfl⟩ := hfi
            exact DataW.weights_mem_each (j := i) (t := f'.type) (d := y.1) (by simp only [List.getElem?_map]; rw [hf']; rfl) (by simp only [List.getElem?_map]; rw [hy]; rfl) k hk))
        simpa using this
      · rename_i c e ht
        simp only [Bool.and_eq_true] at h
        obtain ⟨⟨_, hsz⟩, hf⟩ := h
        have hsz : P.cellsOf t = s.size := Nat.eq_of_beq_eq_true hsz
        obtain ⟨xs, m, _, rfl, hl, hxl, hx'⟩ := DataW.trod_array ht hx
        have := ih2 0 ((List.range c).map fun i => (e, i * P.cellsOf e)) s cs xs m hf (by simp [hxl]) (by omega) (fun i f hfi => by
          simp only [List.getElem?_map, Option.map_eq_some_iff] at hfi
          obtain ⟨j, hj, rfl⟩ := hfi
          have hj' := List.getElem?_eq_some_iff.1 hj
          have hjc : i < c := by simpa using hj'.1
          have : j = i := by rw [List.getElem?_range hjc] at hj; cases hj; rfl
          subst this
          exact hx' j hjc) (fun i f y hfi hy k hk => hw k (by
            simp only [DataW.weights, ht]
            simp only [List.getElem?_map, Option.map_eq_some_iff] at hfi
            obtain ⟨j, hj, rfl⟩ := hfi
            exact mem_all (i := i) (d := y.1) (by simp only [List.getElem?_map]; rw [hy]; rfl) k hk))
        simpa using this
      · cases h
    · intro o fs s cs ys m h hyl hcl hx hw
      cases fs with
      | nil =>
        cases s <;> simp only [ofF, Bool.false_eq_true] at h
        refine ⟨(), ?_, trivial⟩
        simp only [size] at hcl
        exact List.drop_eq_nil_of_le (by omega)
      | cons f fs =>
        cases s with
        | pair a b =>
          simp only [ofF, Bool.and_eq_true] at h
          obtain ⟨⟨⟨ho, hc⟩, ha⟩, hb⟩ := h
          have ho : f.2 = o := Nat.eq_of_beq_eq_true ho
          have hc : P.cellsOf f.1 = a.size := Nat.eq_of_beq_eq_true hc
          cases ys with
          | nil => simp at hyl
          | cons y ys =>
            simp only [size] at hcl
            have h0 := hx 0 f rfl
            rw [ho, hc] at h0
            obtain ⟨va, hva, oka⟩ := ih1 f.1 a ha m _ y h0 (hw 0 f y rfl rfl)
            obtain ⟨vb, hvb, okb⟩ := ih2 (o + a.size) fs b cs ys m hb (by simpa using hyl) (by omega) (fun i g hg => hx (i + 1) g (by simpa using hg)) (fun i g z hg hz => hw (i + 1) g z (by simpa using hg) (by simpa using hz))
            refine ⟨(va, vb), ?_, oka, okb⟩
            simp only [cells]
            rw [← hva, ← hvb, ← List.drop_drop]
            exact (List.take_append_drop _ _).symm
        | _ => simp [ofF] at h

/-- A parameter, by its shape. -/
theorem param {t : TypeId} {s : Sh} {n : Nat} {b0 : Nat} {r : Reach} {v : Value} {d : DataW H} {ps : List MemPlace} (h : of P n t s = true) (hval : Value.okWide P w r b0 t v) (ht : DataW.Trod enc P w 0 sp held t v d ps)
    (hw : ∀ m ∈ d.weights P t, m ≤ reachBytes) : ∃ x : s.T, v = s.val x ∧ s.Ok w x := by
  obtain ⟨fuel, hf⟩ := ht
  obtain ⟨x, hx, ok⟩ := (read_both n).1 t s h fuel _ _ hf hw
  refine ⟨x, ?_, ok⟩
  have one : s.agg = false → (∀ c, v ≠ .agg c) → v = s.val x := by
    intro hs hc
    have hcv : v.cells = #[v] := by cases v <;> first | rfl | exact absurd rfl (hc _)
    rw [hcv] at hx
    unfold val
    rw [hs]
    rw [← hx]
    rfl
  cases n with
  | zero => simp [of] at h
  | succ n =>
    have h' := h
    unfold of at h
    split at h
    · rename_i hu
      have hs : s.agg = false := by split at h <;> first | rfl | cases h
      obtain ⟨b, rfl⟩ := okWide_bool hu hval
      exact one hs (fun c e => by cases e)
    · rename_i k hu
      have hs : s.agg = false := by split at h <;> first | rfl | cases h
      obtain ⟨b, rfl⟩ := okWide_int hu hval
      exact one hs (fun c e => by cases e)
    · rename_i hu
      have hs : s.agg = false := by split at h <;> first | rfl | cases h
      obtain ⟨b, rfl⟩ := okWide_string hu hval
      exact one hs (fun c e => by cases e)
    · rename_i e hu
      have hs : s.agg = false := by split at h <;> first | rfl | cases h
      obtain ⟨a, l, c, rfl⟩ := okWide_slice hu hval
      exact one hs (fun c e => by cases e)
    · rename_i fs hu
      simp only [Bool.and_eq_true] at h
      obtain ⟨cs, rfl, _⟩ := okWide_struct hu hval
      unfold val
      rw [h.1.1]
      rw [← hx]
      simp [Value.cells]
    · rename_i m e hu
      simp only [Bool.and_eq_true] at h
      obtain ⟨cs, rfl, _⟩ : ∃ cs, v = .agg cs ∧ cs.size = P.cellsOf t := by
        simp only [Value.okWide, hu] at hval
        obtain ⟨cs, h1, h2, _⟩ := hval
        exact ⟨cs, h1, h2⟩
      unfold val
      rw [h.1.1]
      rw [← hx]
      simp [Value.cells]
    · cases h

end

end Sh

end Go.Proofs.Ytnjjgpjpodmgpaa
