/- Package caps: what a table of handles is; and plain facts of it. Conditions: none. -/
import Derived.Test.YtkbgiflmecaffaaDoorShelf3
import Derived.Test.YtkbgiflmecaffaaDoorHd
import Derived.Test.YtkbgiflmecaffaaDoorVcC
import Derived.Test.YtkbgiflmecaffaaDoorGwMap
import Derived.Test.YtkbgiflmecaffaaDoorGwOwn
import Derived.Test.YtkbgiflmecaffaaDoorGwLaw
set_option linter.unusedVariables false
set_option linter.unusedSimpArgs false
namespace Go.Proofs.YtkbgiflmecaffaaDoor
open Go.RowKit

/-! ### structs are compared -/

theorem run_good_neq (w : World) (a b a' b' : Int) :
    (binOp .neq 67 (.agg #[.int .i64 a, .int .i64 b]) (.agg #[.int .i64 a', .int .i64 b'])).run Tryd.prog w = .ok (.bool (!(a == a' && (b == b' && true)))) w := by
  have hu : Tryd.prog.underlying 3 = some (.int .i64) := by kernel_rfl
  exact (run_eq_struct (P := Tryd.prog) (w := w) (t := 67) (xs := #[.int .i64 a, .int .i64 b]) (ys := #[.int .i64 a', .int .i64 b'])
    (l := [(⟨ "rights", 3, 0, false, "", "garth/caps", 0⟩, a == a'), (⟨ "serial", 3, 1, false, "", "garth/caps", 8⟩, b == b')])
    (by kernel_rfl) (by kernel_rfl) (by kernel_rfl) (by
      intro p hp
      simp only [List.mem_cons, List.mem_nil_iff, or_false] at hp
      rcases hp with rfl | rfl
      · exact ⟨by simp, _, _, run_part' hu rfl rfl w, run_part' hu rfl rfl w, run_equalIn_int w 9998 3 .i64 .i64 _ _ hu⟩
      · exact ⟨by simp, _, _, run_part' hu rfl rfl w, run_part' hu rfl rfl w, run_equalIn_int w 9998 3 .i64 .i64 _ _ hu⟩)).2

theorem run_key_eql (w : World) (a b c d a' b' c' d' : Int) :
    (binOp .eql 45 (.agg #[.int .i64 a, .int .i64 b, .int .i64 c, .int .i64 d]) (.agg #[.int .i64 a', .int .i64 b', .int .i64 c', .int .i64 d'])).run Tryd.prog w = .ok (.bool (a == a' && (b == b' && (c == c' && (d == d' && true))))) w := by
  have hu : Tryd.prog.underlying 3 = some (.int .i64) := by kernel_rfl
  exact (run_eq_struct (P := Tryd.prog) (w := w) (t := 45) (xs := #[.int .i64 a, .int .i64 b, .int .i64 c, .int .i64 d]) (ys := #[.int .i64 a', .int .i64 b', .int .i64 c', .int .i64 d'])
    (l := [(⟨ "Tenant", 3, 0, false, "", "", 0⟩, a == a'), (⟨ "Slot", 3, 1, false, "", "", 8⟩, b == b'), (⟨ "Rights", 3, 2, false, "", "", 16⟩, c == c'), (⟨ "Serial", 3, 3, false, "", "", 24⟩, d == d')])
    (by kernel_rfl) (by kernel_rfl) (by kernel_rfl) (by
      intro p hp
      simp only [List.mem_cons, List.mem_nil_iff, or_false] at hp
      rcases hp with rfl | rfl | rfl | rfl
      · exact ⟨by simp, _, _, run_part' hu rfl rfl w, run_part' hu rfl rfl w, run_equalIn_int w 9998 3 .i64 .i64 _ _ hu⟩
      · exact ⟨by simp, _, _, run_part' hu rfl rfl w, run_part' hu rfl rfl w, run_equalIn_int w 9998 3 .i64 .i64 _ _ hu⟩
      · exact ⟨by simp, _, _, run_part' hu rfl rfl w, run_part' hu rfl rfl w, run_equalIn_int w 9998 3 .i64 .i64 _ _ hu⟩
      · exact ⟨by simp, _, _, run_part' hu rfl rfl w, run_part' hu rfl rfl w, run_equalIn_int w 9998 3 .i64 .i64 _ _ hu⟩)).1

/-! ### what a table is -/

/-- A slot: rights, serial, address. -/
abbrev Sl := Int × Int × Int
def slotV (s : Sl) : Value := .agg #[.int .i64 s.1, .int .i64 s.2.1, .int .i64 s.2.2]
def mapS (S : Int → Option Sl) : Int → Option Value := fun x => (S x).map slotV
def updS (S : Int → Option Sl) (k : Int) (v : Option Sl) : Int → Option Sl := fun x => if x = k then v else S x

theorem mapS_upd (S : Int → Option Sl) (k : Int) (v : Option Sl) : upd (mapS S) k (v.map slotV) = mapS (updS S k v) := by
  funext x
  unfold upd mapS updS
  split <;> rfl

def occ (S : Int → Option Sl) (base n : Nat) : List Bool := (List.range n).map fun k => (S ((base + k : Nat) : Int)).isSome

theorem occ_len (S : Int → Option Sl) (base n : Nat) : (occ S base n).length = n := by simp [occ]

theorem occ_get (S : Int → Option Sl) {base n k : Nat} (hk : k < n) : (occ S base n)[k]? = some (S ((base + k : Nat) : Int)).isSome := by simp [occ, hk]

theorem occ_set (S : Int → Option Sl) {base n k : Nat} (hk : k < n) (v : Option Sl) : (occ S base n).set k v.isSome = occ (updS S ((base + k : Nat) : Int) v) base n := by
  apply List.ext_getElem?
  intro j
  rw [List.getElem?_set, occ_len]
  by_cases hj : j < n
  · rw [occ_get _ hj, occ_get _ hj]
    unfold updS
    by_cases e : k = j
    · subst e; simp [hk]
    · rw [if_neg e, if_neg (by omega)]
  · rw [List.getElem?_eq_none (by rw [occ_len]; omega), List.getElem?_eq_none (by rw [occ_len]; omega)]
    split
    · omega
    · rfl

theorem occ_out (S : Int → Option Sl) {base n : Nat} {x : Int} (h : ∀ k : Nat, k < n → x ≠ ((base + k : Nat) : Int)) (v : Option Sl) : occ (updS S x v) base n = occ S base n := by
  apply List.ext_getElem?
  intro j
  by_cases hj : j < n
  · rw [occ_get _ hj, occ_get _ hj]
    unfold updS
    rw [if_neg (fun e => h j hj e.symm)]
  · rw [List.getElem?_eq_none (by rw [occ_len]; omega), List.getElem?_eq_none (by rw [occ_len]; omega)]

/-- The table at block p; F: its blocks. -/
structure CPw (w : World) (p B ob og eb eg : Nat) (T nx : Int) (S : Int → Option Sl) (sz : Nat) : Prop where
  head : w.heap[p]? = some (.cells #[.int .i64 T, .int .i64 nx, .map (some B), .pointer (some ⟨ob, 0, none⟩), .pointer (some ⟨eb, 0, none⟩)] 64 (0, 0))
  slots : IMap w Tryd.prog 3 .i64 B (mapS S) sz
  objs : SH w ob og (occ S 0 4096)
  extra : SH w eb eg (occ S 4096 64)
  t0 : 0 ≤ T ∧ T ≤ 7
  n0 : 1 ≤ nx ∧ nx ≤ 17592186044416
  rng : ∀ x s, S x = some s → 0 ≤ x ∧ x < 4160
  ok : ∀ x s, S x = some s → 1 ≤ s.1 ∧ s.1 ≤ 7 ∧ 1 ≤ s.2.1 ∧ s.2.1 < nx ∧ 0 ≤ s.2.2
  szn : (sz : Int) < nx
  d : p ≠ B ∧ p ≠ ob ∧ p ≠ og ∧ p ≠ eb ∧ p ≠ eg ∧ B ≠ ob ∧ B ≠ og ∧ B ≠ eb ∧ B ≠ eg ∧ ob ≠ eb ∧ ob ≠ eg ∧ og ≠ eb ∧ og ≠ eg

def fpC (p B ob og eb eg : Nat) (k : Nat) : Prop := k = p ∨ k = B ∨ k = ob ∨ k = og ∨ k = eb ∨ k = eg

def CP (w : World) (p : Nat) (F : Nat → Prop) (T nx : Int) (S : Int → Option Sl) (sz : Nat) : Prop := ∃ B ob og eb eg, CPw w p B ob og eb eg T nx S sz ∧ F = fpC p B ob og eb eg

section
variable {w w' : World} {p B ob og eb eg : Nat} {F G : Nat → Prop} {T nx : Int} {S : Int → Option Sl} {sz : Nat}

theorem CPw.keep (h : CPw w p B ob og eb eg T nx S sz) (hm : Mod G w w') (hG : ∀ k, fpC p B ob og eb eg k → ¬ G k) : CPw w' p B ob og eb eg T nx S sz :=
  ⟨hm.keep h.head (hG p (.inl rfl)), h.slots.keep hm (hG B (.inr (.inl rfl))), h.objs.keep hm (fun k hk => hG k (by unfold fpC; unfold fpS at hk; omega)), h.extra.keep hm (fun k hk => hG k (by unfold fpC; unfold fpS at hk; omega)), h.t0, h.n0, h.rng, h.ok, h.szn, h.d⟩

theorem CP.keep (h : CP w p F T nx S sz) (hm : Mod G w w') (hG : ∀ k, F k → ¬ G k) : CP w' p F T nx S sz := by
  obtain ⟨B, ob, og, eb, eg, h, rfl⟩ := h
  exact ⟨B, ob, og, eb, eg, h.keep hm hG, rfl⟩

theorem CP.ext (h : CP w p F T nx S sz) (hE : Ext w w') : CP w' p F T nx S sz := h.keep hE fun _ _ x => x

theorem CPw.lt (h : CPw w p B ob og eb eg T nx S sz) : ∀ k, fpC p B ob og eb eg k → k < w.heap.size := by
  rintro k (rfl | rfl | rfl | rfl | rfl | rfl)
  · exact lt_of_blk h.head
  · exact h.slots.lt
  · exact h.objs.lt _ (.inl rfl)
  · exact h.objs.lt _ (.inr rfl)
  · exact h.extra.lt _ (.inl rfl)
  · exact h.extra.lt _ (.inr rfl)

theorem CP.lt (h : CP w p F T nx S sz) : ∀ k, F k → k < w.heap.size := by
  obtain ⟨B, ob, og, eb, eg, h, rfl⟩ := h
  exact h.lt

end

/-! ### what calls answer -/

def putK (S : Int → Option Sl) (base n : Nat) (nx : Int) : Option Nat := if nx ≥ 17592186044416 then none else (occ S base n).findIdx? fun b => !b

def putV (T : Int) (S : Int → Option Sl) (base n : Nat) (nx r : Int) : Value := match putK S base n nx with
  | some k => .tuple #[.int .u64 (Hd.packV T ((base + k : Nat) : Int) r nx), .int .i64 0]
  | none => .tuple #[.int .u64 0, .int .i64 10]

def putS (S : Int → Option Sl) (base n : Nat) (nx r a : Int) : Int → Option Sl := match putK S base n nx with
  | some k => updS S ((base + k : Nat) : Int) (some (r, nx, a))
  | none => S

def putN (S : Int → Option Sl) (base n : Nat) (nx : Int) : Int := match putK S base n nx with
  | some _ => nx + 1
  | none => nx

def putZ (S : Int → Option Sl) (base n : Nat) (nx : Int) (sz : Nat) : Nat := match putK S base n nx with
  | some _ => sz + 1
  | none => sz

def findS (T : Int) (S : Int → Option Sl) (h : Int) : Option Sl :=
  if Hd.HOk h ∧ Hd.uT h = T then (match S (Hd.uS h) with | some s => if s.1 = Hd.uR h ∧ s.2.1 = Hd.uN h then some s else none | none => none) else none

def findV (o : Option Sl) : Value := match o with
  | some s => .tuple #[slotV s, .int .i64 0]
  | none => .tuple #[.agg #[.int .i64 0, .int .i64 0, .int .i64 0], .int .i64 5]

def may (s : Sl) (r : Int) : Bool := bits .and .i64 s.1 r == r

end Go.Proofs.YtkbgiflmecaffaaDoor
