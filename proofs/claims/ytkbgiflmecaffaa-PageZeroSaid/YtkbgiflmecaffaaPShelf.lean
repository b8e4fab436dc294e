/- Contracts of package shelf. Conditions: the shelf is there, the table of TrailingZeros64 is laid. -/
import Derived.Test.YtkbgiflmecaffaaPShelfM
set_option linter.unusedVariables false
set_option linter.unusedSimpArgs false
namespace Go.Proofs.Ytkbgiflmecaffaa.Sf
open Go.RowKit

def fpS (p gb : Nat) (k : Nat) : Prop := k = p ∨ k = gb

theorem SH.keep {F : Nat → Prop} {w w' : World} {p gb : Nat} {hs : List Bool} (h : SH w p gb hs) (hm : Mod F w w') (hF : ∀ k, fpS p gb k → ¬ F k) : SH w' p gb hs := by
  obtain ⟨⟨ws, rest, c, h1, h2, h3, h4, h5, h6⟩, hne, hsm⟩ := h
  exact ⟨⟨ws, rest, c, h1, h2, h3, h4, hm.keep h5 (hF p (.inl rfl)), hm.keep h6 (hF gb (.inr rfl))⟩, hne, hsm⟩

theorem SH.ext {w w' : World} {p gb : Nat} {hs : List Bool} (h : SH w p gb hs) (hm : Ext w w') : SH w' p gb hs := h.keep hm (fun _ _ x => x)

theorem SH.lt {w : World} {p gb : Nat} {hs : List Bool} (h : SH w p gb hs) : ∀ k, fpS p gb k → k < w.heap.size := by
  obtain ⟨⟨ws, rest, c, h1, h2, h3, h4, h5, h6⟩, hne, hsm⟩ := h
  rintro k (rfl | rfl)
  · exact lt_of_blk h5
  · exact lt_of_blk h6

theorem wC_get (ws : List Nat) (rest : List Value) {i x : Nat} (h : ws[i]? = some x) : (wC ws ++ rest).toArray[i]? = some (.int .u64 (x : Int)) := by
  have hl := (List.getElem?_eq_some_iff.1 h).1
  rw [List.getElem?_toArray, List.getElem?_append_left (by simpa [wC] using hl)]
  simp [wC, h]

/-- The lowest free one; -1: none. -/
def lowI (hs : List Bool) : Int := match hs.findIdx? (fun b => !b) with | some k => (k : Int) | none => -1

theorem low_some {hs : List Bool} {k : Nat} (h : hs[k]? = some false) (hb : ∀ j, j < k → hs[j]? ≠ some false) : hs.findIdx? (fun b => !b) = some k := by
  obtain ⟨hk, hv⟩ := List.getElem?_eq_some_iff.1 h
  rw [List.findIdx?_eq_some_iff_getElem]
  refine ⟨hk, by simp [hv], fun j hj => ?_⟩
  have hq := hb j hj
  rw [List.getElem?_eq_getElem (by omega)] at hq
  cases hc : hs[j] with
  | true => simp
  | false => exact absurd (by rw [hc]) hq

theorem low_none {hs : List Bool} (h : ∀ j : Nat, hs[j]? ≠ some false) : hs.findIdx? (fun b => !b) = none := by
  rw [List.findIdx?_eq_none_iff]
  intro b hb
  obtain ⟨j, hj⟩ := List.mem_iff_getElem?.1 hb
  cases b with
  | true => rfl
  | false => exact absurd hj (h j)

theorem low_at {hs : List Bool} {k : Nat} (h : hs.findIdx? (fun b => !b) = some k) : hs[k]? = some false ∧ ∀ j, j < k → hs[j]? = some true := by
  rw [List.findIdx?_eq_some_iff_getElem] at h
  obtain ⟨hk, hv, hb⟩ := h
  refine ⟨by rw [List.getElem?_eq_getElem hk]; simpa using hv, fun j hj => ?_⟩
  rw [List.getElem?_eq_getElem (by omega)]
  have := hb j hj
  simpa using this

section
variable {w : World} {p gb : Nat} {hs : List Bool}

theorem free_any (h : SH w p gb hs) : Calls Try.prog 52 #[.pointer (some ⟨p, 0, none⟩)] w (Ret fun r w' => r = .int .i64 (hs.count false : Nat) ∧ w' = w) := by
  obtain ⟨⟨ws, rest, c, h1, h2, h3, h4, h5, h6⟩, hne, hsm⟩ := h
  refine VC.shelf_Shelf_Free.ok ?_
  unfold VC.shelf_Shelf_Free
  refine ifB_false rfl ?_
  simp only [someA, add_mk, Nat.zero_add]
  exact ⟨_, cell_blk h5 rfl, by trivial, by trivial⟩

theorem size_any (h : SH w p gb hs) : Calls Try.prog 46 #[.pointer (some ⟨p, 0, none⟩)] w (Ret fun r w' => r = .int .i64 (hs.length : Nat) ∧ w' = w) := by
  obtain ⟨⟨ws, rest, c, h1, h2, h3, h4, h5, h6⟩, hne, hsm⟩ := h
  refine VC.shelf_Shelf_Size.ok ?_
  unfold VC.shelf_Shelf_Size
  refine ifB_false rfl ?_
  simp only [someA, add_mk, Nat.zero_add]
  exact ⟨_, cell_blk h5 rfl, by trivial, by trivial⟩

abbrev InS (hs : List Bool) (k : Int) : Prop := 0 ≤ k ∧ k < hs.length

theorem within_any (h : SH w p gb hs) (k : Int) : Calls Try.prog 71 #[.pointer (some ⟨p, 0, none⟩), .int .i64 k] w (Ret fun r w' => r = .int .i64 (if InS hs k then 0 else 12) ∧ w' = w) := by
  obtain ⟨⟨ws, rest, c, h1, h2, h3, h4, h5, h6⟩, hne, hsm⟩ := h
  refine VC.shelf_Shelf_within.ok ?_
  unfold VC.shelf_Shelf_within
  refine ifB_false rfl (ifD (fun hk => ⟨by rw [if_neg (by omega)], rfl⟩) (fun hk => ?_))
  simp only [someA, add_mk, Nat.zero_add]
  exact ⟨_, cell_blk h5 rfl, ifD (fun hk2 => ⟨by rw [if_neg (by omega)], by trivial⟩) (fun hk2 => ⟨by rw [if_pos (by omega)], by trivial⟩)⟩

theorem word_idx (k : Nat) (hk : k < 65536) : IntKind.i64.wrap ((k : Int).tdiv 64) = ((k / 64 : Nat) : Int) ∧ (k : Int).tmod 64 = ((k % 64 : Nat) : Int) := by
  refine ⟨?_, ?_⟩
  · rw [show (64 : Int) = ((64 : Nat) : Int) from rfl, ← Int.ofNat_tdiv, wrap_i64 (by omega) (by omega)]
  · rw [show (64 : Int) = ((64 : Nat) : Int) from rfl, ← Int.ofNat_tmod]

theorem bit_test {x b : Nat} (hx : x < 18446744073709551616) (hb : b < 64) : (bits .and .u64 (shrV .u64 (x : Int) (b : Int)) 1 == (0 : Int)) = !x.testBit b := by
  have hs : shrV .u64 (x : Int) (b : Int) = ((x / 2 ^ b : Nat) : Int) := by
    rw [shrV_u64 (by omega) (by omega), Int.natCast_ediv, Int.natCast_pow]
    rfl
  have hle : x / 2 ^ b ≤ x := Nat.div_le_self _ _
  rw [hs, show (1 : Int) = ((1 : Nat) : Int) from rfl, bits_and (by omega) (by omega), Nat.testBit, Nat.shiftRight_eq_div_pow, Nat.and_comm 1]
  generalize x / 2 ^ b &&& 1 = y
  cases y with
  | zero => rfl
  | succ y => simp; omega

theorem taken_any (h : SH w p gb hs) (k : Int) : Calls Try.prog 51 #[.pointer (some ⟨p, 0, none⟩), .int .i64 k] w
    (Ret fun r w' => r = .bool (decide (InS hs k ∧ hs[k.toNat]? = some true)) ∧ w' = w) := by
  refine VC.shelf_Shelf_Taken.ok ?_
  unfold VC.shelf_Shelf_Taken
  refine .of (within_any h k) ?_
  rintro r w1 ⟨rfl, rfl⟩
  refine ⟨_, rfl, ?_⟩
  by_cases hin : InS hs k
  case neg =>
    rw [if_neg hin]
    exact ifB_false rfl ⟨by rw [decide_eq_false (fun q => hin q.1)], rfl⟩
  rw [if_pos hin]
  obtain ⟨kn, rfl⟩ := Int.eq_ofNat_of_zero_le hin.1
  obtain ⟨⟨ws, rest, c, h1, h2, h3, h4, h5, h6⟩, hne, hsm⟩ := h
  have hkn : kn < hs.length := by omega
  obtain ⟨b, hb⟩ : ∃ b, hs[kn]? = some b := ⟨_, List.getElem?_eq_getElem hkn⟩
  obtain ⟨x, hx, hxl, hbit⟩ := h1.at hb
  have hlen := h1.len
  obtain ⟨e1, e2⟩ := word_idx kn (by omega)
  rw [e1, e2]
  refine ifB_true rfl ?_
  simp only [someA, add_mk, Nat.zero_add, Int.toNat_natCast]
  refine ⟨_, _, _, cell_blk h5 rfl, by decide, by omega, by omega, ?_⟩
  simp only [someA, add_mk, Nat.zero_add]
  refine ⟨_, cell_blk h6 (wC_get ws rest hx), by decide, by omega, ?_, by trivial⟩
  rw [bit_test hxl (Nat.mod_lt _ (by decide)), hbit, Bool.not_not]
  cases b with
  | true => rw [decide_eq_true ⟨hin, hb⟩]
  | false => rw [decide_eq_false fun q => by rw [hb] at q; exact absurd q.2 (by simp)]

end

end Go.Proofs.Ytkbgiflmecaffaa.Sf
