/- Contracts of package shelf: New, Copy; no shelf; the reference's shelf. Conditions: what is named is there. -/
import Derived.Test.YtkbgiflmecaffaaPShelf2
set_option linter.unusedVariables false
set_option linter.unusedSimpArgs false
namespace Go.Proofs.Ytkbgiflmecaffaa.Sf
open Go.RowKit

/-! ### New -/

theorem madeCells_u64 (n : Nat) : madeCells #[Value.int .u64 0] (n * 1) = (wC (List.replicate n 0) ++ []).toArray := by
  have h : (madeCells #[Value.int .u64 0] (n * 1)).toList = wC (List.replicate n 0) := by
    apply List.ext_getElem?
    intro j
    simp only [wC, Array.getElem?_toList, List.getElem?_map, List.getElem?_replicate]
    by_cases hj : j < n
    · simp [madeCells, hj, Nat.mod_one]
    · simp [madeCells, hj]
  rw [← h, List.append_nil, Array.toArray_toList]

/-- The words while New sets their bits. -/
def Fill (ws : List Nat) (j : Nat) : Prop := ∀ (i x : Nat), ws[i]? = some x → x < 18446744073709551616 ∧ ∀ b, b < 64 → x.testBit b = decide (64 * i + b < j)

theorem Fill.step {ws : List Nat} {j x : Nat} (h : Fill ws j) (hx : ws[j / 64]? = some x) : Fill (ws.set (j / 64) (x ||| 2 ^ (j % 64))) (j + 1) := by
  have hp : 2 ^ (j % 64) < 2 ^ 64 := Nat.pow_lt_pow_right (by decide) (Nat.mod_lt _ (by decide))
  have hxl := (List.getElem?_eq_some_iff.1 hx).1
  intro i y hy
  rw [List.getElem?_set] at hy
  by_cases hi : j / 64 = i
  · rw [if_pos hi, if_pos (by omega)] at hy
    cases hy
    obtain ⟨h1, h2⟩ := h _ x hx
    refine ⟨Nat.or_lt_two_pow (n := 64) h1 hp, fun b hb => ?_⟩
    rw [Nat.testBit_or, Nat.testBit_two_pow, h2 b hb, hi]
    by_cases e : j % 64 = b
    · rw [decide_eq_true e, Bool.or_true, decide_eq_true (by omega)]
    · rw [decide_eq_false e, Bool.or_false]
      exact decide_eq_decide.2 (by omega)
  · rw [if_neg hi] at hy
    obtain ⟨h1, h2⟩ := h i y hy
    refine ⟨h1, fun b hb => ?_⟩
    rw [h2 b hb]
    exact decide_eq_decide.2 (by omega)

theorem Fill.done {ws : List Nat} {n : Nat} (h : Fill ws n) (hl : ws.length = (n + 63) / 64) : WRel ws (List.replicate n false) := by
  refine ⟨by simpa using hl, fun i x hx => ⟨(h i x hx).1, fun b hb => ?_⟩⟩
  rw [(h i x hx).2 b hb, List.getElem?_replicate]
  exact decide_eq_decide.2 ⟨fun q => by rw [if_pos q], fun q => by
    by_cases e : 64 * i + b < n
    · exact e
    · rw [if_neg e] at q; cases q⟩

def NewS (w : World) (n : Int) (r : Value) (w' : World) : Prop :=
  (¬ (0 ≤ n ∧ n ≤ 65536) ∧ r = .tuple #[.pointer none, .int .i64 12] ∧ w' = w) ∨
  (0 ≤ n ∧ n ≤ 65536 ∧ ∃ p gb, r = .tuple #[.pointer (some ⟨p, 0, none⟩), .int .i64 0] ∧ SH w' p gb (List.replicate n.toNat false) ∧ Ext w w' ∧ ∀ k, fpS p gb k → w.heap.size ≤ k)

theorem new_any (w : World) (n : Int) : Calls Try.prog 41 #[.int .i64 n] w (Ret (NewS w n)) := by
  refine VC.shelf_New.ok ?_
  unfold VC.shelf_New
  refine ifD (fun h => .inl ⟨by omega, rfl, rfl⟩) (fun h0 => ifD (fun h => .inl ⟨by omega, rfl, rfl⟩) (fun h1 => ?_))
  obtain ⟨m, rfl⟩ := Int.eq_ofNat_of_zero_le (show 0 ≤ n by omega)
  have e1 : IntKind.i64.wrap ((IntKind.i64.wrap ((m : Int) + 63)).tdiv 64) = (((m + 63) / 64 : Nat) : Int) := by
    rw [wrap_i64 (n := (m : Int) + 63) (by omega) (by omega)]
    rw [show (m : Int) + 63 = ((m + 63 : Nat) : Int) by omega, show (64 : Int) = ((64 : Nat) : Int) from rfl, ← Int.ofNat_tdiv]
    exact wrap_i64 (by omega) (by omega)
  simp only [e1, Int.toNat_natCast]
  refine ⟨by decide, by omega, by omega, by omega, by omega, al_intro fun gb w1 hgb hE1 hs1 hs1' => al_intro fun p w2 hp hE2 hs2 hs2' => ?_⟩
  rw [madeCells_u64] at hgb
  have hgb2 := hE2.keep hgb
  refine ⟨fun k i w3 => ∃ (j : Nat) (ws : List Nat), i = (j : Int) ∧ k + j = m ∧ ws.length = (m + 63) / 64 ∧ Fill ws j ∧
      w3.heap[p]? = some (.cells #[.slice (some ⟨gb, 0, none⟩) ((m + 63) / 64) ((m + 63) / 64), .int .i64 (m : Int), .int .i64 (m : Int)] 100 (0, 0)) ∧
      w3.heap[gb]? = some (.cells (wC ws ++ []).toArray 101 (0, 0)) ∧ Ext w w3,
    ⟨m, 0, List.replicate ((m + 63) / 64) 0, rfl, rfl, by simp, fun i x hx => ?_, hp, hgb2, hE1.trans hE2⟩, ?_⟩
  · rw [List.getElem?_replicate] at hx
    split at hx
    · cases hx; exact ⟨by decide, fun b _ => by simp⟩
    · cases hx
  rintro k jv i w3 ⟨j, ws, rfl, hk, hl, hF, hp3, hg3, hE3⟩
  refine ifD (fun hj => ?_) (fun hj => .inr ⟨by omega, by omega, p, gb, rfl, ⟨⟨ws, [], (m + 63) / 64, ?_, by omega, by simp only [maxLen]; omega, by simp [hl], ?_, hg3⟩, by omega, by simp; omega⟩, hE3, ?_⟩)
  · rintro w4 rfl
    have hE4 := Ext.drew w3
    obtain ⟨x, hx⟩ : ∃ x, ws[j / 64]? = some x := ⟨_, List.getElem?_eq_getElem (by omega)⟩
    obtain ⟨q1, q2⟩ := word_idx j (by omega)
    have hxl := (hF _ x hx).1
    have hp2 : 2 ^ (j % 64) < 2 ^ 64 := Nat.pow_lt_pow_right (by decide) (Nat.mod_lt _ (by decide))
    rw [q1, q2]
    simp only [someA, add_mk, Nat.zero_add, Int.toNat_natCast]
    refine ⟨_, _, _, cell_blk (hE4.keep hp3) rfl, by decide, by trivial, by omega, by omega, ?_⟩
    simp only [someA, add_mk, Nat.zero_add]
    refine ⟨by trivial, _, cell_blk (hE4.keep hg3) (wC_get ws [] hx), by decide, by trivial, by omega, by trivial, by trivial, by omega, by omega, by trivial, ?_⟩
    rw [shl_one (Nat.mod_lt _ (by decide)), bits_or hxl hp2]
    refine wr_intro (n := 1) (hE4.keep hg3) (by simp [wC]; omega) fun w5 hg5 hm5 hs5 => ⟨k - 1, by omega, j + 1, ws.set (j / 64) (x ||| 2 ^ (j % 64)), ?_, by omega, by simpa using hl, hF.step hx, hm5.keep (hE4.keep hp3) (by omega), ?_, ?_⟩
    · rw [wrap_i64 (by omega) (by omega)]; rfl
    · rw [hg5, wC_set ws [] (by omega)]
    · exact (hE3.trans hE4).new hm5 (fun k hk => by subst hk; omega)
  · have : j = m := by omega
    subst this
    rw [Int.toNat_natCast]
    exact hF.done hl
  · have : j = m := by omega
    subst this
    rw [Int.toNat_natCast, hp3, List.length_replicate, List.count_replicate, hl]
    simp
  · rintro k (rfl | rfl) <;> omega

/-! ### Copy -/

theorem clone_any {w : World} {gb : Nat} {ws : List Nat} {rest : List Value} {c : Nat} (hl : ws.length ≤ 1024) (h : w.heap[gb]? = some (.cells (wC ws ++ rest).toArray 101 (0, 0))) :
    Calls Try.prog 80 #[.slice (some ⟨gb, 0, none⟩) ws.length c] w (Ret fun r w' => ∃ g c' rest', r = .slice (some ⟨g, 0, none⟩) ws.length c' ∧
      w'.heap[g]? = some (.cells (wC ws ++ rest').toArray 101 (0, 0)) ∧ ws.length ≤ c' ∧ c' ≤ maxLen ∧ rest'.length = c' - ws.length ∧ Ext w w' ∧ w.heap.size ≤ g) := by
  refine VC.slices_Clone___uint64_uint64_.ok ?_
  unfold VC.slices_Clone___uint64_uint64_
  refine ifB_false rfl (al_intro fun b w1 hb hE1 hs1 hs1' => ?_)
  have hown : w1.ownsRow 0 101 1 (.slice (some ⟨b, 0, none⟩) 0 0) 0 [] := ⟨rfl, .inr ⟨b, 0, #[], rfl, Nat.zero_le _, hb, Nat.le_refl _, by simp [maxLen], rfl, rfl⟩⟩
  obtain ⟨i, hi, hsz, hby, hz⟩ : ∃ i, Try.prog.info? 101 = some i ∧ i.size = 1 ∧ i.bytes = 8 ∧ i.zero = some (.int .u64 0) := info_of (by kernel_rfl)
  have hnews : ∀ (j : Nat) (u : Value), (wC ws)[j]? = some u → w1.cell? ((⟨gb, 0, none⟩ : Addr).add j) = some u := fun j u hu => by
    have hj := (List.getElem?_eq_some_iff.1 hu).1
    rw [add_mk, Nat.zero_add]
    refine cell_blk (hE1.keep h) ?_
    rw [List.getElem?_toArray, List.getElem?_append_left hj]
    exact hu
  have hone : ∀ u ∈ wC ws, u.oneCell' = true := fun u hu => by
    simp only [wC, List.mem_map] at hu
    obtain ⟨x, _, rfl⟩ := hu
    rfl
  by_cases h0 : ws.length = 0
  · have hz : ws = [] := List.eq_nil_of_length_eq_zero h0
    subst hz
    have hr := run_append_room (P := Try.prog) w1 98 98 101 i (by kernel_rfl) hi b 0 0 #[] hb ⟨gb, 0, none⟩ 0 c [] (by simp) (fun j u hu => by simp at hu) (fun u hu => by simp at hu) (Nat.le_refl _) (by simp)
    refine ⟨_, _, _, _, hr, b, 0, [], rfl, ?_, Nat.le_refl _, by simp [maxLen], rfl, ?_, by omega⟩
    · rw [setRow_heap w1 b #[] _ _ _ hb]
      simp [wC]
    · refine hE1.new (F := (· = b)) ⟨rfl, rfl, rfl, by simp, fun k _ hk => setRow_other w1 b k _ (fun e => hk e)⟩ (fun k hk => by subst hk; omega)
  obtain ⟨v', w2, hr, hrow, hm, hv⟩ := append_own (P := Try.prog) w1 98 98 101 i _ 1 8 (by kernel_rfl) hi hz hsz hby rfl _ 0 [] hown
    ⟨gb, 0, none⟩ ws.length c (wC ws) (by simp [wC]) hnews hone (by simp only [maxLen]; omega) (by omega)
  simp only [Nat.zero_add, List.nil_append] at hrow
  obtain ⟨hlen, hrow⟩ := hrow
  have hE2 : Ext w w2 := hE1.new hm (fun k hk => by simp only [Value.ownBlock, Option.some.injEq] at hk; omega)
  rcases hrow with ⟨rfl, hnil⟩ | ⟨g, cap, cur, rfl, _, hg, hnc, hcm, hcs, htake⟩
  · exact absurd hnil h0
  · refine ⟨_, _, _, w2, hr, g, cap, cur.toList.drop ws.length, rfl, ?_, hnc, hcm, by simp [hcs], hE2, ?_⟩
    · rw [hg]
      have ht : cur.toList.take ws.length = wC ws := by simpa using htake
      rw [← ht, List.take_append_drop, Array.toArray_toList]
    · rcases hv g (by simp [Value.ownBlock]) with e | e
      · simp only [Value.ownBlock, Option.some.injEq] at e; omega
      · have := hE1.size; omega

theorem copy_any {w : World} {p gb : Nat} {hs : List Bool} (h : SH w p gb hs) : Calls Try.prog 62 #[.pointer (some ⟨p, 0, none⟩)] w
    (Ret fun r w' => ∃ q qb, r = .pointer (some ⟨q, 0, none⟩) ∧ SH w' q qb hs ∧ Ext w w' ∧ ∀ k, fpS q qb k → w.heap.size ≤ k) := by
  obtain ⟨⟨ws, rest, cap, h1, h2, h3, h4, h5, h6⟩, hne, hsm⟩ := h
  have hlen := h1.len
  refine VC.shelf_Shelf_Copy.ok ?_
  unfold VC.shelf_Shelf_Copy
  refine ifB_false rfl ?_
  rintro w0 rfl
  have hE := Ext.drew w
  simp only [someA, add_mk, Nat.zero_add]
  refine ⟨_, _, _, cell_blk (hE.keep h5) rfl, _, cell_blk (hE.keep h5) rfl, _, cell_blk (hE.keep h5) rfl, .of (clone_any (by omega) (hE.keep h6)) ?_⟩
  rintro r w2 ⟨g, c', rest', rfl, hg, hc1, hc2, hc3, hE2, hlt⟩
  have hp2 := hE2.keep (hE.keep h5)
  refine ⟨_, _, _, rfl, ⟨_, cell_blk hp2 rfl, by trivial⟩, ⟨_, cell_blk hp2 rfl, by trivial⟩, by trivial, al_intro fun q w3 hq hE3 hs3 hs3' => ⟨q, g, rfl, ⟨⟨ws, rest', c', h1, hc1, hc2, hc3, hq, hE3.keep hg⟩, ?_, hsm⟩, (hE.trans hE2).trans hE3, ?_⟩⟩
  · have := lt_of_blk hg; omega
  · have := (hE.trans hE2).size
    have h7 := hE.size
    rintro k (rfl | rfl) <;> omega

/-! ### no shelf -/

section
variable (w : World)

theorem free_nil : Calls Try.prog 52 #[.pointer none] w (Ret fun r w' => r = .int .i64 0 ∧ w' = w) := by
  refine VC.shelf_Shelf_Free.ok ?_
  unfold VC.shelf_Shelf_Free
  exact ifB_true rfl ⟨rfl, rfl⟩

theorem size_nil : Calls Try.prog 46 #[.pointer none] w (Ret fun r w' => r = .int .i64 0 ∧ w' = w) := by
  refine VC.shelf_Shelf_Size.ok ?_
  unfold VC.shelf_Shelf_Size
  exact ifB_true rfl ⟨rfl, rfl⟩

theorem copy_nil : Calls Try.prog 62 #[.pointer none] w (Ret fun r w' => r = .pointer none ∧ w' = w) := by
  refine VC.shelf_Shelf_Copy.ok ?_
  unfold VC.shelf_Shelf_Copy
  exact ifB_true rfl ⟨rfl, rfl⟩

theorem within_nil (k : Int) : Calls Try.prog 71 #[.pointer none, .int .i64 k] w (Ret fun r w' => r = .int .i64 11 ∧ w' = w) := by
  refine VC.shelf_Shelf_within.ok ?_
  unfold VC.shelf_Shelf_within
  exact ifB_true rfl ⟨rfl, rfl⟩

theorem taken_nil (k : Int) : Calls Try.prog 51 #[.pointer none, .int .i64 k] w (Ret fun r w' => r = .bool false ∧ w' = w) := by
  refine VC.shelf_Shelf_Taken.ok ?_
  unfold VC.shelf_Shelf_Taken
  refine .of (within_nil w k) ?_
  rintro r w1 ⟨rfl, rfl⟩
  exact ⟨_, rfl, ifB_false rfl ⟨rfl, rfl⟩⟩

theorem takeAt_nil (k : Int) : Calls Try.prog 44 #[.pointer none, .int .i64 k] w (Ret fun r w' => r = .int .i64 11 ∧ w' = w) := by
  refine VC.shelf_Shelf_TakeAt.ok ?_
  unfold VC.shelf_Shelf_TakeAt
  refine .of (within_nil w k) ?_
  rintro r w1 ⟨rfl, rfl⟩
  exact ⟨_, rfl, ifB_false rfl (ifB_false rfl ⟨rfl, rfl⟩)⟩

theorem give_nil (k : Int) : Calls Try.prog 49 #[.pointer none, .int .i64 k] w (Ret fun r w' => r = .int .i64 11 ∧ w' = w) := by
  refine VC.shelf_Shelf_Give.ok ?_
  unfold VC.shelf_Shelf_Give
  refine .of (within_nil w k) ?_
  rintro r w1 ⟨rfl, rfl⟩
  exact ⟨_, rfl, ifB_false rfl (ifB_false rfl ⟨rfl, rfl⟩)⟩

end

end Go.Proofs.Ytkbgiflmecaffaa.Sf
