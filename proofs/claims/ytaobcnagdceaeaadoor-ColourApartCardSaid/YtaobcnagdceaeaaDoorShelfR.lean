/- The reference's shelf (garthref02), and a call of both (garthlaw02.done). Conditions: they are there. -/
import Derived.Test.YtaobcnagdceaeaaDoorShelf3
set_option linter.unusedVariables false
set_option linter.unusedSimpArgs false
namespace Go.Proofs.YtaobcnagdceaeaaDoor
open Go.RowKit

def fC (hs : List Bool) : List Value := hs.map Value.bool

structure RS (w : World) (p gb : Nat) (hs : List Bool) : Prop where
  head : w.heap[p]? = some (.cells #[.slice (some ⟨gb, 0, none⟩) hs.length hs.length] 80 (0, 0))
  data : w.heap[gb]? = some (.cells (fC hs).toArray 4 (0, 0))
  ne : p ≠ gb
  small : hs.length ≤ 65536

theorem RS.keep {F : Nat → Prop} {w w' : World} {p gb : Nat} {hs : List Bool} (h : RS w p gb hs) (hm : Mod F w w') (hF : ∀ k, fpS p gb k → ¬ F k) : RS w' p gb hs :=
  ⟨hm.keep h.head (hF p (.inl rfl)), hm.keep h.data (hF gb (.inr rfl)), h.ne, h.small⟩

theorem RS.ext {w w' : World} {p gb : Nat} {hs : List Bool} (h : RS w p gb hs) (hm : Ext w w') : RS w' p gb hs := h.keep hm (fun _ _ x => x)

theorem RS.lt {w : World} {p gb : Nat} {hs : List Bool} (h : RS w p gb hs) : ∀ k, fpS p gb k → k < w.heap.size := by
  rintro k (rfl | rfl)
  · exact lt_of_blk h.head
  · exact lt_of_blk h.data

theorem fC_get (hs : List Bool) {i : Nat} {c : Bool} (h : hs[i]? = some c) : (fC hs).toArray[i]? = some (.bool c) := by
  rw [List.getElem?_toArray]
  simp [fC, h]

theorem fC_set (hs : List Bool) {i : Nat} {c : Bool} (hi : i < hs.length) : setAt (fC hs).toArray i [.bool c] = (fC (hs.set i c)).toArray := by
  simp only [setAt, List.setIfInBounds_toArray]
  congr 1
  simp [fC, List.map_set]

section
variable {w : World} {p gb : Nat} {hs : List Bool}

theorem RS.slot (h : RS w p gb hs) : w.cell? (Addr.mk p 0 none) = some (.slice (some ⟨gb, 0, none⟩) hs.length hs.length) := cell_blk h.head rfl
theorem RS.flag (h : RS w p gb hs) {i : Nat} {c : Bool} (hc : hs[i]? = some c) : w.cell? (Addr.mk gb i none) = some (.bool c) := cell_blk h.data (fC_get hs hc)

theorem RS.write {K : World → Prop} (h : RS w p gb hs) {i : Nat} (c : Bool) (hi : i < hs.length) (k : ∀ w1, RS w1 p gb (hs.set i c) → Mod (fpS p gb) w w1 → K w1) :
    WrC w (Addr.mk gb i none) [Value.bool c].length ∧ ∀ w1, w1 = wr w (Addr.mk gb i none) [Value.bool c] → K w1 :=
  wr_intro (n := 1) h.data (by simp [fC]; omega) fun w1 hg hm hs1 => k w1 ⟨by simpa using hm.keep h.head h.ne, by rw [hg, fC_set hs hi], h.ne, by simpa using h.small⟩ (hm.mono fun j hj => .inr hj)

theorem refLowest_any (h : RS w p gb hs) : Calls Tryd.prog 26 #[.pointer (some ⟨p, 0, none⟩)] w (Ret fun r w' => r = .int .i64 (lowI hs) ∧ w' = w) := by
  have hsm := h.small
  refine VC.garthref02_Shelf_Lowest.ok ?_
  unfold VC.garthref02_Shelf_Lowest
  refine ⟨fun m i w1 => ∃ j : Nat, i = (j : Int) ∧ m + j = hs.length ∧ w1 = w ∧ ∀ q, q < j → hs[q]? ≠ some false, ⟨hs.length, 0, rfl, rfl, rfl, fun q hq => absurd hq (Nat.not_lt_zero q)⟩, ?_⟩
  rintro m jv i w1 ⟨j, rfl, hm, rfl, hz⟩
  simp only [someA, add_mk, Nat.zero_add, Int.toNat_natCast]
  refine ⟨_, _, _, h.slot, ifD (fun hj => ⟨_, _, _, h.slot, by omega, by omega, ?_⟩) (fun hj => ⟨?_, by trivial⟩)⟩
  · obtain ⟨c, hc⟩ : ∃ c, hs[j]? = some c := ⟨_, List.getElem?_eq_getElem (by omega)⟩
    simp only [someA, add_mk, Nat.zero_add]
    refine ⟨c, h.flag hc, ?_⟩
    cases c with
    | false => exact ifB_true rfl ⟨by rw [lowI_some (low_some hc hz)], by trivial⟩
    | true =>
      refine ifB_false rfl ⟨m - 1, by omega, j + 1, ?_, by omega, by trivial, fun q hq => ?_⟩
      · rw [wrap_i64 (by omega) (by omega)]; rfl
      · by_cases e : q < j
        · exact hz q e
        · rw [show q = j by omega, hc]; simp
  · rw [lowI_none (low_none fun q e => ?_)]
    have hq := (List.getElem?_eq_some_iff.1 e).1
    exact hz q (by omega) e

theorem count_take_succ {c : Bool} {j : Nat} (h : hs[j]? = some c) : (hs.take (j + 1)).count false = (hs.take j).count false + (if c then 0 else 1) := by
  rw [List.take_add_one, h, List.count_append]
  cases c <;> simp

theorem refFree_any (h : RS w p gb hs) : Calls Tryd.prog 25 #[.pointer (some ⟨p, 0, none⟩)] w (Ret fun r w' => r = .int .i64 (hs.count false : Nat) ∧ w' = w) := by
  have hsm := h.small
  refine VC.garthref02_Shelf_Free.ok ?_
  unfold VC.garthref02_Shelf_Free
  refine ⟨fun m n i w1 => ∃ j : Nat, i = (j : Int) ∧ m + j = hs.length ∧ n = ((hs.take j).count false : Nat) ∧ w1 = w, ⟨hs.length, 0, rfl, rfl, by simp, rfl⟩, ?_⟩
  rintro m jv n i w1 ⟨j, rfl, hm, rfl, rfl⟩
  simp only [someA, add_mk, Nat.zero_add, Int.toNat_natCast]
  have hle : (hs.take j).count false ≤ hs.length := Nat.le_trans List.count_le_length (by simp; omega)
  refine ⟨_, _, _, h.slot, ifD (fun hj => ⟨_, _, _, h.slot, by omega, by omega, ?_⟩) (fun hj => ⟨?_, by trivial⟩)⟩
  · obtain ⟨c, hc⟩ : ∃ c, hs[j]? = some c := ⟨_, List.getElem?_eq_getElem (by omega)⟩
    simp only [someA, add_mk, Nat.zero_add]
    refine ⟨c, h.flag hc, ?_⟩
    have e := count_take_succ hc
    cases c with
    | false =>
      refine ifB_true rfl ⟨m - 1, by omega, j + 1, ?_, by omega, ?_, by trivial⟩
      · rw [wrap_i64 (by omega) (by omega)]; rfl
      · rw [wrap_i64 (by omega) (by omega), e]; simp
    | true =>
      refine ifB_false rfl ⟨m - 1, by omega, j + 1, ?_, by omega, ?_, by trivial⟩
      · rw [wrap_i64 (by omega) (by omega)]; rfl
      · rw [e]; simp
  · rw [List.take_of_length_le (by omega)]

theorem refTaken_any (h : RS w p gb hs) (k : Int) : Calls Tryd.prog 27 #[.pointer (some ⟨p, 0, none⟩), .int .i64 k] w (Ret fun r w' => r = .bool (isTaken hs k) ∧ w' = w) := by
  refine VC.garthref02_Shelf_Taken.ok ?_
  unfold VC.garthref02_Shelf_Taken
  simp only [someA, add_mk, Nat.zero_add]
  refine ifD (fun h0 => ⟨_, _, _, h.slot, ifD (fun h1 => ⟨_, _, _, h.slot, h0, h1, ?_⟩) (fun h1 => ⟨by rw [isTaken_out (by omega)], by trivial⟩)⟩) (fun h0 => ⟨by rw [isTaken_out (by omega)], by trivial⟩)
  obtain ⟨kn, rfl⟩ := Int.eq_ofNat_of_zero_le h0
  obtain ⟨c, hc⟩ : ∃ c, hs[kn]? = some c := ⟨_, List.getElem?_eq_getElem (by omega)⟩
  simp only [someA, add_mk, Nat.zero_add, Int.toNat_natCast]
  exact ⟨c, h.flag hc, by rw [isTaken_at hc], by trivial⟩

theorem refTake_any (h : RS w p gb hs) : Calls Tryd.prog 51 #[.pointer (some ⟨p, 0, none⟩)] w
    (Ret fun r w' => r = .tuple #[.int .i64 (takeI hs), .int .i64 (takeE hs)] ∧ RS w' p gb (takeH hs) ∧ Mod (fpS p gb) w w') := by
  refine VC.garthref02_Shelf_Take.ok ?_
  unfold VC.garthref02_Shelf_Take
  refine .of (refLowest_any h) ?_
  rintro r w1 ⟨rfl, rfl⟩
  refine ⟨_, rfl, ?_⟩
  cases hlow : hs.findIdx? (fun b => !b) with
  | none =>
    rw [lowI_none hlow]
    refine ifB_true rfl ⟨?_, ?_, Mod.refl _ _⟩
    · simp [takeI, takeE, hlow]
    · simpa [takeH, hlow] using h
  | some k =>
    rw [lowI_some hlow]
    have hk := (List.getElem?_eq_some_iff.1 (low_at hlow).1).1
    refine ifD (fun q => absurd q (by omega)) (fun _ => ?_)
    simp only [someA, add_mk, Nat.zero_add, Int.toNat_natCast]
    refine ⟨_, _, _, h.slot, by omega, by omega, ?_⟩
    simp only [someA, add_mk, Nat.zero_add]
    refine h.write true hk fun w1 h1 hm => ⟨?_, ?_, hm⟩
    · simp [takeI, takeE, hlow]
    · simpa [takeH, hlow] using h1

theorem refTakeAt_any (h : RS w p gb hs) (k : Int) : Calls Tryd.prog 52 #[.pointer (some ⟨p, 0, none⟩), .int .i64 k] w
    (Ret fun r w' => r = .int .i64 (takeAtE hs k) ∧ RS w' p gb (takeAtH hs k) ∧ Mod (fpS p gb) w w') := by
  refine VC.garthref02_Shelf_TakeAt.ok ?_
  unfold VC.garthref02_Shelf_TakeAt
  simp only [someA, add_mk, Nat.zero_add]
  have out : ¬ InS hs k → (Value.int .i64 12 = .int .i64 (takeAtE hs k) ∧ RS w p gb (takeAtH hs k) ∧ Mod (fpS p gb) w w) := fun q => ⟨by simp only [takeAtE, if_neg q], by simpa only [takeAtH, if_neg q] using h, Mod.refl _ _⟩
  refine ifD (fun h0 => out (by omega)) (fun h0 => ⟨_, _, _, h.slot, ifD (fun h1 => out (by omega)) (fun h1 => ⟨_, _, _, h.slot, by omega, by omega, ?_⟩)⟩)
  obtain ⟨kn, rfl⟩ := Int.eq_ofNat_of_zero_le (show 0 ≤ k by omega)
  obtain ⟨c, hc⟩ : ∃ c, hs[kn]? = some c := ⟨_, List.getElem?_eq_getElem (by omega)⟩
  have hin : InS hs (kn : Int) := by omega
  simp only [someA, add_mk, Nat.zero_add, Int.toNat_natCast]
  refine ⟨c, h.flag hc, ?_⟩
  cases c with
  | true => exact ifB_true rfl ⟨by simp [takeAtE, if_pos hin, hc], by simpa only [takeAtH, if_pos hin, Int.toNat_natCast, set_same hc] using h, Mod.refl _ _⟩
  | false =>
    refine ifB_false rfl ⟨_, _, _, h.slot, by omega, by omega, ?_⟩
    simp only [someA, add_mk, Nat.zero_add]
    exact h.write true (by omega) fun w1 h1 hm => ⟨by simp [takeAtE, if_pos hin, hc], by simpa only [takeAtH, if_pos hin, Int.toNat_natCast] using h1, hm⟩

theorem refGive_any (h : RS w p gb hs) (k : Int) : Calls Tryd.prog 53 #[.pointer (some ⟨p, 0, none⟩), .int .i64 k] w
    (Ret fun r w' => r = .int .i64 (giveE hs k) ∧ RS w' p gb (giveH hs k) ∧ Mod (fpS p gb) w w') := by
  refine VC.garthref02_Shelf_Give.ok ?_
  unfold VC.garthref02_Shelf_Give
  simp only [someA, add_mk, Nat.zero_add]
  have out : ¬ InS hs k → (Value.int .i64 12 = .int .i64 (giveE hs k) ∧ RS w p gb (giveH hs k) ∧ Mod (fpS p gb) w w) := fun q => ⟨by simp only [giveE, if_neg q], by simpa only [giveH, if_neg q] using h, Mod.refl _ _⟩
  refine ifD (fun h0 => out (by omega)) (fun h0 => ⟨_, _, _, h.slot, ifD (fun h1 => out (by omega)) (fun h1 => ⟨_, _, _, h.slot, by omega, by omega, ?_⟩)⟩)
  obtain ⟨kn, rfl⟩ := Int.eq_ofNat_of_zero_le (show 0 ≤ k by omega)
  obtain ⟨c, hc⟩ : ∃ c, hs[kn]? = some c := ⟨_, List.getElem?_eq_getElem (by omega)⟩
  have hin : InS hs (kn : Int) := by omega
  simp only [someA, add_mk, Nat.zero_add, Int.toNat_natCast]
  refine ⟨c, h.flag hc, ?_⟩
  cases c with
  | false => exact ifB_true rfl ⟨by simp [giveE, if_pos hin, hc], by simpa only [giveH, if_pos hin, Int.toNat_natCast, set_same hc] using h, Mod.refl _ _⟩
  | true =>
    refine ifB_false rfl ⟨_, _, _, h.slot, by omega, by omega, ?_⟩
    simp only [someA, add_mk, Nat.zero_add]
    exact h.write false (by omega) fun w1 h1 hm => ⟨by simp [giveE, if_pos hin, hc], by simpa only [giveH, if_pos hin, Int.toNat_natCast] using h1, hm⟩

end

theorem madeCells_bool (n : Nat) : madeCells #[Value.bool false] (n * 1) = (fC (List.replicate n false)).toArray := by
  have h : (madeCells #[Value.bool false] (n * 1)).toList = fC (List.replicate n false) := by
    apply List.ext_getElem?
    intro j
    simp only [fC, Array.getElem?_toList, List.getElem?_map, List.getElem?_replicate]
    by_cases hj : j < n
    · simp [madeCells, hj, Nat.mod_one]
    · simp [madeCells, hj]
  rw [← h, Array.toArray_toList]

def NewR (w : World) (n : Int) (r : Value) (w' : World) : Prop :=
  (¬ (0 ≤ n ∧ n ≤ 65536) ∧ r = .tuple #[.pointer none, .int .i64 12] ∧ w' = w) ∨
  (0 ≤ n ∧ n ≤ 65536 ∧ ∃ p gb, r = .tuple #[.pointer (some ⟨p, 0, none⟩), .int .i64 0] ∧ RS w' p gb (List.replicate n.toNat false) ∧ Ext w w' ∧ ∀ k, fpS p gb k → w.heap.size ≤ k)

theorem refNew_any (w : World) (n : Int) : Calls Tryd.prog 23 #[.int .i64 n] w (Ret (NewR w n)) := by
  refine VC.garthref02_New.ok ?_
  unfold VC.garthref02_New
  refine ifD (fun h => .inl ⟨by omega, rfl, rfl⟩) (fun h0 => ifD (fun h => .inl ⟨by omega, rfl, rfl⟩) (fun h1 => ?_))
  refine ⟨by omega, by omega, by omega, by omega, al_intro fun gb w1 hgb hE1 hs1 hs1' => al_intro fun p w2 hp hE2 hs2 hs2' => .inr ⟨by omega, by omega, p, gb, rfl, ⟨?_, ?_, by omega, by simp; omega⟩, hE1.trans hE2, ?_⟩⟩
  · rw [List.length_replicate]; exact hp
  · rw [madeCells_bool] at hgb; exact hE2.keep hgb
  · rintro k (rfl | rfl) <;> omega

/-! ### both -/

def fpB (p gb q qb : Nat) (k : Nat) : Prop := fpS p gb k ∨ fpS q qb k

theorem done_any {w : World} (tab : Tab w) (h0 : 0 < w.heap.size) {p gb q qb : Nat} {hs : List Bool} (h : SH w p gb hs) (hr : RS w q qb hs) (hd : ∀ k, fpS p gb k → ¬ fpS q qb k) (hz : ¬ fpS p gb 0) (kd k : Int) :
    Calls Tryd.prog 24 #[.pointer (some ⟨p, 0, none⟩), .pointer (some ⟨q, 0, none⟩), .agg #[.int .i64 kd, .int .i64 k]] w
      (Ret fun r w' => r = .bool true ∧ ∃ hs' : List Bool, hs'.length = hs.length ∧ SH w' p gb hs' ∧ RS w' q qb hs' ∧ Mod (fpB p gb q qb) w w') := by
  refine VC.garthlaw02_done.ok ?_
  unfold VC.garthlaw02_done
  refine al_intro fun b w1 hb hE1 hs1 hs1' => ?_
  have h1 := h.ext hE1
  have hr1 := hr.ext hE1
  have c0 : w1.cell? ((Addr.mk b 0 none).add 0) = some (.int .i64 kd) := by rw [add_mk]; exact cell_blk hb rfl
  have c1 : ∀ w2 : World, Ext w1 w2 → w2.cell? ((Addr.mk b 0 none).add 1) = some (.int .i64 k) := fun w2 hE => by rw [add_mk]; exact cell_blk (hE.keep hb) rfl
  have fin : ∀ {w2 w3 : World} {hs' : List Bool}, Mod (fpS p gb) w1 w2 → Mod (fpS q qb) w2 w3 → SH w2 p gb hs' → RS w3 q qb hs' → hs'.length = hs.length →
      ∃ hs'' : List Bool, hs''.length = hs.length ∧ SH w3 p gb hs'' ∧ RS w3 q qb hs'' ∧ Mod (fpB p gb q qb) w w3 := fun m1 m2 s1 s2 hl =>
    ⟨_, hl, s1.keep m2 (fun j hj => hd j hj), s2, Mod.trans (Mod.trans (hE1.mod (F := fpB p gb q qb)) m1 (fun j _ hj => .inl hj)) m2 (fun j _ hj => .inr hj)⟩
  have nb : ∀ j, fpS p gb j → j ≠ b := fun j hj e => by have := h.lt j hj; omega
  have swap : ∀ j, fpS q qb j → ¬ fpS p gb j := fun j hj hj' => hd j hj' hj
  have self : ∀ x : Int, Value.bool (x == x) = Value.bool true := fun x => by simp
  refine ⟨_, c0, ifB_intro (fun hk1 => ?_) (fun hk1 => ifB_intro (fun hk2 => ?_) (fun hk2 => ifB_intro (fun hk3 => ?_) (fun hk3 => ⟨rfl, hs, rfl, h1, hr1, hE1.mod⟩)))⟩
  · refine .of (take_any (tab.ext hE1) h1) ?_
    rintro r w2 ⟨rfl, h2, hm2⟩
    refine ⟨_, _, rfl, .of (refTake_any (hr1.keep hm2 swap)) ?_⟩
    rintro r w3 ⟨rfl, h3, hm3⟩
    exact ⟨_, _, rfl, ifB_true (by simp) ⟨self _, fin hm2 hm3 h2 h3 (len_takeH hs)⟩⟩
  · rintro w2 rfl
    have hE2 := Ext.drew w1
    refine ⟨_, c1 _ hE2, _, c1 _ hE2, .of (takeAt_any (h1.ext hE2) k) ?_⟩
    rintro r w3 ⟨rfl, h3, hm3⟩
    have hm3' : Mod (fpS p gb) w1 w3 := Mod.trans hE2.mod hm3 (fun _ _ x => x)
    refine ⟨_, rfl, ⟨_, by rw [add_mk]; exact cell_blk (hm3'.keep hb (fun e => nb b e rfl)) rfl, rfl⟩, .of (refTakeAt_any (hr1.keep hm3' swap) k) ?_⟩
    rintro r w4 ⟨rfl, h4, hm4⟩
    exact ⟨_, rfl, self _, fin hm3' hm4 h3 h4 (len_takeAtH hs k)⟩
  · rintro w2 rfl
    have hE2 := Ext.drew w1
    refine ⟨_, c1 _ hE2, _, c1 _ hE2, .of (give_any (h1.ext hE2) k) ?_⟩
    rintro r w3 ⟨rfl, h3, hm3⟩
    have hm3' : Mod (fpS p gb) w1 w3 := Mod.trans hE2.mod hm3 (fun _ _ x => x)
    refine ⟨_, rfl, ⟨_, by rw [add_mk]; exact cell_blk (hm3'.keep hb (fun e => nb b e rfl)) rfl, rfl⟩, .of (refGive_any (hr1.keep hm3' swap) k) ?_⟩
    rintro r w4 ⟨rfl, h4, hm4⟩
    exact ⟨_, rfl, self _, fin hm3' hm4 h3 h4 (len_giveH hs k)⟩

/-! ### awake -/

theorem awake_any {w : World} (tab : Tab w) : Calls Tryd.prog 15 #[] w (Ret fun r w' => r = .bool true ∧ Ext w w') := by
  refine VC.garthlaw02_awake.ok ?_
  unfold VC.garthlaw02_awake
  refine .of (new_any w 3) ?_
  rintro r w1 (⟨hn, _⟩ | ⟨_, _, p, gb, rfl, h1, hE1, hnew⟩)
  · exact absurd (by decide) hn
  have h1 : SH w1 p gb [false, false, false] := h1
  refine ⟨_, _, rfl, ifB_false rfl (ifB_false rfl (.of (take_any (tab.ext hE1) h1) ?_))⟩
  have step : ∀ {u v : World}, Ext w u → Mod (fpS p gb) u v → Ext w v := fun hu hm => hu.new hm hnew
  rintro r w2 ⟨rfl, h2, hm2⟩
  have hE2 := step hE1 hm2
  refine ⟨_, _, rfl, .of (take_any (tab.ext hE2) h2) ?_⟩
  rintro r w3 ⟨rfl, h3, hm3⟩
  have hE3 := step hE2 hm3
  refine ⟨_, _, rfl, .of (give_any h3 0) ?_⟩
  rintro r w4 ⟨rfl, h4, hm4⟩
  have hE4 := step hE3 hm4
  refine ⟨_, rfl, .of (take_any (tab.ext hE4) h4) ?_⟩
  rintro r w5 ⟨rfl, h5, hm5⟩
  have hE5 := step hE4 hm5
  refine ⟨_, _, rfl, .of (take_any (tab.ext hE5) h5) ?_⟩
  rintro r w6 ⟨rfl, h6, hm6⟩
  have hE6 := step hE5 hm6
  refine ⟨_, _, rfl, .of (take_any (tab.ext hE6) h6) ?_⟩
  rintro r w7 ⟨rfl, h7, hm7⟩
  have hE7 := step hE6 hm7
  refine ⟨_, _, rfl, ifB_true (by decide) (ifB_true (by decide) (ifB_true (by decide) (ifB_true (by decide) (ifB_true (by decide) (ifB_true (by decide) (.of (lowest_any (tab.ext hE7) h7) ?_))))))⟩
  rintro r w8 ⟨rfl, rfl⟩
  refine ⟨_, rfl, ?_, hE7⟩
  exact congrArg Value.bool (by decide)

end Go.Proofs.YtaobcnagdceaeaaDoor
