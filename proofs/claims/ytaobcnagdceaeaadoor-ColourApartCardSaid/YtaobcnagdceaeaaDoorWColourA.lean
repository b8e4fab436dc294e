/- The walks of layer 7's statements: ColourNil, ColourAll, ColourLow. Conditions: the table of TrailingZeros64 is laid; the arguments' cells are there. -/
import Derived.Test.YtaobcnagdceaeaaDoorColour3
import Derived.Test.YtaobcnagdceaeaaDoorVcC
set_option linter.unusedVariables false
set_option linter.unusedSimpArgs false
namespace Go.Proofs.YtaobcnagdceaeaaDoor
open Go.RowKit

abbrev WinSh : Sh := .row 1 8 (.int .i64)
abbrev CfgSh : Sh := .pair (.int .i64) (.pair (.int .i64) .unit)

theorem win_row {w : World} {x : WinSh.T} (h : WinSh.Ok w x) : RowAt w x.1.1 1 intF x.2 := fun i y hi => (h.2.2.2 i y hi).1

theorem core_ColourNil (w : World) (tab : Tab w) (k : Int) {pa : Option Addr} {cap : Nat} {l : List Int} (hrow : RowAt w pa 1 intF l) : Calls Tryd.prog 13 #[.int .i64 k, .slice pa l.length cap] w (Ret (Yes w)) := by
  refine VC.garthlaw07_ColourNil.ok ?_
  unfold VC.garthlaw07_ColourNil
  refine ifD (fun _ => .of (cawake_any tab) ?_) (fun hl => al_intro fun b1 w1 hb1 hE1 hs1 _ => ?_)
  · rintro r w1 ⟨rfl, hE⟩
    exact ⟨_, rfl, rfl, hE⟩
  have hl : l.length ≤ 1000 := by have hl : ¬ (l.length : Int) > 1000 := hl; omega
  refine copy_ints hb1 hE1 hs1 hrow (by omega) fun p c w2 hrow2 hE2 => .of (mtake_nil w2 _ _ _) ?_
  rintro r w3 ⟨rfl, rfl⟩
  refine ⟨_, _, rfl, .of (cawake_any (tab.ext hE2)) ?_⟩
  rintro r w4 ⟨rfl, hE4⟩
  have hE4 := hE2.trans hE4
  refine ⟨_, rfl, ifB_true rfl (ifB_true rfl (ifB_true rfl (.of (mgive_nil w4 k) ?_)))⟩
  rintro r w5 ⟨rfl, rfl⟩
  refine ⟨_, rfl, ifB_true rfl (.of (mcolour_nil w5 k) ?_)⟩
  rintro r w6 ⟨rfl, rfl⟩
  refine ⟨_, rfl, ifB_true rfl (.of (mtaken_nil w6 k) ?_)⟩
  rintro r w7 ⟨rfl, hE7⟩
  have hE7 := hE4.trans hE7
  refine ⟨_, rfl, ifB_true rfl (al_intro fun b2 w8 hb2 hE8 hs8 _ => ?_)⟩
  refine copy_ints hb2 hE8 hs8 (hrow.ext hE7) (by omega) fun p c w9 hrow9 hE9 => .of (mfree_nil w9 _ _ _) ?_
  rintro r w10 ⟨rfl, rfl⟩
  refine ⟨_, rfl, ifB_true rfl (.of (each_nil w10) ?_)⟩
  rintro r w11 ⟨rfl, rfl⟩
  refine ⟨_, rfl, ifB_true rfl (.of (mcopy_nil w11) ?_)⟩
  rintro r w12 ⟨rfl, rfl⟩
  exact ⟨_, rfl, rfl, hE7.trans hE9⟩

theorem pg_some_of_cnt {hs : List Bool} {C : Nat} {l : List Int} (h : cnt hs C l ≠ 0) : ∃ p, pg hs C l = some p := by
  cases e : pg hs C l with
  | none => exact absurd (cnt_zero.2 e) h
  | some p => exact ⟨p, rfl⟩

theorem core_ColourAll (w : World) (tab : Tab w) (P Q : Int) {pa : Option Addr} {cap : Nat} {l : List Int} (hrow : RowAt w pa 1 intF l) : Calls Tryd.prog 9 #[.agg #[.int .i64 P, .int .i64 Q], .slice pa l.length cap] w (Ret (Yes w)) := by
  refine VC.garthlaw07_ColourAll.ok ?_
  unfold VC.garthlaw07_ColourAll
  refine al_intro fun b0 w1 hb0 hE1 hs1 hs1' => ⟨_, _, cells_all (vs := [.int .i64 P, .int .i64 Q]) hb0, .of (mnew_any w1 P Q) ?_⟩
  rintro r w2 (⟨_, rfl, hE2⟩ | ⟨_, mb, n, C, F, rfl, rfl, rfl, h2, hE2, hnew, hFm⟩)
  · refine ⟨_, _, rfl, fun bb w3 => bb = true ∧ Ext w w3, .of (cawake_any (tab.ext (hE1.trans hE2))) ?_, ?_⟩
    · rintro r w3 ⟨rfl, hE3⟩
      exact ⟨_, rfl, ifB_false rfl (ifB_true rfl ⟨rfl, (hE1.trans hE2).trans hE3⟩)⟩
    · rintro jv bb w3 ⟨rfl, hE3⟩
      refine ifB_true rfl (.of (cawake_any (tab.ext hE3)) ?_)
      rintro r w4 ⟨rfl, hE4⟩
      exact ⟨_, rfl, rfl, hE3.trans hE4⟩
  have hE12 := hE1.trans hE2
  have hnew0 : ∀ k, F k → w.heap.size ≤ k := fun k hk => Nat.le_trans hE1.size (hnew k hk)
  have hFb : ¬ F b0 := fun hk => by have := hnew b0 hk; have := lt_of_blk hb0; omega
  refine ⟨_, _, rfl, fun bb w3 => Ext w2 w3 ∧ (bb = false → l.length ≤ 100), .of (cawake_any (tab.ext hE12)) ?_, ?_⟩
  · rintro r w3 ⟨rfl, hE3⟩
    exact ⟨_, rfl, ifB_false rfl (ifB_false rfl ⟨hE3, fun q => by have := of_decide_eq_false q; omega⟩)⟩
  rintro jv bb w3 ⟨hE23, hl⟩
  have hE3 := hE12.trans hE23
  refine ifB_intro (fun _ => .of (cawake_any (tab.ext hE3)) ?_) (fun hbb => ?_)
  · rintro r w4 ⟨rfl, hE4⟩
    exact ⟨_, rfl, rfl, hE3.trans hE4⟩
  have hl := hl hbb
  have hl63 : l.length ≤ maxLen := by simp only [maxLen]; omega
  refine .of (mfree_any (h2.ext hE23) (hrow.ext hE3) hl63) ?_
  rintro r w4 ⟨rfl, hE34⟩
  have hE4 := hE3.trans hE34
  have hE24 := hE23.trans hE34
  have hp4 := h2.p4
  have hN := cnt_le (List.replicate (n * C) false) C l
  rw [List.length_replicate] at hN
  refine ⟨_, rfl, fun m last i w5 => ∃ (j : Nat) (hs : List Bool), i = (j : Int) ∧ m + j = cnt (List.replicate (n * C) false) C l ∧ cnt hs C l = m ∧ MH w5 mb F n C hs ∧ Ext w w5 ∧ w5.heap[b0]? = some (.cells #[.int .i64 ((n * C : Nat) : Int), .int .i64 (C : Int)] 46 (0, 0)) ∧
      ∀ q : Nat, (q : Int) ≤ last → ¬ FrP hs C l q,
    ⟨cnt (List.replicate (n * C) false) C l, 0, _, rfl, rfl, rfl, h2.ext hE24, hE4, hE24.keep (hE2.keep hb0), fun q hq => absurd hq (by omega)⟩, ?_⟩
  rintro m jv last i w5 ⟨j, hs, rfl, hm, hcnt, h5, hE5, hb5, hlast⟩
  have hlen := h5.len
  refine ifD (fun hj => .of (mtake_any (tab.ext hE5) h5 (hrow.ext hE5) hl63) ?_) (fun hj => .of (mtake_any (tab.ext hE5) h5 (hrow.ext hE5) hl63) ?_)
  · rintro r w6 ⟨rfl, h6, hm6⟩
    obtain ⟨p, hp⟩ := pg_some_of_cnt (hs := hs) (C := C) (l := l) (by omega)
    have hlow : IsLow (FrP hs C l) (some p) := by rw [← hp]; exact pg_low hs C l
    have hpl := (List.getElem?_eq_some_iff.1 hlow.1.1).1
    have e1 : mTakeI hs C l = (p : Int) := by simp only [mTakeI, hp]
    have e2 : mTakeE hs C l = 0 := by simp only [mTakeE, hp]
    have e3 : mTakeH hs C l = hs.set p true := by simp only [mTakeH, hp]
    rw [e1, e2]
    rw [e3] at h6
    have hE6 := hE5.new hm6 hnew0
    have hb6 := hm6.keep hb5 hFb
    refine ⟨_, _, rfl, fun bb w7 => bb = false ∧ MH w7 mb F n C (hs.set p true) ∧ Ext w w7 ∧ w7.heap[b0]? = some (.cells #[.int .i64 ((n * C : Nat) : Int), .int .i64 (C : Int)] 46 (0, 0)), ifB_false rfl (ifB_false ?_ ⟨_, by rw [add_mk]; exact cell_blk hb6 rfl, ifB_false ?_ (.of (mtaken_any h6 p) ?_)⟩), ?_⟩
    · exact decide_eq_false fun q => hlast p q hlow.1
    · exact decide_eq_false fun q => by have : ((n * C : Nat) : Int) ≤ (p : Int) := q; omega
    · rintro r w7 ⟨rfl, hE7⟩
      refine ⟨_, rfl, ?_, h6.ext hE7, hE6.trans hE7, hE7.keep hb6⟩
      rw [isTaken_at (show (hs.set p true)[p]? = some true by rw [List.getElem?_set, if_pos rfl, if_pos hpl])]
      rfl
    · rintro jv bb w7 ⟨rfl, h7, hE7, hb7⟩
      refine ifB_false rfl ⟨m - 1, by omega, j + 1, hs.set p true, ?_, by omega, ?_, h7, hE7, hb7, fun q hq hf => ?_⟩
      · rw [wrap_i64 (by omega) (by omega)]; rfl
      · have := cnt_take hlow.1; omega
      · obtain ⟨a1, a2⟩ := (FrP_set hpl q).1 hf
        exact hlow.2 q (by omega) a1
  · rintro r w6 ⟨rfl, h6, hm6⟩
    have hp : pg hs C l = none := cnt_zero.1 (by omega)
    have e2 : mTakeE hs C l = 13 := by simp only [mTakeE, hp]
    have e3 : mTakeH hs C l = hs := by simp only [mTakeH, hp]
    rw [e2]
    rw [e3] at h6
    have hE6 := hE5.new hm6 hnew0
    refine ⟨_, _, rfl, ifB_true rfl (.of (mfree_any h6 (hrow.ext hE6) hl63) ?_)⟩
    rintro r w7 ⟨rfl, hE7⟩
    refine ⟨_, rfl, ?_, hE6.trans hE7⟩
    rw [show cnt hs C l = 0 by omega]
    rfl

theorem core_ColourLow (w : World) (tab : Tab w) (P Q : Int) {pa : Option Addr} {cap : Nat} {l : List Int} (hrow : RowAt w pa 1 intF l) {pb : Option Addr} {cap2 : Nat} {l2 : List Int} (hrow2 : RowAt w pb 1 intF l2) : Calls Tryd.prog 10 #[.agg #[.int .i64 P, .int .i64 Q], .slice pa l.length cap, .slice pb l2.length cap2] w (Ret (Yes w)) := by
  refine VC.garthlaw07_ColourLow.ok ?_
  unfold VC.garthlaw07_ColourLow
  refine al_intro fun b0 w1 hb0 hE1 hs1 hs1' => ⟨_, _, cells_all (vs := [.int .i64 P, .int .i64 Q]) hb0, .of (mnew_any w1 P Q) ?_⟩
  rintro r w2 (⟨_, rfl, hE2⟩ | ⟨_, mb, n, C, F, rfl, rfl, rfl, h2, hE2, hnew, hFm⟩)
  · refine ⟨_, _, rfl, fun bb w3 => bb = true ∧ Ext w w3, .of (cawake_any (tab.ext (hE1.trans hE2))) ?_, ?_⟩
    · rintro r w3 ⟨rfl, hE3⟩
      exact ⟨_, rfl, ifB_false rfl (ifB_true rfl ⟨rfl, (hE1.trans hE2).trans hE3⟩)⟩
    · rintro jv bb w3 ⟨rfl, hE3⟩
      refine ifB_true rfl (.of (cawake_any (tab.ext hE3)) ?_)
      rintro r w4 ⟨rfl, hE4⟩
      exact ⟨_, rfl, rfl, hE3.trans hE4⟩
  have hE12 := hE1.trans hE2
  have hnew0 : ∀ k, F k → w.heap.size ≤ k := fun k hk => Nat.le_trans hE1.size (hnew k hk)
  have hFb : ¬ F b0 := fun hk => by have := hnew b0 hk; have := lt_of_blk hb0; omega
  refine ⟨_, _, rfl, fun bb w3 => Ext w2 w3 ∧ (bb = false → l.length ≤ 600 ∧ l2.length ≤ 100), .of (cawake_any (tab.ext hE12)) ?_, ?_⟩
  · rintro r w3 ⟨rfl, hE3⟩
    refine ⟨_, rfl, ifB_false rfl (ifB_false rfl (ifD (fun _ => ⟨hE3, fun q => by cases q⟩) (fun g1 => ifD (fun _ => ⟨hE3, fun q => by cases q⟩) (fun g2 => ⟨_, by rw [add_mk]; exact cell_blk (hE3.keep (hE2.keep hb0)) rfl, hE3, fun _ => ⟨?_, ?_⟩⟩))))⟩
    · have g1 : ¬ (l.length : Int) > 600 := g1; omega
    · have g2 : ¬ (l2.length : Int) > 100 := g2; omega
  rintro jv bb w3 ⟨hE23, hl⟩
  have hE3 := hE12.trans hE23
  refine ifB_intro (fun _ => .of (cawake_any (tab.ext hE3)) ?_) (fun hbb => ?_)
  · rintro r w4 ⟨rfl, hE4⟩
    exact ⟨_, rfl, rfl, hE3.trans hE4⟩
  obtain ⟨hl, hl2⟩ := hl hbb
  have hl63 : l.length ≤ maxLen := by simp only [maxLen]; omega
  have hl263 : l2.length ≤ maxLen := by simp only [maxLen]; omega
  refine ⟨fun m i w5 => ∃ (j : Nat) (hs : List Bool), i = (j : Int) ∧ m + j = l.length ∧ MH w5 mb F n C hs ∧ Ext w w5 ∧ w5.heap[b0]? = some (.cells #[.int .i64 ((n * C : Nat) : Int), .int .i64 (C : Int)] 46 (0, 0)),
    ⟨l.length, 0, _, rfl, rfl, h2.ext hE23, hE3, hE23.keep (hE2.keep hb0)⟩, ?_⟩
  rintro m jv i w5 ⟨j, hs, rfl, hm, h5, hE5, hb5⟩
  refine ifD (fun hj => al_intro fun b1 w6 hb1 hE6 hs6 _ => ?_) (fun hj => al_intro fun b1 w6 hb1 hE6 hs6 _ => ?_)
  · refine copy_ints hb1 hE6 hs6 (hrow.ext hE5) (by omega) fun p cc w7 hrow7 hE7 => .of (mtake_any (tab.ext (hE5.trans hE7)) (h5.ext hE7) hrow7 hl63) ?_
    rintro r w8 ⟨rfl, h8, hm8⟩
    refine ⟨_, _, rfl, m - 1, by omega, j + 1, _, ?_, by omega, h8, (hE5.trans hE7).new hm8 hnew0, hm8.keep (hE7.keep hb5) hFb⟩
    rw [wrap_i64 (by omega) (by omega)]; rfl
  refine copy_ints hb1 hE6 hs6 (hrow2.ext hE5) (by omega) fun p cc w7 hrow7 hE7 => .of (mtake_any (tab.ext (hE5.trans hE7)) (h5.ext hE7) hrow7 hl263) ?_
  rintro r w8 ⟨rfl, h8, hm8⟩
  have hE8 := (hE5.trans hE7).new hm8 hnew0
  have hb8 := hm8.keep (hE7.keep hb5) hFb
  refine ⟨_, _, rfl, _, _, cells_all (vs := [_, _]) hb8, al_intro fun b2 w9 hb2 hE9 hs9 hs9' => ?_⟩
  refine wr_intro (n := 3) hb2 (by simp) fun w10 hb10 hm10 hs10 => ?_
  have hE810 : Ext w8 w10 := hE9.new hm10 (fun k hk => by subst hk; omega)
  have hE10 := hE8.trans hE810
  have h10 := h8.ext hE810
  have hlen := h5.len
  have hlow := pg_low hs C l2
  have hp4 := h5.p4
  have htk : ∀ k : Nat, k < hs.length → inW C l2 k = true → ¬ FrP hs C l2 k → isTaken (mTakeH hs C l2) (k : Int) = true := by
    intro k hk hw hn
    have hk1 : hs[k]? = some true := by
      obtain ⟨b, hb⟩ : ∃ b, hs[k]? = some b := ⟨_, List.getElem?_eq_getElem hk⟩
      cases b with
      | true => exact hb
      | false => exact absurd ⟨hb, hw⟩ hn
    refine isTaken_at ?_
    unfold mTakeH
    split
    · rename_i p hp
      rw [hp] at hlow
      rw [List.getElem?_set, if_neg]
      · exact hk1
      · intro e
        subst e
        rw [hlow.1.1] at hk1
        cases hk1
    · exact hk1
  have head10 : w10.heap[b2]? = some (.cells #[.int .i64 ((n * C : Nat) : Int), .int .i64 (C : Int), .slice none 0 0] 55 (0, 0)) := hb10
  refine ⟨_, by rw [add_mk]; exact cell_blk (hE810.keep hb8) rfl, fun m i w11 => ∃ j : Nat, i = (j : Int) ∧ m + j = n * C ∧ Ext w10 w11, ⟨n * C, 0, rfl, rfl, Mod.refl _ _⟩, ?_⟩
  clear hj hm j m jv
  rintro m jv i w11 ⟨j, rfl, hm, hE11⟩
  have h11 := h10.ext hE11
  have hr11 : RowAt w11 pb 1 intF l2 := hrow2.ext (hE10.trans hE11)
  -- the end: what was taken is a page of the window
  have fin : ∀ p : Nat, pg hs C l2 = some p → CallS Tryd.prog 34 #[.pointer (some ⟨b2, 0, none⟩), .int .i64 (p : Int), .slice pb l2.length cap2] w11 fun v55 w56 => ∃ b57, v55 = .bool b57 ∧
      ifB b57 (CallS Tryd.prog 33 #[.pointer (some ⟨mb, 0, none⟩), .int .i64 (p : Int)] w56 fun v58 w59 => ∃ b60, v58 = .bool b60 ∧ Yes w (.bool b60) w59) (Yes w (.bool false) w56) := by
    intro p hp
    rw [hp] at hlow
    have hpl := (List.getElem?_eq_some_iff.1 hlow.1.1).1
    refine .of (of_any (hE11.keep head10) h5.c1 hr11 hl263) ?_
    rintro r w12 ⟨rfl, hE12⟩
    refine ⟨_, rfl, ifB_true hlow.1.2 (.of (mtaken_any (h11.ext hE12) p) ?_)⟩
    rintro r w13 ⟨rfl, hE13⟩
    refine ⟨_, rfl, ?_, ((hE10.trans hE11).trans hE12).trans hE13⟩
    have e3 : mTakeH hs C l2 = hs.set p true := by simp only [mTakeH, hp]
    rw [e3, isTaken_at (show (hs.set p true)[p]? = some true by rw [List.getElem?_set, if_pos rfl, if_pos hpl])]
  -- a page below it
  have round : j < n * C → ¬ FrP hs C l2 j → ∃ x61 : Bool → World → Prop, (CallS Tryd.prog 34 #[.pointer (some ⟨b2, 0, none⟩), .int .i64 (j : Int), .slice pb l2.length cap2] w11 fun v62 w63 => ∃ b64, v62 = .bool b64 ∧
      ifB b64 (CallS Tryd.prog 33 #[.pointer (some ⟨mb, 0, none⟩), .int .i64 (j : Int)] w63 fun v65 w66 => ∃ b67, v65 = .bool b67 ∧ x61 (!b67) w66) (x61 false w63)) ∧
      ∀ (jv : Nat → Value) (b68 : Bool) (w69 : World), x61 b68 w69 → ifB b68 (Yes w (.bool false) w69) (∃ n70 : Nat, n70 < m ∧ ∃ j' : Nat, IntKind.i64.wrap ((j : Int) + 1) = (j' : Int) ∧ n70 + j' = n * C ∧ Ext w10 w69) := by
    intro hj hn
    refine ⟨fun bb w12 => bb = false ∧ Ext w10 w12, .of (of_any (hE11.keep head10) h5.c1 hr11 hl263) ?_, ?_⟩
    · rintro r w12 ⟨rfl, hE12⟩
      refine ⟨_, rfl, ifB_intro (fun hw => .of (mtaken_any (h11.ext hE12) j) ?_) (fun hw => ⟨rfl, hE11.trans hE12⟩)⟩
      rintro r w13 ⟨rfl, hE13⟩
      exact ⟨_, rfl, by rw [htk j (by omega) hw hn]; rfl, (hE11.trans hE12).trans hE13⟩
    · rintro jv bb w12 ⟨rfl, hE12⟩
      refine ifB_false rfl ⟨m - 1, by omega, j + 1, ?_, by omega, hE12⟩
      rw [wrap_i64 (by omega) (by omega)]; rfl
  cases hp : pg hs C l2 with
  | none =>
    rw [hp] at hlow
    have e2 : mTakeE hs C l2 = 13 := by simp only [mTakeE, hp]
    rw [e2]
    refine ifD (fun hj => ifB_false rfl (round (by omega) (hlow j))) (fun hj => ifB_true rfl ⟨rfl, hE10.trans hE11⟩)
  | some p =>
    rw [hp] at hlow
    have e1 : mTakeI hs C l2 = (p : Int) := by simp only [mTakeI, hp]
    have e2 : mTakeE hs C l2 = 0 := by simp only [mTakeE, hp]
    rw [e1, e2]
    exact ifD (fun hj => ifB_true rfl (ifD (fun _ => ifB_false rfl (fin p hp)) (fun hlt => round (by omega) (hlow.2 j (by omega))))) (fun hj => ifB_false rfl (fin p hp))

theorem walk_ColourNil (w : World) (tab : Tab w) (k : Int) (hk : -9223372036854775808 ≤ k ∧ k ≤ 9223372036854775807) (x : WinSh.T) (ok : WinSh.Ok w x) : Calls Tryd.prog 13 #[.int .i64 k, WinSh.val x] w (Ret (Yes w)) :=
  core_ColourNil w tab k (pa := x.1.1) (cap := x.1.2) (l := x.2) (win_row ok)

theorem walk_ColourAll (w : World) (tab : Tab w) (c : CfgSh.T) (okc : CfgSh.Ok w c) (x : WinSh.T) (ok : WinSh.Ok w x) : Calls Tryd.prog 9 #[CfgSh.val c, WinSh.val x] w (Ret (Yes w)) :=
  core_ColourAll w tab c.1 c.2.1 (pa := x.1.1) (cap := x.1.2) (l := x.2) (win_row ok)

theorem walk_ColourLow (w : World) (tab : Tab w) (c : CfgSh.T) (okc : CfgSh.Ok w c) (x : WinSh.T) (ok : WinSh.Ok w x) (y : WinSh.T) (oky : WinSh.Ok w y) : Calls Tryd.prog 10 #[CfgSh.val c, WinSh.val x, WinSh.val y] w (Ret (Yes w)) :=
  core_ColourLow w tab c.1 c.2.1 (pa := x.1.1) (cap := x.1.2) (l := x.2) (win_row ok) (pb := y.1.1) (cap2 := y.1.2) (l2 := y.2) (win_row oky)

end Go.Proofs.YtaobcnagdceaeaaDoor
