/- The walks of layer 2's statements: ShelfOrder, ShelfLow, ShelfCounts, ShelfNil. Conditions: the table of TrailingZeros64 is laid; the arguments' cells are there. -/
import Derived.Test.YtaobcnagdceaeaaDoorShelfR
import Derived.Test.YtaobcnagdceaeaaDoorGwLaw
import Derived.Test.YtaobcnagdceaeaaDoorVcS
set_option linter.unusedVariables false
set_option linter.unusedSimpArgs false
namespace Go.Proofs.YtaobcnagdceaeaaDoor
open Go.RowKit

theorem walk_ShelfNil (k : Int) (hk : -9223372036854775808 ≤ k ∧ k ≤ 9223372036854775807) (w : World) (tab : Tab w) : Calls Tryd.prog 8 #[.int .i64 k] w (Ret (Yes w)) := by
  refine VC.garthlaw02_ShelfNil.ok ?_
  unfold VC.garthlaw02_ShelfNil
  refine .of (take_nil w) ?_
  rintro r w1 ⟨rfl, rfl⟩
  refine ⟨_, _, rfl, .of (awake_any tab) ?_⟩
  rintro r w2 ⟨rfl, hE⟩
  refine ⟨_, rfl, ifB_true rfl (ifB_true rfl (ifB_true rfl (.of (takeAt_nil w2 k) ?_)))⟩
  rintro r w3 ⟨rfl, rfl⟩
  refine ⟨_, rfl, ifB_true rfl (.of (give_nil w3 k) ?_)⟩
  rintro r w4 ⟨rfl, rfl⟩
  refine ⟨_, rfl, ifB_true rfl (.of (taken_nil w4 k) ?_)⟩
  rintro r w5 ⟨rfl, rfl⟩
  refine ⟨_, rfl, ifB_true rfl (.of (lowest_nil w5) ?_)⟩
  rintro r w6 ⟨rfl, rfl⟩
  refine ⟨_, rfl, ifB_true rfl (.of (free_nil w6) ?_)⟩
  rintro r w7 ⟨rfl, rfl⟩
  refine ⟨_, rfl, ifB_true rfl (.of (size_nil w7) ?_)⟩
  rintro r w8 ⟨rfl, rfl⟩
  refine ⟨_, rfl, ifB_true rfl (.of (copy_nil w8) ?_)⟩
  rintro r w9 ⟨rfl, rfl⟩
  exact ⟨_, rfl, rfl, hE⟩

/-! ### ShelfOrder -/

theorem low_order (j m : Nat) : (List.replicate j true ++ List.replicate (m + 1) false).findIdx? (fun b => !b) = some j := by
  refine low_some ?_ (fun q hq e => ?_)
  · rw [List.getElem?_append_right (by simp)]
    simp
  · rw [List.getElem?_append_left (by simpa using hq), List.getElem?_replicate, if_pos hq] at e
    cases e

theorem set_order (j m : Nat) : (List.replicate j true ++ List.replicate (m + 1) false).set j true = List.replicate (j + 1) true ++ List.replicate m false := by
  rw [List.set_append_right _ _ (by simp), List.length_replicate, Nat.sub_self, List.replicate_succ, List.set_cons_zero, List.replicate_succ', List.append_assoc]
  rfl

theorem low_full (n : Nat) : (List.replicate n true).findIdx? (fun b => !b) = none := by
  refine low_none fun j e => ?_
  rw [List.getElem?_replicate] at e
  split at e <;> cases e

theorem walk_ShelfOrder (x : Int) (hx : -9223372036854775808 ≤ x ∧ x ≤ 9223372036854775807) (w : World) (tab : Tab w) : Calls Tryd.prog 3 #[.int .i64 x] w (Ret (Yes w)) := by
  obtain ⟨n, hn, hlt⟩ := size_mod x 3000 (by decide) (by decide)
  have hn : IntKind.i64.wrap ((IntKind.u64.wrap x).tmod 3000) = (n : Int) := hn
  refine VC.garthlaw02_ShelfOrder.ok ?_
  unfold VC.garthlaw02_ShelfOrder
  simp only [hn]
  refine ⟨by decide, .of (new_any w n) ?_⟩
  rintro r w1 (⟨hno, _⟩ | ⟨_, _, p, gb, rfl, h1, hE1, hnew⟩)
  · exact absurd ⟨by omega, by omega⟩ hno
  rw [Int.toNat_natCast] at h1
  refine ⟨_, _, rfl, .of (awake_any (tab.ext hE1)) ?_⟩
  rintro r w2 ⟨rfl, hE2⟩
  refine ⟨_, rfl, ifB_false rfl (ifB_false rfl ⟨fun m i w3 => ∃ j : Nat, i = (j : Int) ∧ m + j = n ∧ SH w3 p gb (List.replicate j true ++ List.replicate m false) ∧ Ext w w3, ⟨n, 0, rfl, rfl, by simpa using h1.ext hE2, hE1.trans hE2⟩, ?_⟩)⟩
  rintro m jv i w3 ⟨j, rfl, hm, h3, hE3⟩
  refine ifD (fun hj => ?_) (fun hj => ?_)
  · obtain ⟨m, rfl⟩ : ∃ m', m = m' + 1 := ⟨m - 1, by omega⟩
    refine .of (take_any (tab.ext hE3) h3) ?_
    rintro r w4 ⟨rfl, h4, hm4⟩
    have e1 : takeI (List.replicate j true ++ List.replicate (m + 1) false) = (j : Int) := by simp only [takeI, low_order]
    have e2 : takeE (List.replicate j true ++ List.replicate (m + 1) false) = 0 := by simp only [takeE, low_order]
    have e3 : takeH (List.replicate j true ++ List.replicate (m + 1) false) = List.replicate (j + 1) true ++ List.replicate m false := by simp only [takeH, low_order, set_order]
    rw [e1, e2]
    rw [e3] at h4
    refine ⟨_, _, rfl, ifB_false (by simp) (ifB_false rfl ⟨m, by omega, j + 1, ?_, by omega, h4, hE3.new hm4 hnew⟩)⟩
    rw [wrap_i64 (by omega) (by omega)]; rfl
  · have e0 : m = 0 := by omega
    subst e0
    have h3 : SH w3 p gb (List.replicate j true) := by simpa using h3
    refine .of (take_any (tab.ext hE3) h3) ?_
    rintro r w4 ⟨rfl, h4, hm4⟩
    have e2 : takeE (List.replicate j true) = 13 := by simp only [takeE, low_full]
    have e3 : takeH (List.replicate j true) = List.replicate j true := by simp only [takeH, low_full]
    rw [e2]
    rw [e3] at h4
    refine ⟨_, _, rfl, ifB_true rfl (.of (free_any h4) ?_)⟩
    rintro r w5 ⟨rfl, rfl⟩
    refine ⟨_, rfl, ?_, hE3.new hm4 hnew⟩
    rw [List.count_replicate]
    rfl

/-! ### ShelfLow -/

abbrev IntsSh : Sh := .row 1 8 (.int .i64)

theorem ints_row {w : World} {x : IntsSh.T} (h : IntsSh.Ok w x) : RowAt w x.1.1 1 intF x.2 := fun i y hi => (h.2.2.2 i y hi).1

theorem walk_ShelfLow (w : World) (tab : Tab w) (x0 : Int) (hx0 : -9223372036854775808 ≤ x0 ∧ x0 ≤ 9223372036854775807) (x : IntsSh.T) (ok : IntsSh.Ok w x) : Calls Tryd.prog 4 #[.int .i64 x0, IntsSh.val x] w (Ret (Yes w)) := by
  have hrow := ints_row ok
  obtain ⟨⟨pa, cap⟩, l⟩ := x
  obtain ⟨n, hn, hlt⟩ := size_mod x0 1000 (by decide) (by decide)
  have hn : IntKind.i64.wrap ((IntKind.u64.wrap x0).tmod 1000) = (n : Int) := hn
  refine VC.garthlaw02_ShelfLow.ok ?_
  unfold VC.garthlaw02_ShelfLow
  simp only [hn]
  refine ⟨by decide, .of (new_any w n) ?_⟩
  rintro r w1 (⟨hno, _⟩ | ⟨_, _, p, gb, rfl, h1, hE1, hnew⟩)
  · exact absurd ⟨by omega, by omega⟩ hno
  refine ⟨_, _, rfl, .of (awake_any (tab.ext hE1)) ?_⟩
  rintro r w2 ⟨rfl, hE2⟩
  have hE12 := hE1.trans hE2
  refine ⟨_, rfl, ifB_false rfl (ifB_false rfl (ifD (fun _ => .of (awake_any (tab.ext hE12)) ?_) (fun hl => ?_)))⟩
  · rintro r w3 ⟨rfl, hE3⟩
    exact ⟨_, rfl, ifB_true rfl ⟨rfl, hE12.trans hE3⟩⟩
  refine ⟨fun m i w3 => ∃ (j : Nat) (hs : List Bool), i = (j : Int) ∧ m + j = l.length ∧ SH w3 p gb hs ∧ Ext w w3, ⟨l.length, 0, _, rfl, rfl, h1.ext hE2, hE12⟩, ?_⟩
  rintro m jv i w3 ⟨j, hs, rfl, hm, h3, hE3⟩
  refine ifD (fun hj => ⟨by omega, by omega, ?_⟩) (fun hj => .of (lowest_any (tab.ext hE3) h3) ?_)
  · obtain ⟨y, hy⟩ : ∃ y, l[j]? = some y := ⟨_, List.getElem?_eq_getElem (by omega)⟩
    rw [Int.toNat_natCast]
    refine (hrow.ext hE3).int hy (.of (takeAt_any h3 y) ?_)
    rintro r w4 ⟨rfl, h4, hm4⟩
    refine ⟨_, rfl, m - 1, by omega, j + 1, _, ?_, by omega, h4, hE3.new hm4 hnew⟩
    rw [wrap_i64 (by omega) (by omega)]; rfl
  · rintro r w4 ⟨rfl, rfl⟩
    refine ⟨_, rfl, .of (free_any h3) ?_⟩
    rintro r w5 ⟨rfl, rfl⟩
    refine ⟨_, rfl, .of (take_any (tab.ext hE3) h3) ?_⟩
    rintro r w6 ⟨rfl, h6, hm6⟩
    have hE6 := hE3.new hm6 hnew
    have hsm := h3.small
    cases hlow : hs.findIdx? (fun b => !b) with
    | none =>
      have e1 : takeE hs = 13 := by simp only [takeE, hlow]
      have e2 : hs.count false = 0 := by
        rw [List.count_eq_zero]
        intro hmem
        rw [List.findIdx?_eq_none_iff] at hlow
        have := hlow false hmem
        simp at this
      rw [e1, lowI_none hlow, e2]
      exact ⟨_, _, rfl, ifB_true rfl (ifB_true rfl ⟨rfl, hE6⟩)⟩
    | some k =>
      have hk := low_at hlow
      have hkl := (List.getElem?_eq_some_iff.1 hk.1).1
      have e1 : takeE hs = 0 := by simp only [takeE, hlow]
      have e2 : takeI hs = (k : Int) := by simp only [takeI, hlow]
      have e3 : takeH hs = hs.set k true := by simp only [takeH, hlow]
      rw [e1, e2, lowI_some hlow]
      rw [e3] at h6
      refine ⟨_, _, rfl, ifB_false rfl ⟨fun m i w7 => ∃ j : Nat, i = (j : Int) ∧ m + j = k ∧ w7 = w6, ⟨k, 0, rfl, rfl, rfl⟩, ?_⟩⟩
      rintro m jv i w7 ⟨j, rfl, hm, rfl⟩
      refine ifD (fun hj => .of (taken_any h6 j) ?_) (fun hj => ifB_true (by simp) (.of (taken_any h6 k) ?_))
      · rintro r w8 ⟨rfl, rfl⟩
        have hT : decide (InS (hs.set k true) (j : Int) ∧ (hs.set k true)[((j : Int)).toNat]? = some true) = true := isTaken_at (by rw [List.getElem?_set, if_neg (by omega)]; exact hk.2 j (by omega))
        rw [hT]
        refine ⟨_, rfl, ifB_false rfl ⟨m - 1, by omega, j + 1, ?_, by omega, rfl⟩⟩
        rw [wrap_i64 (by omega) (by omega)]; rfl
      · rintro r w8 ⟨rfl, rfl⟩
        have hT : decide (InS (hs.set k true) (k : Int) ∧ (hs.set k true)[((k : Int)).toNat]? = some true) = true := isTaken_at (by rw [List.getElem?_set, if_pos rfl, if_pos hkl])
        rw [hT]
        refine ⟨_, rfl, ifB_true rfl (.of (free_any h6) ?_)⟩
        rintro r w9 ⟨rfl, rfl⟩
        refine ⟨_, rfl, ?_, hE6⟩
        have hc := count_set hk.1
        simp only [Bool.not_false, Bool.false_eq_true, if_false] at hc
        have hle := List.count_le_length (a := false) (l := hs)
        rw [wrap_i64 (by omega) (by omega), hc]
        exact congrArg Value.bool (by simp; omega)

/-! ### ShelfCounts -/

abbrev OpsSh : Sh := .row 2 16 (.pair (.int .i64) (.pair (.int .i64) .unit))

abbrev opF (x : Int × Int × Unit) : Int × Int := (x.1, x.2.1)

theorem ops_row {w : World} {x : OpsSh.T} (h : OpsSh.Ok w x) : RowAt w x.1.1 2 (fun y : Int × Int × Unit => [.int .i64 (opF y).1, .int .i64 (opF y).2]) x.2 := fun i y hi => (h.2.2.2 i y hi).1

theorem walk_ShelfCounts (w : World) (tab : Tab w) (x0 : Int) (hx0 : -9223372036854775808 ≤ x0 ∧ x0 ≤ 9223372036854775807) (x : OpsSh.T) (ok : OpsSh.Ok w x) : Calls Tryd.prog 5 #[.int .i64 x0, OpsSh.val x] w (Ret (Yes w)) := by
  have hrow := ops_row ok
  obtain ⟨⟨pa, cap⟩, l⟩ := x
  obtain ⟨n, hn, hlt⟩ := size_mod x0 300 (by decide) (by decide)
  have hn : IntKind.i64.wrap ((IntKind.u64.wrap x0).tmod 300) = (n : Int) := hn
  refine VC.garthlaw02_ShelfCounts.ok ?_
  unfold VC.garthlaw02_ShelfCounts
  simp only [hn]
  refine ⟨by decide, .of (new_any w n) ?_⟩
  rintro r w1 (⟨hno, _⟩ | ⟨_, _, p, gb, rfl, h1, hE1, hnew⟩)
  · exact absurd ⟨by omega, by omega⟩ hno
  rw [Int.toNat_natCast] at h1
  refine ⟨_, _, rfl, .of (awake_any (tab.ext hE1)) ?_⟩
  rintro r w2 ⟨rfl, hE2⟩
  have hE12 := hE1.trans hE2
  refine ⟨_, rfl, ifB_false rfl (ifB_false rfl (ifD (fun _ => .of (awake_any (tab.ext hE12)) ?_) (fun hl => ?_)))⟩
  · rintro r w3 ⟨rfl, hE3⟩
    exact ⟨_, rfl, ifB_true rfl ⟨rfl, hE12.trans hE3⟩⟩
  have hl : l.length ≤ 300 := by have hl : ¬ (l.length : Int) > 300 := hl; omega
  refine ⟨fun m i w3 => ∃ (j : Nat) (hs : List Bool), i = (j : Int) ∧ m + j = l.length ∧ hs.length = n ∧ SH w3 p gb hs ∧ Ext w w3, ⟨l.length, 0, _, rfl, rfl, by simp, h1.ext hE2, hE12⟩, ?_⟩
  rintro m jv i w3 ⟨j, hs, rfl, hm, hlen, h3, hE3⟩
  refine ifD (fun hj => ⟨by omega, by omega, ?_⟩) (fun hj => ⟨rfl, hE3⟩)
  have hj : j < l.length := by have hj : (j : Int) < (l.length : Int) := hj; omega
  obtain ⟨y, hy⟩ : ∃ y, l[j]? = some y := ⟨_, List.getElem?_eq_getElem hj⟩
  rw [Int.toNat_natCast]
  refine (hrow.ext hE3).pair hy (al_intro fun b w4 hb hE4 hs4 hs4' => ?_)
  refine wr_intro (n := 2) hb (by simp) fun w5 hb5 hm5 hs5 => ?_
  have hE5 : Ext w3 w5 := hE4.new hm5 (fun k hk => by subst hk; omega)
  have h5 := h3.ext hE5
  have hE35 := hE3.trans hE5
  have c0 : w5.cell? ((Addr.mk b 0 none).add 0) = some (.int .i64 (opF y).1) := by rw [add_mk]; exact cell_blk hb5 rfl
  have c1 : w5.cell? ((Addr.mk b 0 none).add 1) = some (.int .i64 (opF y).2) := by rw [add_mk]; exact cell_blk hb5 rfl
  refine ⟨fun w6 => ∃ hs' : List Bool, hs'.length = n ∧ SH w6 p gb hs' ∧ Ext w w6, ⟨_, c0, ifB_intro (fun _ => .of (take_any (tab.ext hE35) h5) ?_) (fun _ => ifB_intro (fun _ => ⟨_, c1, .of (takeAt_any h5 _) ?_⟩) (fun _ => ⟨_, c1, .of (give_any h5 _) ?_⟩))⟩, ?_⟩
  · rintro r w6 ⟨rfl, h6, hm6⟩
    exact ⟨_, _, rfl, _, by rw [len_takeH, hlen], h6, hE35.new hm6 hnew⟩
  · rintro r w6 ⟨rfl, h6, hm6⟩
    exact ⟨_, rfl, _, by rw [len_takeAtH, hlen], h6, hE35.new hm6 hnew⟩
  · rintro r w6 ⟨rfl, h6, hm6⟩
    exact ⟨_, rfl, _, by rw [len_giveH, hlen], h6, hE35.new hm6 hnew⟩
  rintro jv w6 ⟨hs', hlen', h6, hE6⟩
  refine ⟨fun m c i w7 => ∃ q : Nat, i = (q : Int) ∧ m + q = n ∧ c = ((hs'.take q).count false : Nat) ∧ w7 = w6, ⟨n, 0, rfl, rfl, by simp, rfl⟩, ?_⟩
  rintro m2 jv c i w7 ⟨q, rfl, hm2, rfl, rfl⟩
  have hle : (hs'.take q).count false ≤ hs'.length := Nat.le_trans List.count_le_length (by simp; omega)
  refine ifD (fun hq => .of (taken_any h6 q) ?_) (fun hq => .of (free_any h6) ?_)
  · rintro r w8 ⟨rfl, rfl⟩
    obtain ⟨c, hc⟩ : ∃ c, hs'[q]? = some c := ⟨_, List.getElem?_eq_getElem (by omega)⟩
    have hT : decide (InS hs' (q : Int) ∧ hs'[((q : Int)).toNat]? = some true) = c := isTaken_at hc
    rw [hT]
    have e := count_take_succ hc
    have eq : IntKind.i64.wrap ((q : Int) + 1) = ((q + 1 : Nat) : Int) := by rw [wrap_i64 (by omega) (by omega)]; rfl
    refine ⟨_, rfl, ?_⟩
    cases c with
    | false =>
      refine ifB_true rfl ⟨m2 - 1, by omega, q + 1, eq, by omega, ?_, rfl⟩
      rw [wrap_i64 (by omega) (by omega), e]; simp
    | true =>
      refine ifB_false rfl ⟨m2 - 1, by omega, q + 1, eq, by omega, ?_, rfl⟩
      rw [e]; simp
  · rintro r w8 ⟨rfl, rfl⟩
    rw [List.take_of_length_le (by omega)]
    refine ⟨_, rfl, ifB_false (by simp) ⟨m - 1, by omega, j + 1, hs', ?_, by omega, hlen', h6, hE6⟩⟩
    rw [wrap_i64 (by omega) (by omega)]; rfl

end Go.Proofs.YtaobcnagdceaeaaDoor
