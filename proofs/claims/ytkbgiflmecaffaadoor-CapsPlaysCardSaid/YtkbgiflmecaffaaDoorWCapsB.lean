/- Statements of layer 10: CapsMany. Conditions: the table of TrailingZeros64 is laid. -/
import Derived.Test.YtkbgiflmecaffaaDoorWCapsA
set_option linter.unusedVariables false
set_option linter.unusedSimpArgs false
namespace Go.Proofs.YtkbgiflmecaffaaDoor
open Go.RowKit

theorem putK_at {S : Int → Option Sl} {base n k : Nat} {nx : Int} (hn : nx < 17592186044416) (hk : k < n) (h0 : S ((base + k : Nat) : Int) = none) (h1 : ∀ j, j < k → (S ((base + j : Nat) : Int)).isSome = true) : putK S base n nx = some k := by
  rw [putK, if_neg (by omega)]
  refine low_some ?_ fun j hj e => ?_
  · rw [occ_get _ hk, h0]; rfl
  · rw [occ_get _ (by omega), h1 j hj] at e
    cases e

theorem putK_full {S : Int → Option Sl} {base n : Nat} {nx : Int} (h1 : ∀ j, j < n → (S ((base + j : Nat) : Int)).isSome = true) : putK S base n nx = none := by
  rw [putK]
  split
  · rfl
  · refine low_none fun j e => ?_
    by_cases hj : j < n
    · rw [occ_get _ hj, h1 j hj] at e
      cases e
    · rw [List.getElem?_eq_none (by rw [occ_len]; omega)] at e
      cases e

theorem putR_some {T : Int} {S : Int → Option Sl} {base n k : Nat} {nx r a : Int} {sz : Nat} (h : putK S base n nx = some k) : putV T S base n nx r = .tuple #[.int .u64 (Hd.packV T ((base + k : Nat) : Int) r nx), .int .i64 0] ∧ putS S base n nx r a = updS S ((base + k : Nat) : Int) (some (r, nx, a)) ∧ putN S base n nx = nx + 1 ∧ putZ S base n nx sz = sz + 1 := by
  rw [putV, putS, putN, putZ, h]
  exact ⟨rfl, rfl, rfl, rfl⟩

theorem putR_none {T : Int} {S : Int → Option Sl} {base n : Nat} {nx r a : Int} {sz : Nat} (h : putK S base n nx = none) : putV T S base n nx r = .tuple #[.int .u64 0, .int .i64 10] ∧ putS S base n nx r a = S ∧ putN S base n nx = nx ∧ putZ S base n nx sz = sz := by
  rw [putV, putS, putN, putZ, h]
  exact ⟨rfl, rfl, rfl, rfl⟩

theorem grant_pos {T : Int} {S : Int → Option Sl} {nx a : Int} {sz : Nat} (h : 0 ≤ a) : grantV T S nx a = putV T S 0 4096 nx 7 ∧ grantS S nx a = putS S 0 4096 nx 7 a ∧ grantN S nx a = putN S 0 4096 nx ∧ grantZ S nx a sz = putZ S 0 4096 nx sz :=
  ⟨if_neg (by omega), if_neg (by omega), if_neg (by omega), if_neg (by omega)⟩

theorem rest_some {T : Int} {S : Int → Option Sl} {nx h r : Int} {sz : Nat} {s : Sl} (e : restO T S h r = some s) : restV T S nx h r = putV T S 4096 64 nx r ∧ restS T S nx h r = putS S 4096 64 nx r s.2.2 ∧ restN T S nx h r = putN S 4096 64 nx ∧ restZ T S nx h r sz = putZ S 4096 64 nx sz := by
  rw [restV, restS, restN, restZ, e]
  exact ⟨rfl, rfl, rfl, rfl⟩

/-- k objects were granted. -/
def mS (k : Nat) : Int → Option Sl := fun x => if 0 ≤ x ∧ x < k then some (7, x + 1, x) else none

/-- One was revoked, another one granted, and i shares. -/
def mT (t : Nat) (i : Nat) : Int → Option Sl := fun x => if x = (t : Int) then some (7, 4097, 5000) else if 0 ≤ x ∧ x < 4096 then some (7, x + 1, x) else if 4096 ≤ x ∧ x < 4096 + i then some (3, x + 2, 5000) else none

theorem mS_succ (k : Nat) : updS (mS k) ((0 + k : Nat) : Int) (some (7, (k : Int) + 1, (k : Int))) = mS (k + 1) := by
  funext x
  unfold updS mS
  by_cases e : x = ((0 + k : Nat) : Int)
  · rw [if_pos e, if_pos (by omega)]
    have e : x = (k : Int) := by omega
    rw [e]
  · rw [if_neg e]
    by_cases q : 0 ≤ x ∧ x < (k : Int)
    · rw [if_pos q, if_pos (by omega)]
    · rw [if_neg q, if_neg (by omega)]

theorem mT_succ {t i : Nat} (ht : t < 4096) : updS (mT t i) ((4096 + i : Nat) : Int) (some (3, 4098 + (i : Int), 5000)) = mT t (i + 1) := by
  funext x
  unfold updS mT
  by_cases e : x = ((4096 + i : Nat) : Int)
  · rw [if_pos e, if_neg (by omega), if_neg (by omega), if_pos (by omega)]
    have e : x + 2 = 4098 + (i : Int) := by omega
    rw [e]
  · rw [if_neg e]
    by_cases q1 : x = (t : Int)
    · rw [if_pos q1, if_pos q1]
    rw [if_neg q1, if_neg q1]
    by_cases q2 : 0 ≤ x ∧ x < 4096
    · rw [if_pos q2, if_pos q2]
    rw [if_neg q2, if_neg q2]
    by_cases q3 : 4096 ≤ x ∧ x < 4096 + (i : Int)
    · rw [if_pos q3, if_pos (by omega)]
    · rw [if_neg q3, if_neg (by omega)]

theorem mS_any {t j : Nat} (hj : j < 4096) : ((mS 4096 (j : Int)).any fun s => s.2.2 == (t : Int)) = decide (j = t) := by
  unfold mS
  rw [if_pos (by omega)]
  simp only [Option.any_some]
  by_cases e : j = t
  · subst e; simp
  · rw [decide_eq_false e, beq_eq_false_iff_ne]
    omega

theorem mS_out {t j : Nat} (hj : ¬ j < 4096) : ((mS 4096 (j : Int)).any fun s => s.2.2 == (t : Int)) = false := by
  unfold mS
  rw [if_neg (by omega)]
  rfl

theorem mS_count {t : Nat} (ht : t < 4096) : ∀ k : Nat, revC (mS 4096) (t : Int) k = if t < k then 1 else 0
  | 0 => by rw [if_neg (by omega)]; rfl
  | k + 1 => by
    rw [revC_succ, mS_count ht k]
    by_cases hk : k < 4096
    · rw [mS_any hk]
      by_cases e : k = t
      · rw [if_neg (by omega), decide_eq_true e, if_pos rfl, if_pos (by omega)]
      · rw [decide_eq_false e, if_neg (c := false = true) (by decide), Nat.add_zero]
        by_cases q : t < k
        · rw [if_pos q, if_pos (by omega)]
        · rw [if_neg q, if_neg (by omega)]
    · rw [mS_out hk, if_neg (c := false = true) (by decide), if_pos (by omega), if_pos (by omega)]

theorem mS_rev {t : Nat} (ht : t < 4096) : updS (revS (mS 4096) (t : Int) 4160) ((0 + t : Nat) : Int) (some (7, 4097, 5000)) = mT t 0 := by
  funext x
  unfold updS revS mT
  by_cases e : x = (t : Int)
  · rw [if_pos (by omega), if_pos e]
  rw [if_neg (by omega), if_neg e]
  have ha : ((mS 4096 x).any fun s => s.2.2 == (t : Int)) = false := by
    unfold mS
    split
    · simp only [Option.any_some, beq_eq_false_iff_ne]
      exact e
    · rfl
  rw [if_neg (by rw [ha]; simp)]
  unfold mS
  by_cases q : 0 ≤ x ∧ x < 4096
  · rw [if_pos (by omega), if_pos q]
  · rw [if_neg (by omega), if_neg q, if_neg (by omega)]

set_option maxRecDepth 20000 in
set_option maxHeartbeats 1000000 in
theorem walk_CapsMany (T : Int) (_ : -9223372036854775808 ≤ T ∧ T ≤ 9223372036854775807) (x1 : Int) (_ : -9223372036854775808 ≤ x1 ∧ x1 ≤ 9223372036854775807) (w : World) (tab : Tab w) :
    Calls Tryd.prog 5 #[.int .i64 T, .int .i64 x1] w (Ret (Yes w)) := by
  refine VC.garthlaw10_CapsMany.ok ?_
  unfold VC.garthlaw10_CapsMany
  obtain ⟨t, hat, ht⟩ := size_mod x1 4096 (by decide) (by decide)
  have hat : IntKind.i64.wrap ((IntKind.u64.wrap x1).tmod 4096) = (t : Int) := hat
  simp only [hat]
  refine .of (capnew_any T 1 w) ?_
  rintro v w1 (⟨hno, rfl, rfl⟩ | ⟨t0, t7, _, _, p, rfl, h1⟩)
  · refine ⟨_, _, rfl, fun b w2 => b = true ∧ Ext w1 w2, .of (cawake_any tab) ?_, ?_⟩
    · rintro v w2 ⟨rfl, hE⟩
      exact ⟨_, rfl, ifB_false rfl ⟨rfl, hE⟩⟩
    · rintro jv b w2 ⟨rfl, hE⟩
      refine ifB_true rfl (.of (cawake_any (tab.ext hE)) ?_)
      rintro v w3 ⟨rfl, hE3⟩
      exact ⟨_, rfl, rfl, hE.trans hE3⟩
  refine ⟨_, _, rfl, fun b w2 => b = false ∧ CO w w2 (fun _ => False) p T 1 (fun _ => none) 0, .of (cawake_any (tab.ext h1.ext)) ?_, ?_⟩
  · rintro v w2 ⟨rfl, hE⟩
    exact ⟨_, rfl, ifB_false rfl ⟨rfl, h1.keep hE.mod⟩⟩
  rintro jv b w2 ⟨rfl, h2⟩
  have e0 : (fun _ => none : Int → Option Sl) = mS 0 := by
    funext x
    unfold mS
    rw [if_neg (by omega)]
  rw [e0] at h2
  have h2 : CO w w2 (fun _ => False) p T (((0 : Nat) : Int) + 1) (mS 0) 0 := h2
  refine ifB_false rfl ⟨fun m i w3 => ∃ k : Nat, i = (k : Int) ∧ m + k = 4096 ∧ CO w w3 (fun _ => False) p T ((k : Int) + 1) (mS k) k, ⟨4096, 0, rfl, rfl, h2⟩, ?_⟩
  rintro m jv i w3 ⟨k, rfl, hmk, h3⟩
  refine ifB_intro (fun hlt => ?_) (fun hge => ?_)
  · have hlt := of_decide_eq_true hlt
    have hk : k < 4096 := by omega
    have pk : putK (mS k) 0 4096 ((k : Int) + 1) = some k := putK_at (by omega) hk (by unfold mS; rw [if_neg (by omega)]) fun j hj => by unfold mS; rw [if_pos (by omega)]; rfl
    obtain ⟨g1, g2, g3, g4⟩ := grant_pos (T := T) (S := mS k) (nx := (k : Int) + 1) (a := (k : Int)) (sz := k) (by omega)
    obtain ⟨p1, p2, p3, p4⟩ := putR_some (T := T) (r := 7) (a := (k : Int)) (sz := k) pk
    refine h3.grant tab (k : Int) fun w4 h4 _ => ?_
    rw [g2, g3, g4, p2, p3, p4, mS_succ] at h4
    rw [g1, p1]
    refine ⟨_, _, rfl, ifB_false rfl ⟨m - 1, by omega, k + 1, ?_, by omega, ?_⟩⟩
    · rw [wrap_i64 (by omega) (by omega)]; rfl
    · have e : ((k + 1 : Nat) : Int) + 1 = (k : Int) + 1 + 1 := by omega
      rw [e]
      exact h4
  have hge := of_decide_eq_false hge
  have hk : k = 4096 := by omega
  rw [hk] at h3
  clear hk hge hmk
  have pk : putK (mS 4096) 0 4096 (((4096 : Nat) : Int) + 1) = none := putK_full fun j hj => by unfold mS; rw [if_pos (by omega)]; rfl
  obtain ⟨g1, g2, g3, g4⟩ := grant_pos (T := T) (S := mS 4096) (nx := ((4096 : Nat) : Int) + 1) (a := 1) (sz := 4096) (by decide)
  obtain ⟨p1, p2, p3, p4⟩ := putR_none (T := T) (r := 7) (a := 1) (sz := 4096) pk
  refine h3.grant tab 1 fun w4 h4 _ => ?_
  rw [g2, g3, g4, p2, p3, p4] at h4
  rw [g1, p1]
  refine ⟨_, _, rfl, by decide, h4.revoke (t : Int) fun w5 h5 _ => ?_⟩
  have ec : revC (mS 4096) (t : Int) 4160 = 1 := by rw [mS_count ht, if_pos (by omega)]
  rw [ec] at h5
  rw [ec]
  have enx : ((4096 : Nat) : Int) + 1 = 4097 := by decide
  rw [enx] at h5
  -- another one
  have pk2 : putK (revS (mS 4096) (t : Int) 4160) 0 4096 4097 = some t := putK_at (by decide) ht
    (by unfold revS; rw [if_pos ⟨by rw [show ((0 + t : Nat) : Int) = (t : Int) by omega, mS_any ht]; simp, by omega, by omega⟩])
    fun j hj => by
      unfold revS
      have ej : ((0 + j : Nat) : Int) = (j : Int) := by omega
      rw [ej, if_neg (fun q => by
        have := q.1
        rw [mS_any (by omega), decide_eq_true_eq] at this
        omega)]
      unfold mS
      rw [if_pos (by omega)]
      rfl
  obtain ⟨g1', g2', g3', g4'⟩ := grant_pos (T := T) (S := revS (mS 4096) (t : Int) 4160) (nx := 4097) (a := 5000) (sz := 4095) (by decide)
  obtain ⟨p1', p2', p3', p4'⟩ := putR_some (T := T) (r := 7) (a := 5000) (sz := 4095) pk2
  refine ⟨_, rfl, h5.grant tab 5000 fun w6 h6 _ => ?_⟩
  rw [g2', g3', show (4096 - 1 : Nat) = 4095 from rfl, g4', p2', p3', p4', mS_rev ht] at h6
  rw [g1', p1']
  have et : ((0 + t : Nat) : Int) = (t : Int) := by omega
  rw [et]
  have key : Hd.KeyOk T (t : Int) 7 4097 := ⟨t0, t7, by omega, by omega, by decide, by decide, by decide, by decide⟩
  have uh := (parts_of key).2.2.2.2
  have rO : ∀ i : Nat, restO T (mT t i) (Hd.packV T (t : Int) 7 4097) 3 = some (7, 4097, 5000) := fun i => by
    have f : findS T (mT t i) (Hd.packV T (t : Int) 7 4097) = some (7, 4097, 5000) := findS_of (s := (7, 4097, 5000)) key (by unfold mT; rw [if_pos rfl])
    rw [restO, f]
    simp only
    rw [if_pos ⟨by decide, by decide, may_all (by decide) (by decide)⟩]
  refine ⟨_, _, rfl, fun m i w7 => ∃ k : Nat, i = (k : Int) ∧ m + k = 64 ∧ CO w w7 (fun _ => False) p T (4098 + (k : Int)) (mT t k) (4096 + k), ⟨64, 0, rfl, rfl, h6⟩, ?_⟩
  rintro m jv i w7 ⟨k, rfl, hmk, h7⟩
  refine ifB_intro (fun hlt => ?_) (fun hge => ?_)
  · have hlt := of_decide_eq_true hlt
    have hk : k < 64 := by omega
    have pk : putK (mT t k) 4096 64 (4098 + (k : Int)) = some k := putK_at (by omega) hk (by unfold mT; rw [if_neg (by omega), if_neg (by omega), if_neg (by omega)]) fun j hj => by unfold mT; rw [if_neg (by omega), if_neg (by omega), if_pos (by omega)]; rfl
    obtain ⟨g1, g2, g3, g4⟩ := rest_some (nx := 4098 + (k : Int)) (sz := 4096 + k) (rO k)
    obtain ⟨p1, p2, p3, p4⟩ := putR_some (T := T) (r := 3) (a := 5000) (sz := 4096 + k) pk
    refine h7.restrict tab uh 3 fun w8 h8 _ => ?_
    rw [g2, g3, g4, p2, p3, p4, mT_succ ht] at h8
    rw [g1, p1]
    refine ⟨_, _, rfl, ifB_false rfl ⟨m - 1, by omega, k + 1, ?_, by omega, ?_⟩⟩
    · rw [wrap_i64 (by omega) (by omega)]; rfl
    · have e : 4098 + ((k + 1 : Nat) : Int) = 4098 + (k : Int) + 1 := by omega
      rw [e]
      exact h8
  have hge := of_decide_eq_false hge
  have hk : k = 64 := by omega
  rw [hk] at h7
  clear hk hge hmk
  have pk : putK (mT t 64) 4096 64 (4098 + ((64 : Nat) : Int)) = none := putK_full fun j hj => by unfold mT; rw [if_neg (by omega), if_neg (by omega), if_pos (by omega)]; rfl
  obtain ⟨g1, g2, g3, g4⟩ := rest_some (nx := 4098 + ((64 : Nat) : Int)) (sz := 4096 + 64) (rO 64)
  obtain ⟨p1, p2, p3, p4⟩ := putR_none (T := T) (r := 3) (a := 5000) (sz := 4096 + 64) pk
  refine h7.restrict tab uh 3 fun w8 h8 _ => ?_
  rw [g2, g3, g4, p2, p3, p4] at h8
  rw [g1, p1]
  refine ⟨_, _, rfl, .of (Hd.refunpack_any _ uh w8) ?_⟩
  obtain ⟨q1, q2, q3, q4, _⟩ := parts_of key
  have u1 : Hd.unpackV (Hd.packV T (t : Int) 7 4097) = .tuple #[.agg #[.int .i64 T, .int .i64 (t : Int), .int .i64 7, .int .i64 4097], .int .i64 0] := by
    have hk : Hd.HOk (Hd.packV T (t : Int) 7 4097) := by
      unfold Hd.HOk
      rw [q1, q2, q3, q4]
      exact key
    rw [Hd.unpackV, if_pos hk, q1, q2, q3, q4]
  rw [u1]
  rintro v w9 ⟨rfl, hE9⟩
  refine ⟨_, _, _, _, _, rfl, al_intro fun b w10 hb hE10 hs10 hs10' => ?_⟩
  refine wr_intro (b := b) (n := 4) hb (by simp) fun w11 hb11 hm11 _ => ?_
  have hb11 : w11.heap[b]? = some (.cells #[.int .i64 T, .int .i64 (t : Int), .int .i64 7, .int .i64 4097] 45 (0, 0)) := hb11
  have hE11 : Ext w8 w11 := (hE9.trans hE10).new hm11 (fun k hk => by have := hE9.size; omega)
  have h11 := h8.keep hE11.mod
  exact ifB_true rfl (ifB_true rfl (ifB_true rfl ⟨_, dcell hb11 rfl, ifB_true (by simp) (ifB_true rfl (h11.count ⟨_, rfl, rfl, h11.ext⟩))⟩))

end Go.Proofs.YtkbgiflmecaffaaDoor
