/- Statements of layer 10: CapsRights, CapsMany. Conditions: the table of TrailingZeros64 is laid. -/
import Derived.Test.YtkbgiflmecaffaaDoorCaps4
set_option linter.unusedVariables false
set_option linter.unusedSimpArgs false
namespace Go.Proofs.YtkbgiflmecaffaaDoor
open Go.RowKit

/-! ### bits of a handle -/

theorem parts_of {t s r n : Int} (h : Hd.KeyOk t s r n) : Hd.uT (Hd.packV t s r n) = t ∧ Hd.uS (Hd.packV t s r n) = s ∧ Hd.uR (Hd.packV t s r n) = r ∧ Hd.uN (Hd.packV t s r n) = n ∧ Hd.U64 (Hd.packV t s r n) := by
  obtain ⟨h1, h2, h3, h4, h5, h6, h7, h8⟩ := h
  unfold Hd.uT Hd.uS Hd.uR Hd.uN Hd.packV Hd.U64
  omega

/-- A handle that was given, of a slot that is there. -/
theorem findS_of {T : Int} {S : Int → Option Sl} {x : Int} {s : Sl} (h : Hd.KeyOk T x s.1 s.2.1) (hS : S x = some s) : findS T S (Hd.packV T x s.1 s.2.1) = some s := by
  obtain ⟨e1, e2, e3, e4, _⟩ := parts_of h
  have hk : Hd.HOk (Hd.packV T x s.1 s.2.1) := by
    unfold Hd.HOk
    rw [e1, e2, e3, e4]
    exact h
  rw [findS, if_pos ⟨hk, e1⟩, e2, hS]
  simp only
  rw [if_pos ⟨e3.symm, e4.symm⟩]

theorem may_all {a n : Int} {r : Int} (h0 : 0 ≤ r) (h7 : r ≤ 7) : may (7, n, a) r = true := by
  have : ∀ k : Fin 8, bits .and .i64 7 (k.val : Int) == (k.val : Int) := by decide +kernel
  have hk := this ⟨r.toNat, by omega⟩
  simp only at hk
  rw [Int.toNat_of_nonneg h0] at hk
  exact hk

set_option maxHeartbeats 1000000 in
theorem walk_CapsRights (T : Int) (_ : -9223372036854775808 ≤ T ∧ T ≤ 9223372036854775807) (hv : Int) (_ : -9223372036854775808 ≤ hv ∧ hv ≤ 9223372036854775807) (nd : Int) (_ : -9223372036854775808 ≤ nd ∧ nd ≤ 9223372036854775807) (w : World) (tab : Tab w) :
    Calls Tryd.prog 6 #[.int .i64 T, .int .i64 hv, .int .i64 nd] w (Ret (Yes w)) := by
  refine VC.garthlaw10_CapsRights.ok ?_
  unfold VC.garthlaw10_CapsRights
  refine .of (capnew_any T 1 w) ?_
  rintro v w1 (⟨hno, rfl, rfl⟩ | ⟨t0, t7, _, _, p, rfl, h1⟩)
  · refine ⟨_, _, rfl, fun b w2 => b = true ∧ Ext w1 w2, .of (cawake_any tab) ?_, ?_⟩
    · rintro v w2 ⟨rfl, hE⟩
      exact ⟨_, rfl, ifB_false rfl ⟨rfl, hE⟩⟩
    · rintro jv b w2 ⟨rfl, hE⟩
      refine ifB_true rfl (.of (cawake_any (tab.ext hE)) ?_)
      rintro v w3 ⟨rfl, hE3⟩
      exact ⟨_, rfl, rfl, hE.trans hE3⟩
  refine ⟨_, _, rfl, fun b w2 => b = false ∧ CO w w2 (fun _ => False) p T 1 (fun _ => none) 0, .of (cawake_any (tab.ext h1.ext)) ?_, ?_⟩
  · rintro v w2 ⟨rfl, hE⟩
    exact ⟨_, rfl, ifB_false rfl ⟨rfl, h1.keep hE.mod⟩⟩
  rintro jv b w2 ⟨rfl, h2⟩
  refine ifB_false rfl (h2.grant tab 7 fun w3 h3 _ => ?_)
  have g1 : grantV T (fun _ => none) 1 7 = .tuple #[.int .u64 (Hd.packV T 0 7 1), .int .i64 0] := by
    rw [grantV, if_neg (by decide), putV, show putK (fun _ => none) 0 4096 1 = some 0 from ak1]
    rfl
  have g2 : grantS (fun _ => none) 1 7 = updS (fun _ => none) 0 (some (7, 1, 7)) := by
    rw [grantS, if_neg (by decide), putS, show putK (fun _ => none) 0 4096 1 = some 0 from ak1]
    rfl
  have g3 : grantN (fun _ => none) 1 7 = 2 := by
    rw [grantN, if_neg (by decide), putN, show putK (fun _ => none) 0 4096 1 = some 0 from ak1]
    rfl
  rw [g2, g3] at h3
  rw [g1]
  generalize grantZ (fun _ => none) 1 7 0 = z1 at h3
  obtain ⟨S1, hS1⟩ : ∃ S1 : Int → Option Sl, S1 = updS (fun _ => none) 0 (some (7, 1, 7)) := ⟨_, rfl⟩
  rw [← hS1] at h3
  have key1 : Hd.KeyOk T 0 7 1 := ⟨t0, t7, by decide, by decide, by decide, by decide, by decide, by decide⟩
  have s1 : S1 0 = some (7, 1, 7) := by rw [hS1]; rfl
  have f1 : findS T S1 (Hd.packV T 0 7 1) = some (7, 1, 7) := findS_of (s := (7, 1, 7)) key1 s1
  have u1 := (parts_of key1).2.2.2.2
  refine ⟨_, _, rfl, h3.restrict tab u1 hv fun w4 h4 _ => ?_⟩
  have k2 : putK S1 4096 64 2 = some 0 := by rw [hS1]; decide +kernel
  by_cases hok : 1 ≤ hv ∧ hv ≤ 7
  case neg =>
    have e : restO T S1 (Hd.packV T 0 7 1) hv = none := by rw [restO, f1]; simp only; rw [if_neg (fun q => hok ⟨q.1, q.2.1⟩)]
    have eE : restE T S1 (Hd.packV T 0 7 1) hv = 2 := by rw [restE, f1]; simp only; rw [if_pos (by omega)]
    rw [restV, e, eE]
    refine ⟨_, _, rfl, fun b w5 => b = false ∧ w5 = w4, ifD (fun q => ⟨?_, rfl⟩) (fun q => ⟨rfl, rfl⟩), ?_⟩
    · rw [decide_eq_false (by omega)]; rfl
    · rintro jv b w5 ⟨rfl, rfl⟩
      exact ifB_false rfl (ifB_true rfl ⟨rfl, h4.ext⟩)
  have e : restO T S1 (Hd.packV T 0 7 1) hv = some (7, 1, 7) := by rw [restO, f1]; simp only; rw [if_pos ⟨hok.1, hok.2, may_all (by omega) hok.2⟩]
  have e1 : restV T S1 2 (Hd.packV T 0 7 1) hv = .tuple #[.int .u64 (Hd.packV T 4096 hv 2), .int .i64 0] := by
    rw [restV, e]
    simp only
    rw [putV, k2]
    rfl
  have e2 : restS T S1 2 (Hd.packV T 0 7 1) hv = updS S1 4096 (some (hv, 2, 7)) := by
    rw [restS, e]
    simp only
    rw [putS, k2]
    rfl
  rw [e2] at h4
  rw [e1]
  generalize restN T S1 2 (Hd.packV T 0 7 1) hv = n2 at h4
  generalize restZ T S1 2 (Hd.packV T 0 7 1) hv z1 = z2 at h4
  have key2 : Hd.KeyOk T 4096 hv 2 := ⟨t0, t7, by decide, by decide, hok.1, hok.2, by decide, by decide⟩
  have f2 : findS T (updS S1 4096 (some (hv, 2, 7))) (Hd.packV T 4096 hv 2) = some (hv, 2, 7) := findS_of (s := (hv, 2, 7)) key2 (by unfold updS; rw [if_pos rfl])
  have f3 : findS T (updS S1 4096 (some (hv, 2, 7))) (Hd.packV T 0 7 1) = some (7, 1, 7) := findS_of (s := (7, 1, 7)) key1 (by unfold updS; rw [if_neg (by decide), s1])
  have u2 := (parts_of key2).2.2.2.2
  refine ⟨_, _, rfl, fun b w5 => b = false ∧ w5 = w4, ifD (fun q => ⟨?_, rfl⟩) (fun q => absurd hok.1 q), ?_⟩
  · rw [decide_eq_true hok.2]; rfl
  rintro jv b w5 ⟨rfl, rfl⟩
  refine ifB_false rfl (ifB_false rfl (h4.find u2 nd fun w6 h6 _ => ?_))
  -- what the restricted one is good for
  obtain ⟨B, hB⟩ : ∃ B : Bool, B = decide (0 ≤ nd ∧ nd ≤ 7 ∧ may (hv, 2, 7) nd = true) := ⟨_, rfl⟩
  have r2 : findR T (updS S1 4096 (some (hv, 2, 7))) (Hd.packV T 4096 hv 2) nd = .tuple #[.int .i64 (if B = true then 7 else 0), .int .i64 (if B = true then 0 else 5)] := by
    rw [findR, f2]
    simp only
    by_cases q : 0 ≤ nd ∧ nd ≤ 7 ∧ may (hv, 2, 7) nd = true
    · have hb : ¬ (nd < 0 ∨ nd > 7 ∨ may (hv, 2, 7) nd = false) := by
        rintro (a | a | a)
        · omega
        · omega
        · rw [q.2.2] at a; cases a
      rw [hB, decide_eq_true q, if_neg hb]
      rfl
    · have hb : nd < 0 ∨ nd > 7 ∨ may (hv, 2, 7) nd = false := by
        by_cases a : nd < 0
        · exact .inl a
        · by_cases b : nd > 7
          · exact .inr (.inl b)
          · refine .inr (.inr ?_)
            cases hm : may (hv, 2, 7) nd with
            | false => rfl
            | true => exact absurd ⟨by omega, by omega, hm⟩ q
      rw [hB, decide_eq_false q, if_pos hb]
      rfl
  have r3 : findR T (updS S1 4096 (some (hv, 2, 7))) (Hd.packV T 0 7 1) nd = .tuple #[.int .i64 (if 0 ≤ nd ∧ nd ≤ 7 then 7 else 0), .int .i64 (if 0 ≤ nd ∧ nd ≤ 7 then 0 else 5)] := by
    rw [findR, f3]
    simp only
    by_cases q : 0 ≤ nd ∧ nd ≤ 7
    · rw [if_pos q, if_pos q, if_neg]
      rintro (a | a | a)
      · omega
      · omega
      · rw [may_all q.1 q.2] at a; cases a
    · rw [if_neg q, if_neg q, if_pos]
      omega
  rw [r2]
  refine ⟨_, _, rfl, fun b w7 => b = B ∧ w7 = w6, ?_, ?_⟩
  · refine ifD (fun q0 => ifD (fun q7 => ⟨?_, rfl⟩) (fun q7 => ⟨?_, rfl⟩)) (fun q0 => ⟨?_, rfl⟩)
    · rw [hB]
      cases hm : may (hv, 2, 7) nd with
      | false => rw [decide_eq_false (by simp)]; exact hm
      | true => rw [decide_eq_true ⟨q0, q7, rfl⟩]; exact hm
    · rw [hB, decide_eq_false (by omega)]
    · rw [hB, decide_eq_false (by omega)]
  rintro jv b w7 ⟨rfl, rfl⟩
  refine h6.find u1 nd fun w8 h8 _ => ?_
  rw [r3]
  have last : ∀ {Q : Prop}, Yes w (.bool true) w8 → ifB (decide (nd ≥ 0)) (Yes w (.bool (((if 0 ≤ nd ∧ nd ≤ 7 then (0 : Int) else 5) == 0) == decide (nd ≤ 7))) w8) (Yes w (.bool (((if 0 ≤ nd ∧ nd ≤ 7 then (0 : Int) else 5) == 0) == false)) w8) := fun {Q} hy => by
    refine ifD (fun q => ?_) (fun q => ?_)
    · by_cases q7 : nd ≤ 7
      · rw [if_pos ⟨q, q7⟩, decide_eq_true q7]; exact hy
      · rw [if_neg (by omega), decide_eq_false q7]; exact hy
    · rw [if_neg (by omega)]; exact hy
  have hy : Yes w (.bool true) w8 := ⟨rfl, h8.ext⟩
  refine ⟨_, _, rfl, ?_⟩
  cases b with
  | true => exact ifB_true rfl (ifB_true rfl (ifB_true rfl (last (Q := True) hy)))
  | false => exact ifB_true rfl (ifB_false rfl (ifB_true rfl (ifB_true rfl (last (Q := True) hy))))

end Go.Proofs.YtkbgiflmecaffaaDoor
