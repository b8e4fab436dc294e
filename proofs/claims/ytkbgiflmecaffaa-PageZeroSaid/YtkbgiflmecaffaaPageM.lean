/- Size classes. Conditions: none. -/
import Derived.Test.YtkbgiflmecaffaaChain2
import Derived.Test.YtkbgiflmecaffaaPShelf3
import Derived.Test.YtkbgiflmecaffaaVcG
set_option linter.unusedVariables false
set_option linter.unusedSimpArgs false
namespace Go.Proofs.Ytkbgiflmecaffaa
open Go.RowKit

def unitN : Nat → Nat
  | 0 => 16
  | 1 => 32
  | 2 => 48
  | 3 => 64
  | 4 => 96
  | 5 => 128
  | 6 => 192
  | _ => 256
def perN (k : Nat) : Nat := 512 / unitN k

theorem class_facts {k : Nat} (hk : k < 8) : 8 ≤ unitN k ∧ unitN k ≤ 512 ∧ 1 ≤ perN k ∧ perN k ≤ 32 ∧ unitN k * perN k ≤ 512 := by
  have : ∀ j : Fin 8, 8 ≤ unitN j.val ∧ unitN j.val ≤ 512 ∧ 1 ≤ perN j.val ∧ perN j.val ≤ 32 ∧ unitN j.val * perN j.val ≤ 512 := by decide +kernel
  exact this ⟨k, hk⟩

theorem cwithin_any (x : Int) (w : World) : Calls Try.prog 63 #[.int .i64 x] w (Ret fun v w' => v = .bool (decide (0 ≤ x ∧ x < 24)) ∧ w' = w) := by
  refine VC.class_within.ok ?_
  unfold VC.class_within
  refine ifD (fun h => ⟨?_, rfl⟩) (fun h => ⟨?_, rfl⟩)
  · exact congrArg Value.bool (decide_eq_decide.2 (by omega))
  · rw [decide_eq_false (by omega)]

theorem small_any {k : Nat} (hk : k < 8) (w : World) : Calls Try.prog 64 #[.int .i64 (k : Int)] w (Ret fun v w' => v = .int .i64 (unitN k : Int) ∧ w' = w) := by
  refine VC.class_small.ok ?_
  unfold VC.class_small
  match k, hk with
  | 0, _ => exact ifB_true rfl ⟨by kernel_rfl, rfl⟩
  | 1, _ => exact ifB_true rfl ⟨by kernel_rfl, rfl⟩
  | 2, _ => exact ifB_true rfl ⟨by kernel_rfl, rfl⟩
  | 3, _ => exact ifB_true rfl ⟨by kernel_rfl, rfl⟩
  | 4, _ => exact ifB_false rfl ⟨by decide, by decide +kernel, fun i w1 => i = 96 ∧ w1 = w, ⟨by decide, ifB_true (by decide +kernel) ⟨by decide, by decide +kernel, rfl⟩⟩, by rintro jv i w1 ⟨rfl, rfl⟩; exact ⟨rfl, rfl⟩⟩
  | 5, _ => exact ifB_false rfl ⟨by decide, by decide +kernel, fun i w1 => i = 128 ∧ w1 = w, ⟨by decide, ifB_false (by decide +kernel) ⟨by decide +kernel, rfl⟩⟩, by rintro jv i w1 ⟨rfl, rfl⟩; exact ⟨rfl, rfl⟩⟩
  | 6, _ => exact ifB_false rfl ⟨by decide, by decide +kernel, fun i w1 => i = 192 ∧ w1 = w, ⟨by decide, ifB_true (by decide +kernel) ⟨by decide, by decide +kernel, rfl⟩⟩, by rintro jv i w1 ⟨rfl, rfl⟩; exact ⟨rfl, rfl⟩⟩
  | 7, _ => exact ifB_false rfl ⟨by decide, by decide +kernel, fun i w1 => i = 256 ∧ w1 = w, ⟨by decide, ifB_false (by decide +kernel) ⟨by decide +kernel, rfl⟩⟩, by rintro jv i w1 ⟨rfl, rfl⟩; exact ⟨rfl, rfl⟩⟩

theorem tdiv_512 {k : Nat} (hk : k < 8) : (unitN k : Int) ≠ 0 ∧ IntKind.i64.wrap (Int.tdiv (512 : Int) (unitN k : Int)) = (perN k : Int) := by
  have : ∀ j : Fin 8, (unitN j.val : Int) ≠ 0 ∧ IntKind.i64.wrap (Int.tdiv (512 : Int) (unitN j.val : Int)) = (perN j.val : Int) := by decide +kernel
  exact this ⟨k, hk⟩

theorem per_any (x : Int) (w : World) : Calls Try.prog 37 #[.int .i64 x] w (Ret fun v w' => v = .int .i64 (if 0 ≤ x ∧ x < 8 then (perN x.toNat : Int) else 0) ∧ w' = w) := by
  refine VC.class_Per.ok ?_
  unfold VC.class_Per
  refine .of (cwithin_any x w) ?_
  rintro v w1 ⟨rfl, rfl⟩
  refine ⟨_, rfl, ifB_intro (fun h => ⟨?_, rfl⟩) (fun h => ?_)⟩
  · have h : ¬ (0 ≤ x ∧ x < 24) := fun q => by rw [decide_eq_true q] at h; cases h
    rw [if_neg (by omega)]
  have h : 0 ≤ x ∧ x < 24 := Decidable.byContradiction fun q => by rw [decide_eq_false q] at h; cases h
  refine ifD (fun h8 => ⟨by rw [if_neg (by omega)], rfl⟩) (fun h8 => ?_)
  obtain ⟨k, rfl⟩ := Int.eq_ofNat_of_zero_le h.1
  have hk : k < 8 := by omega
  refine .of (small_any hk w1) ?_
  rintro v w2 ⟨rfl, rfl⟩
  obtain ⟨d1, d2⟩ := tdiv_512 hk
  exact ⟨_, rfl, d1, by rw [d2, if_pos ⟨by omega, by omega⟩, Int.toNat_natCast], rfl⟩

theorem unit_any {k : Nat} (hk : k < 8) (w : World) : Calls Try.prog 40 #[.int .i64 (k : Int)] w (Ret fun v w' => v = .int .i64 (unitN k : Int) ∧ w' = w) := by
  refine VC.class_Unit.ok ?_
  unfold VC.class_Unit
  refine .of (cwithin_any k w) ?_
  rintro v w1 ⟨rfl, rfl⟩
  refine ⟨_, rfl, ifB_false (by simp; omega) (ifB_true (decide_eq_true (by omega)) (.of (small_any hk w1) ?_))⟩
  rintro v w2 ⟨rfl, rfl⟩
  exact ⟨_, rfl, rfl, rfl⟩

end Go.Proofs.Ytkbgiflmecaffaa
