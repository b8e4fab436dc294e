/- Page: awake. Conditions: none. -/
import Derived.Test.YtkbgiflmecaffaaPageG
set_option linter.unusedVariables false
set_option linter.unusedSimpArgs false
namespace Go.Proofs.Ytkbgiflmecaffaa
open Go.RowKit

namespace Aw
def s0 : St := newSt 7 (List.replicate 1024 0) []
def s1 : St := aloS (unitN 7) (perN 7) 512 s0
def s2 : St := aloS (unitN 7) (perN 7) 512 s1
def s3 : St := aloS (unitN 7) (perN 7) 512 s2
def s4 : St := freS (unitN 7) (perN 7) 512 s3 0
def s5 : St := freS (unitN 7) (perN 7) 512 s4 1
def s6 : St := aloS (unitN 7) (perN 7) 512 s5
def s7 : St := aloS (unitN 7) (perN 7) 512 s6
theorem l0 : s0.ts.length < 549755812000 := by decide +kernel
theorem l1 : s1.ts.length < 549755812000 := by decide +kernel
theorem l2 : s2.ts.length < 549755812000 := by decide +kernel
theorem l3 : s3.ts.length < 549755812000 := by decide +kernel
theorem l4 : s4.ts.length < 549755812000 := by decide +kernel
theorem l5 : s5.ts.length < 549755812000 := by decide +kernel
theorem l6 : s6.ts.length < 549755812000 := by decide +kernel
theorem a0 : aloI (unitN 7) (perN 7) 512 s0 = 0 := by decide +kernel
theorem a1 : aloI (unitN 7) (perN 7) 512 s1 = 1 := by decide +kernel
theorem a2 : aloE (unitN 7) (perN 7) 512 s2 = 10 := by decide +kernel
theorem a3 : s3.hs.count false = 0 := by decide +kernel
theorem a5 : aloI (unitN 7) (perN 7) 512 s5 = 1 := by decide +kernel
theorem a6 : aloI (unitN 7) (perN 7) 512 s6 = 0 := by decide +kernel
theorem a7 : s7.hs.count true = 2 := by decide +kernel
end Aw

theorem awake_any (w : World) {R : Value → World → Prop} (r : ∀ w', Ext w w' → R (.bool true) w') : CallS Try.prog 9 #[] w R := by
  constructor
  refine VC.garthlaw12_awake.ok ?_
  unfold VC.garthlaw12_awake
  refine .of (new_any 1024 w) ?_
  rintro v w1 (⟨q, _, _⟩ | ⟨_, _, ap, FA, rfl, hA, hE1, hF⟩)
  · exact absurd ⟨by omega, by omega⟩ q
  refine ⟨_, _, rfl, pnew_any (w0 := w) (K := fun _ => False) hA (fun j hj => ⟨hF j hj, fun x => x⟩) (fun j x => x.elim) hE1 512 7 (fun q => absurd ⟨⟨by decide, by decide⟩, by decide, by decide +kernel, by rw [List.length_replicate]; decide⟩ q) ?_⟩
  intro base kind pb w2 e1 hk e2 hb ht h2 hE2
  have e1 : kind = 7 := by omega
  have e2 : base = 512 := by omega
  subst e1 e2
  refine ⟨_, _, rfl, ifB_false rfl (ifB_false rfl ?_)⟩
  refine PGs.alloc (s := Aw.s0) h2 (Nat.lt_of_lt_of_le Aw.l0 (by decide)) fun w3 h3 _ => ⟨_, _, rfl, ?_⟩
  refine PGs.alloc (s := Aw.s1) h3 (Nat.lt_of_lt_of_le Aw.l1 (by decide)) fun w4 h4 _ => ⟨_, _, rfl, ?_⟩
  refine PGs.alloc (s := Aw.s2) h4 (Nat.lt_of_lt_of_le Aw.l2 (by decide)) fun w5 h5 _ => ⟨_, _, rfl, ?_⟩
  refine PGs.full (s := Aw.s3) h5 ⟨_, rfl, ?_⟩
  refine PGs.free (s := Aw.s3) h5 Aw.l3 0 fun w6 h6 _ => ⟨_, rfl, ?_⟩
  refine PGs.free (s := Aw.s4) h6 Aw.l4 1 fun w7 h7 _ => ⟨_, rfl, ?_⟩
  refine PGs.alloc (s := Aw.s5) h7 (Nat.lt_of_lt_of_le Aw.l5 (by decide)) fun w8 h8 _ => ⟨_, _, rfl, ?_⟩
  refine PGs.alloc (s := Aw.s6) h8 (Nat.lt_of_lt_of_le Aw.l6 (by decide)) fun w9 h9 _ => ⟨_, _, rfl, ?_⟩
  rw [Aw.a0, Aw.a1, Aw.a2, Aw.a3, Aw.a5, Aw.a6]
  refine ifB_true rfl (ifB_true rfl (ifB_true rfl (ifB_true rfl (ifB_true rfl (ifB_true rfl ?_)))))
  refine PGs.used (s := Aw.s7) h9 fun w10 h10 _ => ⟨_, rfl, ?_⟩
  rw [Aw.a7]
  refine ifB_true rfl (h10.baseA ⟨_, rfl, ifB_true rfl (h10.kindA ⟨_, rfl, r w10 h10.ext⟩)⟩)

end Go.Proofs.Ytkbgiflmecaffaa
