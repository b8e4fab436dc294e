/- HandleParts: for every input the law returns true, and each argument reads behind the call as before. Conditions: none beyond the row's own. -/
import Derived.Test.YtlfmkdndioegmaaRows
import Derived.Test.YtlfmkdndioegmaaGwRow
import Derived.Test.YtlfmkdndioegmaaWHandle
set_option linter.unusedVariables false
namespace Go.Proofs.Ytlfmkdndioegmaa.lawHandleParts
open Go.ChangeShapes Go.WideShapes Go.ChangeAt Go.RowKit
open Go.ChangeMaps (open_string shut_string)

theorem walks {H : Type} {enc : TypeId × Value → H} : Walks enc Try.prog 7 Try.f7 := by
  intro W base args ds ps hval hA hsz
  rw [Try.params7] at hA hval hsz
  obtain ⟨v0, vs0, d0, ds0, p0, r0, hargs, rfl, _, h0, q0⟩ := trodAll_cons hA
  obtain ⟨v1, vs1, d1, ds1, p1, r1, rfl, rfl, _, h1, q1⟩ := trodAll_cons q0
  obtain ⟨rfl, rfl, _⟩ := trodAll_nil q1
  obtain rfl : args = #[v0, v1] := by cases args; simp_all
  obtain ⟨c0_0, c0_1, c0_2, c0_3, y0_0, y0_1, y0_2, y0_3, m0, rfl, _, _, r0_0, r0_1, r0_2, r0_3⟩ := Go.Joins.open_agg4 Try.underlying23 (by kernel_rfl) (by kernel_rfl) (hval 0 23 v0 rfl rfl) h0
  obtain ⟨a0_0, f0_0, _, b0_0⟩ := DataW.trod_int Try.underlying3 r0_0
  obtain rfl : c0_0 = .int .i64 a0_0 := by simpa using f0_0
  have b0_0 := i64_of_wf b0_0
  obtain ⟨a0_1, f0_1, _, b0_1⟩ := DataW.trod_int Try.underlying3 r0_1
  obtain rfl : c0_1 = .int .i64 a0_1 := by simpa using f0_1
  have b0_1 := i64_of_wf b0_1
  obtain ⟨a0_2, f0_2, _, b0_2⟩ := DataW.trod_int Try.underlying3 r0_2
  obtain rfl : c0_2 = .int .i64 a0_2 := by simpa using f0_2
  have b0_2 := i64_of_wf b0_2
  obtain ⟨a0_3, f0_3, _, b0_3⟩ := DataW.trod_int Try.underlying3 r0_3
  obtain rfl : c0_3 = .int .i64 a0_3 := by simpa using f0_3
  have b0_3 := i64_of_wf b0_3
  obtain ⟨c1_0, c1_1, c1_2, c1_3, y1_0, y1_1, y1_2, y1_3, m1, rfl, _, _, r1_0, r1_1, r1_2, r1_3⟩ := Go.Joins.open_agg4 Try.underlying23 (by kernel_rfl) (by kernel_rfl) (hval 1 23 v1 rfl rfl) h1
  obtain ⟨a1_0, f1_0, _, b1_0⟩ := DataW.trod_int Try.underlying3 r1_0
  obtain rfl : c1_0 = .int .i64 a1_0 := by simpa using f1_0
  have b1_0 := i64_of_wf b1_0
  obtain ⟨a1_1, f1_1, _, b1_1⟩ := DataW.trod_int Try.underlying3 r1_1
  obtain rfl : c1_1 = .int .i64 a1_1 := by simpa using f1_1
  have b1_1 := i64_of_wf b1_1
  obtain ⟨a1_2, f1_2, _, b1_2⟩ := DataW.trod_int Try.underlying3 r1_2
  obtain rfl : c1_2 = .int .i64 a1_2 := by simpa using f1_2
  have b1_2 := i64_of_wf b1_2
  obtain ⟨a1_3, f1_3, _, b1_3⟩ := DataW.trod_int Try.underlying3 r1_3
  obtain rfl : c1_3 = .int .i64 a1_3 := by simpa using f1_3
  have b1_3 := i64_of_wf b1_3
  exact walk_HandleParts a0_0 a0_1 a0_2 a0_3 b0_0 b0_1 b0_2 b0_3 a1_0 a1_1 a1_2 a1_3 b1_0 b1_1 b1_2 b1_3 W

set_option maxRecDepth 100000 in
theorem lifted (os : Os) (started : os.Started) (H : Type) (enc : TypeId × Value → H) :
    ReturnsInHanded {} Try.checked os 7 .any (Rows.handlePartsSpec.pre6 enc Try.prog Try.f7 Rows.handlePartsRow.domain false) (Rows.handlePartsSpec.post enc Try.prog Try.f7 false true false false) :=
  law_lift (C := Try.checked) (by kernel_rfl) started (by kernel_rfl) Try.func7
    (ChangeSpec.witness6 (enc := enc) (C := Try.checked) false ⟨#[], #[.agg #[.int .i64 0, .int .i64 0, .int .i64 0, .int .i64 0], .agg #[.int .i64 0, .int .i64 0, .int .i64 0, .int .i64 0]], []⟩ 8 (by kernel_rfl) (by kernel_rfl) (by kernel_rfl) (by kernel_rfl))
    rfl Try.underlying4 (by kernel_rfl) (by kernel_rfl) rfl
    (fun ds hl => by
      have hl : ds.length = 2 := hl
      match ds, hl with
      | [_, _], _ => exact ⟨rfl, rfl, rfl⟩) walks

theorem over : Rows.handlePartsRow.holds Try.pinned (OpenSpec.ofChange Rows.handlePartsSpec) :=
  OpenClaim.holds_of_wide 7 Try.f7 rfl rfl rfl rfl rfl rfl rfl ⟨rfl, rfl, rfl, rfl, rfl⟩ rfl rfl rfl rfl rfl (by kernel_rfl) Try.func7 (by kernel_rfl)
    (of_decide_eq_true (by kernel_rfl)) (by unfold Func.isWrapper; first | (rw [if_pos (by decide +kernel)]; kernel_rfl) | (rw [if_neg (by decide +kernel)]; exact ⟨rfl, rfl⟩))
    (fun os started H enc _ => lifted os started H enc)

/-- The statement. -/
theorem proved : Rows.HandlePartsSaid := over
#print axioms proved
end Go.Proofs.Ytlfmkdndioegmaa.lawHandleParts
