/- HandleOne: for every input the law returns true, and each argument reads behind the call as before. Conditions: none beyond the row's own. -/
import Derived.Test.YtlfmkdndioegmaaRows
import Derived.Test.YtlfmkdndioegmaaGwRow
import Derived.Test.YtlfmkdndioegmaaWHandle
set_option linter.unusedVariables false
namespace Go.Proofs.Ytlfmkdndioegmaa.lawHandleOne
open Go.ChangeShapes Go.WideShapes Go.ChangeAt Go.RowKit
open Go.ChangeMaps (open_string shut_string)

theorem walks {H : Type} {enc : TypeId × Value → H} : Walks enc Try.prog 6 Try.f6 := by
  intro W base args ds ps hval hA hsz
  rw [Try.params6] at hA hval hsz
  obtain ⟨v0, vs0, d0, ds0, p0, r0, hargs, rfl, _, h0, q0⟩ := trodAll_cons hA
  obtain ⟨v1, vs1, d1, ds1, p1, r1, rfl, rfl, _, h1, q1⟩ := trodAll_cons q0
  obtain ⟨v2, vs2, d2, ds2, p2, r2, rfl, rfl, _, h2, q2⟩ := trodAll_cons q1
  obtain ⟨rfl, rfl, _⟩ := trodAll_nil q2
  obtain rfl : args = #[v0, v1, v2] := by cases args; simp_all
  obtain ⟨a0, rfl, _, _, b0⟩ := open_int Try.underlying24 (hval 0 24 v0 rfl rfl) h0
  have b0 := u64_of_wf b0
  obtain ⟨c1_0, c1_1, c1_2, c1_3, y1_0, y1_1, y1_2, y1_3, m1, rfl, _, _, r1_0, r1_1, r1_2, r1_3⟩ := Go.Joins.open_agg4 Try.underlying23 (by kernel_rfl) (by kernel_rfl) (hval 1 23 v1 rfl rfl) h1
  obtain ⟨a1_0, f1_0, _, b1_0⟩ := DataW.trod_int Try.underlying3 r1_0
  obtain rfl : c1_0 = .int .i64 a1_0 := by simpa using f1_0
  have b1_0 := i64_of_wf b1_0
  obtain ⟨a1_1, f1_1, _, b1_1⟩ := DataW.trod_int Try.underlying3 r1_1
  obtain rfl : c1_1 = .int .i64 a1_1 := by simpa using f1_1
  have b1_1 := i64_of_wf b1_1
  obtain ⟨a1_2, f1_2, _, b1_2⟩ := DataW.trod_int Try.underlying3 r1_2
  obtain rfl : c1_2 = .int .i64 a1_2 := by simpa using f1_2
  have b1_2 := i64_of_wf b1_2
  obtain ⟨a1_3, f1_3, _, b1_3⟩ := DataW.trod_int Try.underlying3 r1_3
  obtain rfl : c1_3 = .int .i64 a1_3 := by simpa using f1_3
  have b1_3 := i64_of_wf b1_3
  obtain ⟨c2_0, c2_1, c2_2, c2_3, y2_0, y2_1, y2_2, y2_3, m2, rfl, _, _, r2_0, r2_1, r2_2, r2_3⟩ := Go.Joins.open_agg4 Try.underlying23 (by kernel_rfl) (by kernel_rfl) (hval 2 23 v2 rfl rfl) h2
  obtain ⟨a2_0, f2_0, _, b2_0⟩ := DataW.trod_int Try.underlying3 r2_0
  obtain rfl : c2_0 = .int .i64 a2_0 := by simpa using f2_0
  have b2_0 := i64_of_wf b2_0
  obtain ⟨a2_1, f2_1, _, b2_1⟩ := DataW.trod_int Try.underlying3 r2_1
  obtain rfl : c2_1 = .int .i64 a2_1 := by simpa using f2_1
  have b2_1 := i64_of_wf b2_1
  obtain ⟨a2_2, f2_2, _, b2_2⟩ := DataW.trod_int Try.underlying3 r2_2
  obtain rfl : c2_2 = .int .i64 a2_2 := by simpa using f2_2
  have b2_2 := i64_of_wf b2_2
  obtain ⟨a2_3, f2_3, _, b2_3⟩ := DataW.trod_int Try.underlying3 r2_3
  obtain rfl : c2_3 = .int .i64 a2_3 := by simpa using f2_3
  have b2_3 := i64_of_wf b2_3
  exact walk_HandleOne a0 b0 a1_0 a1_1 a1_2 a1_3 b1_0 b1_1 b1_2 b1_3 a2_0 a2_1 a2_2 a2_3 b2_0 b2_1 b2_2 b2_3 W

set_option maxRecDepth 100000 in
theorem lifted (os : Os) (started : os.Started) (H : Type) (enc : TypeId × Value → H) :
    ReturnsInHanded {} Try.checked os 6 .any (Rows.handleOneSpec.pre6 enc Try.prog Try.f6 Rows.handleOneRow.domain false) (Rows.handleOneSpec.post enc Try.prog Try.f6 false true false false) :=
  law_lift (C := Try.checked) (by kernel_rfl) started (by kernel_rfl) Try.func6
    (ChangeSpec.witness6 (enc := enc) (C := Try.checked) false ⟨#[], #[.int .u64 0, .agg #[.int .i64 0, .int .i64 0, .int .i64 0, .int .i64 0], .agg #[.int .i64 0, .int .i64 0, .int .i64 0, .int .i64 0]], []⟩ 8 (by kernel_rfl) (by kernel_rfl) (by kernel_rfl) (by kernel_rfl))
    rfl Try.underlying4 (by kernel_rfl) (by kernel_rfl) rfl
    (fun ds hl => by
      have hl : ds.length = 3 := hl
      match ds, hl with
      | [_, _, _], _ => exact ⟨rfl, rfl, rfl⟩) walks

theorem over : Rows.handleOneRow.holds Try.pinned (OpenSpec.ofChange Rows.handleOneSpec) :=
  OpenClaim.holds_of_wide 6 Try.f6 rfl rfl rfl rfl rfl rfl rfl ⟨rfl, rfl, rfl, rfl, rfl⟩ rfl rfl rfl rfl rfl (by kernel_rfl) Try.func6 (by kernel_rfl)
    (of_decide_eq_true (by kernel_rfl)) (by unfold Func.isWrapper; first | (rw [if_pos (by decide +kernel)]; kernel_rfl) | (rw [if_neg (by decide +kernel)]; exact ⟨rfl, rfl⟩))
    (fun os started H enc _ => lifted os started H enc)

/-- The statement. -/
theorem proved : Rows.HandleOneSaid := over
#print axioms proved
end Go.Proofs.Ytlfmkdndioegmaa.lawHandleOne
