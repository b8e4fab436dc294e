/- HandlePacks: for every input the law returns true, and each argument reads behind the call as before. Conditions: none beyond the row's own. -/
import Derived.Test.YtlfmkdndioegmaaRows
import Derived.Test.YtlfmkdndioegmaaGwRow
import Derived.Test.YtlfmkdndioegmaaWHandle
set_option linter.unusedVariables false
namespace Go.Proofs.Ytlfmkdndioegmaa.lawHandlePacks
open Go.ChangeShapes Go.WideShapes Go.ChangeAt Go.RowKit
open Go.ChangeMaps (open_string shut_string)

theorem walks {H : Type} {enc : TypeId × Value → H} : Walks enc Try.prog 3 Try.f3 := by
  intro W base args ds ps hval hA hsz
  rw [Try.params3] at hA hval hsz
  obtain ⟨v0, vs0, d0, ds0, p0, r0, hargs, rfl, _, h0, q0⟩ := trodAll_cons hA
  obtain ⟨rfl, rfl, _⟩ := trodAll_nil q0
  obtain rfl : args = #[v0] := by cases args; simp_all
  obtain ⟨c0_0, c0_1, c0_2, c0_3, y0_0, y0_1, y0_2, y0_3, m0, rfl, _, _, r0_0, r0_1, r0_2, r0_3⟩ := Go.Joins.open_agg4 Try.underlying23 (by kernel_rfl) (by kernel_rfl) (hval 0 23 v0 rfl rfl) h0
  obtain ⟨a0_0, f0_0, _, b0_0⟩ := DataW.trod_int Try.underlying3 r0_0
  obtain rfl : c0_0 = .int .i64 a0_0 := by simpa using f0_0
  have b0_0 := i64_of_wf b0_0
  obtain ⟨a0_1, f0_1, _, b0_1⟩ := DataW.trod_int Try.underlying3 r0_1
  obtain rfl : c0_1 = .int .i64 a0_1 := by simpa using f0_1
  have b0_1 := i64_of_wf b0_1
  obtain ⟨a0_2, f0_2, _, b0_2⟩ := DataW.trod_int Try.underlying3 r0_2
  obtain rfl : c0_2 = .int .i64 a0_2 := by simpa using f0_2
  have b0_2 := i64_of_wf b0_2
  obtain ⟨a0_3, f0_3, _, b0_3⟩ := DataW.trod_int Try.underlying3 r0_3
  obtain rfl : c0_3 = .int .i64 a0_3 := by simpa using f0_3
  have b0_3 := i64_of_wf b0_3
  exact walk_HandlePacks a0_0 a0_1 a0_2 a0_3 b0_0 b0_1 b0_2 b0_3 W

set_option maxRecDepth 100000 in
theorem lifted (os : Os) (started : os.Started) (H : Type) (enc : TypeId × Value → H) :
    ReturnsInHanded {} Try.checked os 3 .any (Rows.handlePacksSpec.pre6 enc Try.prog Try.f3 Rows.handlePacksRow.domain false) (Rows.handlePacksSpec.post enc Try.prog Try.f3 false true false false) :=
  law_lift (C := Try.checked) (by kernel_rfl) started (by kernel_rfl) Try.func3
    (ChangeSpec.witness6 (enc := enc) (C := Try.checked) false ⟨#[], #[.agg #[.int .i64 0, .int .i64 0, .int .i64 0, .int .i64 0]], []⟩ 8 (by kernel_rfl) (by kernel_rfl) (by kernel_rfl) (by kernel_rfl))
    rfl Try.underlying4 (by kernel_rfl) (by kernel_rfl) rfl
    (fun ds hl => by
      have hl : ds.length = 1 := hl
      match ds, hl with
      | [_], _ => exact ⟨rfl, rfl, rfl⟩) walks

theorem over : Rows.handlePacksRow.holds Try.pinned (OpenSpec.ofChange Rows.handlePacksSpec) :=
  OpenClaim.holds_of_wide 3 Try.f3 rfl rfl rfl rfl rfl rfl rfl ⟨rfl, rfl, rfl, rfl, rfl⟩ rfl rfl rfl rfl rfl (by kernel_rfl) Try.func3 (by kernel_rfl)
    (of_decide_eq_true (by kernel_rfl)) (by unfold Func.isWrapper; first | (rw [if_pos (by decide +kernel)]; kernel_rfl) | (rw [if_neg (by decide +kernel)]; exact ⟨rfl, rfl⟩))
    (fun os started H enc _ => lifted os started H enc)

/-- The statement. -/
theorem proved : Rows.HandlePacksSaid := over
#print axioms proved
end Go.Proofs.Ytlfmkdndioegmaa.lawHandlePacks
