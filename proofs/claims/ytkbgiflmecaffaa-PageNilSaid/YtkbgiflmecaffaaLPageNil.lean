/- PageNil: for every input the law returns true, and each argument reads behind the call as before. Conditions: none beyond the row's own. -/
import Derived.Test.YtkbgiflmecaffaaRows
import Derived.Test.YtkbgiflmecaffaaGwRow
import Derived.Test.YtkbgiflmecaffaaWPageA
set_option linter.unusedVariables false
namespace Go.Proofs.Ytkbgiflmecaffaa.lawPageNil
open Go.ChangeShapes Go.WideShapes Go.ChangeAt Go.RowKit
open Go.ChangeMaps (open_string shut_string)

set_option maxRecDepth 100000 in
theorem walks {H : Type} {enc : TypeId × Value → H} : Walks enc Try.prog 6 Try.f6 := by
  intro W base args ds ps hval hA hsz
  rw [Try.params6] at hA hval hsz
  obtain ⟨v0, vs0, d0, ds0, p0, r0, hargs, rfl, _, h0, q0⟩ := trodAll_cons hA
  obtain ⟨rfl, rfl, _⟩ := trodAll_nil q0
  obtain rfl : args = #[v0] := by cases args; simp_all
  obtain ⟨a0, rfl, _, _, b0⟩ := open_int Try.underlying3 (hval 0 3 v0 rfl rfl) h0
  have b0 := i64_of_wf b0
  exact walk_PageNil a0 b0 W

set_option maxRecDepth 100000 in
theorem lifted (os : Os) (started : os.Started) (H : Type) (enc : TypeId × Value → H) :
    ReturnsInHanded {} Try.checked os 6 .any (Rows.pageNilSpec.pre6 enc Try.prog Try.f6 Rows.pageNilRow.domain false) (Rows.pageNilSpec.post enc Try.prog Try.f6 false true false false) :=
  law_lift (C := Try.checked) (by kernel_rfl) started (by kernel_rfl) Try.func6
    (ChangeSpec.witness6 (enc := enc) (C := Try.checked) false ⟨#[], #[.int .i64 0], []⟩ 8 (by kernel_rfl) (by kernel_rfl) (by kernel_rfl) (by kernel_rfl))
    rfl Try.underlying4 (by kernel_rfl) (by kernel_rfl) rfl
    (fun ds hl => by
      have hl : ds.length = 1 := hl
      match ds, hl with
      | [_], _ => exact ⟨rfl, rfl, rfl⟩) walks

theorem over : Rows.pageNilRow.holds Try.pinned (OpenSpec.ofChange Rows.pageNilSpec) :=
  OpenClaim.holds_of_wide 6 Try.f6 rfl rfl rfl rfl rfl rfl rfl ⟨rfl, rfl, rfl, rfl, rfl⟩ rfl rfl rfl rfl rfl (by kernel_rfl) Try.func6 (by kernel_rfl)
    (of_decide_eq_true (by kernel_rfl)) (by unfold Func.isWrapper; first | (rw [if_pos (by decide +kernel)]; kernel_rfl) | (rw [if_neg (by decide +kernel)]; exact ⟨rfl, rfl⟩))
    (fun os started H enc _ => lifted os started H enc)

/-- The statement. -/
theorem proved : Rows.PageNilSaid := over
#print axioms proved
end Go.Proofs.Ytkbgiflmecaffaa.lawPageNil
