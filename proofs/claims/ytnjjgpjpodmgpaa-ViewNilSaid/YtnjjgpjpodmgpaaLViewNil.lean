/- ViewNil: for every input the law returns true, and each argument reads behind the call as before. Conditions: none beyond the row's own. -/
import Derived.Test.YtnjjgpjpodmgpaaRows
import Derived.Test.YtnjjgpjpodmgpaaGwRow
import Derived.Test.YtnjjgpjpodmgpaaWViewA
set_option linter.unusedVariables false
namespace Go.Proofs.Ytnjjgpjpodmgpaa.lawViewNil
open Go.ChangeShapes Go.WideShapes Go.ChangeAt Go.RowKit
open Go.ChangeMaps (open_string shut_string)

set_option maxRecDepth 100000 in
theorem walks {H : Type} {enc : TypeId × Value → H} : Walks enc Try.prog 10 Try.f10 := by
  intro W base args ds ps hval hA hsz
  rw [Try.params10] at hA hval hsz
  obtain ⟨v0, vs0, d0, ds0, p0, r0, hargs, rfl, _, h0, q0⟩ := trodAll_cons hA
  obtain ⟨v1, vs1, d1, ds1, p1, r1, rfl, rfl, _, h1, q1⟩ := trodAll_cons q0
  obtain ⟨v2, vs2, d2, ds2, p2, r2, rfl, rfl, _, h2, q2⟩ := trodAll_cons q1
  obtain ⟨rfl, rfl, _⟩ := trodAll_nil q2
  obtain rfl : args = #[v0, v1, v2] := by cases args; simp_all
  obtain ⟨a0, rfl, _, _, b0⟩ := open_int Try.underlying3 (hval 0 3 v0 rfl rfl) h0
  have b0 := i64_of_wf b0
  obtain ⟨a1, rfl, _, _, b1⟩ := open_int Try.underlying3 (hval 1 3 v1 rfl rfl) h1
  have b1 := i64_of_wf b1
  obtain ⟨a2, rfl, e2, _, b2⟩ := open_string Try.underlying9 (hval 2 9 v2 rfl rfl) h2
  subst e2
  have c2 := sized_string hsz (j := 2) (t := 9) rfl rfl
  exact walk_ViewNil a0 b0 a1 b1 a2 b2 c2 W

set_option maxRecDepth 100000 in
theorem lifted (os : Os) (started : os.Started) (H : Type) (enc : TypeId × Value → H) :
    ReturnsInHanded {} Try.checked os 10 .any (Rows.viewNilSpec.pre6 enc Try.prog Try.f10 Rows.viewNilRow.domain false) (Rows.viewNilSpec.post enc Try.prog Try.f10 false true false false) :=
  law_lift (C := Try.checked) (by kernel_rfl) started (by kernel_rfl) Try.func10
    (ChangeSpec.witness6 (enc := enc) (C := Try.checked) false ⟨#[], #[.int .i64 0, .int .i64 0, .string .empty], []⟩ 8 (by kernel_rfl) (by kernel_rfl) (by kernel_rfl) (by kernel_rfl))
    rfl Try.underlying4 (by kernel_rfl) (by kernel_rfl) rfl
    (fun ds hl => by
      have hl : ds.length = 3 := hl
      match ds, hl with
      | [_, _, _], _ => exact ⟨rfl, rfl, rfl⟩) walks

theorem over : Rows.viewNilRow.holds Try.pinned (OpenSpec.ofChange Rows.viewNilSpec) :=
  OpenClaim.holds_of_wide 10 Try.f10 rfl rfl rfl rfl rfl rfl rfl ⟨rfl, rfl, rfl, rfl, rfl⟩ rfl rfl rfl rfl rfl (by kernel_rfl) Try.func10 (by kernel_rfl)
    (of_decide_eq_true (by kernel_rfl)) (by unfold Func.isWrapper; first | (rw [if_pos (by decide +kernel)]; kernel_rfl) | (rw [if_neg (by decide +kernel)]; exact ⟨rfl, rfl⟩))
    (fun os started H enc _ => lifted os started H enc)

/-- The statement. -/
theorem proved : Rows.ViewNilSaid := over
#print axioms proved
end Go.Proofs.Ytnjjgpjpodmgpaa.lawViewNil
