/- ViewPlays: for every input the law returns true, and each argument reads behind the call as before. Conditions: none beyond the row's own. -/
import Derived.Test.YtnjjgpjpodmgpaaRows
import Derived.Test.YtnjjgpjpodmgpaaGwRead
import Derived.Test.YtnjjgpjpodmgpaaWViewD
set_option linter.unusedVariables false
namespace Go.Proofs.Ytnjjgpjpodmgpaa.lawViewPlays
open Go.ChangeShapes Go.WideShapes Go.ChangeAt Go.RowKit
open Go.ChangeMaps (open_string shut_string)

set_option maxRecDepth 100000 in
theorem walks {H : Type} {enc : TypeId × Value → H} : Walks enc Try.prog 11 Try.f11 := by
  intro W base args ds ps hval hA hsz
  rw [Try.params11] at hA hval hsz
  obtain ⟨v0, vs0, d0, ds0, p0, r0, hargs, rfl, _, h0, q0⟩ := trodAll_cons hA
  obtain ⟨v1, vs1, d1, ds1, p1, r1, rfl, rfl, _, h1, q1⟩ := trodAll_cons q0
  obtain ⟨rfl, rfl, _⟩ := trodAll_nil q1
  obtain rfl : args = #[v0, v1] := by cases args; simp_all
  obtain ⟨a0, rfl, _, _, b0⟩ := open_int Try.underlying3 (hval 0 3 v0 rfl rfl) h0
  have b0 := i64_of_wf b0
  obtain ⟨x1, rfl, o1⟩ := Sh.param (s := (.row 5 48 (.pair (.int .i64) (.pair (.int .i64) (.pair (.int .i64) (.pair (.int .i64) (.pair .str .unit))))))) (n := 20) (by kernel_rfl) (hval 1 89 v1 rfl rfl) h1 (fun m hm => by have q := List.all_eq_true.1 hsz m (DataW.weights_mem_each (j := 1) rfl rfl m hm); simpa using q)
  exact walk_ViewPlays W a0 b0 x1 o1

set_option maxRecDepth 100000 in
theorem lifted (os : Os) (started : os.Started) (H : Type) (enc : TypeId × Value → H) :
    ReturnsInHanded {} Try.checked os 11 .any (Rows.viewPlaysSpec.pre6 enc Try.prog Try.f11 Rows.viewPlaysRow.domain false) (Rows.viewPlaysSpec.post enc Try.prog Try.f11 false true false false) :=
  law_lift (C := Try.checked) (by kernel_rfl) started (by kernel_rfl) Try.func11
    (ChangeSpec.witness6 (enc := enc) (C := Try.checked) false ⟨#[], #[.int .i64 0, .slice none 0 0], []⟩ 8 (by kernel_rfl) (by kernel_rfl) (by kernel_rfl) (by kernel_rfl))
    rfl Try.underlying4 (by kernel_rfl) (by kernel_rfl) rfl
    (fun ds hl => by
      have hl : ds.length = 2 := hl
      match ds, hl with
      | [_, _], _ => exact ⟨rfl, rfl, rfl⟩) walks

theorem over : Rows.viewPlaysRow.holds Try.pinned (OpenSpec.ofChange Rows.viewPlaysSpec) :=
  OpenClaim.holds_of_wide 11 Try.f11 rfl rfl rfl rfl rfl rfl rfl ⟨rfl, rfl, rfl, rfl, rfl⟩ rfl rfl rfl rfl rfl (by kernel_rfl) Try.func11 (by kernel_rfl)
    (of_decide_eq_true (by kernel_rfl)) (by unfold Func.isWrapper; first | (rw [if_pos (by decide +kernel)]; kernel_rfl) | (rw [if_neg (by decide +kernel)]; exact ⟨rfl, rfl⟩))
    (fun os started H enc _ => lifted os started H enc)

/-- The statement. -/
theorem proved : Rows.ViewPlaysSaid := over
#print axioms proved
end Go.Proofs.Ytnjjgpjpodmgpaa.lawViewPlays
