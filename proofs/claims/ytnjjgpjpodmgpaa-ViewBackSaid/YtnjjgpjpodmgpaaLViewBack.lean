/- ViewBack: for every input the law returns true, and each argument reads behind the call as before. Conditions: none beyond the row's own. -/
import Derived.Test.YtnjjgpjpodmgpaaRows
import Derived.Test.YtnjjgpjpodmgpaaGwRead
import Derived.Test.YtnjjgpjpodmgpaaWViewC
set_option linter.unusedVariables false
namespace Go.Proofs.Ytnjjgpjpodmgpaa.lawViewBack
open Go.ChangeShapes Go.WideShapes Go.ChangeAt Go.RowKit
open Go.ChangeMaps (open_string shut_string)

set_option maxRecDepth 100000 in
theorem walks {H : Type} {enc : TypeId × Value → H} : Walks enc Try.prog 8 Try.f8 := by
  intro W base args ds ps hval hA hsz
  rw [Try.params8] at hA hval hsz
  obtain ⟨v0, vs0, d0, ds0, p0, r0, hargs, rfl, _, h0, q0⟩ := trodAll_cons hA
  obtain ⟨v1, vs1, d1, ds1, p1, r1, rfl, rfl, _, h1, q1⟩ := trodAll_cons q0
  obtain ⟨v2, vs2, d2, ds2, p2, r2, rfl, rfl, _, h2, q2⟩ := trodAll_cons q1
  obtain ⟨v3, vs3, d3, ds3, p3, r3, rfl, rfl, _, h3, q3⟩ := trodAll_cons q2
  obtain ⟨rfl, rfl, _⟩ := trodAll_nil q3
  obtain rfl : args = #[v0, v1, v2, v3] := by cases args; simp_all
  obtain ⟨x0, rfl, o0⟩ := Sh.param (s := (.row 3 24 (.pair (.int .i64) (.pair (.int .i64) (.pair (.int .i64) .unit))))) (n := 20) (by kernel_rfl) (hval 0 73 v0 rfl rfl) h0 (fun m hm => by have q := List.all_eq_true.1 hsz m (DataW.weights_mem_each (j := 0) rfl rfl m hm); simpa using q)
  obtain ⟨a1, rfl, e1, _, b1⟩ := open_string Try.underlying9 (hval 1 9 v1 rfl rfl) h1
  subst e1
  have c1 := sized_string hsz (j := 1) (t := 9) rfl rfl
  obtain ⟨a2, rfl, _, _, b2⟩ := open_int Try.underlying3 (hval 2 3 v2 rfl rfl) h2
  have b2 := i64_of_wf b2
  obtain ⟨a3, rfl, e3, _, b3⟩ := open_string Try.underlying9 (hval 3 9 v3 rfl rfl) h3
  subst e3
  have c3 := sized_string hsz (j := 3) (t := 9) rfl rfl
  exact walk_ViewBack W x0 o0 a1 b1 c1 a2 b2 a3 b3 c3

set_option maxRecDepth 100000 in
theorem lifted (os : Os) (started : os.Started) (H : Type) (enc : TypeId × Value → H) :
    ReturnsInHanded {} Try.checked os 8 .any (Rows.viewBackSpec.pre6 enc Try.prog Try.f8 Rows.viewBackRow.domain false) (Rows.viewBackSpec.post enc Try.prog Try.f8 false true false false) :=
  law_lift (C := Try.checked) (by kernel_rfl) started (by kernel_rfl) Try.func8
    (ChangeSpec.witness6 (enc := enc) (C := Try.checked) false ⟨#[], #[.slice none 0 0, .string .empty, .int .i64 0, .string .empty], []⟩ 8 (by kernel_rfl) (by kernel_rfl) (by kernel_rfl) (by kernel_rfl))
    rfl Try.underlying4 (by kernel_rfl) (by kernel_rfl) rfl
    (fun ds hl => by
      have hl : ds.length = 4 := hl
      match ds, hl with
      | [_, _, _, _], _ => exact ⟨rfl, rfl, rfl⟩) walks

theorem over : Rows.viewBackRow.holds Try.pinned (OpenSpec.ofChange Rows.viewBackSpec) :=
  OpenClaim.holds_of_wide 8 Try.f8 rfl rfl rfl rfl rfl rfl rfl ⟨rfl, rfl, rfl, rfl, rfl⟩ rfl rfl rfl rfl rfl (by kernel_rfl) Try.func8 (by kernel_rfl)
    (of_decide_eq_true (by kernel_rfl)) (by unfold Func.isWrapper; first | (rw [if_pos (by decide +kernel)]; kernel_rfl) | (rw [if_neg (by decide +kernel)]; exact ⟨rfl, rfl⟩))
    (fun os started H enc _ => lifted os started H enc)

/-- The statement. -/
theorem proved : Rows.ViewBackSaid := over
#print axioms proved
end Go.Proofs.Ytnjjgpjpodmgpaa.lawViewBack
