/- ViewMoves: for every input the law returns true, and each argument reads behind the call as before. Conditions: none beyond the row's own. -/
import Derived.Test.YtnjjgpjpodmgpaaRows
import Derived.Test.YtnjjgpjpodmgpaaGwRead
import Derived.Test.YtnjjgpjpodmgpaaWViewB
set_option linter.unusedVariables false
namespace Go.Proofs.Ytnjjgpjpodmgpaa.lawViewMoves
open Go.ChangeShapes Go.WideShapes Go.ChangeAt Go.RowKit
open Go.ChangeMaps (open_string shut_string)

set_option maxRecDepth 100000 in
theorem walks {H : Type} {enc : TypeId × Value → H} : Walks enc Try.prog 9 Try.f9 := by
  intro W base args ds ps hval hA hsz
  rw [Try.params9] at hA hval hsz
  obtain ⟨v0, vs0, d0, ds0, p0, r0, hargs, rfl, _, h0, q0⟩ := trodAll_cons hA
  obtain ⟨v1, vs1, d1, ds1, p1, r1, rfl, rfl, _, h1, q1⟩ := trodAll_cons q0
  obtain ⟨v2, vs2, d2, ds2, p2, r2, rfl, rfl, _, h2, q2⟩ := trodAll_cons q1
  obtain ⟨v3, vs3, d3, ds3, p3, r3, rfl, rfl, _, h3, q3⟩ := trodAll_cons q2
  obtain ⟨v4, vs4, d4, ds4, p4, r4, rfl, rfl, _, h4, q4⟩ := trodAll_cons q3
  obtain ⟨rfl, rfl, _⟩ := trodAll_nil q4
  obtain rfl : args = #[v0, v1, v2, v3, v4] := by cases args; simp_all
  obtain ⟨x0, rfl, o0⟩ := Sh.param (s := (.row 3 24 (.pair (.int .i64) (.pair (.int .i64) (.pair (.int .i64) .unit))))) (n := 20) (by kernel_rfl) (hval 0 73 v0 rfl rfl) h0 (fun m hm => by have q := List.all_eq_true.1 hsz m (DataW.weights_mem_each (j := 0) rfl rfl m hm); simpa using q)
  obtain ⟨a1, rfl, e1, _, b1⟩ := open_string Try.underlying9 (hval 1 9 v1 rfl rfl) h1
  subst e1
  have c1 := sized_string hsz (j := 1) (t := 9) rfl rfl
  obtain ⟨a2, rfl, _, _, b2⟩ := open_int Try.underlying3 (hval 2 3 v2 rfl rfl) h2
  have b2 := i64_of_wf b2
  obtain ⟨a3, rfl, _, _, b3⟩ := open_int Try.underlying3 (hval 3 3 v3 rfl rfl) h3
  have b3 := i64_of_wf b3
  obtain ⟨a4, rfl, _, _, b4⟩ := open_int Try.underlying3 (hval 4 3 v4 rfl rfl) h4
  have b4 := i64_of_wf b4
  exact walk_ViewMoves W x0 o0 a1 b1 c1 a2 b2 a3 b3 a4 b4

set_option maxRecDepth 100000 in
theorem lifted (os : Os) (started : os.Started) (H : Type) (enc : TypeId × Value → H) :
    ReturnsInHanded {} Try.checked os 9 .any (Rows.viewMovesSpec.pre6 enc Try.prog Try.f9 Rows.viewMovesRow.domain false) (Rows.viewMovesSpec.post enc Try.prog Try.f9 false true false false) :=
  law_lift (C := Try.checked) (by kernel_rfl) started (by kernel_rfl) Try.func9
    (ChangeSpec.witness6 (enc := enc) (C := Try.checked) false ⟨#[], #[.slice none 0 0, .string .empty, .int .i64 0, .int .i64 0, .int .i64 0], []⟩ 8 (by kernel_rfl) (by kernel_rfl) (by kernel_rfl) (by kernel_rfl))
    rfl Try.underlying4 (by kernel_rfl) (by kernel_rfl) rfl
    (fun ds hl => by
      have hl : ds.length = 5 := hl
      match ds, hl with
      | [_, _, _, _, _], _ => exact ⟨rfl, rfl, rfl⟩) walks

theorem over : Rows.viewMovesRow.holds Try.pinned (OpenSpec.ofChange Rows.viewMovesSpec) :=
  OpenClaim.holds_of_wide 9 Try.f9 rfl rfl rfl rfl rfl rfl rfl ⟨rfl, rfl, rfl, rfl, rfl⟩ rfl rfl rfl rfl rfl (by kernel_rfl) Try.func9 (by kernel_rfl)
    (of_decide_eq_true (by kernel_rfl)) (by unfold Func.isWrapper; first | (rw [if_pos (by decide +kernel)]; kernel_rfl) | (rw [if_neg (by decide +kernel)]; exact ⟨rfl, rfl⟩))
    (fun os started H enc _ => lifted os started H enc)

/-- The statement. -/
theorem proved : Rows.ViewMovesSaid := over
#print axioms proved
end Go.Proofs.Ytnjjgpjpodmgpaa.lawViewMoves
