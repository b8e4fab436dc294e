/- ArenaNil: for every input the law returns true, and each argument reads behind the call as before. Conditions: none beyond the row's own. -/
import Derived.Test.YtlfmkdndioegmaaRows
import Derived.Test.YtlfmkdndioegmaaGwRead
import Derived.Test.YtlfmkdndioegmaaWArenaC
set_option linter.unusedVariables false
namespace Go.Proofs.Ytlfmkdndioegmaa.lawArenaNil
open Go.ChangeShapes Go.WideShapes Go.ChangeAt Go.RowKit
open Go.ChangeMaps (open_string shut_string)

theorem walks {H : Type} {enc : TypeId × Value → H} : Walks enc Try.prog 14 Try.f14 := by
  intro W base args ds ps hval hA hsz
  rw [Try.params14] at hA hval hsz
  obtain ⟨v0, vs0, d0, ds0, p0, r0, hargs, rfl, _, h0, q0⟩ := trodAll_cons hA
  obtain ⟨rfl, rfl, _⟩ := trodAll_nil q0
  obtain rfl : args = #[v0] := by cases args; simp_all
  obtain ⟨x0, rfl, o0⟩ := Sh.param (s := (.pair (.int .i64) (.pair (.int .i64) (.pair (.int .i64) (.pair (.int .i64) (.pair (.int .u64) (.pair .str .unit))))))) (n := 20) (by kernel_rfl) (hval 0 64 v0 rfl rfl) h0 (fun m hm => by have q := List.all_eq_true.1 hsz m (DataW.weights_mem_each (j := 0) rfl rfl m hm); simpa using q)
  exact walk_ArenaNil W x0 o0

set_option maxRecDepth 100000 in
theorem lifted (os : Os) (started : os.Started) (H : Type) (enc : TypeId × Value → H) :
    ReturnsInHanded {} Try.checked os 14 .any (Rows.arenaNilSpec.pre6 enc Try.prog Try.f14 Rows.arenaNilRow.domain false) (Rows.arenaNilSpec.post enc Try.prog Try.f14 false true false false) :=
  law_lift (C := Try.checked) (by kernel_rfl) started (by kernel_rfl) Try.func14
    (ChangeSpec.witness6 (enc := enc) (C := Try.checked) false ⟨#[], #[.agg #[.int .i64 0, .int .i64 0, .int .i64 0, .int .i64 0, .int .u64 0, .string .empty]], []⟩ 8 (by kernel_rfl) (by kernel_rfl) (by kernel_rfl) (by kernel_rfl))
    rfl Try.underlying4 (by kernel_rfl) (by kernel_rfl) rfl
    (fun ds hl => by
      have hl : ds.length = 1 := hl
      match ds, hl with
      | [_], _ => exact ⟨rfl, rfl, rfl⟩) walks

theorem over : Rows.arenaNilRow.holds Try.pinned (OpenSpec.ofChange Rows.arenaNilSpec) :=
  OpenClaim.holds_of_wide 14 Try.f14 rfl rfl rfl rfl rfl rfl rfl ⟨rfl, rfl, rfl, rfl, rfl⟩ rfl rfl rfl rfl rfl (by kernel_rfl) Try.func14 (by kernel_rfl)
    (of_decide_eq_true (by kernel_rfl)) (by unfold Func.isWrapper; first | (rw [if_pos (by decide +kernel)]; kernel_rfl) | (rw [if_neg (by decide +kernel)]; exact ⟨rfl, rfl⟩))
    (fun os started H enc _ => lifted os started H enc)

/-- The statement. -/
theorem proved : Rows.ArenaNilSaid := over
#print axioms proved
end Go.Proofs.Ytlfmkdndioegmaa.lawArenaNil
