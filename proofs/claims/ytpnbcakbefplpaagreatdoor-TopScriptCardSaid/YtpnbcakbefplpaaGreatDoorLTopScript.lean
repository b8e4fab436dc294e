/- TopScript: for every input the law returns true, and each argument reads behind the call as before; the tied card of its row. Conditions: the row lists one table of the library, which the card ties to the program. -/
import Derived.Test.YtpnbcakbefplpaaGreatDoorRows
import Derived.Test.YtpnbcakbefplpaaGreatDoorCards
import Derived.Test.YtpnbcakbefplpaaGreatDoorTie
import Derived.Test.YtpnbcakbefplpaaGreatDoorM07
import Derived.SevenTiedAt
set_option linter.unusedVariables false
namespace Go.Proofs.YtpnbcakbefplpaaGreatDoor.lawTopScript
open Go.ChangeShapes Go.WideShapes Go.ChangeAt Go.RowKit Sf
open Go.ChangeMaps (open_string shut_string)

set_option maxRecDepth 100000 in
theorem walks {H : Type} {enc : TypeId × Value → H} : WalksX (fun w => laidMetH Tryz.prog Rows.topScriptRow.laid w) enc Tryz.prog 7 Tryz.f7 := by
  intro W base args ds ps hval hA hsz hL
  have tab := tab_of_laid hL
  rw [Tryz.params7] at hA hval hsz
  obtain ⟨v0, vs0, d0, ds0, p0, r0, hargs, rfl, _, h0, q0⟩ := trodAll_cons hA
  obtain ⟨v1, vs1, d1, ds1, p1, r1, rfl, rfl, _, h1, q1⟩ := trodAll_cons q0
  obtain ⟨rfl, rfl, _⟩ := trodAll_nil q1
  obtain rfl : args = #[v0, v1] := by cases args; simp_all
  obtain ⟨x0, rfl, o0⟩ := Sh.param (s := (.pair (.int .i64) (.pair (.int .i64) .unit))) (n := 20) (by kernel_rfl) (hval 0 23 v0 rfl rfl) h0 (fun m hm => by have q := List.all_eq_true.1 hsz m (DataW.weights_mem_each (j := 0) rfl rfl m hm); simpa using q)
  obtain ⟨x1, rfl, o1⟩ := Sh.param (s := (.row 7 64 (.pair (.pair (.int .i64) (.pair (.int .i64) (.pair (.int .i64) (.pair (.int .i64) (.pair (.int .u64) (.pair .str .unit)))))) (.pair (.int .i64) .unit)))) (n := 20) (by kernel_rfl) (hval 1 59 v1 rfl rfl) h1 (fun m hm => by have q := List.all_eq_true.1 hsz m (DataW.weights_mem_each (j := 1) rfl rfl m hm); simpa using q)
  exact walk_TopScript W tab x0 o0 x1 o1

set_option maxRecDepth 100000 in
theorem lifted (os : Os) (started : os.Started) (H : Type) (enc : TypeId × Value → H) :
    ReturnsInHanded {} Tryz.checked os 7 .any (fun w args => (Rows.topScriptSpec.pre enc Tryz.prog Tryz.f7 [] false w args ∧ laidMetH Tryz.prog Rows.topScriptRow.laid w) ∧ sizedMet enc Tryz.prog Tryz.f7 (OpenSpec.ofChange Rows.topScriptSpec) false w args) (Rows.topScriptSpec.post enc Tryz.prog Tryz.f7 false true false false) :=
  law_liftX (X := fun w => laidMetH Tryz.prog Rows.topScriptRow.laid w) (fun _ _ hh h => h.of_heap hh) (C := Tryz.checked) (by kernel_rfl) started (by kernel_rfl) Tryz.func7
    (ChangeSpec.witness_shaped (enc := enc) (C := Tryz.checked) (os := os) (X := fun w _ => laidMetH Tryz.prog Rows.topScriptRow.laid w) false (World.doorLaid Tryz.prog 400 os) #[.agg #[.int .i64 0, .int .i64 0], .slice none 0 0] 8 rfl (World.shaped_of_RefB (by kernel_rfl) (by kernel_rfl)) (by kernel_rfl) (by kernel_rfl) (by kernel_rfl) (door_met os _))
    rfl Tryz.underlying4 (by kernel_rfl) (by kernel_rfl) rfl
    (fun ds hl => by
      have hl : ds.length = 2 := hl
      match ds, hl with
      | [_, _], _ => exact ⟨rfl, rfl, rfl⟩) walks

theorem over : Rows.topScriptRow.holds Tryz.pinned (OpenSpec.ofChange Rows.topScriptSpec) :=
  OpenClaim.holds_of_wide 7 Tryz.f7 rfl rfl rfl rfl rfl rfl rfl ⟨rfl, rfl, rfl, rfl, rfl⟩ rfl rfl rfl rfl rfl (by kernel_rfl) Tryz.func7 (by kernel_rfl)
    (of_decide_eq_true (by kernel_rfl)) (by unfold Func.isWrapper; first | (rw [if_pos (by decide +kernel)]; kernel_rfl) | (rw [if_neg (by decide +kernel)]; exact ⟨rfl, rfl⟩))
    (fun os started H enc _ => lifted os started H enc)

/-- The statement. -/
theorem proved : Rows.TopScriptCardSaid :=
  Claim7.holds_tied_plain_at .later [] [.data] true (true, "53f9452c992c96529404891bfb0a92881c98396f9d605ef7720c48dbd765aab9") false
    over (fun _ h => by cases h) (by kernel_rfl) (fun _ h => by cases h) topScript_row_tie rfl ⟨rfl, rfl⟩ (by kernel_rfl) rfl
    (fun f fn hf hfn => by
      obtain rfl : f = 7 := Option.some.inj ((show Tryz.prog.funcNamed Rows.topScriptRow.func = some 7 by kernel_rfl).symm.trans hf) |>.symm
      obtain rfl : fn = Tryz.f7 := (Option.some.inj (Tryz.func7.symm.trans hfn)).symm
      exact ⟨by kernel_rfl, fun j t ht => by
        rw [Tryz.params7] at ht
        have hm : t ∈ ([23, 59] : List TypeId) := by simpa using Array.mem_of_getElem? ht
        have hall : (([23, 59] : List TypeId).all fun u => !Tryz.prog.wantsStandIn u) = true := by kernel_rfl
        exact (show Tryz.prog.wantsStandIn t = false by simpa using List.all_eq_true.1 hall t hm)⟩)
    (by kernel_rfl)
#print axioms proved
end Go.Proofs.YtpnbcakbefplpaaGreatDoor.lawTopScript
