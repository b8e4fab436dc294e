/- CapsPlays: for every input the law returns true, and each argument reads behind the call as before; the tied card of its row. Conditions: the row lists one table of the library, which the card ties to the program. -/
import Derived.Test.YtkbgiflmecaffaaDoorRows
import Derived.Test.YtkbgiflmecaffaaDoorCards
import Derived.Test.YtkbgiflmecaffaaDoorTie
import Derived.Test.YtkbgiflmecaffaaDoorGwRead
import Derived.Test.YtkbgiflmecaffaaDoorGwTab
import Derived.Test.YtkbgiflmecaffaaDoorWCapsF
import Derived.SevenTiedAt
set_option linter.unusedVariables false
namespace Go.Proofs.YtkbgiflmecaffaaDoor.lawCapsPlays
open Go.ChangeShapes Go.WideShapes Go.ChangeAt Go.RowKit
open Go.ChangeMaps (open_string shut_string)

set_option maxRecDepth 100000 in
theorem walks {H : Type} {enc : TypeId × Value → H} : WalksX (fun w => laidMetH Tryd.prog Rows.capsPlaysRow.laid w) enc Tryd.prog 7 Tryd.f7 := by
  intro W base args ds ps hval hA hsz hL
  have tab := tab_of_laid hL
  rw [Tryd.params7] at hA hval hsz
  obtain ⟨v0, vs0, d0, ds0, p0, r0, hargs, rfl, _, h0, q0⟩ := trodAll_cons hA
  obtain ⟨v1, vs1, d1, ds1, p1, r1, rfl, rfl, _, h1, q1⟩ := trodAll_cons q0
  obtain ⟨v2, vs2, d2, ds2, p2, r2, rfl, rfl, _, h2, q2⟩ := trodAll_cons q1
  obtain ⟨rfl, rfl, _⟩ := trodAll_nil q2
  obtain rfl : args = #[v0, v1, v2] := by cases args; simp_all
  obtain ⟨a0, rfl, _, _, b0⟩ := open_int Tryd.underlying3 (hval 0 3 v0 rfl rfl) h0
  have b0 := i64_of_wf b0
  obtain ⟨a1, rfl, _, _, b1⟩ := open_int Tryd.underlying3 (hval 1 3 v1 rfl rfl) h1
  have b1 := i64_of_wf b1
  obtain ⟨x2, rfl, o2⟩ := Sh.param (s := (.row 5 40 (.pair (.int .i64) (.pair (.int .i64) (.pair (.int .i64) (.pair (.int .i64) (.pair (.int .u64) .unit))))))) (n := 20) (by kernel_rfl) (hval 2 22 v2 rfl rfl) h2 (fun m hm => by have q := List.all_eq_true.1 hsz m (DataW.weights_mem_each (j := 2) rfl rfl m hm); simpa using q)
  exact walk_CapsPlays W tab a0 b0 a1 b1 x2 o2

set_option maxRecDepth 100000 in
theorem lifted (os : Os) (started : os.Started) (H : Type) (enc : TypeId × Value → H) :
    ReturnsInHanded {} Tryd.checked os 7 .any (fun w args => (Rows.capsPlaysSpec.pre enc Tryd.prog Tryd.f7 [] false w args ∧ laidMetH Tryd.prog Rows.capsPlaysRow.laid w) ∧ sizedMet enc Tryd.prog Tryd.f7 (OpenSpec.ofChange Rows.capsPlaysSpec) false w args) (Rows.capsPlaysSpec.post enc Tryd.prog Tryd.f7 false true false false) :=
  law_liftX (X := fun w => laidMetH Tryd.prog Rows.capsPlaysRow.laid w) (fun _ _ hh h => h.of_heap hh) (C := Tryd.checked) (by kernel_rfl) started (by kernel_rfl) Tryd.func7
    (ChangeSpec.witness_shaped (enc := enc) (C := Tryd.checked) (os := os) (X := fun w _ => laidMetH Tryd.prog Rows.capsPlaysRow.laid w) false (World.doorLaid Tryd.prog 400 os) #[.int .i64 0, .int .i64 0, .slice none 0 0] 8 rfl (World.shaped_of_RefB (by kernel_rfl) (by kernel_rfl)) (by kernel_rfl) (by kernel_rfl) (by kernel_rfl) (door_met os _))
    rfl Tryd.underlying4 (by kernel_rfl) (by kernel_rfl) rfl
    (fun ds hl => by
      have hl : ds.length = 3 := hl
      match ds, hl with
      | [_, _, _], _ => exact ⟨rfl, rfl, rfl⟩) walks

theorem over : Rows.capsPlaysRow.holds Tryd.pinned (OpenSpec.ofChange Rows.capsPlaysSpec) :=
  OpenClaim.holds_of_wide 7 Tryd.f7 rfl rfl rfl rfl rfl rfl rfl ⟨rfl, rfl, rfl, rfl, rfl⟩ rfl rfl rfl rfl rfl (by kernel_rfl) Tryd.func7 (by kernel_rfl)
    (of_decide_eq_true (by kernel_rfl)) (by unfold Func.isWrapper; first | (rw [if_pos (by decide +kernel)]; kernel_rfl) | (rw [if_neg (by decide +kernel)]; exact ⟨rfl, rfl⟩))
    (fun os started H enc _ => lifted os started H enc)

/-- The statement. -/
theorem proved : Rows.CapsPlaysCardSaid :=
  Claim7.holds_tied_plain_at .later [] [.data] true (true, "f8482d78003a21de975e8169741749e2f2bd2526e75654ce833bca98af3bba14") true
    over (fun _ h => by cases h) (by kernel_rfl) (fun _ h => by cases h) capsPlays_row_tie rfl ⟨rfl, rfl⟩ (by kernel_rfl) rfl
    (fun f fn hf hfn => by
      obtain rfl : f = 7 := Option.some.inj ((show Tryd.prog.funcNamed Rows.capsPlaysRow.func = some 7 by kernel_rfl).symm.trans hf) |>.symm
      obtain rfl : fn = Tryd.f7 := (Option.some.inj (Tryd.func7.symm.trans hfn)).symm
      exact ⟨by kernel_rfl, fun j t ht => by
        rw [Tryd.params7] at ht
        have hm : t ∈ ([3, 3, 22] : List TypeId) := by simpa using Array.mem_of_getElem? ht
        have hall : (([3, 3, 22] : List TypeId).all fun u => !Tryd.prog.wantsStandIn u) = true := by kernel_rfl
        exact (show Tryd.prog.wantsStandIn t = false by simpa using List.all_eq_true.1 hall t hm)⟩)
    (by kernel_rfl)
#print axioms proved
end Go.Proofs.YtkbgiflmecaffaaDoor.lawCapsPlays
