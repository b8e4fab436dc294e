/- ColourApart: for every input the law returns true, and each argument reads behind the call as before; the tied card of its row. Conditions: the row lists one table of the library, which the card ties to the program. -/
import Derived.Test.YtaobcnagdceaeaaDoorRows
import Derived.Test.YtaobcnagdceaeaaDoorCards
import Derived.Test.YtaobcnagdceaeaaDoorTie
import Derived.Test.YtaobcnagdceaeaaDoorGwRead
import Derived.Test.YtaobcnagdceaeaaDoorGwTab
import Derived.Test.YtaobcnagdceaeaaDoorWColourC
import Derived.SevenTiedAt
set_option linter.unusedVariables false
namespace Go.Proofs.YtaobcnagdceaeaaDoor.lawColourApart
open Go.ChangeShapes Go.WideShapes Go.ChangeAt Go.RowKit
open Go.ChangeMaps (open_string shut_string)

theorem walks {H : Type} {enc : TypeId × Value → H} : WalksX (fun w => laidMetH Tryd.prog Rows.colourApartRow.laid w) enc Tryd.prog 11 Tryd.f11 := by
  intro W base args ds ps hval hA hsz hL
  have tab := tab_of_laid hL
  rw [Tryd.params11] at hA hval hsz
  obtain ⟨v0, vs0, d0, ds0, p0, r0, hargs, rfl, _, h0, q0⟩ := trodAll_cons hA
  obtain ⟨v1, vs1, d1, ds1, p1, r1, rfl, rfl, _, h1, q1⟩ := trodAll_cons q0
  obtain ⟨v2, vs2, d2, ds2, p2, r2, rfl, rfl, _, h2, q2⟩ := trodAll_cons q1
  obtain ⟨rfl, rfl, _⟩ := trodAll_nil q2
  obtain rfl : args = #[v0, v1, v2] := by cases args; simp_all
  obtain ⟨x0, rfl, o0⟩ := Sh.param (s := (.pair (.int .i64) (.pair (.int .i64) .unit))) (n := 20) (by kernel_rfl) (hval 0 46 v0 rfl rfl) h0 (fun m hm => by have q := List.all_eq_true.1 hsz m (DataW.weights_mem_each (j := 0) rfl rfl m hm); simpa using q)
  obtain ⟨x1, rfl, o1⟩ := Sh.param (s := (.row 1 8 (.int .i64))) (n := 20) (by kernel_rfl) (hval 1 32 v1 rfl rfl) h1 (fun m hm => by have q := List.all_eq_true.1 hsz m (DataW.weights_mem_each (j := 1) rfl rfl m hm); simpa using q)
  obtain ⟨x2, rfl, o2⟩ := Sh.param (s := (.row 3 40 (.pair (.int .i64) (.pair (.int .i64) (.pair (.row 1 8 (.int .i64)) .unit))))) (n := 20) (by kernel_rfl) (hval 2 57 v2 rfl rfl) h2 (fun m hm => by have q := List.all_eq_true.1 hsz m (DataW.weights_mem_each (j := 2) rfl rfl m hm); simpa using q)
  exact walk_ColourApart W tab x0 o0 x1 o1 x2 o2

set_option maxRecDepth 100000 in
theorem lifted (os : Os) (started : os.Started) (H : Type) (enc : TypeId × Value → H) :
    ReturnsInHanded {} Tryd.checked os 11 .any (fun w args => (Rows.colourApartSpec.pre enc Tryd.prog Tryd.f11 [] false w args ∧ laidMetH Tryd.prog Rows.colourApartRow.laid w) ∧ sizedMet enc Tryd.prog Tryd.f11 (OpenSpec.ofChange Rows.colourApartSpec) false w args) (Rows.colourApartSpec.post enc Tryd.prog Tryd.f11 false true false false) :=
  law_liftX (X := fun w => laidMetH Tryd.prog Rows.colourApartRow.laid w) (fun _ _ hh h => h.of_heap hh) (C := Tryd.checked) (by kernel_rfl) started (by kernel_rfl) Tryd.func11
    (ChangeSpec.witness_shaped (enc := enc) (C := Tryd.checked) (os := os) (X := fun w _ => laidMetH Tryd.prog Rows.colourApartRow.laid w) false (World.doorLaid Tryd.prog 400 os) #[.agg #[.int .i64 0, .int .i64 0], .slice none 0 0, .slice none 0 0] 8 rfl (World.shaped_of_RefB (by kernel_rfl) (by kernel_rfl)) (by kernel_rfl) (by kernel_rfl) (by kernel_rfl) (door_met os _))
    rfl Tryd.underlying4 (by kernel_rfl) (by kernel_rfl) rfl
    (fun ds hl => by
      have hl : ds.length = 3 := hl
      match ds, hl with
      | [_, _, _], _ => exact ⟨rfl, rfl, rfl⟩) walks

theorem over : Rows.colourApartRow.holds Tryd.pinned (OpenSpec.ofChange Rows.colourApartSpec) :=
  OpenClaim.holds_of_wide 11 Tryd.f11 rfl rfl rfl rfl rfl rfl rfl ⟨rfl, rfl, rfl, rfl, rfl⟩ rfl rfl rfl rfl rfl (by kernel_rfl) Tryd.func11 (by kernel_rfl)
    (of_decide_eq_true (by kernel_rfl)) (by unfold Func.isWrapper; first | (rw [if_pos (by decide +kernel)]; kernel_rfl) | (rw [if_neg (by decide +kernel)]; exact ⟨rfl, rfl⟩))
    (fun os started H enc _ => lifted os started H enc)

/-- The statement. -/
theorem proved : Rows.ColourApartCardSaid :=
  Claim7.holds_tied_plain_at .later [] [.data] true (true, "56cff7ebfb6766e15be6f48ddcf6793ba6635215eefbfd0ca77a819aca2f0144") false
    over (fun _ h => by cases h) (by kernel_rfl) (fun _ h => by cases h) colourApart_row_tie rfl ⟨rfl, rfl⟩ (by kernel_rfl) rfl
    (fun f fn hf hfn => by
      obtain rfl : f = 11 := Option.some.inj ((show Tryd.prog.funcNamed Rows.colourApartRow.func = some 11 by kernel_rfl).symm.trans hf) |>.symm
      obtain rfl : fn = Tryd.f11 := (Option.some.inj (Tryd.func11.symm.trans hfn)).symm
      exact ⟨by kernel_rfl, fun j t ht => by
        rw [Tryd.params11] at ht
        have hm : t ∈ ([46, 32, 57] : List TypeId) := by simpa using Array.mem_of_getElem? ht
        have hall : (([46, 32, 57] : List TypeId).all fun u => !Tryd.prog.wantsStandIn u) = true := by kernel_rfl
        exact (show Tryd.prog.wantsStandIn t = false by simpa using List.all_eq_true.1 hall t hm)⟩)
    (by kernel_rfl)
#print axioms proved
end Go.Proofs.YtaobcnagdceaeaaDoor.lawColourApart
