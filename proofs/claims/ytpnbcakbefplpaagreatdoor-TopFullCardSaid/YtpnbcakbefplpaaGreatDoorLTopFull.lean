/- TopFull: for every input the law returns true, and each argument reads behind the call as before; the tied card of its row. Conditions: the row lists one table of the library, which the card ties to the program. -/
import Derived.Test.YtpnbcakbefplpaaGreatDoorRows
import Derived.Test.YtpnbcakbefplpaaGreatDoorCards
import Derived.Test.YtpnbcakbefplpaaGreatDoorTie
import Derived.Test.YtpnbcakbefplpaaGreatDoorM07
import Derived.SevenTiedAt
set_option linter.unusedVariables false
namespace Go.Proofs.YtpnbcakbefplpaaGreatDoor.lawTopFull
open Go.ChangeShapes Go.WideShapes Go.ChangeAt Go.RowKit Sf
open Go.ChangeMaps (open_string shut_string)

set_option maxRecDepth 100000 in
theorem walks {H : Type} {enc : TypeId × Value → H} : WalksX (fun w => laidMetH Tryz.prog Rows.topFullRow.laid w) enc Tryz.prog 5 Tryz.f5 := by
  intro W base args ds ps hval hA hsz hL
  have tab := tab_of_laid hL
  rw [Tryz.params5] at hA hval hsz
  obtain ⟨v0, vs0, d0, ds0, p0, r0, hargs, rfl, _, h0, q0⟩ := trodAll_cons hA
  obtain ⟨v1, vs1, d1, ds1, p1, r1, rfl, rfl, _, h1, q1⟩ := trodAll_cons q0
  obtain ⟨v2, vs2, d2, ds2, p2, r2, rfl, rfl, _, h2, q2⟩ := trodAll_cons q1
  obtain ⟨v3, vs3, d3, ds3, p3, r3, rfl, rfl, _, h3, q3⟩ := trodAll_cons q2
  obtain ⟨rfl, rfl, _⟩ := trodAll_nil q3
  obtain rfl : args = #[v0, v1, v2, v3] := by cases args; simp_all
  obtain ⟨c0_0, c0_1, y0_0, y0_1, m0, rfl, _, _, r0_0, r0_1⟩ := Go.Joins.open_agg2 Tryz.underlying23 (by kernel_rfl) (by kernel_rfl) (hval 0 23 v0 rfl rfl) h0
  obtain ⟨a0_0, f0_0, _, b0_0⟩ := DataW.trod_int Tryz.underlying3 r0_0
  obtain rfl : c0_0 = .int .i64 a0_0 := by simpa using f0_0
  have b0_0 := i64_of_wf b0_0
  obtain ⟨a0_1, f0_1, _, b0_1⟩ := DataW.trod_int Tryz.underlying3 r0_1
  obtain rfl : c0_1 = .int .i64 a0_1 := by simpa using f0_1
  have b0_1 := i64_of_wf b0_1
  obtain ⟨a1, rfl, e1, _, b1⟩ := open_string Tryz.underlying9 (hval 1 9 v1 rfl rfl) h1
  subst e1
  have c1 := sized_string hsz (j := 1) (t := 9) rfl rfl
  obtain ⟨a2, rfl, _, _, b2⟩ := open_int Tryz.underlying3 (hval 2 3 v2 rfl rfl) h2
  have b2 := i64_of_wf b2
  obtain ⟨a3, rfl, _, _, b3⟩ := open_int Tryz.underlying3 (hval 3 3 v3 rfl rfl) h3
  have b3 := i64_of_wf b3
  exact walk_TopFull a0_0 a0_1 b0_0 b0_1 a1 b1 c1 a2 b2 a3 b3 W tab

set_option maxRecDepth 100000 in
theorem lifted (os : Os) (started : os.Started) (H : Type) (enc : TypeId × Value → H) :
    ReturnsInHanded {} Tryz.checked os 5 .any (fun w args => (Rows.topFullSpec.pre enc Tryz.prog Tryz.f5 [] false w args ∧ laidMetH Tryz.prog Rows.topFullRow.laid w) ∧ sizedMet enc Tryz.prog Tryz.f5 (OpenSpec.ofChange Rows.topFullSpec) false w args) (Rows.topFullSpec.post enc Tryz.prog Tryz.f5 false true false false) :=
  law_liftX (X := fun w => laidMetH Tryz.prog Rows.topFullRow.laid w) (fun _ _ hh h => h.of_heap hh) (C := Tryz.checked) (by kernel_rfl) started (by kernel_rfl) Tryz.func5
    (ChangeSpec.witness_shaped (enc := enc) (C := Tryz.checked) (os := os) (X := fun w _ => laidMetH Tryz.prog Rows.topFullRow.laid w) false (World.doorLaid Tryz.prog 400 os) #[.agg #[.int .i64 0, .int .i64 0], .string .empty, .int .i64 0, .int .i64 0] 8 rfl (World.shaped_of_RefB (by kernel_rfl) (by kernel_rfl)) (by kernel_rfl) (by kernel_rfl) (by kernel_rfl) (door_met os _))
    rfl Tryz.underlying4 (by kernel_rfl) (by kernel_rfl) rfl
    (fun ds hl => by
      have hl : ds.length = 4 := hl
      match ds, hl with
      | [_, _, _, _], _ => exact ⟨rfl, rfl, rfl⟩) walks

theorem over : Rows.topFullRow.holds Tryz.pinned (OpenSpec.ofChange Rows.topFullSpec) :=
  OpenClaim.holds_of_wide 5 Tryz.f5 rfl rfl rfl rfl rfl rfl rfl ⟨rfl, rfl, rfl, rfl, rfl⟩ rfl rfl rfl rfl rfl (by kernel_rfl) Tryz.func5 (by kernel_rfl)
    (of_decide_eq_true (by kernel_rfl)) (by unfold Func.isWrapper; first | (rw [if_pos (by decide +kernel)]; kernel_rfl) | (rw [if_neg (by decide +kernel)]; exact ⟨rfl, rfl⟩))
    (fun os started H enc _ => lifted os started H enc)

/-- The statement. -/
theorem proved : Rows.TopFullCardSaid :=
  Claim7.holds_tied_plain_at .later [] [.data] true (true, "53f9452c992c96529404891bfb0a92881c98396f9d605ef7720c48dbd765aab9") false
    over (fun _ h => by cases h) (by kernel_rfl) (fun _ h => by cases h) topFull_row_tie rfl ⟨rfl, rfl⟩ (by kernel_rfl) rfl
    (fun f fn hf hfn => by
      obtain rfl : f = 5 := Option.some.inj ((show Tryz.prog.funcNamed Rows.topFullRow.func = some 5 by kernel_rfl).symm.trans hf) |>.symm
      obtain rfl : fn = Tryz.f5 := (Option.some.inj (Tryz.func5.symm.trans hfn)).symm
      exact ⟨by kernel_rfl, fun j t ht => by
        rw [Tryz.params5] at ht
        have hm : t ∈ ([23, 9, 3, 3] : List TypeId) := by simpa using Array.mem_of_getElem? ht
        have hall : (([23, 9, 3, 3] : List TypeId).all fun u => !Tryz.prog.wantsStandIn u) = true := by kernel_rfl
        exact (show Tryz.prog.wantsStandIn t = false by simpa using List.all_eq_true.1 hall t hm)⟩)
    (by kernel_rfl)
#print axioms proved
end Go.Proofs.YtpnbcakbefplpaaGreatDoor.lawTopFull
