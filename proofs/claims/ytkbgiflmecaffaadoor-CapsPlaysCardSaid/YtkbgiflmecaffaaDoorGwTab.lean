/- The table of math/bits.TrailingZeros64, as the row lists it, cell by cell; the door's own heap meets the condition. Conditions: the row's list. -/
import Derived.Test.YtkbgiflmecaffaaDoorRows
import Derived.Test.YtkbgiflmecaffaaDoorGwLaid
import Derived.Test.YtkbgiflmecaffaaDoorShelfM
import Derived.Test.YtkbgiflmecaffaaDoorTie
import Derived.LaidMore
import Derived.Stop.Joined
set_option linter.unusedVariables false
namespace Go.Proofs.YtkbgiflmecaffaaDoor
open Go.ChangeShapes Go.WideShapes Go.ChangeAt Go.RowKit

theorem tab_of_laid {W : World} (h : laidMetH Tryd.prog [("math/bits.deBruijn64tab", Rows.laid_math_bits_deBruijn64tab)] W) : Tab W := by
  rw [MakeChecks.laidMetH_plain _ _ _ (by kernel_rfl)] at h
  have e : (Rows.laid_math_bits_deBruijn64tab : DataW Unit) = .agg ((Lib.deBruijn64tab.map fun x : Nat => (x : Int)).map fun m => .lit (.int .u8 m)) := rfl
  rw [e] at h
  intro j m hj
  exact laid_cells (P := Tryd.prog) (name := "math/bits.deBruijn64tab") (g := 0) (t := 92) (e := 5) (n := 64) (k := .u8) (by kernel_rfl) (by kernel_rfl) Tryd.underlying92 Tryd.underlying5 (by kernel_rfl) h j m (by rw [List.getElem?_map, hj]; rfl)

theorem door_met (os : Os) (args : Array Value) : laidMetH Tryd.prog [("math/bits.deBruijn64tab", Rows.laid_math_bits_deBruijn64tab)] ((World.doorLaid Tryd.prog 400 os).forCall (fun _ _ => 0) ⟨#[], args, []⟩).memory :=
  laidMetH_of_parts3 (fuel := 8) (laidMet_of_run' 8 (by kernel_rfl) (by kernel_rfl)) (by kernel_rfl) (by kernel_rfl)

end Go.Proofs.YtkbgiflmecaffaaDoor
