/-
  NARROWER THAN 'FOR EVERY INPUT', by the rows' own cells (each row's printed sentence says how): ShelfOrder: laid · ShelfLow: laid · ShelfCounts: laid · ShelfBack: laid · ShelfPlays: laid · ShelfNil: laid · ColourAll: laid · ColourLow: laid · ColourApart: laid · ColourPlays: laid · ColourNil: laid.
  DERIVED. THE GIVEN ROWS OF THIS SEAT. 11 by the template 'for every input the law returns true; each argument reads behind the call as it read before'; 0 by the template 'total and deterministic' (their statements: YtaobcnagdceaeaaDoorTotals.lean).
  GIVEN WITH THE SEED: the statements are not yours to turn. If you find one false, say at which input.
  Laid BY PROGRAM, IN A SANDBOX (cutbox-rows.mjs): the forced cells as the released guide's own fill.sh prints them over the translation a4a666caf6b57e27… (all of the seat's roots in one cut). By AI agents, Wed Nov 11 2026. No macro, syntax, notation, axiom, sorry.
-/
import Derived.Test.YtaobcnagdceaeaaDoorChecked
import GoSem.Claim
import GoSem.ClaimJoined
import GoSem.ClaimMapViews
import Derived.JoinedTies
import Derived.KernelRfl
namespace Go.Proofs.YtaobcnagdceaeaaDoor
/- THE CELL 'sum', in the pinned program and in every row, IS THE sha256 OF THE DUMP (.gsa) THAT YtaobcnagdceaeaaDoorProg.lean LOADS. Nothing in Lean hashes anything: it is a label: what it is worth is what the hold of that sum in a sandbox is worth. -/
noncomputable def Tryd.pinned : Pinned := { name := "ytaobcnagdceaeaadoor", sum := "a4a666caf6b57e278d076e33673f4802cfcab4c96f776ec2e9cd807e3b1f59ca", checked := Tryd.checked }
namespace Rows
def none {H : Type} : Left H := { results := [], args := [] }

/- WHAT THE LISTED PACKAGE-LEVEL VARIABLES READ AS WHEN THE CALL BEGINS. Each datum BY PROGRAM (the guide's laid-datum.mjs) off the statement by which the dump's own 'gosem.cut.vars' lays the variable. In a bare row this is a premise. The card (YtaobcnagdceaeaaDoorCards.lean) ties it to the program's text. -/
def laid_math_bits_deBruijn64tab {H : Type} : DataW H := .agg [.lit (.int .u8 0), .lit (.int .u8 1), .lit (.int .u8 56), .lit (.int .u8 2), .lit (.int .u8 57), .lit (.int .u8 49), .lit (.int .u8 28), .lit (.int .u8 3), .lit (.int .u8 61), .lit (.int .u8 58), .lit (.int .u8 42), .lit (.int .u8 50), .lit (.int .u8 38), .lit (.int .u8 29), .lit (.int .u8 17), .lit (.int .u8 4), .lit (.int .u8 62), .lit (.int .u8 47), .lit (.int .u8 59), .lit (.int .u8 36), .lit (.int .u8 45), .lit (.int .u8 43), .lit (.int .u8 51), .lit (.int .u8 22), .lit (.int .u8 53), .lit (.int .u8 39), .lit (.int .u8 33), .lit (.int .u8 30), .lit (.int .u8 24), .lit (.int .u8 18), .lit (.int .u8 12), .lit (.int .u8 5), .lit (.int .u8 63), .lit (.int .u8 55), .lit (.int .u8 48), .lit (.int .u8 27), .lit (.int .u8 60), .lit (.int .u8 41), .lit (.int .u8 37), .lit (.int .u8 16), .lit (.int .u8 46), .lit (.int .u8 35), .lit (.int .u8 44), .lit (.int .u8 21), .lit (.int .u8 52), .lit (.int .u8 32), .lit (.int .u8 23), .lit (.int .u8 11), .lit (.int .u8 54), .lit (.int .u8 26), .lit (.int .u8 40), .lit (.int .u8 15), .lit (.int .u8 34), .lit (.int .u8 20), .lit (.int .u8 31), .lit (.int .u8 10), .lit (.int .u8 25), .lit (.int .u8 14), .lit (.int .u8 19), .lit (.int .u8 9), .lit (.int .u8 13), .lit (.int .u8 8), .lit (.int .u8 7), .lit (.int .u8 6)]

/-- 'garthlaw02.ShelfOrder': WHATEVER THE INPUT: true; the input reads as it did. -/
def shelfOrderSpec : ChangeSpec := { name := "shelfOrder", fn := fun _ => fun
  | [d] => { results := [.lit (.bool true)], args := [d] }
  | _ => none }
def shelfOrderRow : OpenClaim := { program := "ytaobcnagdceaeaadoor", sum := "a4a666caf6b57e278d076e33673f4802cfcab4c96f776ec2e9cd807e3b1f59ca", func := "garth/garthlaw02.ShelfOrder", spec := "shelfOrder", named := ["math/bits.deBruijn64tab"], apart := false, laid := [("math/bits.deBruijn64tab", laid_math_bits_deBruijn64tab)] }
def ShelfOrderSaid : Prop := shelfOrderRow.holds Tryd.pinned (OpenSpec.ofChange shelfOrderSpec)

/-- ITS FALSE NEIGHBOUR: 'it returns false'. Refute it at one input. -/
def shelfOrderWrong : ChangeSpec := { name := "shelfOrder", fn := fun _ => fun
  | [d] => { results := [.lit (.bool false)], args := [d] }
  | _ => none }
def ShelfOrderWrongFalsely : Prop := shelfOrderRow.holds Tryd.pinned (OpenSpec.ofChange shelfOrderWrong)

/-- 'garthlaw02.ShelfLow': WHATEVER THE INPUT: true; the input reads as it did. -/
def shelfLowSpec : ChangeSpec := { name := "shelfLow", fn := fun _ => fun
  | [d1, d2] => { results := [.lit (.bool true)], args := [d1, d2] }
  | _ => none }
def shelfLowRow : OpenClaim := { program := "ytaobcnagdceaeaadoor", sum := "a4a666caf6b57e278d076e33673f4802cfcab4c96f776ec2e9cd807e3b1f59ca", func := "garth/garthlaw02.ShelfLow", spec := "shelfLow", named := ["math/bits.deBruijn64tab"], apart := false, laid := [("math/bits.deBruijn64tab", laid_math_bits_deBruijn64tab)] }
def ShelfLowSaid : Prop := shelfLowRow.holds Tryd.pinned (OpenSpec.ofChange shelfLowSpec)

/-- ITS FALSE NEIGHBOUR: 'it returns false'. Refute it at one input. -/
def shelfLowWrong : ChangeSpec := { name := "shelfLow", fn := fun _ => fun
  | [d1, d2] => { results := [.lit (.bool false)], args := [d1, d2] }
  | _ => none }
def ShelfLowWrongFalsely : Prop := shelfLowRow.holds Tryd.pinned (OpenSpec.ofChange shelfLowWrong)

/-- 'garthlaw02.ShelfCounts': WHATEVER THE INPUT: true; the input reads as it did. -/
def shelfCountsSpec : ChangeSpec := { name := "shelfCounts", fn := fun _ => fun
  | [d1, d2] => { results := [.lit (.bool true)], args := [d1, d2] }
  | _ => none }
def shelfCountsRow : OpenClaim := { program := "ytaobcnagdceaeaadoor", sum := "a4a666caf6b57e278d076e33673f4802cfcab4c96f776ec2e9cd807e3b1f59ca", func := "garth/garthlaw02.ShelfCounts", spec := "shelfCounts", named := ["math/bits.deBruijn64tab"], apart := false, laid := [("math/bits.deBruijn64tab", laid_math_bits_deBruijn64tab)] }
def ShelfCountsSaid : Prop := shelfCountsRow.holds Tryd.pinned (OpenSpec.ofChange shelfCountsSpec)

/-- ITS FALSE NEIGHBOUR: 'it returns false'. Refute it at one input. -/
def shelfCountsWrong : ChangeSpec := { name := "shelfCounts", fn := fun _ => fun
  | [d1, d2] => { results := [.lit (.bool false)], args := [d1, d2] }
  | _ => none }
def ShelfCountsWrongFalsely : Prop := shelfCountsRow.holds Tryd.pinned (OpenSpec.ofChange shelfCountsWrong)

/-- 'garthlaw02.ShelfBack': WHATEVER THE INPUT: true; the input reads as it did. -/
def shelfBackSpec : ChangeSpec := { name := "shelfBack", fn := fun _ => fun
  | [d1, d2, d3] => { results := [.lit (.bool true)], args := [d1, d2, d3] }
  | _ => none }
def shelfBackRow : OpenClaim := { program := "ytaobcnagdceaeaadoor", sum := "a4a666caf6b57e278d076e33673f4802cfcab4c96f776ec2e9cd807e3b1f59ca", func := "garth/garthlaw02.ShelfBack", spec := "shelfBack", named := ["math/bits.deBruijn64tab"], apart := false, laid := [("math/bits.deBruijn64tab", laid_math_bits_deBruijn64tab)] }
def ShelfBackSaid : Prop := shelfBackRow.holds Tryd.pinned (OpenSpec.ofChange shelfBackSpec)

/-- ITS FALSE NEIGHBOUR: 'it returns false'. Refute it at one input. -/
def shelfBackWrong : ChangeSpec := { name := "shelfBack", fn := fun _ => fun
  | [d1, d2, d3] => { results := [.lit (.bool false)], args := [d1, d2, d3] }
  | _ => none }
def ShelfBackWrongFalsely : Prop := shelfBackRow.holds Tryd.pinned (OpenSpec.ofChange shelfBackWrong)

/-- 'garthlaw02.ShelfPlays': WHATEVER THE INPUT: true; the input reads as it did. -/
def shelfPlaysSpec : ChangeSpec := { name := "shelfPlays", fn := fun _ => fun
  | [d1, d2] => { results := [.lit (.bool true)], args := [d1, d2] }
  | _ => none }
def shelfPlaysRow : OpenClaim := { program := "ytaobcnagdceaeaadoor", sum := "a4a666caf6b57e278d076e33673f4802cfcab4c96f776ec2e9cd807e3b1f59ca", func := "garth/garthlaw02.ShelfPlays", spec := "shelfPlays", named := ["math/bits.deBruijn64tab"], apart := false, laid := [("math/bits.deBruijn64tab", laid_math_bits_deBruijn64tab)] }
def ShelfPlaysSaid : Prop := shelfPlaysRow.holds Tryd.pinned (OpenSpec.ofChange shelfPlaysSpec)

/-- ITS FALSE NEIGHBOUR: 'it returns false'. Refute it at one input. -/
def shelfPlaysWrong : ChangeSpec := { name := "shelfPlays", fn := fun _ => fun
  | [d1, d2] => { results := [.lit (.bool false)], args := [d1, d2] }
  | _ => none }
def ShelfPlaysWrongFalsely : Prop := shelfPlaysRow.holds Tryd.pinned (OpenSpec.ofChange shelfPlaysWrong)

/-- 'garthlaw02.ShelfNil': WHATEVER THE INPUT: true; the input reads as it did. -/
def shelfNilSpec : ChangeSpec := { name := "shelfNil", fn := fun _ => fun
  | [d] => { results := [.lit (.bool true)], args := [d] }
  | _ => none }
def shelfNilRow : OpenClaim := { program := "ytaobcnagdceaeaadoor", sum := "a4a666caf6b57e278d076e33673f4802cfcab4c96f776ec2e9cd807e3b1f59ca", func := "garth/garthlaw02.ShelfNil", spec := "shelfNil", named := ["math/bits.deBruijn64tab"], apart := false, laid := [("math/bits.deBruijn64tab", laid_math_bits_deBruijn64tab)] }
def ShelfNilSaid : Prop := shelfNilRow.holds Tryd.pinned (OpenSpec.ofChange shelfNilSpec)

/-- ITS FALSE NEIGHBOUR: 'it returns false'. Refute it at one input. -/
def shelfNilWrong : ChangeSpec := { name := "shelfNil", fn := fun _ => fun
  | [d] => { results := [.lit (.bool false)], args := [d] }
  | _ => none }
def ShelfNilWrongFalsely : Prop := shelfNilRow.holds Tryd.pinned (OpenSpec.ofChange shelfNilWrong)

/-- 'garthlaw07.ColourAll': WHATEVER THE INPUT: true; the input reads as it did. -/
def colourAllSpec : ChangeSpec := { name := "colourAll", fn := fun _ => fun
  | [d1, d2] => { results := [.lit (.bool true)], args := [d1, d2] }
  | _ => none }
def colourAllRow : OpenClaim := { program := "ytaobcnagdceaeaadoor", sum := "a4a666caf6b57e278d076e33673f4802cfcab4c96f776ec2e9cd807e3b1f59ca", func := "garth/garthlaw07.ColourAll", spec := "colourAll", named := ["math/bits.deBruijn64tab"], apart := false, laid := [("math/bits.deBruijn64tab", laid_math_bits_deBruijn64tab)] }
def ColourAllSaid : Prop := colourAllRow.holds Tryd.pinned (OpenSpec.ofChange colourAllSpec)

/-- ITS FALSE NEIGHBOUR: 'it returns false'. Refute it at one input. -/
def colourAllWrong : ChangeSpec := { name := "colourAll", fn := fun _ => fun
  | [d1, d2] => { results := [.lit (.bool false)], args := [d1, d2] }
  | _ => none }
def ColourAllWrongFalsely : Prop := colourAllRow.holds Tryd.pinned (OpenSpec.ofChange colourAllWrong)

/-- 'garthlaw07.ColourLow': WHATEVER THE INPUT: true; the input reads as it did. -/
def colourLowSpec : ChangeSpec := { name := "colourLow", fn := fun _ => fun
  | [d1, d2, d3] => { results := [.lit (.bool true)], args := [d1, d2, d3] }
  | _ => none }
def colourLowRow : OpenClaim := { program := "ytaobcnagdceaeaadoor", sum := "a4a666caf6b57e278d076e33673f4802cfcab4c96f776ec2e9cd807e3b1f59ca", func := "garth/garthlaw07.ColourLow", spec := "colourLow", named := ["math/bits.deBruijn64tab"], apart := false, laid := [("math/bits.deBruijn64tab", laid_math_bits_deBruijn64tab)] }
def ColourLowSaid : Prop := colourLowRow.holds Tryd.pinned (OpenSpec.ofChange colourLowSpec)

/-- ITS FALSE NEIGHBOUR: 'it returns false'. Refute it at one input. -/
def colourLowWrong : ChangeSpec := { name := "colourLow", fn := fun _ => fun
  | [d1, d2, d3] => { results := [.lit (.bool false)], args := [d1, d2, d3] }
  | _ => none }
def ColourLowWrongFalsely : Prop := colourLowRow.holds Tryd.pinned (OpenSpec.ofChange colourLowWrong)

/-- 'garthlaw07.ColourApart': WHATEVER THE INPUT: true; the input reads as it did. -/
def colourApartSpec : ChangeSpec := { name := "colourApart", fn := fun _ => fun
  | [d1, d2, d3] => { results := [.lit (.bool true)], args := [d1, d2, d3] }
  | _ => none }
def colourApartRow : OpenClaim := { program := "ytaobcnagdceaeaadoor", sum := "a4a666caf6b57e278d076e33673f4802cfcab4c96f776ec2e9cd807e3b1f59ca", func := "garth/garthlaw07.ColourApart", spec := "colourApart", named := ["math/bits.deBruijn64tab"], apart := false, laid := [("math/bits.deBruijn64tab", laid_math_bits_deBruijn64tab)] }
def ColourApartSaid : Prop := colourApartRow.holds Tryd.pinned (OpenSpec.ofChange colourApartSpec)

/-- ITS FALSE NEIGHBOUR: 'it returns false'. Refute it at one input. -/
def colourApartWrong : ChangeSpec := { name := "colourApart", fn := fun _ => fun
  | [d1, d2, d3] => { results := [.lit (.bool false)], args := [d1, d2, d3] }
  | _ => none }
def ColourApartWrongFalsely : Prop := colourApartRow.holds Tryd.pinned (OpenSpec.ofChange colourApartWrong)

/-- 'garthlaw07.ColourPlays': WHATEVER THE INPUT: true; the input reads as it did. -/
def colourPlaysSpec : ChangeSpec := { name := "colourPlays", fn := fun _ => fun
  | [d1, d2] => { results := [.lit (.bool true)], args := [d1, d2] }
  | _ => none }
def colourPlaysRow : OpenClaim := { program := "ytaobcnagdceaeaadoor", sum := "a4a666caf6b57e278d076e33673f4802cfcab4c96f776ec2e9cd807e3b1f59ca", func := "garth/garthlaw07.ColourPlays", spec := "colourPlays", named := ["math/bits.deBruijn64tab"], apart := false, laid := [("math/bits.deBruijn64tab", laid_math_bits_deBruijn64tab)] }
def ColourPlaysSaid : Prop := colourPlaysRow.holds Tryd.pinned (OpenSpec.ofChange colourPlaysSpec)

/-- ITS FALSE NEIGHBOUR: 'it returns false'. Refute it at one input. -/
def colourPlaysWrong : ChangeSpec := { name := "colourPlays", fn := fun _ => fun
  | [d1, d2] => { results := [.lit (.bool false)], args := [d1, d2] }
  | _ => none }
def ColourPlaysWrongFalsely : Prop := colourPlaysRow.holds Tryd.pinned (OpenSpec.ofChange colourPlaysWrong)

/-- 'garthlaw07.ColourNil': WHATEVER THE INPUT: true; the input reads as it did. -/
def colourNilSpec : ChangeSpec := { name := "colourNil", fn := fun _ => fun
  | [d1, d2] => { results := [.lit (.bool true)], args := [d1, d2] }
  | _ => none }
def colourNilRow : OpenClaim := { program := "ytaobcnagdceaeaadoor", sum := "a4a666caf6b57e278d076e33673f4802cfcab4c96f776ec2e9cd807e3b1f59ca", func := "garth/garthlaw07.ColourNil", spec := "colourNil", named := ["math/bits.deBruijn64tab"], apart := false, laid := [("math/bits.deBruijn64tab", laid_math_bits_deBruijn64tab)] }
def ColourNilSaid : Prop := colourNilRow.holds Tryd.pinned (OpenSpec.ofChange colourNilSpec)

/-- ITS FALSE NEIGHBOUR: 'it returns false'. Refute it at one input. -/
def colourNilWrong : ChangeSpec := { name := "colourNil", fn := fun _ => fun
  | [d1, d2] => { results := [.lit (.bool false)], args := [d1, d2] }
  | _ => none }
def ColourNilWrongFalsely : Prop := colourNilRow.holds Tryd.pinned (OpenSpec.ofChange colourNilWrong)

/- THE SECOND FORM. 'bulk': how many values and letters a reading holds, each counted each time it is reached (what is shared counts as often as it is met; a slice's spare places count too). A statement '..UptoSaid' is the law's where the arguments, and the package variables that the reading takes, are together of bulk at most 1048576: NARROWER than '..Said'. Prove '..Said' where nothing that the law and all that it calls make is longer than what came in: it says more and counts as full. Else prove '..UptoSaid'. A law counts once. -/
mutual
def uptoBulk {H : Type} : DataW H → Nat
  | .lit (.string bytes) => bytes.length + 1
  | .lit _ => 1
  | .nil => 1
  | .ptr d => uptoBulk d + 1
  | .slice elems spare => uptoBulkAll elems + uptoBulkAll spare + 1
  | .agg parts => uptoBulkAll parts + 1
  | .iface _ d => uptoBulk d + 1
  | .map entries => uptoBulkEntries entries + 1
  | .held _ => 1
def uptoBulkAll {H : Type} : List (DataW H) → Nat
  | [] => 0
  | d :: r => uptoBulk d + uptoBulkAll r
def uptoBulkEntries {H : Type} : List (Lit × DataW H) → Nat
  | [] => 0
  | x :: r => uptoBulkEntry x + uptoBulkEntries r
def uptoBulkEntry {H : Type} : Lit × DataW H → Nat
  | (.string bytes, d) => bytes.length + uptoBulk d + 1
  | (_, d) => uptoBulk d + 1
 end
def uptoSmall : (H : Type) → List (DataW H) → Bool := fun _ ds => decide (uptoBulkAll ds ≤ 1048576)
def OpenSpec.upto (s : _root_.Go.ChangeSpec) : _root_.Go.OpenSpec := { _root_.Go.OpenSpec.ofChange s with cond := some uptoSmall }

/-- 'garthlaw02.ShelfOrder', WHERE WHAT IT READS IS OF BULK AT MOST 1048576: true; the input reads as it did. -/
def shelfOrderUptoRow : OpenClaim := { program := "ytaobcnagdceaeaadoor", sum := "a4a666caf6b57e278d076e33673f4802cfcab4c96f776ec2e9cd807e3b1f59ca", func := "garth/garthlaw02.ShelfOrder", spec := "shelfOrder", named := ["math/bits.deBruijn64tab"], apart := false, laid := [("math/bits.deBruijn64tab", laid_math_bits_deBruijn64tab)], narrowed := true }
def ShelfOrderUptoSaid : Prop := shelfOrderUptoRow.holds Tryd.pinned (OpenSpec.upto shelfOrderSpec)

/-- 'garthlaw02.ShelfLow', WHERE WHAT IT READS IS OF BULK AT MOST 1048576: true; the input reads as it did. -/
def shelfLowUptoRow : OpenClaim := { program := "ytaobcnagdceaeaadoor", sum := "a4a666caf6b57e278d076e33673f4802cfcab4c96f776ec2e9cd807e3b1f59ca", func := "garth/garthlaw02.ShelfLow", spec := "shelfLow", named := ["math/bits.deBruijn64tab"], apart := false, laid := [("math/bits.deBruijn64tab", laid_math_bits_deBruijn64tab)], narrowed := true }
def ShelfLowUptoSaid : Prop := shelfLowUptoRow.holds Tryd.pinned (OpenSpec.upto shelfLowSpec)

/-- 'garthlaw02.ShelfCounts', WHERE WHAT IT READS IS OF BULK AT MOST 1048576: true; the input reads as it did. -/
def shelfCountsUptoRow : OpenClaim := { program := "ytaobcnagdceaeaadoor", sum := "a4a666caf6b57e278d076e33673f4802cfcab4c96f776ec2e9cd807e3b1f59ca", func := "garth/garthlaw02.ShelfCounts", spec := "shelfCounts", named := ["math/bits.deBruijn64tab"], apart := false, laid := [("math/bits.deBruijn64tab", laid_math_bits_deBruijn64tab)], narrowed := true }
def ShelfCountsUptoSaid : Prop := shelfCountsUptoRow.holds Tryd.pinned (OpenSpec.upto shelfCountsSpec)

/-- 'garthlaw02.ShelfBack', WHERE WHAT IT READS IS OF BULK AT MOST 1048576: true; the input reads as it did. -/
def shelfBackUptoRow : OpenClaim := { program := "ytaobcnagdceaeaadoor", sum := "a4a666caf6b57e278d076e33673f4802cfcab4c96f776ec2e9cd807e3b1f59ca", func := "garth/garthlaw02.ShelfBack", spec := "shelfBack", named := ["math/bits.deBruijn64tab"], apart := false, laid := [("math/bits.deBruijn64tab", laid_math_bits_deBruijn64tab)], narrowed := true }
def ShelfBackUptoSaid : Prop := shelfBackUptoRow.holds Tryd.pinned (OpenSpec.upto shelfBackSpec)

/-- 'garthlaw02.ShelfPlays', WHERE WHAT IT READS IS OF BULK AT MOST 1048576: true; the input reads as it did. -/
def shelfPlaysUptoRow : OpenClaim := { program := "ytaobcnagdceaeaadoor", sum := "a4a666caf6b57e278d076e33673f4802cfcab4c96f776ec2e9cd807e3b1f59ca", func := "garth/garthlaw02.ShelfPlays", spec := "shelfPlays", named := ["math/bits.deBruijn64tab"], apart := false, laid := [("math/bits.deBruijn64tab", laid_math_bits_deBruijn64tab)], narrowed := true }
def ShelfPlaysUptoSaid : Prop := shelfPlaysUptoRow.holds Tryd.pinned (OpenSpec.upto shelfPlaysSpec)

/-- 'garthlaw02.ShelfNil', WHERE WHAT IT READS IS OF BULK AT MOST 1048576: true; the input reads as it did. -/
def shelfNilUptoRow : OpenClaim := { program := "ytaobcnagdceaeaadoor", sum := "a4a666caf6b57e278d076e33673f4802cfcab4c96f776ec2e9cd807e3b1f59ca", func := "garth/garthlaw02.ShelfNil", spec := "shelfNil", named := ["math/bits.deBruijn64tab"], apart := false, laid := [("math/bits.deBruijn64tab", laid_math_bits_deBruijn64tab)], narrowed := true }
def ShelfNilUptoSaid : Prop := shelfNilUptoRow.holds Tryd.pinned (OpenSpec.upto shelfNilSpec)

/-- 'garthlaw07.ColourAll', WHERE WHAT IT READS IS OF BULK AT MOST 1048576: true; the input reads as it did. -/
def colourAllUptoRow : OpenClaim := { program := "ytaobcnagdceaeaadoor", sum := "a4a666caf6b57e278d076e33673f4802cfcab4c96f776ec2e9cd807e3b1f59ca", func := "garth/garthlaw07.ColourAll", spec := "colourAll", named := ["math/bits.deBruijn64tab"], apart := false, laid := [("math/bits.deBruijn64tab", laid_math_bits_deBruijn64tab)], narrowed := true }
def ColourAllUptoSaid : Prop := colourAllUptoRow.holds Tryd.pinned (OpenSpec.upto colourAllSpec)

/-- 'garthlaw07.ColourLow', WHERE WHAT IT READS IS OF BULK AT MOST 1048576: true; the input reads as it did. -/
def colourLowUptoRow : OpenClaim := { program := "ytaobcnagdceaeaadoor", sum := "a4a666caf6b57e278d076e33673f4802cfcab4c96f776ec2e9cd807e3b1f59ca", func := "garth/garthlaw07.ColourLow", spec := "colourLow", named := ["math/bits.deBruijn64tab"], apart := false, laid := [("math/bits.deBruijn64tab", laid_math_bits_deBruijn64tab)], narrowed := true }
def ColourLowUptoSaid : Prop := colourLowUptoRow.holds Tryd.pinned (OpenSpec.upto colourLowSpec)

/-- 'garthlaw07.ColourApart', WHERE WHAT IT READS IS OF BULK AT MOST 1048576: true; the input reads as it did. -/
def colourApartUptoRow : OpenClaim := { program := "ytaobcnagdceaeaadoor", sum := "a4a666caf6b57e278d076e33673f4802cfcab4c96f776ec2e9cd807e3b1f59ca", func := "garth/garthlaw07.ColourApart", spec := "colourApart", named := ["math/bits.deBruijn64tab"], apart := false, laid := [("math/bits.deBruijn64tab", laid_math_bits_deBruijn64tab)], narrowed := true }
def ColourApartUptoSaid : Prop := colourApartUptoRow.holds Tryd.pinned (OpenSpec.upto colourApartSpec)

/-- 'garthlaw07.ColourPlays', WHERE WHAT IT READS IS OF BULK AT MOST 1048576: true; the input reads as it did. -/
def colourPlaysUptoRow : OpenClaim := { program := "ytaobcnagdceaeaadoor", sum := "a4a666caf6b57e278d076e33673f4802cfcab4c96f776ec2e9cd807e3b1f59ca", func := "garth/garthlaw07.ColourPlays", spec := "colourPlays", named := ["math/bits.deBruijn64tab"], apart := false, laid := [("math/bits.deBruijn64tab", laid_math_bits_deBruijn64tab)], narrowed := true }
def ColourPlaysUptoSaid : Prop := colourPlaysUptoRow.holds Tryd.pinned (OpenSpec.upto colourPlaysSpec)

/-- 'garthlaw07.ColourNil', WHERE WHAT IT READS IS OF BULK AT MOST 1048576: true; the input reads as it did. -/
def colourNilUptoRow : OpenClaim := { program := "ytaobcnagdceaeaadoor", sum := "a4a666caf6b57e278d076e33673f4802cfcab4c96f776ec2e9cd807e3b1f59ca", func := "garth/garthlaw07.ColourNil", spec := "colourNil", named := ["math/bits.deBruijn64tab"], apart := false, laid := [("math/bits.deBruijn64tab", laid_math_bits_deBruijn64tab)], narrowed := true }
def ColourNilUptoSaid : Prop := colourNilUptoRow.holds Tryd.pinned (OpenSpec.upto colourNilSpec)

end Rows
end Go.Proofs.YtaobcnagdceaeaaDoor
