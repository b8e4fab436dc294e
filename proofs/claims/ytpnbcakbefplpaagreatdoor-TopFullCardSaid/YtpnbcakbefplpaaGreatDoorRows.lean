/-
  NARROWER THAN 'FOR EVERY INPUT', by the rows' own cells (each row's printed sentence says how): TopColours: laid · TopConfined: laid · TopFull: laid · TopRoom: laid · TopScript: laid · TopDestroyed: laid.
  DERIVED. THE GIVEN ROWS OF THIS SEAT. 6 by the template 'for every input the law returns true; each argument reads behind the call as it read before'; 0 by the template 'total and deterministic' (their statements: YtpnbcakbefplpaaGreatDoorTotals.lean).
  GIVEN WITH THE SEED: the statements are not yours to turn. If you find one false, say at which input.
  Laid BY PROGRAM, IN A SANDBOX (cutbox-rows.mjs): the forced cells as the released guide's own fill.sh prints them over the translation fc3f48eba34d05a7… (all of the seat's roots in one cut). By AI agents, Wed Nov 11 2026. No macro, syntax, notation, axiom, sorry.
-/
import Derived.Test.YtpnbcakbefplpaaGreatDoorChecked
import GoSem.Claim
import GoSem.ClaimJoined
import GoSem.ClaimMapViews
import Derived.JoinedTies
import Derived.KernelRfl
namespace Go.Proofs.YtpnbcakbefplpaaGreatDoor
/- THE CELL 'sum', in the pinned program and in every row, IS THE sha256 OF THE DUMP (.gsa) THAT YtpnbcakbefplpaaGreatDoorProg.lean LOADS. Nothing in Lean hashes anything: it is a label: what it is worth is what the hold of that sum in a sandbox is worth. -/
noncomputable def Tryz.pinned : Pinned := { name := "ytpnbcakbefplpaagreatdoor", sum := "fc3f48eba34d05a75410d7e4873bb5aa8899a4ab2c74431baeb234569cbdb8ed", checked := Tryz.checked }
namespace Rows
def none {H : Type} : Left H := { results := [], args := [] }

/- WHAT THE LISTED PACKAGE-LEVEL VARIABLES READ AS WHEN THE CALL BEGINS. Each datum BY PROGRAM (the guide's laid-datum.mjs) off the statement by which the dump's own 'gosem.cut.vars' lays the variable. In a bare row this is a premise. The card (YtpnbcakbefplpaaGreatDoorCards.lean) ties it to the program's text. -/
def laid_math_bits_deBruijn64tab {H : Type} : DataW H := .agg [.lit (.int .u8 0), .lit (.int .u8 1), .lit (.int .u8 56), .lit (.int .u8 2), .lit (.int .u8 57), .lit (.int .u8 49), .lit (.int .u8 28), .lit (.int .u8 3), .lit (.int .u8 61), .lit (.int .u8 58), .lit (.int .u8 42), .lit (.int .u8 50), .lit (.int .u8 38), .lit (.int .u8 29), .lit (.int .u8 17), .lit (.int .u8 4), .lit (.int .u8 62), .lit (.int .u8 47), .lit (.int .u8 59), .lit (.int .u8 36), .lit (.int .u8 45), .lit (.int .u8 43), .lit (.int .u8 51), .lit (.int .u8 22), .lit (.int .u8 53), .lit (.int .u8 39), .lit (.int .u8 33), .lit (.int .u8 30), .lit (.int .u8 24), .lit (.int .u8 18), .lit (.int .u8 12), .lit (.int .u8 5), .lit (.int .u8 63), .lit (.int .u8 55), .lit (.int .u8 48), .lit (.int .u8 27), .lit (.int .u8 60), .lit (.int .u8 41), .lit (.int .u8 37), .lit (.int .u8 16), .lit (.int .u8 46), .lit (.int .u8 35), .lit (.int .u8 44), .lit (.int .u8 21), .lit (.int .u8 52), .lit (.int .u8 32), .lit (.int .u8 23), .lit (.int .u8 11), .lit (.int .u8 54), .lit (.int .u8 26), .lit (.int .u8 40), .lit (.int .u8 15), .lit (.int .u8 34), .lit (.int .u8 20), .lit (.int .u8 31), .lit (.int .u8 10), .lit (.int .u8 25), .lit (.int .u8 14), .lit (.int .u8 19), .lit (.int .u8 9), .lit (.int .u8 13), .lit (.int .u8 8), .lit (.int .u8 7), .lit (.int .u8 6)]

/-- 'garthtop.TopColours': WHATEVER THE INPUT: true; the input reads as it did. -/
def topColoursSpec : ChangeSpec := { name := "topColours", fn := fun _ => fun
  | [d1, d2] => { results := [.lit (.bool true)], args := [d1, d2] }
  | _ => none }
def topColoursRow : OpenClaim := { program := "ytpnbcakbefplpaagreatdoor", sum := "fc3f48eba34d05a75410d7e4873bb5aa8899a4ab2c74431baeb234569cbdb8ed", func := "garth/garthtop.TopColours", spec := "topColours", inPlace := ["internal/abi.NoEscape"], unfollowed := true, recurses := true, named := ["math/bits.deBruijn64tab"], apart := false, laid := [("math/bits.deBruijn64tab", laid_math_bits_deBruijn64tab)] }
def TopColoursSaid : Prop := topColoursRow.holds Tryz.pinned (OpenSpec.ofChange topColoursSpec)

/-- ITS FALSE NEIGHBOUR: 'it returns false'. Refute it at one input. -/
def topColoursWrong : ChangeSpec := { name := "topColours", fn := fun _ => fun
  | [d1, d2] => { results := [.lit (.bool false)], args := [d1, d2] }
  | _ => none }
def TopColoursWrongFalsely : Prop := topColoursRow.holds Tryz.pinned (OpenSpec.ofChange topColoursWrong)

/-- 'garthtop.TopConfined': WHATEVER THE INPUT: true; the input reads as it did. -/
def topConfinedSpec : ChangeSpec := { name := "topConfined", fn := fun _ => fun
  | [d1, d2] => { results := [.lit (.bool true)], args := [d1, d2] }
  | _ => none }
def topConfinedRow : OpenClaim := { program := "ytpnbcakbefplpaagreatdoor", sum := "fc3f48eba34d05a75410d7e4873bb5aa8899a4ab2c74431baeb234569cbdb8ed", func := "garth/garthtop.TopConfined", spec := "topConfined", inPlace := ["internal/abi.NoEscape"], unfollowed := true, recurses := true, named := ["math/bits.deBruijn64tab"], apart := false, laid := [("math/bits.deBruijn64tab", laid_math_bits_deBruijn64tab)] }
def TopConfinedSaid : Prop := topConfinedRow.holds Tryz.pinned (OpenSpec.ofChange topConfinedSpec)

/-- ITS FALSE NEIGHBOUR: 'it returns false'. Refute it at one input. -/
def topConfinedWrong : ChangeSpec := { name := "topConfined", fn := fun _ => fun
  | [d1, d2] => { results := [.lit (.bool false)], args := [d1, d2] }
  | _ => none }
def TopConfinedWrongFalsely : Prop := topConfinedRow.holds Tryz.pinned (OpenSpec.ofChange topConfinedWrong)

/-- 'garthtop.TopFull': WHATEVER THE INPUT: true; the input reads as it did. -/
def topFullSpec : ChangeSpec := { name := "topFull", fn := fun _ => fun
  | [d1, d2, d3, d4] => { results := [.lit (.bool true)], args := [d1, d2, d3, d4] }
  | _ => none }
def topFullRow : OpenClaim := { program := "ytpnbcakbefplpaagreatdoor", sum := "fc3f48eba34d05a75410d7e4873bb5aa8899a4ab2c74431baeb234569cbdb8ed", func := "garth/garthtop.TopFull", spec := "topFull", inPlace := ["internal/abi.NoEscape"], unfollowed := true, recurses := true, named := ["math/bits.deBruijn64tab"], apart := false, laid := [("math/bits.deBruijn64tab", laid_math_bits_deBruijn64tab)] }
def TopFullSaid : Prop := topFullRow.holds Tryz.pinned (OpenSpec.ofChange topFullSpec)

/-- ITS FALSE NEIGHBOUR: 'it returns false'. Refute it at one input. -/
def topFullWrong : ChangeSpec := { name := "topFull", fn := fun _ => fun
  | [d1, d2, d3, d4] => { results := [.lit (.bool false)], args := [d1, d2, d3, d4] }
  | _ => none }
def TopFullWrongFalsely : Prop := topFullRow.holds Tryz.pinned (OpenSpec.ofChange topFullWrong)

/-- 'garthtop.TopRoom': WHATEVER THE INPUT: true; the input reads as it did. -/
def topRoomSpec : ChangeSpec := { name := "topRoom", fn := fun _ => fun
  | [d1, d2] => { results := [.lit (.bool true)], args := [d1, d2] }
  | _ => none }
def topRoomRow : OpenClaim := { program := "ytpnbcakbefplpaagreatdoor", sum := "fc3f48eba34d05a75410d7e4873bb5aa8899a4ab2c74431baeb234569cbdb8ed", func := "garth/garthtop.TopRoom", spec := "topRoom", inPlace := ["internal/abi.NoEscape"], unfollowed := true, recurses := true, named := ["math/bits.deBruijn64tab"], apart := false, laid := [("math/bits.deBruijn64tab", laid_math_bits_deBruijn64tab)] }
def TopRoomSaid : Prop := topRoomRow.holds Tryz.pinned (OpenSpec.ofChange topRoomSpec)

/-- ITS FALSE NEIGHBOUR: 'it returns false'. Refute it at one input. -/
def topRoomWrong : ChangeSpec := { name := "topRoom", fn := fun _ => fun
  | [d1, d2] => { results := [.lit (.bool false)], args := [d1, d2] }
  | _ => none }
def TopRoomWrongFalsely : Prop := topRoomRow.holds Tryz.pinned (OpenSpec.ofChange topRoomWrong)

/-- 'garthtop.TopScript': WHATEVER THE INPUT: true; the input reads as it did. -/
def topScriptSpec : ChangeSpec := { name := "topScript", fn := fun _ => fun
  | [d1, d2] => { results := [.lit (.bool true)], args := [d1, d2] }
  | _ => none }
def topScriptRow : OpenClaim := { program := "ytpnbcakbefplpaagreatdoor", sum := "fc3f48eba34d05a75410d7e4873bb5aa8899a4ab2c74431baeb234569cbdb8ed", func := "garth/garthtop.TopScript", spec := "topScript", inPlace := ["internal/abi.NoEscape"], unfollowed := true, recurses := true, named := ["math/bits.deBruijn64tab"], apart := false, laid := [("math/bits.deBruijn64tab", laid_math_bits_deBruijn64tab)] }
def TopScriptSaid : Prop := topScriptRow.holds Tryz.pinned (OpenSpec.ofChange topScriptSpec)

/-- ITS FALSE NEIGHBOUR: 'it returns false'. Refute it at one input. -/
def topScriptWrong : ChangeSpec := { name := "topScript", fn := fun _ => fun
  | [d1, d2] => { results := [.lit (.bool false)], args := [d1, d2] }
  | _ => none }
def TopScriptWrongFalsely : Prop := topScriptRow.holds Tryz.pinned (OpenSpec.ofChange topScriptWrong)

/-- 'garthtop.TopDestroyed': WHATEVER THE INPUT: true; the input reads as it did. -/
def topDestroyedSpec : ChangeSpec := { name := "topDestroyed", fn := fun _ => fun
  | [d1, d2, d3, d4] => { results := [.lit (.bool true)], args := [d1, d2, d3, d4] }
  | _ => none }
def topDestroyedRow : OpenClaim := { program := "ytpnbcakbefplpaagreatdoor", sum := "fc3f48eba34d05a75410d7e4873bb5aa8899a4ab2c74431baeb234569cbdb8ed", func := "garth/garthtop.TopDestroyed", spec := "topDestroyed", inPlace := ["internal/abi.NoEscape"], unfollowed := true, recurses := true, named := ["math/bits.deBruijn64tab"], apart := false, laid := [("math/bits.deBruijn64tab", laid_math_bits_deBruijn64tab)] }
def TopDestroyedSaid : Prop := topDestroyedRow.holds Tryz.pinned (OpenSpec.ofChange topDestroyedSpec)

/-- ITS FALSE NEIGHBOUR: 'it returns false'. Refute it at one input. -/
def topDestroyedWrong : ChangeSpec := { name := "topDestroyed", fn := fun _ => fun
  | [d1, d2, d3, d4] => { results := [.lit (.bool false)], args := [d1, d2, d3, d4] }
  | _ => none }
def TopDestroyedWrongFalsely : Prop := topDestroyedRow.holds Tryz.pinned (OpenSpec.ofChange topDestroyedWrong)

/- THE SECOND FORM. 'bulk': how many values and letters a reading holds, each counted each time it is reached (what is shared counts as often as it is met; a slice's spare places count too). A statement '..UptoSaid' is the law's where the arguments, and the package variables that the reading takes, are together of bulk at most 1048576: NARROWER than '..Said'. Prove '..Said' where nothing that the law and all that it calls make is longer than what came in: it says more and counts as full. Else prove '..UptoSaid'. A law counts once. -/
mutual
def uptoBulk {H : Type} : DataW H → Nat
  | .lit (.string bytes) => bytes.length + 1
  | .lit _ => 1
  | .nil => 1
  | .ptr d => uptoBulk d + 1
  | .slice elems spare => uptoBulkAll elems + uptoBulkAll spare + 1
  | .agg parts => uptoBulkAll parts + 1
  | .iface _ d => uptoBulk d + 1
  | .map entries => uptoBulkEntries entries + 1
  | .held _ => 1
def uptoBulkAll {H : Type} : List (DataW H) → Nat
  | [] => 0
  | d :: r => uptoBulk d + uptoBulkAll r
def uptoBulkEntries {H : Type} : List (Lit × DataW H) → Nat
  | [] => 0
  | x :: r => uptoBulkEntry x + uptoBulkEntries r
def uptoBulkEntry {H : Type} : Lit × DataW H → Nat
  | (.string bytes, d) => bytes.length + uptoBulk d + 1
  | (_, d) => uptoBulk d + 1
 end
def uptoSmall : (H : Type) → List (DataW H) → Bool := fun _ ds => decide (uptoBulkAll ds ≤ 1048576)
def OpenSpec.upto (s : _root_.Go.ChangeSpec) : _root_.Go.OpenSpec := { _root_.Go.OpenSpec.ofChange s with cond := some uptoSmall }

/-- 'garthtop.TopColours', WHERE WHAT IT READS IS OF BULK AT MOST 1048576: true; the input reads as it did. -/
def topColoursUptoRow : OpenClaim := { program := "ytpnbcakbefplpaagreatdoor", sum := "fc3f48eba34d05a75410d7e4873bb5aa8899a4ab2c74431baeb234569cbdb8ed", func := "garth/garthtop.TopColours", spec := "topColours", inPlace := ["internal/abi.NoEscape"], unfollowed := true, recurses := true, named := ["math/bits.deBruijn64tab"], apart := false, laid := [("math/bits.deBruijn64tab", laid_math_bits_deBruijn64tab)], narrowed := true }
def TopColoursUptoSaid : Prop := topColoursUptoRow.holds Tryz.pinned (OpenSpec.upto topColoursSpec)

/-- 'garthtop.TopConfined', WHERE WHAT IT READS IS OF BULK AT MOST 1048576: true; the input reads as it did. -/
def topConfinedUptoRow : OpenClaim := { program := "ytpnbcakbefplpaagreatdoor", sum := "fc3f48eba34d05a75410d7e4873bb5aa8899a4ab2c74431baeb234569cbdb8ed", func := "garth/garthtop.TopConfined", spec := "topConfined", inPlace := ["internal/abi.NoEscape"], unfollowed := true, recurses := true, named := ["math/bits.deBruijn64tab"], apart := false, laid := [("math/bits.deBruijn64tab", laid_math_bits_deBruijn64tab)], narrowed := true }
def TopConfinedUptoSaid : Prop := topConfinedUptoRow.holds Tryz.pinned (OpenSpec.upto topConfinedSpec)

/-- 'garthtop.TopFull', WHERE WHAT IT READS IS OF BULK AT MOST 1048576: true; the input reads as it did. -/
def topFullUptoRow : OpenClaim := { program := "ytpnbcakbefplpaagreatdoor", sum := "fc3f48eba34d05a75410d7e4873bb5aa8899a4ab2c74431baeb234569cbdb8ed", func := "garth/garthtop.TopFull", spec := "topFull", inPlace := ["internal/abi.NoEscape"], unfollowed := true, recurses := true, named := ["math/bits.deBruijn64tab"], apart := false, laid := [("math/bits.deBruijn64tab", laid_math_bits_deBruijn64tab)], narrowed := true }
def TopFullUptoSaid : Prop := topFullUptoRow.holds Tryz.pinned (OpenSpec.upto topFullSpec)

/-- 'garthtop.TopRoom', WHERE WHAT IT READS IS OF BULK AT MOST 1048576: true; the input reads as it did. -/
def topRoomUptoRow : OpenClaim := { program := "ytpnbcakbefplpaagreatdoor", sum := "fc3f48eba34d05a75410d7e4873bb5aa8899a4ab2c74431baeb234569cbdb8ed", func := "garth/garthtop.TopRoom", spec := "topRoom", inPlace := ["internal/abi.NoEscape"], unfollowed := true, recurses := true, named := ["math/bits.deBruijn64tab"], apart := false, laid := [("math/bits.deBruijn64tab", laid_math_bits_deBruijn64tab)], narrowed := true }
def TopRoomUptoSaid : Prop := topRoomUptoRow.holds Tryz.pinned (OpenSpec.upto topRoomSpec)

/-- 'garthtop.TopScript', WHERE WHAT IT READS IS OF BULK AT MOST 1048576: true; the input reads as it did. -/
def topScriptUptoRow : OpenClaim := { program := "ytpnbcakbefplpaagreatdoor", sum := "fc3f48eba34d05a75410d7e4873bb5aa8899a4ab2c74431baeb234569cbdb8ed", func := "garth/garthtop.TopScript", spec := "topScript", inPlace := ["internal/abi.NoEscape"], unfollowed := true, recurses := true, named := ["math/bits.deBruijn64tab"], apart := false, laid := [("math/bits.deBruijn64tab", laid_math_bits_deBruijn64tab)], narrowed := true }
def TopScriptUptoSaid : Prop := topScriptUptoRow.holds Tryz.pinned (OpenSpec.upto topScriptSpec)

/-- 'garthtop.TopDestroyed', WHERE WHAT IT READS IS OF BULK AT MOST 1048576: true; the input reads as it did. -/
def topDestroyedUptoRow : OpenClaim := { program := "ytpnbcakbefplpaagreatdoor", sum := "fc3f48eba34d05a75410d7e4873bb5aa8899a4ab2c74431baeb234569cbdb8ed", func := "garth/garthtop.TopDestroyed", spec := "topDestroyed", inPlace := ["internal/abi.NoEscape"], unfollowed := true, recurses := true, named := ["math/bits.deBruijn64tab"], apart := false, laid := [("math/bits.deBruijn64tab", laid_math_bits_deBruijn64tab)], narrowed := true }
def TopDestroyedUptoSaid : Prop := topDestroyedUptoRow.holds Tryz.pinned (OpenSpec.upto topDestroyedSpec)

end Rows
end Go.Proofs.YtpnbcakbefplpaaGreatDoor
