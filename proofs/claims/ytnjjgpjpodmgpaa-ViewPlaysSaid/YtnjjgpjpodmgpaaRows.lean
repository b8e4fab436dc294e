/-
  No cell of these rows narrows 'for every input' (looked for: loops, veiled, ifaces, maps, wideKeys, modest, calm, conditions, laid).
  DERIVED. THE GIVEN ROWS OF THIS SEAT. 10 by the template 'for every input the law returns true; each argument reads behind the call as it read before'; 0 by the template 'total and deterministic' (their statements: YtnjjgpjpodmgpaaTotals.lean).
  GIVEN WITH THE SEED: the statements are not yours to turn. If you find one false, say at which input.
  Laid BY PROGRAM, IN A SANDBOX (cutbox-rows.mjs): the forced cells as the released guide's own fill.sh prints them over the translation 517bb9af2057289e… (all of the seat's roots in one cut). By AI agents, Wed Nov 11 2026. No macro, syntax, notation, axiom, sorry.
-/
import Derived.Test.YtnjjgpjpodmgpaaChecked
import GoSem.Claim
import GoSem.ClaimJoined
import GoSem.ClaimMapViews
import Derived.JoinedTies
import Derived.KernelRfl
namespace Go.Proofs.Ytnjjgpjpodmgpaa
/- THE CELL 'sum', in the pinned program and in every row, IS THE sha256 OF THE DUMP (.gsa) THAT YtnjjgpjpodmgpaaProg.lean LOADS. Nothing in Lean hashes anything: it is a label: what it is worth is what the hold of that sum in a sandbox is worth. -/
noncomputable def Try.pinned : Pinned := { name := "ytnjjgpjpodmgpaa", sum := "517bb9af2057289ec9f94abb7dd304eef456e007cb3fd88c5318285a20bc8551", checked := Try.checked }
namespace Rows
def none {H : Type} : Left H := { results := [], args := [] }

/-- 'garthlaw11.ChainBack': WHATEVER THE INPUT: true; the input reads as it did. -/
def chainBackSpec : ChangeSpec := { name := "chainBack", fn := fun _ => fun
  | [d1, d2, d3] => { results := [.lit (.bool true)], args := [d1, d2, d3] }
  | _ => none }
def chainBackRow : OpenClaim := { program := "ytnjjgpjpodmgpaa", sum := "517bb9af2057289ec9f94abb7dd304eef456e007cb3fd88c5318285a20bc8551", func := "garth/garthlaw11.ChainBack", spec := "chainBack", apart := false }
def ChainBackSaid : Prop := chainBackRow.holds Try.pinned (OpenSpec.ofChange chainBackSpec)

/-- ITS FALSE NEIGHBOUR: 'it returns false'. Refute it at one input. -/
def chainBackWrong : ChangeSpec := { name := "chainBack", fn := fun _ => fun
  | [d1, d2, d3] => { results := [.lit (.bool false)], args := [d1, d2, d3] }
  | _ => none }
def ChainBackWrongFalsely : Prop := chainBackRow.holds Try.pinned (OpenSpec.ofChange chainBackWrong)

/-- 'garthlaw11.ChainOwn': WHATEVER THE INPUT: true; the input reads as it did. -/
def chainOwnSpec : ChangeSpec := { name := "chainOwn", fn := fun _ => fun
  | [d1, d2, d3] => { results := [.lit (.bool true)], args := [d1, d2, d3] }
  | _ => none }
def chainOwnRow : OpenClaim := { program := "ytnjjgpjpodmgpaa", sum := "517bb9af2057289ec9f94abb7dd304eef456e007cb3fd88c5318285a20bc8551", func := "garth/garthlaw11.ChainOwn", spec := "chainOwn", apart := false }
def ChainOwnSaid : Prop := chainOwnRow.holds Try.pinned (OpenSpec.ofChange chainOwnSpec)

/-- ITS FALSE NEIGHBOUR: 'it returns false'. Refute it at one input. -/
def chainOwnWrong : ChangeSpec := { name := "chainOwn", fn := fun _ => fun
  | [d1, d2, d3] => { results := [.lit (.bool false)], args := [d1, d2, d3] }
  | _ => none }
def ChainOwnWrongFalsely : Prop := chainOwnRow.holds Try.pinned (OpenSpec.ofChange chainOwnWrong)

/-- 'garthlaw11.ChainTakes': WHATEVER THE INPUT: true; the input reads as it did. -/
def chainTakesSpec : ChangeSpec := { name := "chainTakes", fn := fun _ => fun
  | [d1, d2, d3] => { results := [.lit (.bool true)], args := [d1, d2, d3] }
  | _ => none }
def chainTakesRow : OpenClaim := { program := "ytnjjgpjpodmgpaa", sum := "517bb9af2057289ec9f94abb7dd304eef456e007cb3fd88c5318285a20bc8551", func := "garth/garthlaw11.ChainTakes", spec := "chainTakes", apart := false }
def ChainTakesSaid : Prop := chainTakesRow.holds Try.pinned (OpenSpec.ofChange chainTakesSpec)

/-- ITS FALSE NEIGHBOUR: 'it returns false'. Refute it at one input. -/
def chainTakesWrong : ChangeSpec := { name := "chainTakes", fn := fun _ => fun
  | [d1, d2, d3] => { results := [.lit (.bool false)], args := [d1, d2, d3] }
  | _ => none }
def ChainTakesWrongFalsely : Prop := chainTakesRow.holds Try.pinned (OpenSpec.ofChange chainTakesWrong)

/-- 'garthlaw11.ChainNil': WHATEVER THE INPUT: true; the input reads as it did. -/
def chainNilSpec : ChangeSpec := { name := "chainNil", fn := fun _ => fun
  | [d] => { results := [.lit (.bool true)], args := [d] }
  | _ => none }
def chainNilRow : OpenClaim := { program := "ytnjjgpjpodmgpaa", sum := "517bb9af2057289ec9f94abb7dd304eef456e007cb3fd88c5318285a20bc8551", func := "garth/garthlaw11.ChainNil", spec := "chainNil", apart := false }
def ChainNilSaid : Prop := chainNilRow.holds Try.pinned (OpenSpec.ofChange chainNilSpec)

/-- ITS FALSE NEIGHBOUR: 'it returns false'. Refute it at one input. -/
def chainNilWrong : ChangeSpec := { name := "chainNil", fn := fun _ => fun
  | [d] => { results := [.lit (.bool false)], args := [d] }
  | _ => none }
def ChainNilWrongFalsely : Prop := chainNilRow.holds Try.pinned (OpenSpec.ofChange chainNilWrong)

/-- 'garthlaw11.ChainPlays': WHATEVER THE INPUT: true; the input reads as it did. -/
def chainPlaysSpec : ChangeSpec := { name := "chainPlays", fn := fun _ => fun
  | [d1, d2, d3, d4, d5] => { results := [.lit (.bool true)], args := [d1, d2, d3, d4, d5] }
  | _ => none }
def chainPlaysRow : OpenClaim := { program := "ytnjjgpjpodmgpaa", sum := "517bb9af2057289ec9f94abb7dd304eef456e007cb3fd88c5318285a20bc8551", func := "garth/garthlaw11.ChainPlays", spec := "chainPlays", apart := false }
def ChainPlaysSaid : Prop := chainPlaysRow.holds Try.pinned (OpenSpec.ofChange chainPlaysSpec)

/-- ITS FALSE NEIGHBOUR: 'it returns false'. Refute it at one input. -/
def chainPlaysWrong : ChangeSpec := { name := "chainPlays", fn := fun _ => fun
  | [d1, d2, d3, d4, d5] => { results := [.lit (.bool false)], args := [d1, d2, d3, d4, d5] }
  | _ => none }
def ChainPlaysWrongFalsely : Prop := chainPlaysRow.holds Try.pinned (OpenSpec.ofChange chainPlaysWrong)

/-- 'garthlaw16.ViewBack': WHATEVER THE INPUT: true; the input reads as it did. -/
def viewBackSpec : ChangeSpec := { name := "viewBack", fn := fun _ => fun
  | [d1, d2, d3, d4] => { results := [.lit (.bool true)], args := [d1, d2, d3, d4] }
  | _ => none }
def viewBackRow : OpenClaim := { program := "ytnjjgpjpodmgpaa", sum := "517bb9af2057289ec9f94abb7dd304eef456e007cb3fd88c5318285a20bc8551", func := "garth/garthlaw16.ViewBack", spec := "viewBack", inPlace := ["internal/abi.NoEscape"], unfollowed := true, recurses := true, apart := false }
def ViewBackSaid : Prop := viewBackRow.holds Try.pinned (OpenSpec.ofChange viewBackSpec)

/-- ITS FALSE NEIGHBOUR: 'it returns false'. Refute it at one input. -/
def viewBackWrong : ChangeSpec := { name := "viewBack", fn := fun _ => fun
  | [d1, d2, d3, d4] => { results := [.lit (.bool false)], args := [d1, d2, d3, d4] }
  | _ => none }
def ViewBackWrongFalsely : Prop := viewBackRow.holds Try.pinned (OpenSpec.ofChange viewBackWrong)

/-- 'garthlaw16.ViewMoves': WHATEVER THE INPUT: true; the input reads as it did. -/
def viewMovesSpec : ChangeSpec := { name := "viewMoves", fn := fun _ => fun
  | [d1, d2, d3, d4, d5] => { results := [.lit (.bool true)], args := [d1, d2, d3, d4, d5] }
  | _ => none }
def viewMovesRow : OpenClaim := { program := "ytnjjgpjpodmgpaa", sum := "517bb9af2057289ec9f94abb7dd304eef456e007cb3fd88c5318285a20bc8551", func := "garth/garthlaw16.ViewMoves", spec := "viewMoves", inPlace := ["internal/abi.NoEscape"], unfollowed := true, recurses := true, apart := false }
def ViewMovesSaid : Prop := viewMovesRow.holds Try.pinned (OpenSpec.ofChange viewMovesSpec)

/-- ITS FALSE NEIGHBOUR: 'it returns false'. Refute it at one input. -/
def viewMovesWrong : ChangeSpec := { name := "viewMoves", fn := fun _ => fun
  | [d1, d2, d3, d4, d5] => { results := [.lit (.bool false)], args := [d1, d2, d3, d4, d5] }
  | _ => none }
def ViewMovesWrongFalsely : Prop := viewMovesRow.holds Try.pinned (OpenSpec.ofChange viewMovesWrong)

/-- 'garthlaw16.ViewNil': WHATEVER THE INPUT: true; the input reads as it did. -/
def viewNilSpec : ChangeSpec := { name := "viewNil", fn := fun _ => fun
  | [d1, d2, d3] => { results := [.lit (.bool true)], args := [d1, d2, d3] }
  | _ => none }
def viewNilRow : OpenClaim := { program := "ytnjjgpjpodmgpaa", sum := "517bb9af2057289ec9f94abb7dd304eef456e007cb3fd88c5318285a20bc8551", func := "garth/garthlaw16.ViewNil", spec := "viewNil", inPlace := ["internal/abi.NoEscape"], unfollowed := true, recurses := true, apart := false }
def ViewNilSaid : Prop := viewNilRow.holds Try.pinned (OpenSpec.ofChange viewNilSpec)

/-- ITS FALSE NEIGHBOUR: 'it returns false'. Refute it at one input. -/
def viewNilWrong : ChangeSpec := { name := "viewNil", fn := fun _ => fun
  | [d1, d2, d3] => { results := [.lit (.bool false)], args := [d1, d2, d3] }
  | _ => none }
def ViewNilWrongFalsely : Prop := viewNilRow.holds Try.pinned (OpenSpec.ofChange viewNilWrong)

/-- 'garthlaw16.ViewPlays': WHATEVER THE INPUT: true; the input reads as it did. -/
def viewPlaysSpec : ChangeSpec := { name := "viewPlays", fn := fun _ => fun
  | [d1, d2] => { results := [.lit (.bool true)], args := [d1, d2] }
  | _ => none }
def viewPlaysRow : OpenClaim := { program := "ytnjjgpjpodmgpaa", sum := "517bb9af2057289ec9f94abb7dd304eef456e007cb3fd88c5318285a20bc8551", func := "garth/garthlaw16.ViewPlays", spec := "viewPlays", inPlace := ["internal/abi.NoEscape"], unfollowed := true, recurses := true, apart := false }
def ViewPlaysSaid : Prop := viewPlaysRow.holds Try.pinned (OpenSpec.ofChange viewPlaysSpec)

/-- ITS FALSE NEIGHBOUR: 'it returns false'. Refute it at one input. -/
def viewPlaysWrong : ChangeSpec := { name := "viewPlays", fn := fun _ => fun
  | [d1, d2] => { results := [.lit (.bool false)], args := [d1, d2] }
  | _ => none }
def ViewPlaysWrongFalsely : Prop := viewPlaysRow.holds Try.pinned (OpenSpec.ofChange viewPlaysWrong)

/-- 'garthlaw16.ViewOwn': WHATEVER THE INPUT: true; the input reads as it did. -/
def viewOwnSpec : ChangeSpec := { name := "viewOwn", fn := fun _ => fun
  | [d1, d2] => { results := [.lit (.bool true)], args := [d1, d2] }
  | _ => none }
def viewOwnRow : OpenClaim := { program := "ytnjjgpjpodmgpaa", sum := "517bb9af2057289ec9f94abb7dd304eef456e007cb3fd88c5318285a20bc8551", func := "garth/garthlaw16.ViewOwn", spec := "viewOwn", inPlace := ["internal/abi.NoEscape"], unfollowed := true, recurses := true, apart := false }
def ViewOwnSaid : Prop := viewOwnRow.holds Try.pinned (OpenSpec.ofChange viewOwnSpec)

/-- ITS FALSE NEIGHBOUR: 'it returns false'. Refute it at one input. -/
def viewOwnWrong : ChangeSpec := { name := "viewOwn", fn := fun _ => fun
  | [d1, d2] => { results := [.lit (.bool false)], args := [d1, d2] }
  | _ => none }
def ViewOwnWrongFalsely : Prop := viewOwnRow.holds Try.pinned (OpenSpec.ofChange viewOwnWrong)

/- THE SECOND FORM. 'bulk': how many values and letters a reading holds, each counted each time it is reached (what is shared counts as often as it is met; a slice's spare places count too). A statement '..UptoSaid' is the law's where the arguments, and the package variables that the reading takes, are together of bulk at most 1048576: NARROWER than '..Said'. Prove '..Said' where nothing that the law and all that it calls make is longer than what came in: it says more and counts as full. Else prove '..UptoSaid'. A law counts once. -/
mutual
def uptoBulk {H : Type} : DataW H → Nat
  | .lit (.string bytes) => bytes.length + 1
  | .lit _ => 1
  | .nil => 1
  | .ptr d => uptoBulk d + 1
  | .slice elems spare => uptoBulkAll elems + uptoBulkAll spare + 1
  | .agg parts => uptoBulkAll parts + 1
  | .iface _ d => uptoBulk d + 1
  | .map entries => uptoBulkEntries entries + 1
  | .held _ => 1
def uptoBulkAll {H : Type} : List (DataW H) → Nat
  | [] => 0
  | d :: r => uptoBulk d + uptoBulkAll r
def uptoBulkEntries {H : Type} : List (Lit × DataW H) → Nat
  | [] => 0
  | x :: r => uptoBulkEntry x + uptoBulkEntries r
def uptoBulkEntry {H : Type} : Lit × DataW H → Nat
  | (.string bytes, d) => bytes.length + uptoBulk d + 1
  | (_, d) => uptoBulk d + 1
 end
def uptoSmall : (H : Type) → List (DataW H) → Bool := fun _ ds => decide (uptoBulkAll ds ≤ 1048576)
def OpenSpec.upto (s : _root_.Go.ChangeSpec) : _root_.Go.OpenSpec := { _root_.Go.OpenSpec.ofChange s with cond := some uptoSmall }

/-- 'garthlaw11.ChainBack', WHERE WHAT IT READS IS OF BULK AT MOST 1048576: true; the input reads as it did. -/
def chainBackUptoRow : OpenClaim := { program := "ytnjjgpjpodmgpaa", sum := "517bb9af2057289ec9f94abb7dd304eef456e007cb3fd88c5318285a20bc8551", func := "garth/garthlaw11.ChainBack", spec := "chainBack", apart := false, narrowed := true }
def ChainBackUptoSaid : Prop := chainBackUptoRow.holds Try.pinned (OpenSpec.upto chainBackSpec)

/-- 'garthlaw11.ChainOwn', WHERE WHAT IT READS IS OF BULK AT MOST 1048576: true; the input reads as it did. -/
def chainOwnUptoRow : OpenClaim := { program := "ytnjjgpjpodmgpaa", sum := "517bb9af2057289ec9f94abb7dd304eef456e007cb3fd88c5318285a20bc8551", func := "garth/garthlaw11.ChainOwn", spec := "chainOwn", apart := false, narrowed := true }
def ChainOwnUptoSaid : Prop := chainOwnUptoRow.holds Try.pinned (OpenSpec.upto chainOwnSpec)

/-- 'garthlaw11.ChainTakes', WHERE WHAT IT READS IS OF BULK AT MOST 1048576: true; the input reads as it did. -/
def chainTakesUptoRow : OpenClaim := { program := "ytnjjgpjpodmgpaa", sum := "517bb9af2057289ec9f94abb7dd304eef456e007cb3fd88c5318285a20bc8551", func := "garth/garthlaw11.ChainTakes", spec := "chainTakes", apart := false, narrowed := true }
def ChainTakesUptoSaid : Prop := chainTakesUptoRow.holds Try.pinned (OpenSpec.upto chainTakesSpec)

/-- 'garthlaw11.ChainNil', WHERE WHAT IT READS IS OF BULK AT MOST 1048576: true; the input reads as it did. -/
def chainNilUptoRow : OpenClaim := { program := "ytnjjgpjpodmgpaa", sum := "517bb9af2057289ec9f94abb7dd304eef456e007cb3fd88c5318285a20bc8551", func := "garth/garthlaw11.ChainNil", spec := "chainNil", apart := false, narrowed := true }
def ChainNilUptoSaid : Prop := chainNilUptoRow.holds Try.pinned (OpenSpec.upto chainNilSpec)

/-- 'garthlaw11.ChainPlays', WHERE WHAT IT READS IS OF BULK AT MOST 1048576: true; the input reads as it did. -/
def chainPlaysUptoRow : OpenClaim := { program := "ytnjjgpjpodmgpaa", sum := "517bb9af2057289ec9f94abb7dd304eef456e007cb3fd88c5318285a20bc8551", func := "garth/garthlaw11.ChainPlays", spec := "chainPlays", apart := false, narrowed := true }
def ChainPlaysUptoSaid : Prop := chainPlaysUptoRow.holds Try.pinned (OpenSpec.upto chainPlaysSpec)

/-- 'garthlaw16.ViewBack', WHERE WHAT IT READS IS OF BULK AT MOST 1048576: true; the input reads as it did. -/
def viewBackUptoRow : OpenClaim := { program := "ytnjjgpjpodmgpaa", sum := "517bb9af2057289ec9f94abb7dd304eef456e007cb3fd88c5318285a20bc8551", func := "garth/garthlaw16.ViewBack", spec := "viewBack", inPlace := ["internal/abi.NoEscape"], unfollowed := true, recurses := true, apart := false, narrowed := true }
def ViewBackUptoSaid : Prop := viewBackUptoRow.holds Try.pinned (OpenSpec.upto viewBackSpec)

/-- 'garthlaw16.ViewMoves', WHERE WHAT IT READS IS OF BULK AT MOST 1048576: true; the input reads as it did. -/
def viewMovesUptoRow : OpenClaim := { program := "ytnjjgpjpodmgpaa", sum := "517bb9af2057289ec9f94abb7dd304eef456e007cb3fd88c5318285a20bc8551", func := "garth/garthlaw16.ViewMoves", spec := "viewMoves", inPlace := ["internal/abi.NoEscape"], unfollowed := true, recurses := true, apart := false, narrowed := true }
def ViewMovesUptoSaid : Prop := viewMovesUptoRow.holds Try.pinned (OpenSpec.upto viewMovesSpec)

/-- 'garthlaw16.ViewNil', WHERE WHAT IT READS IS OF BULK AT MOST 1048576: true; the input reads as it did. -/
def viewNilUptoRow : OpenClaim := { program := "ytnjjgpjpodmgpaa", sum := "517bb9af2057289ec9f94abb7dd304eef456e007cb3fd88c5318285a20bc8551", func := "garth/garthlaw16.ViewNil", spec := "viewNil", inPlace := ["internal/abi.NoEscape"], unfollowed := true, recurses := true, apart := false, narrowed := true }
def ViewNilUptoSaid : Prop := viewNilUptoRow.holds Try.pinned (OpenSpec.upto viewNilSpec)

/-- 'garthlaw16.ViewPlays', WHERE WHAT IT READS IS OF BULK AT MOST 1048576: true; the input reads as it did. -/
def viewPlaysUptoRow : OpenClaim := { program := "ytnjjgpjpodmgpaa", sum := "517bb9af2057289ec9f94abb7dd304eef456e007cb3fd88c5318285a20bc8551", func := "garth/garthlaw16.ViewPlays", spec := "viewPlays", inPlace := ["internal/abi.NoEscape"], unfollowed := true, recurses := true, apart := false, narrowed := true }
def ViewPlaysUptoSaid : Prop := viewPlaysUptoRow.holds Try.pinned (OpenSpec.upto viewPlaysSpec)

/-- 'garthlaw16.ViewOwn', WHERE WHAT IT READS IS OF BULK AT MOST 1048576: true; the input reads as it did. -/
def viewOwnUptoRow : OpenClaim := { program := "ytnjjgpjpodmgpaa", sum := "517bb9af2057289ec9f94abb7dd304eef456e007cb3fd88c5318285a20bc8551", func := "garth/garthlaw16.ViewOwn", spec := "viewOwn", inPlace := ["internal/abi.NoEscape"], unfollowed := true, recurses := true, apart := false, narrowed := true }
def ViewOwnUptoSaid : Prop := viewOwnUptoRow.holds Try.pinned (OpenSpec.upto viewOwnSpec)

end Rows
end Go.Proofs.Ytnjjgpjpodmgpaa
