/-
  No cell of these rows narrows 'for every input' (looked for: loops, veiled, ifaces, maps, wideKeys, modest, calm, conditions, laid).
  DERIVED. THE GIVEN ROWS OF THIS SEAT. 4 by the template 'for every input the law returns true; each argument reads behind the call as it read before'; 0 by the template 'total and deterministic' (their statements: YtkbgiflmecaffaaTotals.lean).
  GIVEN WITH THE SEED: the statements are not yours to turn. If you find one false, say at which input.
  Laid BY PROGRAM, IN A SANDBOX (cutbox-rows.mjs): the forced cells as the released guide's own fill.sh prints them over the translation 02a4b78ed5349cf8… (all of the seat's roots in one cut). By AI agents, Wed Nov 11 2026. No macro, syntax, notation, axiom, sorry.
-/
import Derived.Test.YtkbgiflmecaffaaChecked
import GoSem.Claim
import GoSem.ClaimJoined
import GoSem.ClaimMapViews
import Derived.JoinedTies
import Derived.KernelRfl
namespace Go.Proofs.Ytkbgiflmecaffaa
/- THE CELL 'sum', in the pinned program and in every row, IS THE sha256 OF THE DUMP (.gsa) THAT YtkbgiflmecaffaaProg.lean LOADS. Nothing in Lean hashes anything: it is a label: what it is worth is what the hold of that sum in a sandbox is worth. -/
noncomputable def Try.pinned : Pinned := { name := "ytkbgiflmecaffaa", sum := "02a4b78ed5349cf8f85ee3cd79be604d6d6b93f209d8bc02ebd9134c70c26f96", checked := Try.checked }
namespace Rows
def none {H : Type} : Left H := { results := [], args := [] }

/-- 'garthlaw12.PageZero': WHATEVER THE INPUT: true; the input reads as it did. -/
def pageZeroSpec : ChangeSpec := { name := "pageZero", fn := fun _ => fun
  | [d1, d2] => { results := [.lit (.bool true)], args := [d1, d2] }
  | _ => none }
def pageZeroRow : OpenClaim := { program := "ytkbgiflmecaffaa", sum := "02a4b78ed5349cf8f85ee3cd79be604d6d6b93f209d8bc02ebd9134c70c26f96", func := "garth/garthlaw12.PageZero", spec := "pageZero", apart := false }
def PageZeroSaid : Prop := pageZeroRow.holds Try.pinned (OpenSpec.ofChange pageZeroSpec)

/-- ITS FALSE NEIGHBOUR: 'it returns false'. Refute it at one input. -/
def pageZeroWrong : ChangeSpec := { name := "pageZero", fn := fun _ => fun
  | [d1, d2] => { results := [.lit (.bool false)], args := [d1, d2] }
  | _ => none }
def PageZeroWrongFalsely : Prop := pageZeroRow.holds Try.pinned (OpenSpec.ofChange pageZeroWrong)

/-- 'garthlaw12.PagePlays': WHATEVER THE INPUT: true; the input reads as it did. -/
def pagePlaysSpec : ChangeSpec := { name := "pagePlays", fn := fun _ => fun
  | [d1, d2, d3, d4] => { results := [.lit (.bool true)], args := [d1, d2, d3, d4] }
  | _ => none }
def pagePlaysRow : OpenClaim := { program := "ytkbgiflmecaffaa", sum := "02a4b78ed5349cf8f85ee3cd79be604d6d6b93f209d8bc02ebd9134c70c26f96", func := "garth/garthlaw12.PagePlays", spec := "pagePlays", apart := false }
def PagePlaysSaid : Prop := pagePlaysRow.holds Try.pinned (OpenSpec.ofChange pagePlaysSpec)

/-- ITS FALSE NEIGHBOUR: 'it returns false'. Refute it at one input. -/
def pagePlaysWrong : ChangeSpec := { name := "pagePlays", fn := fun _ => fun
  | [d1, d2, d3, d4] => { results := [.lit (.bool false)], args := [d1, d2, d3, d4] }
  | _ => none }
def PagePlaysWrongFalsely : Prop := pagePlaysRow.holds Try.pinned (OpenSpec.ofChange pagePlaysWrong)

/-- 'garthlaw12.PageMoves': WHATEVER THE INPUT: true; the input reads as it did. -/
def pageMovesSpec : ChangeSpec := { name := "pageMoves", fn := fun _ => fun
  | [d1, d2, d3] => { results := [.lit (.bool true)], args := [d1, d2, d3] }
  | _ => none }
def pageMovesRow : OpenClaim := { program := "ytkbgiflmecaffaa", sum := "02a4b78ed5349cf8f85ee3cd79be604d6d6b93f209d8bc02ebd9134c70c26f96", func := "garth/garthlaw12.PageMoves", spec := "pageMoves", unfollowed := true, recurses := true, apart := false }
def PageMovesSaid : Prop := pageMovesRow.holds Try.pinned (OpenSpec.ofChange pageMovesSpec)

/-- ITS FALSE NEIGHBOUR: 'it returns false'. Refute it at one input. -/
def pageMovesWrong : ChangeSpec := { name := "pageMoves", fn := fun _ => fun
  | [d1, d2, d3] => { results := [.lit (.bool false)], args := [d1, d2, d3] }
  | _ => none }
def PageMovesWrongFalsely : Prop := pageMovesRow.holds Try.pinned (OpenSpec.ofChange pageMovesWrong)

/-- 'garthlaw12.PageNil': WHATEVER THE INPUT: true; the input reads as it did. -/
def pageNilSpec : ChangeSpec := { name := "pageNil", fn := fun _ => fun
  | [d] => { results := [.lit (.bool true)], args := [d] }
  | _ => none }
def pageNilRow : OpenClaim := { program := "ytkbgiflmecaffaa", sum := "02a4b78ed5349cf8f85ee3cd79be604d6d6b93f209d8bc02ebd9134c70c26f96", func := "garth/garthlaw12.PageNil", spec := "pageNil", apart := false }
def PageNilSaid : Prop := pageNilRow.holds Try.pinned (OpenSpec.ofChange pageNilSpec)

/-- ITS FALSE NEIGHBOUR: 'it returns false'. Refute it at one input. -/
def pageNilWrong : ChangeSpec := { name := "pageNil", fn := fun _ => fun
  | [d] => { results := [.lit (.bool false)], args := [d] }
  | _ => none }
def PageNilWrongFalsely : Prop := pageNilRow.holds Try.pinned (OpenSpec.ofChange pageNilWrong)

/- THE SECOND FORM. 'bulk': how many values and letters a reading holds, each counted each time it is reached (what is shared counts as often as it is met; a slice's spare places count too). A statement '..UptoSaid' is the law's where the arguments, and the package variables that the reading takes, are together of bulk at most 1048576: NARROWER than '..Said'. Prove '..Said' where nothing that the law and all that it calls make is longer than what came in: it says more and counts as full. Else prove '..UptoSaid'. A law counts once. -/
mutual
def uptoBulk {H : Type} : DataW H → Nat
  | .lit (.string bytes) => bytes.length + 1
  | .lit _ => 1
  | .nil => 1
  | .ptr d => uptoBulk d + 1
  | .slice elems spare => uptoBulkAll elems + uptoBulkAll spare + 1
  | .agg parts => uptoBulkAll parts + 1
  | .iface _ d => uptoBulk d + 1
  | .map entries => uptoBulkEntries entries + 1
  | .held _ => 1
def uptoBulkAll {H : Type} : List (DataW H) → Nat
  | [] => 0
  | d :: r => uptoBulk d + uptoBulkAll r
def uptoBulkEntries {H : Type} : List (Lit × DataW H) → Nat
  | [] => 0
  | x :: r => uptoBulkEntry x + uptoBulkEntries r
def uptoBulkEntry {H : Type} : Lit × DataW H → Nat
  | (.string bytes, d) => bytes.length + uptoBulk d + 1
  | (_, d) => uptoBulk d + 1
 end
def uptoSmall : (H : Type) → List (DataW H) → Bool := fun _ ds => decide (uptoBulkAll ds ≤ 1048576)
def OpenSpec.upto (s : _root_.Go.ChangeSpec) : _root_.Go.OpenSpec := { _root_.Go.OpenSpec.ofChange s with cond := some uptoSmall }

/-- 'garthlaw12.PageZero', WHERE WHAT IT READS IS OF BULK AT MOST 1048576: true; the input reads as it did. -/
def pageZeroUptoRow : OpenClaim := { program := "ytkbgiflmecaffaa", sum := "02a4b78ed5349cf8f85ee3cd79be604d6d6b93f209d8bc02ebd9134c70c26f96", func := "garth/garthlaw12.PageZero", spec := "pageZero", apart := false, narrowed := true }
def PageZeroUptoSaid : Prop := pageZeroUptoRow.holds Try.pinned (OpenSpec.upto pageZeroSpec)

/-- 'garthlaw12.PagePlays', WHERE WHAT IT READS IS OF BULK AT MOST 1048576: true; the input reads as it did. -/
def pagePlaysUptoRow : OpenClaim := { program := "ytkbgiflmecaffaa", sum := "02a4b78ed5349cf8f85ee3cd79be604d6d6b93f209d8bc02ebd9134c70c26f96", func := "garth/garthlaw12.PagePlays", spec := "pagePlays", apart := false, narrowed := true }
def PagePlaysUptoSaid : Prop := pagePlaysUptoRow.holds Try.pinned (OpenSpec.upto pagePlaysSpec)

/-- 'garthlaw12.PageMoves', WHERE WHAT IT READS IS OF BULK AT MOST 1048576: true; the input reads as it did. -/
def pageMovesUptoRow : OpenClaim := { program := "ytkbgiflmecaffaa", sum := "02a4b78ed5349cf8f85ee3cd79be604d6d6b93f209d8bc02ebd9134c70c26f96", func := "garth/garthlaw12.PageMoves", spec := "pageMoves", unfollowed := true, recurses := true, apart := false, narrowed := true }
def PageMovesUptoSaid : Prop := pageMovesUptoRow.holds Try.pinned (OpenSpec.upto pageMovesSpec)

/-- 'garthlaw12.PageNil', WHERE WHAT IT READS IS OF BULK AT MOST 1048576: true; the input reads as it did. -/
def pageNilUptoRow : OpenClaim := { program := "ytkbgiflmecaffaa", sum := "02a4b78ed5349cf8f85ee3cd79be604d6d6b93f209d8bc02ebd9134c70c26f96", func := "garth/garthlaw12.PageNil", spec := "pageNil", apart := false, narrowed := true }
def PageNilUptoSaid : Prop := pageNilUptoRow.holds Try.pinned (OpenSpec.upto pageNilSpec)

end Rows
end Go.Proofs.Ytkbgiflmecaffaa
