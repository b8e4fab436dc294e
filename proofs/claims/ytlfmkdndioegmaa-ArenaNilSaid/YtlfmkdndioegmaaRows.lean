/-
  No cell of these rows narrows 'for every input' (looked for: loops, veiled, ifaces, maps, wideKeys, modest, calm, conditions, laid).
  DERIVED. THE GIVEN ROWS OF THIS SEAT. 12 by the template 'for every input the law returns true; each argument reads behind the call as it read before'; 0 by the template 'total and deterministic' (their statements: YtlfmkdndioegmaaTotals.lean).
  GIVEN WITH THE SEED: the statements are not yours to turn. If you find one false, say at which input.
  Laid BY PROGRAM, IN A SANDBOX (cutbox-rows.mjs): the forced cells as the released guide's own fill.sh prints them over the translation 82f12d5207fa8de1… (all of the seat's roots in one cut). By AI agents, Wed Nov 11 2026. No macro, syntax, notation, axiom, sorry.
-/
import Derived.Test.YtlfmkdndioegmaaChecked
import GoSem.Claim
import GoSem.ClaimJoined
import GoSem.ClaimMapViews
import Derived.JoinedTies
import Derived.KernelRfl
namespace Go.Proofs.Ytlfmkdndioegmaa
/- THE CELL 'sum', in the pinned program and in every row, IS THE sha256 OF THE DUMP (.gsa) THAT YtlfmkdndioegmaaProg.lean LOADS. Nothing in Lean hashes anything: it is a label: what it is worth is what the hold of that sum in a sandbox is worth. -/
noncomputable def Try.pinned : Pinned := { name := "ytlfmkdndioegmaa", sum := "82f12d5207fa8de10c93cba938987cb5c7696092c5c2d519bac388955e0ba2c4", checked := Try.checked }
namespace Rows
def none {H : Type} : Left H := { results := [], args := [] }

/-- 'garthlaw09.HandlePacks': WHATEVER THE INPUT: true; the input reads as it did. -/
def handlePacksSpec : ChangeSpec := { name := "handlePacks", fn := fun _ => fun
  | [d] => { results := [.lit (.bool true)], args := [d] }
  | _ => none }
def handlePacksRow : OpenClaim := { program := "ytlfmkdndioegmaa", sum := "82f12d5207fa8de10c93cba938987cb5c7696092c5c2d519bac388955e0ba2c4", func := "garth/garthlaw09.HandlePacks", spec := "handlePacks", apart := false }
def HandlePacksSaid : Prop := handlePacksRow.holds Try.pinned (OpenSpec.ofChange handlePacksSpec)

/-- ITS FALSE NEIGHBOUR: 'it returns false'. Refute it at one input. -/
def handlePacksWrong : ChangeSpec := { name := "handlePacks", fn := fun _ => fun
  | [d] => { results := [.lit (.bool false)], args := [d] }
  | _ => none }
def HandlePacksWrongFalsely : Prop := handlePacksRow.holds Try.pinned (OpenSpec.ofChange handlePacksWrong)

/-- 'garthlaw09.HandleUnpacks': WHATEVER THE INPUT: true; the input reads as it did. -/
def handleUnpacksSpec : ChangeSpec := { name := "handleUnpacks", fn := fun _ => fun
  | [d] => { results := [.lit (.bool true)], args := [d] }
  | _ => none }
def handleUnpacksRow : OpenClaim := { program := "ytlfmkdndioegmaa", sum := "82f12d5207fa8de10c93cba938987cb5c7696092c5c2d519bac388955e0ba2c4", func := "garth/garthlaw09.HandleUnpacks", spec := "handleUnpacks", apart := false }
def HandleUnpacksSaid : Prop := handleUnpacksRow.holds Try.pinned (OpenSpec.ofChange handleUnpacksSpec)

/-- ITS FALSE NEIGHBOUR: 'it returns false'. Refute it at one input. -/
def handleUnpacksWrong : ChangeSpec := { name := "handleUnpacks", fn := fun _ => fun
  | [d] => { results := [.lit (.bool false)], args := [d] }
  | _ => none }
def HandleUnpacksWrongFalsely : Prop := handleUnpacksRow.holds Try.pinned (OpenSpec.ofChange handleUnpacksWrong)

/-- 'garthlaw09.HandleBack': WHATEVER THE INPUT: true; the input reads as it did. -/
def handleBackSpec : ChangeSpec := { name := "handleBack", fn := fun _ => fun
  | [d] => { results := [.lit (.bool true)], args := [d] }
  | _ => none }
def handleBackRow : OpenClaim := { program := "ytlfmkdndioegmaa", sum := "82f12d5207fa8de10c93cba938987cb5c7696092c5c2d519bac388955e0ba2c4", func := "garth/garthlaw09.HandleBack", spec := "handleBack", apart := false }
def HandleBackSaid : Prop := handleBackRow.holds Try.pinned (OpenSpec.ofChange handleBackSpec)

/-- ITS FALSE NEIGHBOUR: 'it returns false'. Refute it at one input. -/
def handleBackWrong : ChangeSpec := { name := "handleBack", fn := fun _ => fun
  | [d] => { results := [.lit (.bool false)], args := [d] }
  | _ => none }
def HandleBackWrongFalsely : Prop := handleBackRow.holds Try.pinned (OpenSpec.ofChange handleBackWrong)

/-- 'garthlaw09.HandleOne': WHATEVER THE INPUT: true; the input reads as it did. -/
def handleOneSpec : ChangeSpec := { name := "handleOne", fn := fun _ => fun
  | [d1, d2, d3] => { results := [.lit (.bool true)], args := [d1, d2, d3] }
  | _ => none }
def handleOneRow : OpenClaim := { program := "ytlfmkdndioegmaa", sum := "82f12d5207fa8de10c93cba938987cb5c7696092c5c2d519bac388955e0ba2c4", func := "garth/garthlaw09.HandleOne", spec := "handleOne", apart := false }
def HandleOneSaid : Prop := handleOneRow.holds Try.pinned (OpenSpec.ofChange handleOneSpec)

/-- ITS FALSE NEIGHBOUR: 'it returns false'. Refute it at one input. -/
def handleOneWrong : ChangeSpec := { name := "handleOne", fn := fun _ => fun
  | [d1, d2, d3] => { results := [.lit (.bool false)], args := [d1, d2, d3] }
  | _ => none }
def HandleOneWrongFalsely : Prop := handleOneRow.holds Try.pinned (OpenSpec.ofChange handleOneWrong)

/-- 'garthlaw09.HandleParts': WHATEVER THE INPUT: true; the input reads as it did. -/
def handlePartsSpec : ChangeSpec := { name := "handleParts", fn := fun _ => fun
  | [d1, d2] => { results := [.lit (.bool true)], args := [d1, d2] }
  | _ => none }
def handlePartsRow : OpenClaim := { program := "ytlfmkdndioegmaa", sum := "82f12d5207fa8de10c93cba938987cb5c7696092c5c2d519bac388955e0ba2c4", func := "garth/garthlaw09.HandleParts", spec := "handleParts", apart := false }
def HandlePartsSaid : Prop := handlePartsRow.holds Try.pinned (OpenSpec.ofChange handlePartsSpec)

/-- ITS FALSE NEIGHBOUR: 'it returns false'. Refute it at one input. -/
def handlePartsWrong : ChangeSpec := { name := "handleParts", fn := fun _ => fun
  | [d1, d2] => { results := [.lit (.bool false)], args := [d1, d2] }
  | _ => none }
def HandlePartsWrongFalsely : Prop := handlePartsRow.holds Try.pinned (OpenSpec.ofChange handlePartsWrong)

/-- 'garthlaw01.ArenaWords': WHATEVER THE INPUT: true; the input reads as it did. -/
def arenaWordsSpec : ChangeSpec := { name := "arenaWords", fn := fun _ => fun
  | [d1, d2, d3] => { results := [.lit (.bool true)], args := [d1, d2, d3] }
  | _ => none }
def arenaWordsRow : OpenClaim := { program := "ytlfmkdndioegmaa", sum := "82f12d5207fa8de10c93cba938987cb5c7696092c5c2d519bac388955e0ba2c4", func := "garth/garthlaw01.ArenaWords", spec := "arenaWords", apart := false }
def ArenaWordsSaid : Prop := arenaWordsRow.holds Try.pinned (OpenSpec.ofChange arenaWordsSpec)

/-- ITS FALSE NEIGHBOUR: 'it returns false'. Refute it at one input. -/
def arenaWordsWrong : ChangeSpec := { name := "arenaWords", fn := fun _ => fun
  | [d1, d2, d3] => { results := [.lit (.bool false)], args := [d1, d2, d3] }
  | _ => none }
def ArenaWordsWrongFalsely : Prop := arenaWordsRow.holds Try.pinned (OpenSpec.ofChange arenaWordsWrong)

/-- 'garthlaw01.ArenaApart': WHATEVER THE INPUT: true; the input reads as it did. -/
def arenaApartSpec : ChangeSpec := { name := "arenaApart", fn := fun _ => fun
  | [d1, d2, d3, d4] => { results := [.lit (.bool true)], args := [d1, d2, d3, d4] }
  | _ => none }
def arenaApartRow : OpenClaim := { program := "ytlfmkdndioegmaa", sum := "82f12d5207fa8de10c93cba938987cb5c7696092c5c2d519bac388955e0ba2c4", func := "garth/garthlaw01.ArenaApart", spec := "arenaApart", apart := false }
def ArenaApartSaid : Prop := arenaApartRow.holds Try.pinned (OpenSpec.ofChange arenaApartSpec)

/-- ITS FALSE NEIGHBOUR: 'it returns false'. Refute it at one input. -/
def arenaApartWrong : ChangeSpec := { name := "arenaApart", fn := fun _ => fun
  | [d1, d2, d3, d4] => { results := [.lit (.bool false)], args := [d1, d2, d3, d4] }
  | _ => none }
def ArenaApartWrongFalsely : Prop := arenaApartRow.holds Try.pinned (OpenSpec.ofChange arenaApartWrong)

/-- 'garthlaw01.ArenaZeroes': WHATEVER THE INPUT: true; the input reads as it did. -/
def arenaZeroesSpec : ChangeSpec := { name := "arenaZeroes", fn := fun _ => fun
  | [d1, d2, d3] => { results := [.lit (.bool true)], args := [d1, d2, d3] }
  | _ => none }
def arenaZeroesRow : OpenClaim := { program := "ytlfmkdndioegmaa", sum := "82f12d5207fa8de10c93cba938987cb5c7696092c5c2d519bac388955e0ba2c4", func := "garth/garthlaw01.ArenaZeroes", spec := "arenaZeroes", apart := false }
def ArenaZeroesSaid : Prop := arenaZeroesRow.holds Try.pinned (OpenSpec.ofChange arenaZeroesSpec)

/-- ITS FALSE NEIGHBOUR: 'it returns false'. Refute it at one input. -/
def arenaZeroesWrong : ChangeSpec := { name := "arenaZeroes", fn := fun _ => fun
  | [d1, d2, d3] => { results := [.lit (.bool false)], args := [d1, d2, d3] }
  | _ => none }
def ArenaZeroesWrongFalsely : Prop := arenaZeroesRow.holds Try.pinned (OpenSpec.ofChange arenaZeroesWrong)

/-- 'garthlaw01.ArenaNotes': WHATEVER THE INPUT: true; the input reads as it did. -/
def arenaNotesSpec : ChangeSpec := { name := "arenaNotes", fn := fun _ => fun
  | [d1, d2, d3, d4] => { results := [.lit (.bool true)], args := [d1, d2, d3, d4] }
  | _ => none }
def arenaNotesRow : OpenClaim := { program := "ytlfmkdndioegmaa", sum := "82f12d5207fa8de10c93cba938987cb5c7696092c5c2d519bac388955e0ba2c4", func := "garth/garthlaw01.ArenaNotes", spec := "arenaNotes", apart := false }
def ArenaNotesSaid : Prop := arenaNotesRow.holds Try.pinned (OpenSpec.ofChange arenaNotesSpec)

/-- ITS FALSE NEIGHBOUR: 'it returns false'. Refute it at one input. -/
def arenaNotesWrong : ChangeSpec := { name := "arenaNotes", fn := fun _ => fun
  | [d1, d2, d3, d4] => { results := [.lit (.bool false)], args := [d1, d2, d3, d4] }
  | _ => none }
def ArenaNotesWrongFalsely : Prop := arenaNotesRow.holds Try.pinned (OpenSpec.ofChange arenaNotesWrong)

/-- 'garthlaw01.ArenaMoves': WHATEVER THE INPUT: true; the input reads as it did. -/
def arenaMovesSpec : ChangeSpec := { name := "arenaMoves", fn := fun _ => fun
  | [d1, d2, d3, d4] => { results := [.lit (.bool true)], args := [d1, d2, d3, d4] }
  | _ => none }
def arenaMovesRow : OpenClaim := { program := "ytlfmkdndioegmaa", sum := "82f12d5207fa8de10c93cba938987cb5c7696092c5c2d519bac388955e0ba2c4", func := "garth/garthlaw01.ArenaMoves", spec := "arenaMoves", apart := false }
def ArenaMovesSaid : Prop := arenaMovesRow.holds Try.pinned (OpenSpec.ofChange arenaMovesSpec)

/-- ITS FALSE NEIGHBOUR: 'it returns false'. Refute it at one input. -/
def arenaMovesWrong : ChangeSpec := { name := "arenaMoves", fn := fun _ => fun
  | [d1, d2, d3, d4] => { results := [.lit (.bool false)], args := [d1, d2, d3, d4] }
  | _ => none }
def ArenaMovesWrongFalsely : Prop := arenaMovesRow.holds Try.pinned (OpenSpec.ofChange arenaMovesWrong)

/-- 'garthlaw01.ArenaPlays': WHATEVER THE INPUT: true; the input reads as it did. -/
def arenaPlaysSpec : ChangeSpec := { name := "arenaPlays", fn := fun _ => fun
  | [d1, d2] => { results := [.lit (.bool true)], args := [d1, d2] }
  | _ => none }
def arenaPlaysRow : OpenClaim := { program := "ytlfmkdndioegmaa", sum := "82f12d5207fa8de10c93cba938987cb5c7696092c5c2d519bac388955e0ba2c4", func := "garth/garthlaw01.ArenaPlays", spec := "arenaPlays", apart := false }
def ArenaPlaysSaid : Prop := arenaPlaysRow.holds Try.pinned (OpenSpec.ofChange arenaPlaysSpec)

/-- ITS FALSE NEIGHBOUR: 'it returns false'. Refute it at one input. -/
def arenaPlaysWrong : ChangeSpec := { name := "arenaPlays", fn := fun _ => fun
  | [d1, d2] => { results := [.lit (.bool false)], args := [d1, d2] }
  | _ => none }
def ArenaPlaysWrongFalsely : Prop := arenaPlaysRow.holds Try.pinned (OpenSpec.ofChange arenaPlaysWrong)

/-- 'garthlaw01.ArenaNil': WHATEVER THE INPUT: true; the input reads as it did. -/
def arenaNilSpec : ChangeSpec := { name := "arenaNil", fn := fun _ => fun
  | [d] => { results := [.lit (.bool true)], args := [d] }
  | _ => none }
def arenaNilRow : OpenClaim := { program := "ytlfmkdndioegmaa", sum := "82f12d5207fa8de10c93cba938987cb5c7696092c5c2d519bac388955e0ba2c4", func := "garth/garthlaw01.ArenaNil", spec := "arenaNil", apart := false }
def ArenaNilSaid : Prop := arenaNilRow.holds Try.pinned (OpenSpec.ofChange arenaNilSpec)

/-- ITS FALSE NEIGHBOUR: 'it returns false'. Refute it at one input. -/
def arenaNilWrong : ChangeSpec := { name := "arenaNil", fn := fun _ => fun
  | [d] => { results := [.lit (.bool false)], args := [d] }
  | _ => none }
def ArenaNilWrongFalsely : Prop := arenaNilRow.holds Try.pinned (OpenSpec.ofChange arenaNilWrong)

/- THE SECOND FORM. 'bulk': how many values and letters a reading holds, each counted each time it is reached (what is shared counts as often as it is met; a slice's spare places count too). A statement '..UptoSaid' is the law's where the arguments, and the package variables that the reading takes, are together of bulk at most 1048576: NARROWER than '..Said'. Prove '..Said' where nothing that the law and all that it calls make is longer than what came in: it says more and counts as full. Else prove '..UptoSaid'. A law counts once. -/
mutual
def uptoBulk {H : Type} : DataW H → Nat
  | .lit (.string bytes) => bytes.length + 1
  | .lit _ => 1
  | .nil => 1
  | .ptr d => uptoBulk d + 1
  | .slice elems spare => uptoBulkAll elems + uptoBulkAll spare + 1
  | .agg parts => uptoBulkAll parts + 1
  | .iface _ d => uptoBulk d + 1
  | .map entries => uptoBulkEntries entries + 1
  | .held _ => 1
def uptoBulkAll {H : Type} : List (DataW H) → Nat
  | [] => 0
  | d :: r => uptoBulk d + uptoBulkAll r
def uptoBulkEntries {H : Type} : List (Lit × DataW H) → Nat
  | [] => 0
  | x :: r => uptoBulkEntry x + uptoBulkEntries r
def uptoBulkEntry {H : Type} : Lit × DataW H → Nat
  | (.string bytes, d) => bytes.length + uptoBulk d + 1
  | (_, d) => uptoBulk d + 1
 end
def uptoSmall : (H : Type) → List (DataW H) → Bool := fun _ ds => decide (uptoBulkAll ds ≤ 1048576)
def OpenSpec.upto (s : _root_.Go.ChangeSpec) : _root_.Go.OpenSpec := { _root_.Go.OpenSpec.ofChange s with cond := some uptoSmall }

/-- 'garthlaw09.HandlePacks', WHERE WHAT IT READS IS OF BULK AT MOST 1048576: true; the input reads as it did. -/
def handlePacksUptoRow : OpenClaim := { program := "ytlfmkdndioegmaa", sum := "82f12d5207fa8de10c93cba938987cb5c7696092c5c2d519bac388955e0ba2c4", func := "garth/garthlaw09.HandlePacks", spec := "handlePacks", apart := false, narrowed := true }
def HandlePacksUptoSaid : Prop := handlePacksUptoRow.holds Try.pinned (OpenSpec.upto handlePacksSpec)

/-- 'garthlaw09.HandleUnpacks', WHERE WHAT IT READS IS OF BULK AT MOST 1048576: true; the input reads as it did. -/
def handleUnpacksUptoRow : OpenClaim := { program := "ytlfmkdndioegmaa", sum := "82f12d5207fa8de10c93cba938987cb5c7696092c5c2d519bac388955e0ba2c4", func := "garth/garthlaw09.HandleUnpacks", spec := "handleUnpacks", apart := false, narrowed := true }
def HandleUnpacksUptoSaid : Prop := handleUnpacksUptoRow.holds Try.pinned (OpenSpec.upto handleUnpacksSpec)

/-- 'garthlaw09.HandleBack', WHERE WHAT IT READS IS OF BULK AT MOST 1048576: true; the input reads as it did. -/
def handleBackUptoRow : OpenClaim := { program := "ytlfmkdndioegmaa", sum := "82f12d5207fa8de10c93cba938987cb5c7696092c5c2d519bac388955e0ba2c4", func := "garth/garthlaw09.HandleBack", spec := "handleBack", apart := false, narrowed := true }
def HandleBackUptoSaid : Prop := handleBackUptoRow.holds Try.pinned (OpenSpec.upto handleBackSpec)

/-- 'garthlaw09.HandleOne', WHERE WHAT IT READS IS OF BULK AT MOST 1048576: true; the input reads as it did. -/
def handleOneUptoRow : OpenClaim := { program := "ytlfmkdndioegmaa", sum := "82f12d5207fa8de10c93cba938987cb5c7696092c5c2d519bac388955e0ba2c4", func := "garth/garthlaw09.HandleOne", spec := "handleOne", apart := false, narrowed := true }
def HandleOneUptoSaid : Prop := handleOneUptoRow.holds Try.pinned (OpenSpec.upto handleOneSpec)

/-- 'garthlaw09.HandleParts', WHERE WHAT IT READS IS OF BULK AT MOST 1048576: true; the input reads as it did. -/
def handlePartsUptoRow : OpenClaim := { program := "ytlfmkdndioegmaa", sum := "82f12d5207fa8de10c93cba938987cb5c7696092c5c2d519bac388955e0ba2c4", func := "garth/garthlaw09.HandleParts", spec := "handleParts", apart := false, narrowed := true }
def HandlePartsUptoSaid : Prop := handlePartsUptoRow.holds Try.pinned (OpenSpec.upto handlePartsSpec)

/-- 'garthlaw01.ArenaWords', WHERE WHAT IT READS IS OF BULK AT MOST 1048576: true; the input reads as it did. -/
def arenaWordsUptoRow : OpenClaim := { program := "ytlfmkdndioegmaa", sum := "82f12d5207fa8de10c93cba938987cb5c7696092c5c2d519bac388955e0ba2c4", func := "garth/garthlaw01.ArenaWords", spec := "arenaWords", apart := false, narrowed := true }
def ArenaWordsUptoSaid : Prop := arenaWordsUptoRow.holds Try.pinned (OpenSpec.upto arenaWordsSpec)

/-- 'garthlaw01.ArenaApart', WHERE WHAT IT READS IS OF BULK AT MOST 1048576: true; the input reads as it did. -/
def arenaApartUptoRow : OpenClaim := { program := "ytlfmkdndioegmaa", sum := "82f12d5207fa8de10c93cba938987cb5c7696092c5c2d519bac388955e0ba2c4", func := "garth/garthlaw01.ArenaApart", spec := "arenaApart", apart := false, narrowed := true }
def ArenaApartUptoSaid : Prop := arenaApartUptoRow.holds Try.pinned (OpenSpec.upto arenaApartSpec)

/-- 'garthlaw01.ArenaZeroes', WHERE WHAT IT READS IS OF BULK AT MOST 1048576: true; the input reads as it did. -/
def arenaZeroesUptoRow : OpenClaim := { program := "ytlfmkdndioegmaa", sum := "82f12d5207fa8de10c93cba938987cb5c7696092c5c2d519bac388955e0ba2c4", func := "garth/garthlaw01.ArenaZeroes", spec := "arenaZeroes", apart := false, narrowed := true }
def ArenaZeroesUptoSaid : Prop := arenaZeroesUptoRow.holds Try.pinned (OpenSpec.upto arenaZeroesSpec)

/-- 'garthlaw01.ArenaNotes', WHERE WHAT IT READS IS OF BULK AT MOST 1048576: true; the input reads as it did. -/
def arenaNotesUptoRow : OpenClaim := { program := "ytlfmkdndioegmaa", sum := "82f12d5207fa8de10c93cba938987cb5c7696092c5c2d519bac388955e0ba2c4", func := "garth/garthlaw01.ArenaNotes", spec := "arenaNotes", apart := false, narrowed := true }
def ArenaNotesUptoSaid : Prop := arenaNotesUptoRow.holds Try.pinned (OpenSpec.upto arenaNotesSpec)

/-- 'garthlaw01.ArenaMoves', WHERE WHAT IT READS IS OF BULK AT MOST 1048576: true; the input reads as it did. -/
def arenaMovesUptoRow : OpenClaim := { program := "ytlfmkdndioegmaa", sum := "82f12d5207fa8de10c93cba938987cb5c7696092c5c2d519bac388955e0ba2c4", func := "garth/garthlaw01.ArenaMoves", spec := "arenaMoves", apart := false, narrowed := true }
def ArenaMovesUptoSaid : Prop := arenaMovesUptoRow.holds Try.pinned (OpenSpec.upto arenaMovesSpec)

/-- 'garthlaw01.ArenaPlays', WHERE WHAT IT READS IS OF BULK AT MOST 1048576: true; the input reads as it did. -/
def arenaPlaysUptoRow : OpenClaim := { program := "ytlfmkdndioegmaa", sum := "82f12d5207fa8de10c93cba938987cb5c7696092c5c2d519bac388955e0ba2c4", func := "garth/garthlaw01.ArenaPlays", spec := "arenaPlays", apart := false, narrowed := true }
def ArenaPlaysUptoSaid : Prop := arenaPlaysUptoRow.holds Try.pinned (OpenSpec.upto arenaPlaysSpec)

/-- 'garthlaw01.ArenaNil', WHERE WHAT IT READS IS OF BULK AT MOST 1048576: true; the input reads as it did. -/
def arenaNilUptoRow : OpenClaim := { program := "ytlfmkdndioegmaa", sum := "82f12d5207fa8de10c93cba938987cb5c7696092c5c2d519bac388955e0ba2c4", func := "garth/garthlaw01.ArenaNil", spec := "arenaNil", apart := false, narrowed := true }
def ArenaNilUptoSaid : Prop := arenaNilUptoRow.holds Try.pinned (OpenSpec.upto arenaNilSpec)

end Rows
end Go.Proofs.Ytlfmkdndioegmaa
