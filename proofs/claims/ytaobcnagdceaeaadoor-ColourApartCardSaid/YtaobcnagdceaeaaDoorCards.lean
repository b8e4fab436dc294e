/-
  DERIVED. GIVEN WITH THE SEED: THE CARDS: each row of YtaobcnagdceaeaaDoorRows.lean that lists a variable, with what it lists TIED to the program's text (the seventh form; the later family's looks); each row that meets fmt, with fmt's text TOLD by the authors' own Lean function (tested against real Go, not proved from fmt's source: count such statements apart). THE CARD IS WHAT COUNTS. Prove the row's statement (the work); the ties are given (YtaobcnagdceaeaaDoorTie.lean); close each card by the builder's one call (the guide's Derived/Test/ToyasCard.lean, 'card_holds'). Laid BY PROGRAM, IN A SANDBOX (cutbox-door.mjs). By AI agents, Wed Nov 11 2026. No macro, syntax, notation, axiom, sorry.
-/
import Derived.Test.YtaobcnagdceaeaaDoorRows
import GoSem.ClaimSeven
namespace Go.Proofs.YtaobcnagdceaeaaDoor
namespace Rows

/-- THE TIED CARD OF 'garthlaw02.ShelfOrder'. -/
def shelfOrderCard : Claim7 := { stood := { row := shelfOrderRow, standIns := [], harness := (true, "56cff7ebfb6766e15be6f48ddcf6793ba6635215eefbfd0ca77a819aca2f0144"), looks := false }, kinds := [], alts := [], laidByText := true, laidKinds := [.data], laidTests := true, laidLooks := .later }
def ShelfOrderCardSaid : Prop := Claim7.holds Tryd.pinned (.plain (OpenSpec.ofChange shelfOrderSpec)) shelfOrderCard

/-- THE TIED CARD OF 'garthlaw02.ShelfLow'. -/
def shelfLowCard : Claim7 := { stood := { row := shelfLowRow, standIns := [], harness := (true, "56cff7ebfb6766e15be6f48ddcf6793ba6635215eefbfd0ca77a819aca2f0144"), looks := false }, kinds := [], alts := [], laidByText := true, laidKinds := [.data], laidTests := true, laidLooks := .later }
def ShelfLowCardSaid : Prop := Claim7.holds Tryd.pinned (.plain (OpenSpec.ofChange shelfLowSpec)) shelfLowCard

/-- THE TIED CARD OF 'garthlaw02.ShelfCounts'. -/
def shelfCountsCard : Claim7 := { stood := { row := shelfCountsRow, standIns := [], harness := (true, "56cff7ebfb6766e15be6f48ddcf6793ba6635215eefbfd0ca77a819aca2f0144"), looks := false }, kinds := [], alts := [], laidByText := true, laidKinds := [.data], laidTests := true, laidLooks := .later }
def ShelfCountsCardSaid : Prop := Claim7.holds Tryd.pinned (.plain (OpenSpec.ofChange shelfCountsSpec)) shelfCountsCard

/-- THE TIED CARD OF 'garthlaw02.ShelfBack'. -/
def shelfBackCard : Claim7 := { stood := { row := shelfBackRow, standIns := [], harness := (true, "56cff7ebfb6766e15be6f48ddcf6793ba6635215eefbfd0ca77a819aca2f0144"), looks := false }, kinds := [], alts := [], laidByText := true, laidKinds := [.data], laidTests := true, laidLooks := .later }
def ShelfBackCardSaid : Prop := Claim7.holds Tryd.pinned (.plain (OpenSpec.ofChange shelfBackSpec)) shelfBackCard

/-- THE TIED CARD OF 'garthlaw02.ShelfPlays'. -/
def shelfPlaysCard : Claim7 := { stood := { row := shelfPlaysRow, standIns := [], harness := (true, "56cff7ebfb6766e15be6f48ddcf6793ba6635215eefbfd0ca77a819aca2f0144"), looks := false }, kinds := [], alts := [], laidByText := true, laidKinds := [.data], laidTests := true, laidLooks := .later }
def ShelfPlaysCardSaid : Prop := Claim7.holds Tryd.pinned (.plain (OpenSpec.ofChange shelfPlaysSpec)) shelfPlaysCard

/-- THE TIED CARD OF 'garthlaw02.ShelfNil'. -/
def shelfNilCard : Claim7 := { stood := { row := shelfNilRow, standIns := [], harness := (true, "56cff7ebfb6766e15be6f48ddcf6793ba6635215eefbfd0ca77a819aca2f0144"), looks := false }, kinds := [], alts := [], laidByText := true, laidKinds := [.data], laidTests := true, laidLooks := .later }
def ShelfNilCardSaid : Prop := Claim7.holds Tryd.pinned (.plain (OpenSpec.ofChange shelfNilSpec)) shelfNilCard

/-- THE TIED CARD OF 'garthlaw07.ColourAll'. -/
def colourAllCard : Claim7 := { stood := { row := colourAllRow, standIns := [], harness := (true, "56cff7ebfb6766e15be6f48ddcf6793ba6635215eefbfd0ca77a819aca2f0144"), looks := false }, kinds := [], alts := [], laidByText := true, laidKinds := [.data], laidTests := true, laidLooks := .later }
def ColourAllCardSaid : Prop := Claim7.holds Tryd.pinned (.plain (OpenSpec.ofChange colourAllSpec)) colourAllCard

/-- THE TIED CARD OF 'garthlaw07.ColourLow'. -/
def colourLowCard : Claim7 := { stood := { row := colourLowRow, standIns := [], harness := (true, "56cff7ebfb6766e15be6f48ddcf6793ba6635215eefbfd0ca77a819aca2f0144"), looks := false }, kinds := [], alts := [], laidByText := true, laidKinds := [.data], laidTests := true, laidLooks := .later }
def ColourLowCardSaid : Prop := Claim7.holds Tryd.pinned (.plain (OpenSpec.ofChange colourLowSpec)) colourLowCard

/-- THE TIED CARD OF 'garthlaw07.ColourApart'. -/
def colourApartCard : Claim7 := { stood := { row := colourApartRow, standIns := [], harness := (true, "56cff7ebfb6766e15be6f48ddcf6793ba6635215eefbfd0ca77a819aca2f0144"), looks := false }, kinds := [], alts := [], laidByText := true, laidKinds := [.data], laidTests := true, laidLooks := .later }
def ColourApartCardSaid : Prop := Claim7.holds Tryd.pinned (.plain (OpenSpec.ofChange colourApartSpec)) colourApartCard

/-- THE TIED CARD OF 'garthlaw07.ColourPlays'. -/
def colourPlaysCard : Claim7 := { stood := { row := colourPlaysRow, standIns := [], harness := (true, "56cff7ebfb6766e15be6f48ddcf6793ba6635215eefbfd0ca77a819aca2f0144"), looks := false }, kinds := [], alts := [], laidByText := true, laidKinds := [.data], laidTests := true, laidLooks := .later }
def ColourPlaysCardSaid : Prop := Claim7.holds Tryd.pinned (.plain (OpenSpec.ofChange colourPlaysSpec)) colourPlaysCard

/-- THE TIED CARD OF 'garthlaw07.ColourNil'. -/
def colourNilCard : Claim7 := { stood := { row := colourNilRow, standIns := [], harness := (true, "56cff7ebfb6766e15be6f48ddcf6793ba6635215eefbfd0ca77a819aca2f0144"), looks := false }, kinds := [], alts := [], laidByText := true, laidKinds := [.data], laidTests := true, laidLooks := .later }
def ColourNilCardSaid : Prop := Claim7.holds Tryd.pinned (.plain (OpenSpec.ofChange colourNilSpec)) colourNilCard

/-- THE SECOND FORM's CARD OF 'garthlaw02.ShelfOrder'. -/
def shelfOrderUptoCard : Claim7 := { stood := { row := shelfOrderUptoRow, standIns := [], harness := (true, "56cff7ebfb6766e15be6f48ddcf6793ba6635215eefbfd0ca77a819aca2f0144"), looks := false }, kinds := [], alts := [], laidByText := true, laidKinds := [.data], laidTests := true, laidLooks := .later }
def ShelfOrderUptoCardSaid : Prop := Claim7.holds Tryd.pinned (.plain (OpenSpec.upto shelfOrderSpec)) shelfOrderUptoCard

/-- THE SECOND FORM's CARD OF 'garthlaw02.ShelfLow'. -/
def shelfLowUptoCard : Claim7 := { stood := { row := shelfLowUptoRow, standIns := [], harness := (true, "56cff7ebfb6766e15be6f48ddcf6793ba6635215eefbfd0ca77a819aca2f0144"), looks := false }, kinds := [], alts := [], laidByText := true, laidKinds := [.data], laidTests := true, laidLooks := .later }
def ShelfLowUptoCardSaid : Prop := Claim7.holds Tryd.pinned (.plain (OpenSpec.upto shelfLowSpec)) shelfLowUptoCard

/-- THE SECOND FORM's CARD OF 'garthlaw02.ShelfCounts'. -/
def shelfCountsUptoCard : Claim7 := { stood := { row := shelfCountsUptoRow, standIns := [], harness := (true, "56cff7ebfb6766e15be6f48ddcf6793ba6635215eefbfd0ca77a819aca2f0144"), looks := false }, kinds := [], alts := [], laidByText := true, laidKinds := [.data], laidTests := true, laidLooks := .later }
def ShelfCountsUptoCardSaid : Prop := Claim7.holds Tryd.pinned (.plain (OpenSpec.upto shelfCountsSpec)) shelfCountsUptoCard

/-- THE SECOND FORM's CARD OF 'garthlaw02.ShelfBack'. -/
def shelfBackUptoCard : Claim7 := { stood := { row := shelfBackUptoRow, standIns := [], harness := (true, "56cff7ebfb6766e15be6f48ddcf6793ba6635215eefbfd0ca77a819aca2f0144"), looks := false }, kinds := [], alts := [], laidByText := true, laidKinds := [.data], laidTests := true, laidLooks := .later }
def ShelfBackUptoCardSaid : Prop := Claim7.holds Tryd.pinned (.plain (OpenSpec.upto shelfBackSpec)) shelfBackUptoCard

/-- THE SECOND FORM's CARD OF 'garthlaw02.ShelfPlays'. -/
def shelfPlaysUptoCard : Claim7 := { stood := { row := shelfPlaysUptoRow, standIns := [], harness := (true, "56cff7ebfb6766e15be6f48ddcf6793ba6635215eefbfd0ca77a819aca2f0144"), looks := false }, kinds := [], alts := [], laidByText := true, laidKinds := [.data], laidTests := true, laidLooks := .later }
def ShelfPlaysUptoCardSaid : Prop := Claim7.holds Tryd.pinned (.plain (OpenSpec.upto shelfPlaysSpec)) shelfPlaysUptoCard

/-- THE SECOND FORM's CARD OF 'garthlaw02.ShelfNil'. -/
def shelfNilUptoCard : Claim7 := { stood := { row := shelfNilUptoRow, standIns := [], harness := (true, "56cff7ebfb6766e15be6f48ddcf6793ba6635215eefbfd0ca77a819aca2f0144"), looks := false }, kinds := [], alts := [], laidByText := true, laidKinds := [.data], laidTests := true, laidLooks := .later }
def ShelfNilUptoCardSaid : Prop := Claim7.holds Tryd.pinned (.plain (OpenSpec.upto shelfNilSpec)) shelfNilUptoCard

/-- THE SECOND FORM's CARD OF 'garthlaw07.ColourAll'. -/
def colourAllUptoCard : Claim7 := { stood := { row := colourAllUptoRow, standIns := [], harness := (true, "56cff7ebfb6766e15be6f48ddcf6793ba6635215eefbfd0ca77a819aca2f0144"), looks := false }, kinds := [], alts := [], laidByText := true, laidKinds := [.data], laidTests := true, laidLooks := .later }
def ColourAllUptoCardSaid : Prop := Claim7.holds Tryd.pinned (.plain (OpenSpec.upto colourAllSpec)) colourAllUptoCard

/-- THE SECOND FORM's CARD OF 'garthlaw07.ColourLow'. -/
def colourLowUptoCard : Claim7 := { stood := { row := colourLowUptoRow, standIns := [], harness := (true, "56cff7ebfb6766e15be6f48ddcf6793ba6635215eefbfd0ca77a819aca2f0144"), looks := false }, kinds := [], alts := [], laidByText := true, laidKinds := [.data], laidTests := true, laidLooks := .later }
def ColourLowUptoCardSaid : Prop := Claim7.holds Tryd.pinned (.plain (OpenSpec.upto colourLowSpec)) colourLowUptoCard

/-- THE SECOND FORM's CARD OF 'garthlaw07.ColourApart'. -/
def colourApartUptoCard : Claim7 := { stood := { row := colourApartUptoRow, standIns := [], harness := (true, "56cff7ebfb6766e15be6f48ddcf6793ba6635215eefbfd0ca77a819aca2f0144"), looks := false }, kinds := [], alts := [], laidByText := true, laidKinds := [.data], laidTests := true, laidLooks := .later }
def ColourApartUptoCardSaid : Prop := Claim7.holds Tryd.pinned (.plain (OpenSpec.upto colourApartSpec)) colourApartUptoCard

/-- THE SECOND FORM's CARD OF 'garthlaw07.ColourPlays'. -/
def colourPlaysUptoCard : Claim7 := { stood := { row := colourPlaysUptoRow, standIns := [], harness := (true, "56cff7ebfb6766e15be6f48ddcf6793ba6635215eefbfd0ca77a819aca2f0144"), looks := false }, kinds := [], alts := [], laidByText := true, laidKinds := [.data], laidTests := true, laidLooks := .later }
def ColourPlaysUptoCardSaid : Prop := Claim7.holds Tryd.pinned (.plain (OpenSpec.upto colourPlaysSpec)) colourPlaysUptoCard

/-- THE SECOND FORM's CARD OF 'garthlaw07.ColourNil'. -/
def colourNilUptoCard : Claim7 := { stood := { row := colourNilUptoRow, standIns := [], harness := (true, "56cff7ebfb6766e15be6f48ddcf6793ba6635215eefbfd0ca77a819aca2f0144"), looks := false }, kinds := [], alts := [], laidByText := true, laidKinds := [.data], laidTests := true, laidLooks := .later }
def ColourNilUptoCardSaid : Prop := Claim7.holds Tryd.pinned (.plain (OpenSpec.upto colourNilSpec)) colourNilUptoCard
end Rows
end Go.Proofs.YtaobcnagdceaeaaDoor
