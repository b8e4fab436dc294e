/-
  DERIVED. GIVEN WITH THE SEED: THE CARDS: each row of YtpnbcakbefplpaaGreatDoorRows.lean that lists a variable, with what it lists TIED to the program's text (the seventh form; the later family's looks); each row that meets fmt, with fmt's text TOLD by the authors' own Lean function (tested against real Go, not proved from fmt's source: count such statements apart). THE CARD IS WHAT COUNTS. Prove the row's statement (the work); the ties are given (YtpnbcakbefplpaaGreatDoorTie.lean); close each card by the builder's one call (the guide's Derived/Test/ToyasCard.lean, 'card_holds'). Laid BY PROGRAM, IN A SANDBOX (cutbox-door.mjs). By AI agents, Wed Nov 11 2026. No macro, syntax, notation, axiom, sorry.
-/
import Derived.Test.YtpnbcakbefplpaaGreatDoorRows
import GoSem.ClaimSeven
namespace Go.Proofs.YtpnbcakbefplpaaGreatDoor
namespace Rows

/-- THE TIED CARD OF 'garthtop.TopColours'. -/
def topColoursCard : Claim7 := { stood := { row := topColoursRow, standIns := [], harness := (true, "53f9452c992c96529404891bfb0a92881c98396f9d605ef7720c48dbd765aab9"), looks := false }, kinds := [], alts := [], laidByText := true, laidKinds := [.data], laidTests := true, laidLooks := .later }
def TopColoursCardSaid : Prop := Claim7.holds Tryz.pinned (.plain (OpenSpec.ofChange topColoursSpec)) topColoursCard

/-- THE TIED CARD OF 'garthtop.TopConfined'. -/
def topConfinedCard : Claim7 := { stood := { row := topConfinedRow, standIns := [], harness := (true, "53f9452c992c96529404891bfb0a92881c98396f9d605ef7720c48dbd765aab9"), looks := false }, kinds := [], alts := [], laidByText := true, laidKinds := [.data], laidTests := true, laidLooks := .later }
def TopConfinedCardSaid : Prop := Claim7.holds Tryz.pinned (.plain (OpenSpec.ofChange topConfinedSpec)) topConfinedCard

/-- THE TIED CARD OF 'garthtop.TopFull'. -/
def topFullCard : Claim7 := { stood := { row := topFullRow, standIns := [], harness := (true, "53f9452c992c96529404891bfb0a92881c98396f9d605ef7720c48dbd765aab9"), looks := false }, kinds := [], alts := [], laidByText := true, laidKinds := [.data], laidTests := true, laidLooks := .later }
def TopFullCardSaid : Prop := Claim7.holds Tryz.pinned (.plain (OpenSpec.ofChange topFullSpec)) topFullCard

/-- THE TIED CARD OF 'garthtop.TopRoom'. -/
def topRoomCard : Claim7 := { stood := { row := topRoomRow, standIns := [], harness := (true, "53f9452c992c96529404891bfb0a92881c98396f9d605ef7720c48dbd765aab9"), looks := false }, kinds := [], alts := [], laidByText := true, laidKinds := [.data], laidTests := true, laidLooks := .later }
def TopRoomCardSaid : Prop := Claim7.holds Tryz.pinned (.plain (OpenSpec.ofChange topRoomSpec)) topRoomCard

/-- THE TIED CARD OF 'garthtop.TopScript'. -/
def topScriptCard : Claim7 := { stood := { row := topScriptRow, standIns := [], harness := (true, "53f9452c992c96529404891bfb0a92881c98396f9d605ef7720c48dbd765aab9"), looks := false }, kinds := [], alts := [], laidByText := true, laidKinds := [.data], laidTests := true, laidLooks := .later }
def TopScriptCardSaid : Prop := Claim7.holds Tryz.pinned (.plain (OpenSpec.ofChange topScriptSpec)) topScriptCard

/-- THE TIED CARD OF 'garthtop.TopDestroyed'. -/
def topDestroyedCard : Claim7 := { stood := { row := topDestroyedRow, standIns := [], harness := (true, "53f9452c992c96529404891bfb0a92881c98396f9d605ef7720c48dbd765aab9"), looks := false }, kinds := [], alts := [], laidByText := true, laidKinds := [.data], laidTests := true, laidLooks := .later }
def TopDestroyedCardSaid : Prop := Claim7.holds Tryz.pinned (.plain (OpenSpec.ofChange topDestroyedSpec)) topDestroyedCard

/-- THE SECOND FORM's CARD OF 'garthtop.TopColours'. -/
def topColoursUptoCard : Claim7 := { stood := { row := topColoursUptoRow, standIns := [], harness := (true, "53f9452c992c96529404891bfb0a92881c98396f9d605ef7720c48dbd765aab9"), looks := false }, kinds := [], alts := [], laidByText := true, laidKinds := [.data], laidTests := true, laidLooks := .later }
def TopColoursUptoCardSaid : Prop := Claim7.holds Tryz.pinned (.plain (OpenSpec.upto topColoursSpec)) topColoursUptoCard

/-- THE SECOND FORM's CARD OF 'garthtop.TopConfined'. -/
def topConfinedUptoCard : Claim7 := { stood := { row := topConfinedUptoRow, standIns := [], harness := (true, "53f9452c992c96529404891bfb0a92881c98396f9d605ef7720c48dbd765aab9"), looks := false }, kinds := [], alts := [], laidByText := true, laidKinds := [.data], laidTests := true, laidLooks := .later }
def TopConfinedUptoCardSaid : Prop := Claim7.holds Tryz.pinned (.plain (OpenSpec.upto topConfinedSpec)) topConfinedUptoCard

/-- THE SECOND FORM's CARD OF 'garthtop.TopFull'. -/
def topFullUptoCard : Claim7 := { stood := { row := topFullUptoRow, standIns := [], harness := (true, "53f9452c992c96529404891bfb0a92881c98396f9d605ef7720c48dbd765aab9"), looks := false }, kinds := [], alts := [], laidByText := true, laidKinds := [.data], laidTests := true, laidLooks := .later }
def TopFullUptoCardSaid : Prop := Claim7.holds Tryz.pinned (.plain (OpenSpec.upto topFullSpec)) topFullUptoCard

/-- THE SECOND FORM's CARD OF 'garthtop.TopRoom'. -/
def topRoomUptoCard : Claim7 := { stood := { row := topRoomUptoRow, standIns := [], harness := (true, "53f9452c992c96529404891bfb0a92881c98396f9d605ef7720c48dbd765aab9"), looks := false }, kinds := [], alts := [], laidByText := true, laidKinds := [.data], laidTests := true, laidLooks := .later }
def TopRoomUptoCardSaid : Prop := Claim7.holds Tryz.pinned (.plain (OpenSpec.upto topRoomSpec)) topRoomUptoCard

/-- THE SECOND FORM's CARD OF 'garthtop.TopScript'. -/
def topScriptUptoCard : Claim7 := { stood := { row := topScriptUptoRow, standIns := [], harness := (true, "53f9452c992c96529404891bfb0a92881c98396f9d605ef7720c48dbd765aab9"), looks := false }, kinds := [], alts := [], laidByText := true, laidKinds := [.data], laidTests := true, laidLooks := .later }
def TopScriptUptoCardSaid : Prop := Claim7.holds Tryz.pinned (.plain (OpenSpec.upto topScriptSpec)) topScriptUptoCard

/-- THE SECOND FORM's CARD OF 'garthtop.TopDestroyed'. -/
def topDestroyedUptoCard : Claim7 := { stood := { row := topDestroyedUptoRow, standIns := [], harness := (true, "53f9452c992c96529404891bfb0a92881c98396f9d605ef7720c48dbd765aab9"), looks := false }, kinds := [], alts := [], laidByText := true, laidKinds := [.data], laidTests := true, laidLooks := .later }
def TopDestroyedUptoCardSaid : Prop := Claim7.holds Tryz.pinned (.plain (OpenSpec.upto topDestroyedSpec)) topDestroyedUptoCard
end Rows
end Go.Proofs.YtpnbcakbefplpaaGreatDoor
