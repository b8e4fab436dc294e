/-
  DERIVED. GIVEN WITH THE SEED: THE CARDS: each row of YtkbgiflmecaffaaDoorRows.lean that lists a variable, with what it lists TIED to the program's text (the seventh form; the later family's looks); each row that meets fmt, with fmt's text TOLD by the authors' own Lean function (tested against real Go, not proved from fmt's source: count such statements apart). THE CARD IS WHAT COUNTS. Prove the row's statement (the work); the ties are given (YtkbgiflmecaffaaDoorTie.lean); close each card by the builder's one call (the guide's Derived/Test/ToyasCard.lean, 'card_holds'). Laid BY PROGRAM, IN A SANDBOX (cutbox-door.mjs). By AI agents, Wed Nov 11 2026. No macro, syntax, notation, axiom, sorry.
-/
import Derived.Test.YtkbgiflmecaffaaDoorRows
import GoSem.ClaimSeven
namespace Go.Proofs.YtkbgiflmecaffaaDoor
namespace Rows

/-- THE TIED CARD OF 'garthlaw10.CapsOnce'. -/
def capsOnceCard : Claim7 := { stood := { row := capsOnceRow, standIns := [], harness := (true, "f8482d78003a21de975e8169741749e2f2bd2526e75654ce833bca98af3bba14"), looks := true }, kinds := [], alts := [], laidByText := true, laidKinds := [.data], laidTests := true, laidLooks := .later }
def CapsOnceCardSaid : Prop := Claim7.holds Tryd.pinned (.plain (OpenSpec.ofChange capsOnceSpec)) capsOnceCard

/-- THE TIED CARD OF 'garthlaw10.CapsForged'. -/
def capsForgedCard : Claim7 := { stood := { row := capsForgedRow, standIns := [], harness := (true, "f8482d78003a21de975e8169741749e2f2bd2526e75654ce833bca98af3bba14"), looks := true }, kinds := [], alts := [], laidByText := true, laidKinds := [.data], laidTests := true, laidLooks := .later }
def CapsForgedCardSaid : Prop := Claim7.holds Tryd.pinned (.plain (OpenSpec.ofChange capsForgedSpec)) capsForgedCard

/-- THE TIED CARD OF 'garthlaw10.CapsMany'. -/
def capsManyCard : Claim7 := { stood := { row := capsManyRow, standIns := [], harness := (true, "f8482d78003a21de975e8169741749e2f2bd2526e75654ce833bca98af3bba14"), looks := true }, kinds := [], alts := [], laidByText := true, laidKinds := [.data], laidTests := true, laidLooks := .later }
def CapsManyCardSaid : Prop := Claim7.holds Tryd.pinned (.plain (OpenSpec.ofChange capsManySpec)) capsManyCard

/-- THE TIED CARD OF 'garthlaw10.CapsRights'. -/
def capsRightsCard : Claim7 := { stood := { row := capsRightsRow, standIns := [], harness := (true, "f8482d78003a21de975e8169741749e2f2bd2526e75654ce833bca98af3bba14"), looks := true }, kinds := [], alts := [], laidByText := true, laidKinds := [.data], laidTests := true, laidLooks := .later }
def CapsRightsCardSaid : Prop := Claim7.holds Tryd.pinned (.plain (OpenSpec.ofChange capsRightsSpec)) capsRightsCard

/-- THE TIED CARD OF 'garthlaw10.CapsPlays'. -/
def capsPlaysCard : Claim7 := { stood := { row := capsPlaysRow, standIns := [], harness := (true, "f8482d78003a21de975e8169741749e2f2bd2526e75654ce833bca98af3bba14"), looks := true }, kinds := [], alts := [], laidByText := true, laidKinds := [.data], laidTests := true, laidLooks := .later }
def CapsPlaysCardSaid : Prop := Claim7.holds Tryd.pinned (.plain (OpenSpec.ofChange capsPlaysSpec)) capsPlaysCard

/-- THE TIED CARD OF 'garthlaw10.CapsNil'. -/
def capsNilCard : Claim7 := { stood := { row := capsNilRow, standIns := [], harness := (true, "f8482d78003a21de975e8169741749e2f2bd2526e75654ce833bca98af3bba14"), looks := true }, kinds := [], alts := [], laidByText := true, laidKinds := [.data], laidTests := true, laidLooks := .later }
def CapsNilCardSaid : Prop := Claim7.holds Tryd.pinned (.plain (OpenSpec.ofChange capsNilSpec)) capsNilCard

/-- THE SECOND FORM's CARD OF 'garthlaw10.CapsOnce'. -/
def capsOnceUptoCard : Claim7 := { stood := { row := capsOnceUptoRow, standIns := [], harness := (true, "f8482d78003a21de975e8169741749e2f2bd2526e75654ce833bca98af3bba14"), looks := true }, kinds := [], alts := [], laidByText := true, laidKinds := [.data], laidTests := true, laidLooks := .later }
def CapsOnceUptoCardSaid : Prop := Claim7.holds Tryd.pinned (.plain (OpenSpec.upto capsOnceSpec)) capsOnceUptoCard

/-- THE SECOND FORM's CARD OF 'garthlaw10.CapsForged'. -/
def capsForgedUptoCard : Claim7 := { stood := { row := capsForgedUptoRow, standIns := [], harness := (true, "f8482d78003a21de975e8169741749e2f2bd2526e75654ce833bca98af3bba14"), looks := true }, kinds := [], alts := [], laidByText := true, laidKinds := [.data], laidTests := true, laidLooks := .later }
def CapsForgedUptoCardSaid : Prop := Claim7.holds Tryd.pinned (.plain (OpenSpec.upto capsForgedSpec)) capsForgedUptoCard

/-- THE SECOND FORM's CARD OF 'garthlaw10.CapsMany'. -/
def capsManyUptoCard : Claim7 := { stood := { row := capsManyUptoRow, standIns := [], harness := (true, "f8482d78003a21de975e8169741749e2f2bd2526e75654ce833bca98af3bba14"), looks := true }, kinds := [], alts := [], laidByText := true, laidKinds := [.data], laidTests := true, laidLooks := .later }
def CapsManyUptoCardSaid : Prop := Claim7.holds Tryd.pinned (.plain (OpenSpec.upto capsManySpec)) capsManyUptoCard

/-- THE SECOND FORM's CARD OF 'garthlaw10.CapsRights'. -/
def capsRightsUptoCard : Claim7 := { stood := { row := capsRightsUptoRow, standIns := [], harness := (true, "f8482d78003a21de975e8169741749e2f2bd2526e75654ce833bca98af3bba14"), looks := true }, kinds := [], alts := [], laidByText := true, laidKinds := [.data], laidTests := true, laidLooks := .later }
def CapsRightsUptoCardSaid : Prop := Claim7.holds Tryd.pinned (.plain (OpenSpec.upto capsRightsSpec)) capsRightsUptoCard

/-- THE SECOND FORM's CARD OF 'garthlaw10.CapsPlays'. -/
def capsPlaysUptoCard : Claim7 := { stood := { row := capsPlaysUptoRow, standIns := [], harness := (true, "f8482d78003a21de975e8169741749e2f2bd2526e75654ce833bca98af3bba14"), looks := true }, kinds := [], alts := [], laidByText := true, laidKinds := [.data], laidTests := true, laidLooks := .later }
def CapsPlaysUptoCardSaid : Prop := Claim7.holds Tryd.pinned (.plain (OpenSpec.upto capsPlaysSpec)) capsPlaysUptoCard

/-- THE SECOND FORM's CARD OF 'garthlaw10.CapsNil'. -/
def capsNilUptoCard : Claim7 := { stood := { row := capsNilUptoRow, standIns := [], harness := (true, "f8482d78003a21de975e8169741749e2f2bd2526e75654ce833bca98af3bba14"), looks := true }, kinds := [], alts := [], laidByText := true, laidKinds := [.data], laidTests := true, laidLooks := .later }
def CapsNilUptoCardSaid : Prop := Claim7.holds Tryd.pinned (.plain (OpenSpec.upto capsNilSpec)) capsNilUptoCard
end Rows
end Go.Proofs.YtkbgiflmecaffaaDoor
