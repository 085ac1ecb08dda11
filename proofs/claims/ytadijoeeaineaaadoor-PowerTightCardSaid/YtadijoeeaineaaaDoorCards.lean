/-
  DERIVED. GIVEN WITH THE SEED: THE CARDS: each row of YtadijoeeaineaaaDoorRows.lean that lists a variable, with what it lists TIED to the program's text (the seventh form; the later family's looks); each row that meets fmt, with fmt's text TOLD by the authors' own Lean function (tested against real Go, not proved from fmt's source: count such statements apart). THE CARD IS WHAT COUNTS. Prove the row's statement (the work); the ties are given (YtadijoeeaineaaaDoorTie.lean); close each card by the builder's one call (the guide's Derived/Test/ToyasCard.lean, 'card_holds'). Laid BY PROGRAM, IN A SANDBOX (cutbox-door.mjs). By AI agents, Wed Nov 11 2026. No macro, syntax, notation, axiom, sorry.
-/
import Derived.Test.YtadijoeeaineaaaDoorRows
import GoSem.ClaimSeven
namespace Go.Proofs.YtadijoeeaineaaaDoor
namespace Rows

/-- THE TIED CARD OF 'vergelaw3.RoundPowers'. -/
def roundPowersCard : Claim7 := { stood := { row := roundPowersRow, standIns := [], harness := (true, "2f4f11afaa460d814865e5c45b0a46781827886d3e9058e1ae88cee1e5d4d4a6"), looks := false }, kinds := [], alts := [], laidByText := true, laidKinds := [.data], laidTests := true, laidLooks := .later }
def RoundPowersCardSaid : Prop := Claim7.holds Tryd.pinned (.plain (OpenSpec.ofChange roundPowersSpec)) roundPowersCard

/-- THE TIED CARD OF 'vergelaw3.RoundRoads'. -/
def roundRoadsCard : Claim7 := { stood := { row := roundRoadsRow, standIns := [], harness := (true, "2f4f11afaa460d814865e5c45b0a46781827886d3e9058e1ae88cee1e5d4d4a6"), looks := false }, kinds := [], alts := [], laidByText := true, laidKinds := [.data], laidTests := true, laidLooks := .later }
def RoundRoadsCardSaid : Prop := Claim7.holds Tryd.pinned (.plain (OpenSpec.ofChange roundRoadsSpec)) roundRoadsCard

/-- THE TIED CARD OF 'vergelaw3.RoundKnown'. -/
def roundKnownCard : Claim7 := { stood := { row := roundKnownRow, standIns := [], harness := (true, "2f4f11afaa460d814865e5c45b0a46781827886d3e9058e1ae88cee1e5d4d4a6"), looks := false }, kinds := [], alts := [], laidByText := true, laidKinds := [.data], laidTests := true, laidLooks := .later }
def RoundKnownCardSaid : Prop := Claim7.holds Tryd.pinned (.plain (OpenSpec.ofChange roundKnownSpec)) roundKnownCard

/-- THE TIED CARD OF 'vergelaw7.PowerTight'. -/
def powerTightCard : Claim7 := { stood := { row := powerTightRow, standIns := [], harness := (true, "2f4f11afaa460d814865e5c45b0a46781827886d3e9058e1ae88cee1e5d4d4a6"), looks := false }, kinds := [], alts := [], laidByText := true, laidKinds := [.data], laidTests := true, laidLooks := .later }
def PowerTightCardSaid : Prop := Claim7.holds Tryd.pinned (.plain (OpenSpec.ofChange powerTightSpec)) powerTightCard

/-- THE TIED CARD OF 'vergelaw7.PowerKnown'. -/
def powerKnownCard : Claim7 := { stood := { row := powerKnownRow, standIns := [], harness := (true, "2f4f11afaa460d814865e5c45b0a46781827886d3e9058e1ae88cee1e5d4d4a6"), looks := false }, kinds := [], alts := [], laidByText := true, laidKinds := [.data], laidTests := true, laidLooks := .later }
def PowerKnownCardSaid : Prop := Claim7.holds Tryd.pinned (.plain (OpenSpec.ofChange powerKnownSpec)) powerKnownCard

/-- THE TIED CARD OF 'vergelaw7.PowerGrows'. -/
def powerGrowsCard : Claim7 := { stood := { row := powerGrowsRow, standIns := [], harness := (true, "2f4f11afaa460d814865e5c45b0a46781827886d3e9058e1ae88cee1e5d4d4a6"), looks := false }, kinds := [], alts := [], laidByText := true, laidKinds := [.data], laidTests := true, laidLooks := .later }
def PowerGrowsCardSaid : Prop := Claim7.holds Tryd.pinned (.plain (OpenSpec.ofChange powerGrowsSpec)) powerGrowsCard

/-- THE SECOND FORM's CARD OF 'vergelaw3.RoundPowers'. -/
def roundPowersUptoCard : Claim7 := { stood := { row := roundPowersUptoRow, standIns := [], harness := (true, "2f4f11afaa460d814865e5c45b0a46781827886d3e9058e1ae88cee1e5d4d4a6"), looks := false }, kinds := [], alts := [], laidByText := true, laidKinds := [.data], laidTests := true, laidLooks := .later }
def RoundPowersUptoCardSaid : Prop := Claim7.holds Tryd.pinned (.plain (OpenSpec.upto roundPowersSpec)) roundPowersUptoCard

/-- THE SECOND FORM's CARD OF 'vergelaw3.RoundRoads'. -/
def roundRoadsUptoCard : Claim7 := { stood := { row := roundRoadsUptoRow, standIns := [], harness := (true, "2f4f11afaa460d814865e5c45b0a46781827886d3e9058e1ae88cee1e5d4d4a6"), looks := false }, kinds := [], alts := [], laidByText := true, laidKinds := [.data], laidTests := true, laidLooks := .later }
def RoundRoadsUptoCardSaid : Prop := Claim7.holds Tryd.pinned (.plain (OpenSpec.upto roundRoadsSpec)) roundRoadsUptoCard

/-- THE SECOND FORM's CARD OF 'vergelaw3.RoundKnown'. -/
def roundKnownUptoCard : Claim7 := { stood := { row := roundKnownUptoRow, standIns := [], harness := (true, "2f4f11afaa460d814865e5c45b0a46781827886d3e9058e1ae88cee1e5d4d4a6"), looks := false }, kinds := [], alts := [], laidByText := true, laidKinds := [.data], laidTests := true, laidLooks := .later }
def RoundKnownUptoCardSaid : Prop := Claim7.holds Tryd.pinned (.plain (OpenSpec.upto roundKnownSpec)) roundKnownUptoCard

/-- THE SECOND FORM's CARD OF 'vergelaw7.PowerTight'. -/
def powerTightUptoCard : Claim7 := { stood := { row := powerTightUptoRow, standIns := [], harness := (true, "2f4f11afaa460d814865e5c45b0a46781827886d3e9058e1ae88cee1e5d4d4a6"), looks := false }, kinds := [], alts := [], laidByText := true, laidKinds := [.data], laidTests := true, laidLooks := .later }
def PowerTightUptoCardSaid : Prop := Claim7.holds Tryd.pinned (.plain (OpenSpec.upto powerTightSpec)) powerTightUptoCard

/-- THE SECOND FORM's CARD OF 'vergelaw7.PowerKnown'. -/
def powerKnownUptoCard : Claim7 := { stood := { row := powerKnownUptoRow, standIns := [], harness := (true, "2f4f11afaa460d814865e5c45b0a46781827886d3e9058e1ae88cee1e5d4d4a6"), looks := false }, kinds := [], alts := [], laidByText := true, laidKinds := [.data], laidTests := true, laidLooks := .later }
def PowerKnownUptoCardSaid : Prop := Claim7.holds Tryd.pinned (.plain (OpenSpec.upto powerKnownSpec)) powerKnownUptoCard

/-- THE SECOND FORM's CARD OF 'vergelaw7.PowerGrows'. -/
def powerGrowsUptoCard : Claim7 := { stood := { row := powerGrowsUptoRow, standIns := [], harness := (true, "2f4f11afaa460d814865e5c45b0a46781827886d3e9058e1ae88cee1e5d4d4a6"), looks := false }, kinds := [], alts := [], laidByText := true, laidKinds := [.data], laidTests := true, laidLooks := .later }
def PowerGrowsUptoCardSaid : Prop := Claim7.holds Tryd.pinned (.plain (OpenSpec.upto powerGrowsSpec)) powerGrowsUptoCard
end Rows
end Go.Proofs.YtadijoeeaineaaaDoor
