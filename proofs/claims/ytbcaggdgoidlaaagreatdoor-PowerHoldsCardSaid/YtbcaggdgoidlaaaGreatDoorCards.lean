/-
  DERIVED. GIVEN WITH THE SEED: THE CARDS: each row of YtbcaggdgoidlaaaGreatDoorRows.lean that lists a variable, with what it lists TIED to the program's text (the seventh form; the later family's looks); each row that meets fmt, with fmt's text TOLD by the authors' own Lean function (tested against real Go, not proved from fmt's source: count such statements apart). THE CARD IS WHAT COUNTS. Prove the row's statement (the work); the ties are given (YtbcaggdgoidlaaaGreatDoorTie.lean); close each card by the builder's one call (the guide's Derived/Test/ToyasCard.lean, 'card_holds'). Laid BY PROGRAM, IN A SANDBOX (cutbox-door.mjs). By AI agents, Wed Nov 11 2026. No macro, syntax, notation, axiom, sorry.
-/
import Derived.Test.YtbcaggdgoidlaaaGreatDoorRows
import GoSem.ClaimSeven
namespace Go.Proofs.YtbcaggdgoidlaaaGreatDoor
namespace Rows

/-- THE TIED CARD OF 'vergelaw7.PowerHolds'. -/
def powerHoldsCard : Claim7 := { stood := { row := powerHoldsRow, standIns := [], harness := (true, "63e766b644a94b084f0aa21b2ebb6650fb8d466a83523269b4580e65e4f5a10e"), looks := false }, kinds := [], alts := [], laidByText := true, laidKinds := [.data], laidTests := true, laidLooks := .later }
def PowerHoldsCardSaid : Prop := Claim7.holds Tryz.pinned (.plain (OpenSpec.ofChange powerHoldsSpec)) powerHoldsCard

/-- THE SECOND FORM's CARD OF 'vergelaw7.PowerHolds'. -/
def powerHoldsUptoCard : Claim7 := { stood := { row := powerHoldsUptoRow, standIns := [], harness := (true, "63e766b644a94b084f0aa21b2ebb6650fb8d466a83523269b4580e65e4f5a10e"), looks := false }, kinds := [], alts := [], laidByText := true, laidKinds := [.data], laidTests := true, laidLooks := .later }
def PowerHoldsUptoCardSaid : Prop := Claim7.holds Tryz.pinned (.plain (OpenSpec.upto powerHoldsSpec)) powerHoldsUptoCard
end Rows
end Go.Proofs.YtbcaggdgoidlaaaGreatDoor
