/-
  DERIVED. GIVEN WITH THE SEED: THE CARDS: each row of YtadijoeeaineaaaGreatDoorRows.lean that lists a variable, with what it lists TIED to the program's text (the seventh form; the later family's looks); each row that meets fmt, with fmt's text TOLD by the authors' own Lean function (tested against real Go, not proved from fmt's source: count such statements apart). THE CARD IS WHAT COUNTS. Prove the row's statement (the work); the ties are given (YtadijoeeaineaaaGreatDoorTie.lean); close each card by the builder's one call (the guide's Derived/Test/ToyasCard.lean, 'card_holds'). Laid BY PROGRAM, IN A SANDBOX (cutbox-door.mjs). By AI agents, Wed Nov 11 2026. No macro, syntax, notation, axiom, sorry.
-/
import Derived.Test.YtadijoeeaineaaaGreatDoorRows
import GoSem.ClaimSeven
namespace Go.Proofs.YtadijoeeaineaaaGreatDoor
namespace Rows

/-- THE TIED CARD OF 'vergelaw7.PowerPowers'. -/
def powerPowersCard : Claim7 := { stood := { row := powerPowersRow, standIns := [], harness := (true, "b573af9d734a95ffdbf52a360350acb7401781973742bd80e9b95de2aaea525b"), looks := false }, kinds := [], alts := [], laidByText := true, laidKinds := [.data], laidTests := true, laidLooks := .later }
def PowerPowersCardSaid : Prop := Claim7.holds Tryz.pinned (.plain (OpenSpec.ofChange powerPowersSpec)) powerPowersCard

/-- THE TIED CARD OF 'vergelaw7.PowerWhole'. -/
def powerWholeCard : Claim7 := { stood := { row := powerWholeRow, standIns := [], harness := (true, "b573af9d734a95ffdbf52a360350acb7401781973742bd80e9b95de2aaea525b"), looks := false }, kinds := [], alts := [], laidByText := true, laidKinds := [.data], laidTests := true, laidLooks := .later }
def PowerWholeCardSaid : Prop := Claim7.holds Tryz.pinned (.plain (OpenSpec.ofChange powerWholeSpec)) powerWholeCard

/-- THE SECOND FORM's CARD OF 'vergelaw7.PowerPowers'. -/
def powerPowersUptoCard : Claim7 := { stood := { row := powerPowersUptoRow, standIns := [], harness := (true, "b573af9d734a95ffdbf52a360350acb7401781973742bd80e9b95de2aaea525b"), looks := false }, kinds := [], alts := [], laidByText := true, laidKinds := [.data], laidTests := true, laidLooks := .later }
def PowerPowersUptoCardSaid : Prop := Claim7.holds Tryz.pinned (.plain (OpenSpec.upto powerPowersSpec)) powerPowersUptoCard

/-- THE SECOND FORM's CARD OF 'vergelaw7.PowerWhole'. -/
def powerWholeUptoCard : Claim7 := { stood := { row := powerWholeUptoRow, standIns := [], harness := (true, "b573af9d734a95ffdbf52a360350acb7401781973742bd80e9b95de2aaea525b"), looks := false }, kinds := [], alts := [], laidByText := true, laidKinds := [.data], laidTests := true, laidLooks := .later }
def PowerWholeUptoCardSaid : Prop := Claim7.holds Tryz.pinned (.plain (OpenSpec.upto powerWholeSpec)) powerWholeUptoCard
end Rows
end Go.Proofs.YtadijoeeaineaaaGreatDoor
