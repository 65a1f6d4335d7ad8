/-
  DERIVED. GIVEN WITH THE SEED: THE CARDS: each row of YteangeffgjolpaaGreatDoorRows.lean that lists a variable, with what it lists TIED to the program's text (the seventh form; the later family's looks); each row that meets fmt, with fmt's text TOLD by the authors' own Lean function (tested against real Go, not proved from fmt's source: count such statements apart). THE CARD IS WHAT COUNTS. Prove the row's statement (the work); the ties are given (YteangeffgjolpaaGreatDoorTie.lean); close each card by the builder's one call (the guide's Derived/Test/ToyasCard.lean, 'card_holds'). Laid BY PROGRAM, IN A SANDBOX (cutbox-door.mjs). By AI agents, Wed Nov 11 2026. No macro, syntax, notation, axiom, sorry.
-/
import Derived.Test.YteangeffgjolpaaGreatDoorRows
import GoSem.ClaimSeven
namespace Go.Proofs.YteangeffgjolpaaGreatDoor
namespace Rows

/-- THE TIED CARD OF 'cspchecklaw38.NestedMachine'. -/
def nestedMachineCard : Claim7 := { stood := { row := nestedMachineRow, standIns := [], harness := (true, "f3b2bb7de350deb02766da5769062c4a01fa42a4f04ae929726eacec6fdbb911"), looks := false }, kinds := [], alts := [], laidByText := true, laidKinds := [.data, .data, .data], laidTests := true, laidLooks := .later }
def NestedMachineCardSaid : Prop := Claim7.holds Tryz.pinned (.plain (OpenSpec.ofChange nestedMachineSpec)) nestedMachineCard

/-- THE SECOND FORM's CARD OF 'cspchecklaw38.NestedMachine'. -/
def nestedMachineUptoCard : Claim7 := { stood := { row := nestedMachineUptoRow, standIns := [], harness := (true, "f3b2bb7de350deb02766da5769062c4a01fa42a4f04ae929726eacec6fdbb911"), looks := false }, kinds := [], alts := [], laidByText := true, laidKinds := [.data, .data, .data], laidTests := true, laidLooks := .later }
def NestedMachineUptoCardSaid : Prop := Claim7.holds Tryz.pinned (.plain (OpenSpec.upto nestedMachineSpec)) nestedMachineUptoCard
end Rows
end Go.Proofs.YteangeffgjolpaaGreatDoor
