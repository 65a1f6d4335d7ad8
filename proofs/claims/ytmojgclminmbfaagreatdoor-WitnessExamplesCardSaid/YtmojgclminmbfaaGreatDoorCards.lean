/-
  DERIVED. GIVEN WITH THE SEED: THE CARDS: each row of YtmojgclminmbfaaGreatDoorRows.lean that lists a variable, with what it lists TIED to the program's text (the seventh form; the later family's looks); each row that meets fmt, with fmt's text TOLD by the authors' own Lean function (tested against real Go, not proved from fmt's source: count such statements apart). THE CARD IS WHAT COUNTS. Prove the row's statement (the work); the ties are given (YtmojgclminmbfaaGreatDoorTie.lean); close each card by the builder's one call (the guide's Derived/Test/ToyasCard.lean, 'card_holds'). Laid BY PROGRAM, IN A SANDBOX (cutbox-door.mjs). By AI agents, Wed Nov 11 2026. No macro, syntax, notation, axiom, sorry.
-/
import Derived.Test.YtmojgclminmbfaaGreatDoorRows
import GoSem.ClaimSeven
namespace Go.Proofs.YtmojgclminmbfaaGreatDoor
namespace Rows

/-- THE TIED CARD OF 'cspchecklaw39.WitnessExamples'. -/
def witnessExamplesCard : Claim7 := { stood := { row := witnessExamplesRow, standIns := [], harness := (true, "e0674e532461b7c9496dca1667c7d80a1145a20ef39d93b1dd70f7e02ce59093"), looks := false }, kinds := [], alts := [], laidByText := true, laidKinds := [.data, .data, .data], laidTests := true, laidLooks := .later }
def WitnessExamplesCardSaid : Prop := Claim7.holds Tryz.pinned (.plain (OpenSpec.ofChange witnessExamplesSpec)) witnessExamplesCard

/-- THE SECOND FORM's CARD OF 'cspchecklaw39.WitnessExamples'. -/
def witnessExamplesUptoCard : Claim7 := { stood := { row := witnessExamplesUptoRow, standIns := [], harness := (true, "e0674e532461b7c9496dca1667c7d80a1145a20ef39d93b1dd70f7e02ce59093"), looks := false }, kinds := [], alts := [], laidByText := true, laidKinds := [.data, .data, .data], laidTests := true, laidLooks := .later }
def WitnessExamplesUptoCardSaid : Prop := Claim7.holds Tryz.pinned (.plain (OpenSpec.upto witnessExamplesSpec)) witnessExamplesUptoCard
end Rows
end Go.Proofs.YtmojgclminmbfaaGreatDoor
