/- The law WitnessExamples: its run over the evaluator; the machine, the sanity check, strings.Builder and has are known calls. -/
import Derived.Test.YtmojgclminmbfaaGreatDoorWitB
set_option linter.unusedVariables false
namespace Go.Proofs.YtmojgclminmbfaaGreatDoor.Wit
open Abs

/-- The law's run. -/
theorem law_ran : yes (aCall Tryz.prog K3 0 1000 3 [] ⟨0, 0, .e⟩) = true := by kernel_rfl

theorem walk (w : World) : Calls Tryz.prog 3 #[] w fun e w' => e = .returned (.bool true) ∧ ∀ may, w.keptBut w' may := by
  obtain ⟨σ, h⟩ := yes_some law_ran
  exact closed_calls progOk K3_ok h rfl w
end Go.Proofs.YtmojgclminmbfaaGreatDoor.Wit
