/- The law's run: the table of known calls makes it short. -/
import Derived.Test.YtnjljcbmmechcaaGreatDenB
set_option linter.unusedVariables false
namespace Go.Proofs.YtnjljcbmmechcaaGreat.Den
open Abs

noncomputable def yes (o : Option (Value × AS)) : Bool := match o with | some (.bool true, _) => true | _ => false

theorem yes_some {o : Option (Value × AS)} (h : yes o = true) : ∃ σ, o = some (.bool true, σ) := by
  unfold yes at h
  split at h
  · exact ⟨_, rfl⟩
  · cases h

/-- The law's run. -/
theorem ran : yes (aCall Tryz.prog KT 0 1000 3 [] ⟨0, 0, .e⟩) = true := by kernel_rfl

theorem walk (w : World) : Calls Tryz.prog 3 #[] w fun e w' => e = .returned (.bool true) ∧ ∀ may, w.keptBut w' may := by
  obtain ⟨σ, h⟩ := yes_some ran
  exact closed_calls progOk KT_ok h rfl w

end Go.Proofs.YtnjljcbmmechcaaGreat.Den
