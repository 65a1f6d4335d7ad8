/- The sanity check of chapter 39's laws returns true: one run of the evaluator; the machine, strings.Builder and has are known calls. -/
import Derived.Test.YtmojgclminmbfaaGreatDoorWitA
import Derived.Test.YtmojgclminmbfaaGreatDoorBldr
set_option linter.unusedVariables false
namespace Go.Proofs.YtmojgclminmbfaaGreatDoor.Wit
open Abs

noncomputable def K2 : Tbl := Bldr.withBldr (K1.move 5 [] smallV smallB)
theorem K2_ok : KOk Tryz.prog K2 := Bldr.withBldr_ok (KOk.move progOk K1_ok rfl ran)

noncomputable def yes (o : Option (Value × AS)) : Bool := match o with | some (.bool true, _) => true | _ => false

theorem yes_some {o : Option (Value × AS)} (h : yes o = true) : ∃ σ, o = some (.bool true, σ) := by
  unfold yes at h
  split at h
  · exact ⟨_, rfl⟩
  · cases h

theorem sane_ran : yes (aCall Tryz.prog K2 0 1000 9 [] ⟨0, 0, .e⟩) = true := by kernel_rfl

noncomputable def K3 : Tbl := K2.add 9 [] (.bool true)
theorem K3_ok : KOk Tryz.prog K3 := by
  obtain ⟨σ, h⟩ := yes_some sane_ran
  exact KOk.add progOk K2_ok rfl h rfl
end Go.Proofs.YtmojgclminmbfaaGreatDoor.Wit
