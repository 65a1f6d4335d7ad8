/- The closed facts that the row asks, one by one. -/
import Derived.Test.YtnjljcbmmechcaaGreatRows
import Derived.WalkKit
import Derived.ProofKit
namespace Go.Proofs.YtnjljcbmmechcaaGreat.denoteExamples
open Go.RowKit
set_option linter.unusedVariables false

theorem j0 : (Rows.denoteExamplesRow.wf (OpenSpec.ofChange Rows.denoteExamplesSpec)) = true := by kernel_rfl
theorem j1 : (laidOutB Tryz.prog) = true := by kernel_rfl
theorem j2 : (mapsRowed Tryz.prog) = true := by kernel_rfl
theorem j3 : (Tryz.f3.params.all (Tryz.prog.readableRec ·)) = true := by kernel_rfl
theorem j4 : (namedTie Tryz.prog Rows.denoteExamplesRow.named Rows.denoteExamplesSpec.vars) = true := by kernel_rfl
theorem j5 : (Rows.denoteExamplesRow.stops == []) = true := by kernel_rfl
theorem j6 : (Tryz.prog.stops == []) = true := by kernel_rfl
theorem j7 : (Rows.denoteExamplesRow.knobs == []) = true := by kernel_rfl
theorem j8 : (Tryz.prog.stopKnobs == []) = true := by kernel_rfl
theorem j9 : (Rows.denoteExamplesRow.inPlace == Tryz.prog.inPlace 3) = true := by kernel_rfl
theorem j10 : (Rows.denoteExamplesRow.unfollowed == Tryz.prog.unfollowed 3) = true := by kernel_rfl
theorem j11 : (Rows.denoteExamplesRow.recurses == Tryz.prog.recurses 3) = true := by kernel_rfl
end Go.Proofs.YtnjljcbmmechcaaGreat.denoteExamples
