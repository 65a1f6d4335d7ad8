/- The closed facts that the row asks, one by one. -/
import Derived.Test.YtacpdefmnijhnaaGreatRows
import Derived.WalkKit
import Derived.ProofKit
namespace Go.Proofs.YtacpdefmnijhnaaGreat.unfoldChains
open Go.RowKit
set_option linter.unusedVariables false

theorem j0 : (Rows.unfoldChainsRow.wf (OpenSpec.ofChange Rows.unfoldChainsSpec)) = true := by kernel_rfl
theorem j1 : (laidOutB Tryz.prog) = true := by kernel_rfl
theorem j2 : (mapsRowed Tryz.prog) = true := by kernel_rfl
theorem j3 : (Tryz.f3.params.all (Tryz.prog.readableRec ·)) = true := by kernel_rfl
theorem j4 : (namedTie Tryz.prog Rows.unfoldChainsRow.named Rows.unfoldChainsSpec.vars) = true := by kernel_rfl
theorem j5 : (Rows.unfoldChainsRow.stops == []) = true := by kernel_rfl
theorem j6 : (Tryz.prog.stops == []) = true := by kernel_rfl
theorem j7 : (Rows.unfoldChainsRow.knobs == []) = true := by kernel_rfl
theorem j8 : (Tryz.prog.stopKnobs == []) = true := by kernel_rfl
theorem j9 : (Rows.unfoldChainsRow.inPlace == Tryz.prog.inPlace 3) = true := by kernel_rfl
theorem j10 : (Rows.unfoldChainsRow.unfollowed == Tryz.prog.unfollowed 3) = true := by kernel_rfl
theorem j11 : (Rows.unfoldChainsRow.recurses == Tryz.prog.recurses 3) = true := by kernel_rfl
end Go.Proofs.YtacpdefmnijhnaaGreat.unfoldChains
