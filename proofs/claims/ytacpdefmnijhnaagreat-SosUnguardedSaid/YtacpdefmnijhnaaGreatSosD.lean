/- The closed facts that the row asks, one by one. -/
import Derived.Test.YtacpdefmnijhnaaGreatRows
import Derived.WalkKit
import Derived.ProofKit
namespace Go.Proofs.YtacpdefmnijhnaaGreat.sosUnguarded
open Go.RowKit
set_option linter.unusedVariables false

theorem j0 : (Rows.sosUnguardedRow.wf (OpenSpec.ofChange Rows.sosUnguardedSpec)) = true := by kernel_rfl
theorem j1 : (laidOutB Tryz.prog) = true := by kernel_rfl
theorem j2 : (mapsRowed Tryz.prog) = true := by kernel_rfl
theorem j3 : (Tryz.f4.params.all (Tryz.prog.readableRec ·)) = true := by kernel_rfl
theorem j4 : (namedTie Tryz.prog Rows.sosUnguardedRow.named Rows.sosUnguardedSpec.vars) = true := by kernel_rfl
theorem j5 : (Rows.sosUnguardedRow.stops == []) = true := by kernel_rfl
theorem j6 : (Tryz.prog.stops == []) = true := by kernel_rfl
theorem j7 : (Rows.sosUnguardedRow.knobs == []) = true := by kernel_rfl
theorem j8 : (Tryz.prog.stopKnobs == []) = true := by kernel_rfl
theorem j9 : (Rows.sosUnguardedRow.inPlace == Tryz.prog.inPlace 4) = true := by kernel_rfl
theorem j10 : (Rows.sosUnguardedRow.unfollowed == Tryz.prog.unfollowed 4) = true := by kernel_rfl
theorem j11 : (Rows.sosUnguardedRow.recurses == Tryz.prog.recurses 4) = true := by kernel_rfl
end Go.Proofs.YtacpdefmnijhnaaGreat.sosUnguarded
