/- The closed facts that the row asks, one by one. -/
import Derived.Test.YtacpdefmnijhnaaGreatRows
import Derived.WalkKit
import Derived.ProofKit
namespace Go.Proofs.YtacpdefmnijhnaaGreat.exploreCanonIdempotent
open Go.RowKit
set_option linter.unusedVariables false

theorem j0 : (Rows.exploreCanonIdempotentRow.wf (OpenSpec.ofChange Rows.exploreCanonIdempotentSpec)) = true := by kernel_rfl
theorem j1 : (laidOutB Tryz.prog) = true := by kernel_rfl
theorem j2 : (mapsRowed Tryz.prog) = true := by kernel_rfl
theorem j3 : (Tryz.f5.params.all (Tryz.prog.readableRec ·)) = true := by kernel_rfl
theorem j4 : (namedTie Tryz.prog Rows.exploreCanonIdempotentRow.named Rows.exploreCanonIdempotentSpec.vars) = true := by kernel_rfl
theorem j5 : (Rows.exploreCanonIdempotentRow.stops == []) = true := by kernel_rfl
theorem j6 : (Tryz.prog.stops == []) = true := by kernel_rfl
theorem j7 : (Rows.exploreCanonIdempotentRow.knobs == []) = true := by kernel_rfl
theorem j8 : (Tryz.prog.stopKnobs == []) = true := by kernel_rfl
theorem j9 : (Rows.exploreCanonIdempotentRow.inPlace == Tryz.prog.inPlace 5) = true := by kernel_rfl
theorem j10 : (Rows.exploreCanonIdempotentRow.unfollowed == Tryz.prog.unfollowed 5) = true := by kernel_rfl
theorem j11 : (Rows.exploreCanonIdempotentRow.recurses == Tryz.prog.recurses 5) = true := by kernel_rfl
end Go.Proofs.YtacpdefmnijhnaaGreat.exploreCanonIdempotent
