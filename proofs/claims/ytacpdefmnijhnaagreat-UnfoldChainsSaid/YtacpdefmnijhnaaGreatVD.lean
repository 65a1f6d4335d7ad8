/- Law 18: the chains from 28 on: each by its own run. -/
import Derived.Test.YtacpdefmnijhnaaGreatVB
set_option linter.unusedVariables false
namespace Go.Proofs.YtacpdefmnijhnaaGreat.U18
open Abs U
theorem ch28 : chks 28 2 = true := by kernel_rfl
theorem ch30 : chks 30 2 = true := by kernel_rfl
theorem ch32 : chks 32 2 = true := by kernel_rfl
theorem ch34 : chks 34 2 = true := by kernel_rfl
theorem ch36 : chks 36 2 = true := by kernel_rfl
theorem ch38 : chks 38 2 = true := by kernel_rfl
theorem chain28 (k : Nat) (h1 : 28 ≤ k) (h2 : k < 40) : chk k = true := by
  by_cases h28 : k < 30
  · exact chk_of ch28 (by omega) (by omega)
  by_cases h30 : k < 32
  · exact chk_of ch30 (by omega) (by omega)
  by_cases h32 : k < 34
  · exact chk_of ch32 (by omega) (by omega)
  by_cases h34 : k < 36
  · exact chk_of ch34 (by omega) (by omega)
  by_cases h36 : k < 38
  · exact chk_of ch36 (by omega) (by omega)
  exact chk_of ch38 (by omega) (by omega)
end Go.Proofs.YtacpdefmnijhnaaGreat.U18
