/- Law 18: the chains from 0 on: each by its own run. -/
import Derived.Test.YtacpdefmnijhnaaGreatVB
set_option linter.unusedVariables false
namespace Go.Proofs.YtacpdefmnijhnaaGreat.U18
open Abs U
theorem ch0 : chks 0 10 = true := by kernel_rfl
theorem ch10 : chks 10 6 = true := by kernel_rfl
theorem ch16 : chks 16 4 = true := by kernel_rfl
theorem ch20 : chks 20 4 = true := by kernel_rfl
theorem ch24 : chks 24 3 = true := by kernel_rfl
theorem ch27 : chks 27 1 = true := by kernel_rfl
theorem chain0 (k : Nat) (h1 : 0 ≤ k) (h2 : k < 28) : chk k = true := by
  by_cases h0 : k < 10
  · exact chk_of ch0 (by omega) (by omega)
  by_cases h10 : k < 16
  · exact chk_of ch10 (by omega) (by omega)
  by_cases h16 : k < 20
  · exact chk_of ch16 (by omega) (by omega)
  by_cases h20 : k < 24
  · exact chk_of ch20 (by omega) (by omega)
  by_cases h24 : k < 27
  · exact chk_of ch24 (by omega) (by omega)
  exact chk_of ch27 (by omega) (by omega)
end Go.Proofs.YtacpdefmnijhnaaGreat.U18
