/- Law 18: what is left of Eval, from the functions 27 to 31: each by its own run. -/
import Derived.Test.YtacpdefmnijhnaaGreatVK
set_option linter.unusedVariables false
namespace Go.Proofs.YtacpdefmnijhnaaGreat.U18
open Abs U
theorem to27 (d : Nat) : evTo d 27 = true := by kernel_rfl
theorem to28 (d : Nat) : evTo d 28 = true := by kernel_rfl
theorem to29 (d : Nat) : evTo d 29 = true := by kernel_rfl
theorem to30 (d : Nat) : evTo d 30 = true := by kernel_rfl
theorem to31 (d : Nat) : evTo d 31 = true := by kernel_rfl
theorem toAll27 (d i : Nat) (h1 : 27 ≤ i) (h2 : i < 32) : evTo d i = true := by
  have h : i = 27 ∨ i = 28 ∨ i = 29 ∨ i = 30 ∨ i = 31 := by omega
  rcases h with rfl | rfl | rfl | rfl | rfl
  · exact to27 d
  · exact to28 d
  · exact to29 d
  · exact to30 d
  · exact to31 d
end Go.Proofs.YtacpdefmnijhnaaGreat.U18
