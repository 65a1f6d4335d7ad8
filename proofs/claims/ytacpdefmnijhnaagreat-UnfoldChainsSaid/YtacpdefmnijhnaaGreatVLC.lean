/- Law 18: what is left of Eval, from the functions 21 to 26: each by its own run. -/
import Derived.Test.YtacpdefmnijhnaaGreatVK
set_option linter.unusedVariables false
namespace Go.Proofs.YtacpdefmnijhnaaGreat.U18
open Abs U
theorem to21 (d : Nat) : evTo d 21 = true := by kernel_rfl
theorem to22 (d : Nat) : evTo d 22 = true := by kernel_rfl
theorem to23 (d : Nat) : evTo d 23 = true := by kernel_rfl
theorem to24 (d : Nat) : evTo d 24 = true := by kernel_rfl
theorem to25 (d : Nat) : evTo d 25 = true := by kernel_rfl
theorem to26 (d : Nat) : evTo d 26 = true := by kernel_rfl
theorem toAll21 (d i : Nat) (h1 : 21 ≤ i) (h2 : i < 27) : evTo d i = true := by
  have h : i = 21 ∨ i = 22 ∨ i = 23 ∨ i = 24 ∨ i = 25 ∨ i = 26 := by omega
  rcases h with rfl | rfl | rfl | rfl | rfl | rfl
  · exact to21 d
  · exact to22 d
  · exact to23 d
  · exact to24 d
  · exact to25 d
  · exact to26 d
end Go.Proofs.YtacpdefmnijhnaaGreat.U18
