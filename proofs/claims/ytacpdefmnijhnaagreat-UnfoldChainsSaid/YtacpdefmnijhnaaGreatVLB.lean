/- Law 18: what is left of Eval, from the functions 14 to 20: each by its own run. -/
import Derived.Test.YtacpdefmnijhnaaGreatVK
set_option linter.unusedVariables false
namespace Go.Proofs.YtacpdefmnijhnaaGreat.U18
open Abs U
theorem to14 (d : Nat) : evTo d 14 = true := by kernel_rfl
theorem to15 (d : Nat) : evTo d 15 = true := by kernel_rfl
theorem to16 (d : Nat) : evTo d 16 = true := by kernel_rfl
theorem to17 (d : Nat) : evTo d 17 = true := by kernel_rfl
theorem to18 (d : Nat) : evTo d 18 = true := by kernel_rfl
theorem to19 (d : Nat) : evTo d 19 = true := by kernel_rfl
theorem to20 (d : Nat) : evTo d 20 = true := by kernel_rfl
theorem toAll14 (d i : Nat) (h1 : 14 ≤ i) (h2 : i < 21) : evTo d i = true := by
  have h : i = 14 ∨ i = 15 ∨ i = 16 ∨ i = 17 ∨ i = 18 ∨ i = 19 ∨ i = 20 := by omega
  rcases h with rfl | rfl | rfl | rfl | rfl | rfl | rfl
  · exact to14 d
  · exact to15 d
  · exact to16 d
  · exact to17 d
  · exact to18 d
  · exact to19 d
  · exact to20 d
end Go.Proofs.YtacpdefmnijhnaaGreat.U18
