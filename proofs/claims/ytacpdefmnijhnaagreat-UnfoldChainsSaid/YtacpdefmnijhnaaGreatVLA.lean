/- Law 18: what is left of Eval, from the functions 0 to 13: each by its own run. -/
import Derived.Test.YtacpdefmnijhnaaGreatVK
set_option linter.unusedVariables false
namespace Go.Proofs.YtacpdefmnijhnaaGreat.U18
open Abs U
theorem to0 (d : Nat) : evTo d 0 = true := by kernel_rfl
theorem to1 (d : Nat) : evTo d 1 = true := by kernel_rfl
theorem to2 (d : Nat) : evTo d 2 = true := by kernel_rfl
theorem to3 (d : Nat) : evTo d 3 = true := by kernel_rfl
theorem to4 (d : Nat) : evTo d 4 = true := by kernel_rfl
theorem to5 (d : Nat) : evTo d 5 = true := by kernel_rfl
theorem to6 (d : Nat) : evTo d 6 = true := by kernel_rfl
theorem to7 (d : Nat) : evTo d 7 = true := by kernel_rfl
theorem to8 (d : Nat) : evTo d 8 = true := by kernel_rfl
theorem to9 (d : Nat) : evTo d 9 = true := by kernel_rfl
theorem to10 (d : Nat) : evTo d 10 = true := by kernel_rfl
theorem to11 (d : Nat) : evTo d 11 = true := by kernel_rfl
theorem to12 (d : Nat) : evTo d 12 = true := by kernel_rfl
theorem to13 (d : Nat) : evTo d 13 = true := by kernel_rfl
theorem stA (d : Nat) : allBelow (fun i => evRun i (d + (i + 1)) 54 1 stopS) 16 = true := by kernel_rfl
theorem stB (d : Nat) : allBelow (fun i => evRun (16 + i) (d + (16 + i + 1)) 54 1 stopS) 16 = true := by kernel_rfl
theorem toAll0 (d i : Nat) (h1 : 0 ≤ i) (h2 : i < 14) : evTo d i = true := by
  match i, h1, h2 with
  | 0, _, _ => exact to0 d
  | 1, _, _ => exact to1 d
  | 2, _, _ => exact to2 d
  | 3, _, _ => exact to3 d
  | 4, _, _ => exact to4 d
  | 5, _, _ => exact to5 d
  | 6, _, _ => exact to6 d
  | 7, _, _ => exact to7 d
  | 8, _, _ => exact to8 d
  | 9, _, _ => exact to9 d
  | 10, _, _ => exact to10 d
  | 11, _, _ => exact to11 d
  | 12, _, _ => exact to12 d
  | 13, _, _ => exact to13 d
end Go.Proofs.YtacpdefmnijhnaaGreat.U18
