/- The machine of example 1 of chapter 39: one run over an empty memory. -/
import Derived.Test.YtmojgclminmbfaaGreatDoorHasW
import Derived.KernelRfl
set_option linter.unusedVariables false
namespace Go.Proofs.YtmojgclminmbfaaGreatDoor.Wit
open Abs

theorem names_all : (Tryz.prog.funcs.toList.all fun fn => !(fn.name == "runtime.NumGoroutine")) = true := by kernel_rfl

theorem progOk : ProgOk Tryz.prog where
  mixed := by kernel_rfl
  names f fn h := by
    have h1 := List.all_eq_true.1 names_all fn (List.mem_of_getElem? (i := f) (by simpa using h))
    simpa using h1

noncomputable def smallV : Value := .agg #[.slice (some ⟨6, 0, none⟩) 1 1, .slice (some ⟨19, 0, none⟩) 1 18446744073709551617]
noncomputable def smallB : List Blk := [⟨1, 40, 0, [.slice (some ⟨6, 0, none⟩) 1 1, .slice (some ⟨19, 0, none⟩) 1 18446744073709551617], []⟩,
  ⟨1, 23, 0, [.int .i64 0, .int .i64 1], []⟩,
  ⟨1, 23, 0, [.int .i64 3, .int .i64 2], []⟩,
  ⟨1, 24, 0, [.slice (some ⟨1, 0, none⟩) 1 1, .slice (some ⟨2, 0, none⟩) 1 1, .slice none 0 0], []⟩,
  ⟨1, 62, 0, [.slice (some ⟨3, 0, none⟩) 3 3], []⟩,
  ⟨1, 40, 0, [.slice (some ⟨6, 0, none⟩) 1 1, .slice (some ⟨19, 0, none⟩) 1 18446744073709551617], []⟩,
  ⟨1, 131, 0, [.slice (some ⟨3, 0, none⟩) 3 3, .slice none 0 0], []⟩,
  ⟨1, 40, 0, [.slice (some ⟨6, 0, none⟩) 1 1, .slice (some ⟨19, 0, none⟩) 1 18446744073709551617], []⟩,
  ⟨1, 4, 0, [.bool true], []⟩,
  ⟨1, 135, 0, [.string ⟨#[]⟩, .slice (some ⟨8, 0, none⟩) 1 1, .slice (some ⟨17, 0, none⟩) 2 18446744073709551618], []⟩,
  ⟨1, 3, 0, [.int .i64 0], []⟩,
  ⟨1, 137, 0, [.slice (some ⟨10, 0, none⟩) 1 1, .int .i64 0, .int .i64 0], []⟩,
  ⟨1, 137, 0, [.slice (some ⟨10, 0, none⟩) 1 1, .int .i64 0, .int .i64 0], []⟩,
  Blk.dead,
  ⟨1, 3, 0, [.int .i64 3], []⟩,
  ⟨1, 137, 0, [.slice (some ⟨14, 0, none⟩) 1 1, .int .i64 3, .int .i64 0], []⟩,
  ⟨1, 137, 0, [.slice (some ⟨14, 0, none⟩) 1 1, .int .i64 3, .int .i64 0], []⟩,
  ⟨2, 137, 3, [.slice (some ⟨10, 0, none⟩) 1 1, .int .i64 0, .int .i64 0, .slice (some ⟨14, 0, none⟩) 1 1, .int .i64 3, .int .i64 0], []⟩,
  ⟨1, 135, 0, [.string ⟨#[]⟩, .slice (some ⟨8, 0, none⟩) 1 1, .slice (some ⟨17, 0, none⟩) 2 18446744073709551618], []⟩,
  ⟨2, 135, 3, [.string ⟨#[]⟩, .slice (some ⟨8, 0, none⟩) 1 1, .slice (some ⟨17, 0, none⟩) 2 18446744073709551618], []⟩]

noncomputable def K1 : Tbl := HasW.withHas K0
theorem K1_ok : KOk Tryz.prog K1 := HasW.withHas_ok progOk (K0_ok _)

theorem ran : told (aCall Tryz.prog K1 0 3000 5 [] ⟨0, 0, .e⟩) = some (smallV, smallB) := by kernel_rfl
end Go.Proofs.YtmojgclminmbfaaGreatDoor.Wit
