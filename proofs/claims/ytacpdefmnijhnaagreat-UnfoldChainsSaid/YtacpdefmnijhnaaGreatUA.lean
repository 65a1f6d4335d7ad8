/- The program's own facts. -/
import Derived.Test.YtacpdefmnijhnaaGreatAbsV
import Derived.Test.YtacpdefmnijhnaaGreatProg
import Derived.KernelRfl
set_option linter.unusedVariables false
namespace Go.Proofs.YtacpdefmnijhnaaGreat.U
open Abs

theorem names_all : (Tryz.prog.funcs.toList.all fun fn => !(fn.name == "runtime.NumGoroutine")) = true := by kernel_rfl

theorem progOk : ProgOk Tryz.prog where
  mixed := by kernel_rfl
  names f fn h := by
    have h1 := List.all_eq_true.1 names_all fn (List.mem_of_getElem? (i := f) (by simpa using h))
    simpa using h1

/-- Which functions defer. -/
noncomputable def KD : Tbl := K0.defers [94, 153]
theorem KD_ok : KOk Tryz.prog KD := K0_ok _

noncomputable def yes (o : Option (Value × AS)) : Bool := match o with | some (.bool true, _) => true | _ => false

theorem yes_some {o : Option (Value × AS)} (h : yes o = true) : ∃ σ, o = some (.bool true, σ) := by
  unfold yes at h
  split at h
  · exact ⟨_, rfl⟩
  · cases h
end Go.Proofs.YtacpdefmnijhnaaGreat.U
