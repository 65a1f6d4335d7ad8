/- Law 18: what is left of Eval behind its checks, over a known memory. -/
import Derived.Test.YtacpdefmnijhnaaGreatVA
import Derived.Test.YtacpdefmnijhnaaGreatVG
set_option linter.unusedSimpArgs false
set_option linter.unusedVariables false
namespace Go.Proofs.YtacpdefmnijhnaaGreat.U18
open Abs U

theorem stopT : Knows Tryz.prog 454 ([], .string stopS, []) := Knows.alike (fuel := 3000) progOk KD_ok rfl (by kernel_rfl)
theorem stopW : Knows Tryz.prog 313 ([.string stopS], .pointer (some ⟨0, 0, none⟩), [⟨1, 263, 0, [.int .i64 9, .string stopS, .slice none 0 0, .int .i64 0], []⟩]) := Knows.alike (fuel := 3000) progOk KD_ok rfl (by kernel_rfl)
noncomputable def mStop : Memo := ([], .string stopS, [])
noncomputable def mStopW : Memo := ([.string stopS], .pointer (some ⟨0, 0, none⟩), [⟨1, 263, 0, [.int .i64 9, .string stopS, .slice none 0 0, .int .i64 0], []⟩])
noncomputable def KF : Tbl := (((K43.memoF 381 33 ixI e381).memo 454 [mStop]).memo 313 [mStopW]).memoF 313 33 ixS e313
theorem KF_ok : KOk Tryz.prog KF := KOk.memoF (KOk.memoAll (l := [mStopW]) (KOk.memoAll (l := [mStop]) (KOk.memoF K43_ok f381) ⟨stopT, trivial⟩) ⟨stopW, trivial⟩) f313

def sq1 : Code → Code | .seq a _ => a | c => c
def sq2 : Code → Code | .seq _ d => d | c => c
noncomputable def bdyE : Code := Tryz.f46.body.getD .skip
noncomputable def restE : Code := sq2 (sq2 bdyE)

/-- The registers behind the checks: of blocks bf (functions), bn, be, pa (arguments), b4 (the core's box), b5 (the number's box). -/
noncomputable def regsF (bf bn be pa b4 b5 i K : Nat) : Regs :=
  let core : Value := .agg #[slo bf K, slo bn 4, .slice none 0 0, slo be 4]
  let ar : Value := .slice (some ⟨pa, 0, none⟩) 0 0
  let p4 : Value := .pointer (some ⟨b4, 0, none⟩)
  let n : Value := .int .i64 (i : Int)
  let f : Value := .bool false
  let r0 := rput (rput (rput (rput (rput (rput (rput (rput (rput .e 0 core) 1 n) 2 ar) 3 (.int .i64 16384)) 4 p4) 5 (.pointer (some ⟨b5, 0, none⟩))) 8 (.string ⟨#[]⟩)) 9 (.int .i64 0)) 10 (.int .i64 0)
  let r1 := rput (rput (rput (rput (rput (rput (rput (rput (rput (rput r0 17 core) 18 (.bool true)) 19 f) 20 f) 21 n) 22 f) 23 f) 24 f) 25 n) 26 p4
  let r2 := rput (rput (rput (rput (rput (rput (rput (rput (rput (rput r1 27 (slo bf K)) 28 (.int .i64 (K : Int))) 29 f) 30 f) 31 f) 32 ar) 33 (.int .i64 0)) 34 p4) 35 (slo bf K)) 36 n
  let r3 := rput (rput (rput (rput (rput (rput (rput (rput (rput r2 37 (.pointer (some ⟨bf, i * 6, none⟩))) 38 (.pointer (some ⟨bf, i * 6 + 1, none⟩))) 39 (.int .i64 0)) 40 f) 41 f) 42 f) 43 ar) 44 f) 45 f
  rput (rput (rput (rput (rput (rput (rput (rput r3 46 f) 47 (.int .i64 16384)) 48 f) 49 f) 50 f) 51 (.int .i64 16384)) 52 f) 53 f

def coreB (bf bn be K : Nat) : Blk := ⟨1, 34, 0, [slo bf K, slo bn 4, .slice none 0 0, slo be 4], []⟩
def intB (i : Nat) : Blk := ⟨1, 3, 0, [.int .i64 (i : Int)], []⟩
def evalBs (i K : Nat) (op ar : Int) : List Blk := [funcsP i 3, ⟨2, 80, 4, ncl, []⟩, ⟨2, 25, 1, ecl, []⟩, codeB op ar, Blk.dead, coreB 0 1 2 K, intB i]
noncomputable def evalM (i K : Nat) (op ar : Int) : AS := memo0 (evalBs i K op ar)

/-- The end of the run: a string, one unit of fuel, no error; nothing of what lay before was written. -/
noncomputable def evOk (s : ByteArray) (o : Option (Nat × Regs × AS)) : Bool := match o with
  | some (x, r, σ) => Nat.beq x 1 && veq 9 (rget r 8) (.string s) && veq 9 (rget r 9) (.int .i64 1) && veq 9 (rget r 10) (.int .i64 0) && Nat.ble 5 σ.low
  | none => false
noncomputable def evRun (i K : Nat) (op ar : Int) (s : ByteArray) : Bool := evOk s (aCode Tryz.prog KF 0 3000 90 restE (regsF 0 1 2 4 5 6 i K) (evalM i K op ar))
/-- From function i to the functions 0 .. i + 1. -/
noncomputable def evTo (d i : Nat) : Bool := allBelow (fun j => evRun i (d + (i + 1)) 7 (j : Int) (cs j)) (i + 2)
end Go.Proofs.YtacpdefmnijhnaaGreat.U18
