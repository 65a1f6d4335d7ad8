/- What is left of the law behind the core: runs over the known memory. -/
import Derived.Test.YtacpdefmnijhnaaGreatSFA
import Derived.Test.YtacpdefmnijhnaaGreatSG
set_option linter.unusedSimpArgs false
set_option linter.unusedVariables false
namespace Go.Proofs.YtacpdefmnijhnaaGreat.U19
open Abs U
def sq1 : Code → Code | .seq a _ => a | c => c
def sq2 : Code → Code | .seq _ d => d | c => c
noncomputable def bdy : Code := Tryz.f4.body.getD .skip
noncomputable def c3 : Code := sq2 (sq2 (sq2 bdy))
noncomputable def c8 : Code := sq2 (sq2 (sq2 (sq2 (sq2 c3))))
noncomputable def rest8 : Code := .seq (sq2 (sq1 c8)) (sq2 c8)
theorem bdy_seqs : bdy = seqs [sq1 bdy, sq1 (sq2 bdy), sq1 (sq2 (sq2 bdy))] c3 := by kernel_rfl

noncomputable def regs (v0 : Value) (kd : Int) (pt ag pk : Value) : Regs := rput (rput (rput (rput (rput (rput (rput (rput (rput .e 0 v0) 1 (.int .u8 kd)) 4 (.bool false)) 14 v0) 15 pt) 5 pt) 16 pt) 17 ag) 6 pk
noncomputable def pt2 : Value := .pointer (some ⟨2, 0, none⟩)
noncomputable def pk4 : Value := .pointer (some ⟨4, 0, none⟩)
noncomputable def agc (f n e : Nat) : Value := .agg #[sl f 1, sl n 4, .slice none 0 0, sl e 4]
def ag3 (a b c : Int) : Value := .agg #[.int .i64 a, .int .i64 b, .int .i64 c]
noncomputable def s1 (b : Nat) : Value := .slice (some ⟨b, 0, none⟩) 1 1
def opB (l : List Value) : Blk := ⟨1, 23, 0, l, []⟩
noncomputable def σ8 (bv : Value) : AS := ((((σc bv).new (opB [.int .i64 7, .int .i64 0, .int .i64 0])).new (opB [.int .i64 54, .int .i64 1, .int .i64 0])).new (opB [.int .i64 12, .int .i64 0, .int .i64 0])).new (opB [])
noncomputable def regs8 (v0 : Value) (kd q : Int) : Regs :=
  rput (rput (rput (rput (rput (rput (rput (rput (rput (rput (rput (rput (rput (rput (regs v0 kd pt2 (agc 5 6 7) pk4) 18 (ag3 7 0 0)) 19 (s1 8)) 7 (s1 8)) 20 (ag3 54 1 0)) 21 (s1 9)) 8 (s1 9)) 22 (ag3 12 0 0)) 23 (s1 10)) 9 (s1 10))
    24 (.slice (some ⟨11, 0, none⟩) 0 0)) 10 (.slice (some ⟨11, 0, none⟩) 0 0)) 11 (.bool false)) 25 (.int .u8 kd)) 26 (.int .u8 q)
theorem ran0 (v0 bv : Value) (kd : Int) : ranOk 4 (aCode Tryz.prog KS 0 3000 114 rest8 (regs8 v0 kd 0) (σ8 bv)) = true := by kernel_rfl
theorem ran1 (v0 bv : Value) (kd : Int) : ranOk 4 (aCode Tryz.prog KS 0 3000 114 rest8 (regs8 v0 kd 1) (σ8 bv)) = true := by kernel_rfl
theorem ran2 (v0 bv : Value) (kd : Int) : ranOk 4 (aCode Tryz.prog KS 0 3000 114 rest8 (regs8 v0 kd 2) (σ8 bv)) = true := by kernel_rfl
theorem ran3 (v0 bv : Value) (kd : Int) : ranOk 4 (aCode Tryz.prog KS 0 3000 114 rest8 (regs8 v0 kd 3) (σ8 bv)) = true := by kernel_rfl
theorem ran4 (v0 bv : Value) (kd : Int) : ranOk 4 (aCode Tryz.prog KS 0 3000 114 rest8 (regs8 v0 kd 4) (σ8 bv)) = true := by kernel_rfl
theorem ran5 (v0 bv : Value) (kd : Int) : ranOk 4 (aCode Tryz.prog KS 0 3000 114 rest8 (regs8 v0 kd 5) (σ8 bv)) = true := by kernel_rfl
theorem ran6 (v0 bv : Value) (kd : Int) : ranOk 4 (aCode Tryz.prog KS 0 3000 114 rest8 (regs8 v0 kd 6) (σ8 bv)) = true := by kernel_rfl
theorem ran7 (v0 bv : Value) (kd : Int) : ranOk 4 (aCode Tryz.prog KS 0 3000 114 rest8 (regs8 v0 kd 7) (σ8 bv)) = true := by kernel_rfl
theorem ran (v0 bv : Value) (kd q : Int) (h0 : 0 ≤ q) (h8 : q < 8) : ranOk 4 (aCode Tryz.prog KS 0 3000 114 rest8 (regs8 v0 kd q) (σ8 bv)) = true := by
  obtain rfl | rfl | rfl | rfl | rfl | rfl | rfl | rfl : q = 0 ∨ q = 1 ∨ q = 2 ∨ q = 3 ∨ q = 4 ∨ q = 5 ∨ q = 6 ∨ q = 7 := by omega
  · exact ran0 v0 bv kd
  · exact ran1 v0 bv kd
  · exact ran2 v0 bv kd
  · exact ran3 v0 bv kd
  · exact ran4 v0 bv kd
  · exact ran5 v0 bv kd
  · exact ran6 v0 bv kd
  · exact ran7 v0 bv kd
end Go.Proofs.YtacpdefmnijhnaaGreat.U19
