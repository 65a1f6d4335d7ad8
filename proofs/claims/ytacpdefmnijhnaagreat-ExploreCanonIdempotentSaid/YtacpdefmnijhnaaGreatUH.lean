/- Few arcs are sorted. -/
import Derived.Test.YtacpdefmnijhnaaGreatUG
set_option linter.unusedSimpArgs false
set_option linter.unusedVariables false
namespace Go.Proofs.YtacpdefmnijhnaaGreat.U
open Abs

set_option maxHeartbeats 8000000 in
theorem pdq_c {lo : Nat} {σ : AS} {v : Value} {l : List Arc} {k : Int} (h : AL lo σ v l) (hlo : lo ≤ σ.next) (hl : l ≠ []) (hn : l.length ≤ 12) : C Tryz.prog KA 0 130 [v, .int .i64 0, .int .i64 (l.length : Int), .int .i64 k, .func (.func 42) #[] #[]] σ fun _ σ' => ∃ l', Srt lo σ σ' v l l' ∧ Ord l' l.length := by
  refine C_of (ka rfl rfl) Tryz.func130 rfl (Nat.le_of_ble_eq_true rfl) ?_
  show W _ _ _ 148 _ _ _ _
  unfold Tryz.f130
  dsimp only
  repeat apply W_assoc
  apply W_reg
  · intro callf
    simp +decide only [aOps, rinit, aWanted, ↓bite_eq, ↓reduceIte, aStep_eq, aStepOld, aOp, opBox, opBin, opUn, opCall, opIndexAddr, opFieldAddr, opLoad, opStore, opPick, opExtract, opSlice, opBuildSlice, opBuild, aRow, aev, aevs, aparts, ann, unn, aPut, if_true, if_false, rget_rput, flat, flat1, Nat.blt_eq, aBuiltin, aLen, List.getElem?_toArray, List.getElem?_cons_zero, List.getElem?_cons_succ, Nat.zero_add, Option.bind_some, beq_self_eq_true, Bool.not_true, Bool.not_false, Bool.true_beq, Bool.false_beq]
    rfl
  repeat apply W_assoc
  apply W_reg
  · intro callf
    simp +decide only [aOps, rinit, aWanted, ↓bite_eq, ↓reduceIte, aStep_eq, aStepOld, aOp, opBox, opBin, opUn, opCall, opIndexAddr, opFieldAddr, opLoad, opStore, opPick, opExtract, opSlice, opBuildSlice, opBuild, aRow, aev, aevs, aparts, ann, unn, aPut, if_true, if_false, rget_rput, flat, flat1, Nat.blt_eq, aBuiltin, aLen, List.getElem?_toArray, List.getElem?_cons_zero, List.getElem?_cons_succ, Nat.zero_add, Option.bind_some, beq_self_eq_true, Bool.not_true, Bool.not_false, Bool.true_beq, Bool.false_beq]
    rfl
  refine W_tail ?_
  repeat apply W_assoc
  have w0 : IntKind.i64.wrap ((l.length : Int) - 0) = (l.length : Int) := by rw [wrap64_id _ (by omega) (by omega)]; omega
  have d1 : decide ((l.length : Int) ≤ 12) = true := decide_eq_true (by omega)
  refine W_for (fun (_ : Unit) r s => s = σ ∧ rget r 0 = v ∧ rget r 1 = .int .i64 0 ∧ rget r 2 = .int .i64 (l.length : Int) ∧ rget r 4 = .func (.func 42) #[] #[]) (fun _ => 0) ?_ () ?_
  rotate_left
  · refine ⟨rfl, ?_, ?_, ?_, ?_⟩ <;> simp +decide only [rget_rput, rinit, if_true, if_false] <;> first | exact True.intro | rfl
  rintro _ r s ⟨rfl, h0, h1, h2, h4⟩
  refine W_tail ?_
  repeat apply W_assoc
  refine W_blk ?_
  repeat apply W_assoc
  apply W_reg
  · intro callf
    simp +decide only [aOps, rinit, aWanted, ↓bite_eq, ↓reduceIte, aStep_eq, aStepOld, aOp, opBox, opBin, opUn, opCall, opIndexAddr, opFieldAddr, opLoad, opStore, opPick, opExtract, opSlice, opBuildSlice, opBuild, aRow, aev, aevs, aparts, ann, unn, aPut, if_true, if_false, rget_rput, flat, flat1, Nat.blt_eq, aBuiltin, aLen, List.getElem?_toArray, List.getElem?_cons_zero, List.getElem?_cons_succ, Nat.zero_add, Option.bind_some, beq_self_eq_true, Bool.not_true, Bool.not_false, Bool.true_beq, Bool.false_beq, h1, h2, w0, aBin, aInts, aInt_eq]
    rfl
  repeat apply W_assoc
  apply W_reg
  · intro callf
    simp +decide only [aOps, rinit, aWanted, ↓bite_eq, ↓reduceIte, aStep_eq, aStepOld, aOp, opBox, opBin, opUn, opCall, opIndexAddr, opFieldAddr, opLoad, opStore, opPick, opExtract, opSlice, opBuildSlice, opBuild, aRow, aev, aevs, aparts, ann, unn, aPut, if_true, if_false, rget_rput, flat, flat1, Nat.blt_eq, aBuiltin, aLen, List.getElem?_toArray, List.getElem?_cons_zero, List.getElem?_cons_succ, Nat.zero_add, Option.bind_some, beq_self_eq_true, Bool.not_true, Bool.not_false, Bool.true_beq, Bool.false_beq, d1, aBin, aInts, aInt_eq]
    rfl
  repeat apply W_assoc
  refine W_if (b := true) ?_ ?_ ?_
  · simp +decide only [aevs, aev, aResults, rget_rput, if_true, if_false]
  rotate_left
  · intro h; cases h
  intro _
  repeat apply W_assoc
  apply W_regL
  apply Ls_pre 4
  · intro callf
    simp +decide only [List.take, aOps, rinit, aWanted, ↓bite_eq, ↓reduceIte, aStep_eq, aStepOld, aOp, opBox, opBin, opUn, opCall, opIndexAddr, opFieldAddr, opLoad, opStore, opPick, opExtract, opSlice, opBuildSlice, opBuild, aRow, aev, aevs, aparts, ann, unn, aPut, if_true, if_false, rget_rput, flat, flat1, Nat.blt_eq, aBuiltin, aLen, List.getElem?_toArray, List.getElem?_cons_zero, List.getElem?_cons_succ, Nat.zero_add, Option.bind_some, beq_self_eq_true, Bool.not_true, Bool.not_false, Bool.true_beq, Bool.false_beq, h0, h1, h2, h4]
    rfl
  dsimp only [List.drop]
  refine Ls_fn (vs := [v, .int .i64 0, .int .i64 (l.length : Int), .func (.func 42) #[] #[]]) (by simp +decide only [aevs, aev, aResults, rget_rput, if_true, if_false]) (by decide) (C.mono (insertion_c h hlo hl (by omega)) ?_)
  rintro v σ' ⟨l2, S⟩
  apply Ls_all
  · intro callf
    simp +decide only [aOps, rinit, aWanted, ↓bite_eq, ↓reduceIte, aStep_eq, aStepOld, aOp, opBox, opBin, opUn, opCall, opIndexAddr, opFieldAddr, opLoad, opStore, opPick, opExtract, opSlice, opBuildSlice, opBuild, aRow, aev, aevs, aparts, ann, unn, aPut, if_true, if_false, rget_rput, flat, flat1, Nat.blt_eq, aBuiltin, aLen, List.getElem?_toArray, List.getElem?_cons_zero, List.getElem?_cons_succ, Nat.zero_add, Option.bind_some, beq_self_eq_true, Bool.not_true, Bool.not_false, Bool.true_beq, Bool.false_beq]
    rfl
  refine W_retq ⟨fun h => h.elim (fun h => (nomatch h)) (fun h => (nomatch h)), fun _ _ => ⟨fun h => (nomatch h), fun h => (nomatch h), fun _ _ => ⟨Nat.le_refl _, [], rfl, l2, S⟩⟩⟩

theorem len_run {σ : AS} : ∀ n : Nat, n < 4 → ∃ k : Int, aCall Tryz.prog KA 0 100 131 [.int .u64 (n : Int)] σ = some (.int .i64 k, σ)
  | 0, _ => ⟨0, by kernel_rfl⟩
  | 1, _ => ⟨1, by kernel_rfl⟩
  | 2, _ => ⟨2, by kernel_rfl⟩
  | 3, _ => ⟨2, by kernel_rfl⟩
  | n + 4, h => absurd h (by omega)
theorem conv_up (n : Nat) (h : n < 2 ^ 62) : flatO (asPure Tryz.prog (convert 3 148 (.int .i64 (n : Int)))) = some (.int .u64 (n : Int)) := by
  rw [conv_iu]
  congr 2
  have e : (2 : Int) ^ IntKind.u64.bits = 18446744073709551616 := by decide
  unfold IntKind.wrap
  simp only [e, show IntKind.u64.signed = false from rfl, Bool.false_and, Bool.false_eq_true, if_false]
  omega

set_option maxHeartbeats 8000000 in
theorem sort_c {lo : Nat} {σ : AS} {v : Value} {l : List Arc} (h : AL lo σ v l) (hlo : lo ≤ σ.next) (hl : l ≠ []) (hn : l.length ≤ 3) : C Tryz.prog KA 0 70 [v, .func (.func 42) #[] #[]] σ fun _ σ' => ∃ l', Srt lo σ σ' v l l' ∧ Ord l' l.length := by
  obtain ⟨va, vc, hv⟩ := Stk.len h
  refine C_of (ka rfl rfl) Tryz.func70 rfl (Nat.le_of_ble_eq_true rfl) ?_
  show W _ _ _ 14 _ _ _ _
  unfold Tryz.f70
  dsimp only
  repeat apply W_assoc
  apply W_reg
  · intro callf
    simp +decide only [aOps, rinit, aWanted, ↓bite_eq, ↓reduceIte, aStep_eq, aStepOld, aOp, opBox, opBin, opUn, opCall, opIndexAddr, opFieldAddr, opLoad, opStore, opPick, opExtract, opSlice, opBuildSlice, opBuild, aRow, aev, aevs, aparts, ann, unn, aPut, if_true, if_false, rget_rput, flat, flat1, Nat.blt_eq, aBuiltin, aLen, List.getElem?_toArray, List.getElem?_cons_zero, List.getElem?_cons_succ, Nat.zero_add, Option.bind_some, beq_self_eq_true, Bool.not_true, Bool.not_false, Bool.true_beq, Bool.false_beq, hv, Tryz.underlying60, goInt]
    rfl
  refine W_tail ?_
  obtain ⟨k, hk⟩ := len_run (σ := σ) l.length (by omega)
  repeat apply W_assoc
  apply W_regL
  apply Ls_pre 4
  · intro callf
    simp +decide only [List.take, aOps, rinit, aWanted, ↓bite_eq, ↓reduceIte, aStep_eq, aStepOld, aOp, opBox, opBin, opUn, opCall, opIndexAddr, opFieldAddr, opLoad, opStore, opPick, opExtract, opSlice, opBuildSlice, opBuild, aRow, aev, aevs, aparts, ann, unn, aPut, if_true, if_false, rget_rput, flat, flat1, Nat.blt_eq, aBuiltin, aLen, List.getElem?_toArray, List.getElem?_cons_zero, List.getElem?_cons_succ, Nat.zero_add, Option.bind_some, beq_self_eq_true, Bool.not_true, Bool.not_false, Bool.true_beq, Bool.false_beq, opConvert, conv_up l.length (by omega)]
    rfl
  dsimp only [List.drop]
  refine Ls_fn (vs := [.int .u64 (l.length : Int)]) (by simp +decide only [aevs, aev, aResults, rget_rput, if_true, if_false]) (by decide) (C.mono (C_run (Q := fun v s1 => v = .int .i64 k ∧ s1 = σ) hk ⟨rfl, rfl⟩) ?_)
  rintro v σ' ⟨rfl, rfl⟩
  apply Ls_pre 1
  · intro callf
    simp +decide only [List.take, aOps, rinit, aWanted, ↓bite_eq, ↓reduceIte, aStep_eq, aStepOld, aOp, opBox, opBin, opUn, opCall, opIndexAddr, opFieldAddr, opLoad, opStore, opPick, opExtract, opSlice, opBuildSlice, opBuild, aRow, aev, aevs, aparts, ann, unn, aPut, if_true, if_false, rget_rput, flat, flat1, Nat.blt_eq, aBuiltin, aLen, List.getElem?_toArray, List.getElem?_cons_zero, List.getElem?_cons_succ, Nat.zero_add, Option.bind_some, beq_self_eq_true, Bool.not_true, Bool.not_false, Bool.true_beq, Bool.false_beq]
    rfl
  dsimp only [List.drop]
  refine Ls_fn (vs := [v, .int .i64 0, .int .i64 (l.length : Int), .int .i64 k, .func (.func 42) #[] #[]]) (by simp +decide only [aevs, aev, aResults, rget_rput, if_true, if_false, hv]) (by decide) (C.mono (pdq_c h hlo hl (by omega)) ?_)
  rintro w σ' ⟨l2, S⟩
  apply Ls_all
  · intro callf
    simp +decide only [aOps, rinit, aWanted, ↓bite_eq, ↓reduceIte, aStep_eq, aStepOld, aOp, opBox, opBin, opUn, opCall, opIndexAddr, opFieldAddr, opLoad, opStore, opPick, opExtract, opSlice, opBuildSlice, opBuild, aRow, aev, aevs, aparts, ann, unn, aPut, if_true, if_false, rget_rput, flat, flat1, Nat.blt_eq, aBuiltin, aLen, List.getElem?_toArray, List.getElem?_cons_zero, List.getElem?_cons_succ, Nat.zero_add, Option.bind_some, beq_self_eq_true, Bool.not_true, Bool.not_false, Bool.true_beq, Bool.false_beq]
    rfl
  refine W_skip ⟨Nat.zero_le _, [], rfl, l2, S⟩

end Go.Proofs.YtacpdefmnijhnaaGreat.U
