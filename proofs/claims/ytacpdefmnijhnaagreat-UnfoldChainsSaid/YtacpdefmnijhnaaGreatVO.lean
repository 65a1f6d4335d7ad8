/- Law 18: Unfold and Head at a chain. -/
import Derived.Test.YtacpdefmnijhnaaGreatVN
set_option linter.unusedSimpArgs false
set_option linter.unusedVariables false
namespace Go.Proofs.YtacpdefmnijhnaaGreat.U18
open Abs U

theorem notF : flatO (asPure Tryz.prog (Op.unary UnOp.not (.bool false))) = some (.bool true) := by kernel_rfl
theorem fldFn2 {b o : Nat} : aField Tryz.prog 47 2 (.pointer (some ⟨b, o, none⟩)) = some (.pointer (some ⟨b, o + 2, none⟩)) := by kernel_rfl
section
variable {σ : AS} {bf bn be k : Nat} {bl : Nat → Nat} {op ar : Nat → Int}
theorem Chn.cell (h : Chn σ bf bn be k bl op ar) {i m : Nat} {v : Value} (hi : i ≤ k) (hm : (fcl (sl1 (bl i)))[m]? = some v) : aCells σ ⟨bf, i * 6 + m, none⟩ 1 = some [v] := by
  obtain ⟨h1, h2⟩ := List.getElem?_eq_some_iff.1 hm
  have h6 : m < 6 := h1
  refine cellsK h.fs (.inr rfl) ?_ (by rw [fcs_len]; omega)
  have := fcs_at (bl := bl) hi
  rw [← List.drop_drop]
  have h3 : (((fcs k bl).drop (i * 6)).drop m).take 1 = ((((fcs k bl).drop (i * 6)).take 6).drop m).take 1 := by
    rw [List.drop_take, List.take_take]
    congr 1
    omega
  rw [h3, this, List.drop_eq_getElem_cons h1, h2]
  rfl
set_option maxRecDepth 20000 in
set_option maxHeartbeats 64000000 in
theorem unfold_to (h : Chn σ bf bn be k bl op ar) (hg : ∀ n, n ≤ k → good k (op n) (ar n)) {i j : Nat} (hi : i ≤ k) (hi2 : i < 32) (hi3 : i < 33) (ho : op i = 7) (ha : ar i = ((j : Nat) : Int)) (hj : j ≤ i + 1) :
    C Tryz.prog K2 0 21 [coreV bf bn be k, .string (cs i)] σ fun u s => u = .tuple #[.string (cs j), .int .i64 0] ∧ Ext σ s := by
  refine C_of (k2_of (by decide) (k1_none rfl)) Tryz.func21 rfl (Nat.le_of_ble_eq_true rfl) ?_
  show W _ _ _ 64 _ _ _ _
  unfold Tryz.f21
  dsimp only
  repeat apply W_assoc
  apply W_regL
  apply Ls_pre 1
  · intro callf
    simp +decide only [List.take, aOps, rinit, aWanted, ↓bite_eq, ↓reduceIte, aStep_eq, aStepOld, aOp, opBox, opBin, opUn, opCall, opIndexAddr, opFieldAddr, opLoad, opStore, opPick, opExtract, opSlice, opBuildSlice, opBuild, aRow, aev, aevs, aparts, ann, unn, aPut, if_true, if_false, rget_rput, flat, flat1, Nat.blt_eq, aBuiltin, List.getElem?_toArray, List.getElem?_cons_zero, List.getElem?_cons_succ, Nat.zero_add, Option.bind_some, beq_self_eq_true, Bool.not_true, Bool.not_false, Bool.true_beq, Bool.false_beq, opNil, opLookup, opUpdate, opMakeMap]
    rfl
  dsimp only [List.drop]
  show Ls _ _ _ _ _ _ _ (σ.new ⟨1, 34, 0, [slo bf (k + 1), slo bn 4, .slice none 0 0, slo be 4], []⟩) _
  have e1 := Ext.new σ ⟨1, 34, 0, [slo bf (k + 1), slo bn 4, .slice none 0 0, slo be 4], []⟩
  have g1 : (σ.new ⟨1, 34, 0, [slo bf (k + 1), slo bn 4, .slice none 0 0, slo be 4], []⟩).get σ.next = ⟨1, 34, 0, [slo bf (k + 1), slo bn 4, .slice none 0 0, slo be 4], []⟩ := by rw [AS.get_new, if_pos rfl]
  have n1 : (σ.new ⟨1, 34, 0, [slo bf (k + 1), slo bn 4, .slice none 0 0, slo be 4], []⟩).next = σ.next + 1 := rfl
  generalize σ.new ⟨1, 34, 0, [slo bf (k + 1), slo bn 4, .slice none 0 0, slo be 4], []⟩ = s1 at e1 g1 n1 ⊢
  apply Ls_all
  · intro callf
    simp +decide only [aOps, rinit, aWanted, ↓bite_eq, ↓reduceIte, aStep_eq, aStepOld, aOp, opBox, opBin, opUn, opCall, opIndexAddr, opFieldAddr, opLoad, opStore, opPick, opExtract, opSlice, opBuildSlice, opBuild, aRow, aev, aevs, aparts, ann, unn, aPut, if_true, if_false, rget_rput, flat, flat1, Nat.blt_eq, aBuiltin, List.getElem?_toArray, List.getElem?_cons_zero, List.getElem?_cons_succ, Nat.zero_add, Option.bind_some, beq_self_eq_true, Bool.not_true, Bool.not_false, Bool.true_beq, Bool.false_beq, opNil, opLookup, opUpdate, opMakeMap]
    rfl
  repeat apply W_assoc
  apply W_regL
  apply Ls_pre 1
  · intro callf
    simp +decide only [List.take, aOps, rinit, aWanted, ↓bite_eq, ↓reduceIte, aStep_eq, aStepOld, aOp, opBox, opBin, opUn, opCall, opIndexAddr, opFieldAddr, opLoad, opStore, opPick, opExtract, opSlice, opBuildSlice, opBuild, aRow, aev, aevs, aparts, ann, unn, aPut, if_true, if_false, rget_rput, flat, flat1, Nat.blt_eq, aBuiltin, List.getElem?_toArray, List.getElem?_cons_zero, List.getElem?_cons_succ, Nat.zero_add, Option.bind_some, beq_self_eq_true, Bool.not_true, Bool.not_false, Bool.true_beq, Bool.false_beq, opNil, opLookup, opUpdate, opMakeMap]
    rfl
  dsimp only [List.drop]
  refine Ls_fnG (vs := [.string (cs i)]) (by simp +decide only [aWanted, List.getElem?_toArray, List.getElem?_cons_zero, List.getElem?_cons_succ, Option.bind_some, rget_rput, if_true, if_false, Bool.not_true, Bool.not_false, Bool.true_beq, Bool.false_beq, beq_self_eq_true, bite_eq]) (by simp +decide only [aevs, aev, aResults, rget_rput, if_true, if_false]) (by decide) (C_known (k2_of (by decide) (k1_31 hi3)) ?_)
  apply Ls_all
  · intro callf
    simp +decide only [aOps, rinit, aWanted, ↓bite_eq, ↓reduceIte, aStep_eq, aStepOld, aOp, opBox, opBin, opUn, opCall, opIndexAddr, opFieldAddr, opLoad, opStore, opPick, opExtract, opSlice, opBuildSlice, opBuild, aRow, aev, aevs, aparts, ann, unn, aPut, if_true, if_false, rget_rput, flat, flat1, Nat.blt_eq, aBuiltin, List.getElem?_toArray, List.getElem?_cons_zero, List.getElem?_cons_succ, Nat.zero_add, Option.bind_some, beq_self_eq_true, Bool.not_true, Bool.not_false, Bool.true_beq, Bool.false_beq, opNil, opLookup, opUpdate, opMakeMap, notT]
    rfl
  repeat apply W_assoc
  refine W_if (b := false) ?_ ?_ ?_
  · simp +decide only [aevs, aev, aResults, rget_rput, if_true, if_false, decide_true, decide_false, Bool.not_true, Bool.not_false]
  · intro h; cases h
  intro _
  apply W_skipq
  have hk := h.hk
  have H1 := h.ext e1
  repeat apply W_assoc
  apply W_regL
  apply Ls_pre 1
  · intro callf
    simp +decide only [List.take, aOps, rinit, aWanted, ↓bite_eq, ↓reduceIte, aStep_eq, aStepOld, aOp, opBox, opBin, opUn, opCall, opIndexAddr, opFieldAddr, opLoad, opStore, opPick, opExtract, opSlice, opBuildSlice, opBuild, aRow, aev, aevs, aparts, ann, unn, aPut, if_true, if_false, rget_rput, flat, flat1, Nat.blt_eq, aBuiltin, List.getElem?_toArray, List.getElem?_cons_zero, List.getElem?_cons_succ, Nat.zero_add, Option.bind_some, beq_self_eq_true, Bool.not_true, Bool.not_false, Bool.true_beq, Bool.false_beq, opNil, opLookup, opUpdate, opMakeMap]
    rfl
  dsimp only [List.drop]
  refine Ls_fnG (vs := [.string (cs i)]) (by simp +decide only [aWanted, List.getElem?_toArray, List.getElem?_cons_zero, List.getElem?_cons_succ, Option.bind_some, rget_rput, if_true, if_false, Bool.not_true, Bool.not_false, Bool.true_beq, Bool.false_beq, beq_self_eq_true, bite_eq]) (by simp +decide only [aevs, aev, aResults, rget_rput, if_true, if_false]) (by decide) (C_known (k2_of (by decide) (k1_45 hi3)) ?_)
  have e2 := Ext.new s1 ⟨1, 25, 0, [], []⟩
  have n2 : (s1.new ⟨1, 25, 0, [], []⟩).next = s1.next + 1 := rfl
  have g1 := (e2.get σ.next (by omega)).trans g1
  generalize s1.new ⟨1, 25, 0, [], []⟩ = s2 at e2 g1 n2 ⊢
  apply Ls_all
  · intro callf
    simp +decide only [aOps, rinit, aWanted, ↓bite_eq, ↓reduceIte, aStep_eq, aStepOld, aOp, opBox, opBin, opUn, opCall, opIndexAddr, opFieldAddr, opLoad, opStore, opPick, opExtract, opSlice, opBuildSlice, opBuild, aRow, aev, aevs, aparts, ann, unn, aPut, if_true, if_false, rget_rput, flat, flat1, Nat.blt_eq, aBuiltin, List.getElem?_toArray, List.getElem?_cons_zero, List.getElem?_cons_succ, Nat.zero_add, Option.bind_some, beq_self_eq_true, Bool.not_true, Bool.not_false, Bool.true_beq, Bool.false_beq, opNil, opLookup, opUpdate, opMakeMap]
    rfl
  have H2 := H1.ext e2
  repeat apply W_assoc
  apply W_reg
  · intro callf
    simp +decide only [aOps, rinit, aWanted, ↓bite_eq, ↓reduceIte, aStep_eq, aStepOld, aOp, opBox, opBin, opUn, opCall, opIndexAddr, opFieldAddr, opLoad, opStore, opPick, opExtract, opSlice, opBuildSlice, opBuild, aRow, aev, aevs, aparts, ann, unn, aPut, if_true, if_false, rget_rput, flat, flat1, Nat.blt_eq, aBuiltin, List.getElem?_toArray, List.getElem?_cons_zero, List.getElem?_cons_succ, Nat.zero_add, Option.bind_some, beq_self_eq_true, Bool.not_true, Bool.not_false, Bool.true_beq, Bool.false_beq, opNil, opLookup, opUpdate, opMakeMap, notT]
    rfl
  repeat apply W_assoc
  refine W_if (b := false) ?_ ?_ ?_
  · simp +decide only [aevs, aev, aResults, rget_rput, if_true, if_false, decide_true, decide_false, Bool.not_true, Bool.not_false]
  · intro h; cases h
  intro _
  apply W_skipq
  have lf := loadCo0 g1
  have lc := loadCo g1
  have ix := idxFs (b := bf) (k := k + 1) (i := i) (by omega)
  have l2 : aLoad Tryz.prog s2 4 (.pointer (some ⟨bf, i * 6 + 2, none⟩)) = some (.bool true) := load1 Tryz.underlying4 rfl (H2.cell hi rfl)
  have l1 : aLoad Tryz.prog s2 3 (.pointer (some ⟨bf, i * 6 + 1, none⟩)) = some (.int .i64 0) := load1 Tryz.underlying3 rfl (H2.cell hi rfl)
  have dB : decide ((i : Int) ≥ ((k + 1 : Nat) : Int)) = false := decide_eq_false (by omega)
  have dC : ((0 : Int) != ((0 : Nat) : Int)) = false := by decide
  repeat apply W_assoc
  apply W_regL
  apply Ls_pre 14
  · intro callf
    simp +decide only [List.take, aOps, rinit, aWanted, ↓bite_eq, ↓reduceIte, aStep_eq, aStepOld, aOp, opBox, opBin, opUn, opCall, opIndexAddr, opFieldAddr, opLoad, opStore, opPick, opExtract, opSlice, opBuildSlice, opBuild, aRow, aev, aevs, aparts, ann, unn, aPut, if_true, if_false, rget_rput, flat, flat1, Nat.blt_eq, aBuiltin, List.getElem?_toArray, List.getElem?_cons_zero, List.getElem?_cons_succ, Nat.zero_add, Option.bind_some, beq_self_eq_true, Bool.not_true, Bool.not_false, Bool.true_beq, Bool.false_beq, opNil, opLookup, opUpdate, opMakeMap, fldC0, lf, lenFs, goInt, geI, dB, ix, fldFn2, l2, notT, opPick]
    rfl
  dsimp only [List.drop]
  apply Ls_all
  · intro callf
    simp +decide only [aOps, rinit, aWanted, ↓bite_eq, ↓reduceIte, aStep_eq, aStepOld, aOp, opBox, opBin, opUn, opCall, opIndexAddr, opFieldAddr, opLoad, opStore, opPick, opExtract, opSlice, opBuildSlice, opBuild, aRow, aev, aevs, aparts, ann, unn, aPut, if_true, if_false, rget_rput, flat, flat1, Nat.blt_eq, aBuiltin, List.getElem?_toArray, List.getElem?_cons_zero, List.getElem?_cons_succ, Nat.zero_add, Option.bind_some, beq_self_eq_true, Bool.not_true, Bool.not_false, Bool.true_beq, Bool.false_beq, opNil, opLookup, opUpdate, opMakeMap, fldC0, lf, lenFs, lenV, goInt, ix, fldF1, l1, neI, dC, opPick]
    rfl
  repeat apply W_assoc
  refine W_if (b := false) ?_ ?_ ?_
  · simp +decide only [aevs, aev, aResults, rget_rput, if_true, if_false, decide_true, decide_false, Bool.not_true, Bool.not_false]
  · intro h; cases h
  intro _
  apply W_skipq
  repeat apply W_assoc
  apply W_regL
  apply Ls_pre 3
  · intro callf
    simp +decide only [List.take, aOps, rinit, aWanted, ↓bite_eq, ↓reduceIte, aStep_eq, aStepOld, aOp, opBox, opBin, opUn, opCall, opIndexAddr, opFieldAddr, opLoad, opStore, opPick, opExtract, opSlice, opBuildSlice, opBuild, aRow, aev, aevs, aparts, ann, unn, aPut, if_true, if_false, rget_rput, flat, flat1, Nat.blt_eq, aBuiltin, List.getElem?_toArray, List.getElem?_cons_zero, List.getElem?_cons_succ, Nat.zero_add, Option.bind_some, beq_self_eq_true, Bool.not_true, Bool.not_false, Bool.true_beq, Bool.false_beq, opNil, opLookup, opUpdate, opMakeMap, lc]
    rfl
  dsimp only [List.drop]
  refine Ls_fnG (vs := [coreV bf bn be k, .int .i64 (i : Int), .slice (some ⟨s1.next, 0, none⟩) 0 0, .int .i64 16384]) (by simp +decide only [aWanted, List.getElem?_toArray, List.getElem?_cons_zero, List.getElem?_cons_succ, Option.bind_some, rget_rput, if_true, if_false, Bool.not_true, Bool.not_false, Bool.true_beq, Bool.false_beq, beq_self_eq_true, bite_eq]) (by simp +decide only [aevs, aev, aResults, rget_rput, if_true, if_false]) (by decide) (C_known (k2_46 (e := some j) ⟨_, _, _, _, _, _, _, i, _, H2, hg, hi, hi2, rfl, ⟨ho, ha, hj⟩⟩) ?_)
  unfold vEv
  apply Ls_all
  · intro callf
    simp +decide only [aOps, rinit, aWanted, ↓bite_eq, ↓reduceIte, aStep_eq, aStepOld, aOp, opBox, opBin, opUn, opCall, opIndexAddr, opFieldAddr, opLoad, opStore, opPick, opExtract, opSlice, opBuildSlice, opBuild, aRow, aev, aevs, aparts, ann, unn, aPut, if_true, if_false, rget_rput, flat, flat1, Nat.blt_eq, aBuiltin, List.getElem?_toArray, List.getElem?_cons_zero, List.getElem?_cons_succ, Nat.zero_add, Option.bind_some, beq_self_eq_true, Bool.not_true, Bool.not_false, Bool.true_beq, Bool.false_beq, opNil, opLookup, opUpdate, opMakeMap]
    rfl
  have d0 : ((0 : Int) != 0) = false := by decide
  repeat apply W_assoc
  apply W_reg
  · intro callf
    simp +decide only [aOps, rinit, aWanted, ↓bite_eq, ↓reduceIte, aStep_eq, aStepOld, aOp, opBox, opBin, opUn, opCall, opIndexAddr, opFieldAddr, opLoad, opStore, opPick, opExtract, opSlice, opBuildSlice, opBuild, aRow, aev, aevs, aparts, ann, unn, aPut, if_true, if_false, rget_rput, flat, flat1, Nat.blt_eq, aBuiltin, List.getElem?_toArray, List.getElem?_cons_zero, List.getElem?_cons_succ, Nat.zero_add, Option.bind_some, beq_self_eq_true, Bool.not_true, Bool.not_false, Bool.true_beq, Bool.false_beq, opNil, opLookup, opUpdate, opMakeMap, neI, d0]
    rfl
  repeat apply W_assoc
  refine W_if (b := false) ?_ ?_ ?_
  · simp +decide only [aevs, aev, aResults, rget_rput, if_true, if_false, decide_true, decide_false, Bool.not_true, Bool.not_false]
  · intro h; cases h
  intro _
  apply W_skipq
  repeat apply W_assoc
  apply W_regL
  apply Ls_pre 1
  · intro callf
    simp +decide only [List.take, aOps, rinit, aWanted, ↓bite_eq, ↓reduceIte, aStep_eq, aStepOld, aOp, opBox, opBin, opUn, opCall, opIndexAddr, opFieldAddr, opLoad, opStore, opPick, opExtract, opSlice, opBuildSlice, opBuild, aRow, aev, aevs, aparts, ann, unn, aPut, if_true, if_false, rget_rput, flat, flat1, Nat.blt_eq, aBuiltin, List.getElem?_toArray, List.getElem?_cons_zero, List.getElem?_cons_succ, Nat.zero_add, Option.bind_some, beq_self_eq_true, Bool.not_true, Bool.not_false, Bool.true_beq, Bool.false_beq, opNil, opLookup, opUpdate, opMakeMap]
    rfl
  dsimp only [List.drop]
  refine Ls_fnG (vs := [.string (strE (some j))]) (by simp +decide only [aWanted, List.getElem?_toArray, List.getElem?_cons_zero, List.getElem?_cons_succ, Option.bind_some, rget_rput, if_true, if_false, Bool.not_true, Bool.not_false, Bool.true_beq, Bool.false_beq, beq_self_eq_true, bite_eq]) (by simp +decide only [aevs, aev, aResults, rget_rput, if_true, if_false]) (by decide) (C_known (k2_of (by decide) (k1_31 (by omega))) ?_)
  apply Ls_all
  · intro callf
    simp +decide only [aOps, rinit, aWanted, ↓bite_eq, ↓reduceIte, aStep_eq, aStepOld, aOp, opBox, opBin, opUn, opCall, opIndexAddr, opFieldAddr, opLoad, opStore, opPick, opExtract, opSlice, opBuildSlice, opBuild, aRow, aev, aevs, aparts, ann, unn, aPut, if_true, if_false, rget_rput, flat, flat1, Nat.blt_eq, aBuiltin, List.getElem?_toArray, List.getElem?_cons_zero, List.getElem?_cons_succ, Nat.zero_add, Option.bind_some, beq_self_eq_true, Bool.not_true, Bool.not_false, Bool.true_beq, Bool.false_beq, opNil, opLookup, opUpdate, opMakeMap, notT]
    rfl
  repeat apply W_assoc
  refine W_if (b := false) ?_ ?_ ?_
  · simp +decide only [aevs, aev, aResults, rget_rput, if_true, if_false, decide_true, decide_false, Bool.not_true, Bool.not_false]
  · intro h; cases h
  intro _
  apply W_skipq
  repeat apply W_assoc
  apply W_reg
  · intro callf
    simp +decide only [aOps, rinit, aWanted, ↓bite_eq, ↓reduceIte, aStep_eq, aStepOld, aOp, opBox, opBin, opUn, opCall, opIndexAddr, opFieldAddr, opLoad, opStore, opPick, opExtract, opSlice, opBuildSlice, opBuild, aRow, aev, aevs, aparts, ann, unn, aPut, if_true, if_false, rget_rput, flat, flat1, Nat.blt_eq, aBuiltin, List.getElem?_toArray, List.getElem?_cons_zero, List.getElem?_cons_succ, Nat.zero_add, Option.bind_some, beq_self_eq_true, Bool.not_true, Bool.not_false, Bool.true_beq, Bool.false_beq, opNil, opLookup, opUpdate, opMakeMap]
    rfl
  refine W_ret ⟨Nat.le_refl _, [.string (strE (some j)), .int .i64 0], ?_, rfl, e1.trans e2⟩
  simp +decide only [aevs, aev, aResults, rget_rput, if_true, if_false]

set_option maxRecDepth 20000 in
set_option maxHeartbeats 64000000 in
theorem unfold_end (h : Chn σ bf bn be k bl op ar) (hg : ∀ n, n ≤ k → good k (op n) (ar n)) {i : Nat} (hi : i ≤ k) (hi2 : i < 32) (hi3 : i < 33) (ho : op i = 54) (ha : ar i = 1) :
    C Tryz.prog K2 0 21 [coreV bf bn be k, .string (cs i)] σ fun u s => u = .tuple #[.string stopS, .int .i64 0] ∧ Ext σ s := by
  refine C_of (k2_of (by decide) (k1_none rfl)) Tryz.func21 rfl (Nat.le_of_ble_eq_true rfl) ?_
  show W _ _ _ 64 _ _ _ _
  unfold Tryz.f21
  dsimp only
  repeat apply W_assoc
  apply W_regL
  apply Ls_pre 1
  · intro callf
    simp +decide only [List.take, aOps, rinit, aWanted, ↓bite_eq, ↓reduceIte, aStep_eq, aStepOld, aOp, opBox, opBin, opUn, opCall, opIndexAddr, opFieldAddr, opLoad, opStore, opPick, opExtract, opSlice, opBuildSlice, opBuild, aRow, aev, aevs, aparts, ann, unn, aPut, if_true, if_false, rget_rput, flat, flat1, Nat.blt_eq, aBuiltin, List.getElem?_toArray, List.getElem?_cons_zero, List.getElem?_cons_succ, Nat.zero_add, Option.bind_some, beq_self_eq_true, Bool.not_true, Bool.not_false, Bool.true_beq, Bool.false_beq, opNil, opLookup, opUpdate, opMakeMap]
    rfl
  dsimp only [List.drop]
  show Ls _ _ _ _ _ _ _ (σ.new ⟨1, 34, 0, [slo bf (k + 1), slo bn 4, .slice none 0 0, slo be 4], []⟩) _
  have e1 := Ext.new σ ⟨1, 34, 0, [slo bf (k + 1), slo bn 4, .slice none 0 0, slo be 4], []⟩
  have g1 : (σ.new ⟨1, 34, 0, [slo bf (k + 1), slo bn 4, .slice none 0 0, slo be 4], []⟩).get σ.next = ⟨1, 34, 0, [slo bf (k + 1), slo bn 4, .slice none 0 0, slo be 4], []⟩ := by rw [AS.get_new, if_pos rfl]
  have n1 : (σ.new ⟨1, 34, 0, [slo bf (k + 1), slo bn 4, .slice none 0 0, slo be 4], []⟩).next = σ.next + 1 := rfl
  generalize σ.new ⟨1, 34, 0, [slo bf (k + 1), slo bn 4, .slice none 0 0, slo be 4], []⟩ = s1 at e1 g1 n1 ⊢
  apply Ls_all
  · intro callf
    simp +decide only [aOps, rinit, aWanted, ↓bite_eq, ↓reduceIte, aStep_eq, aStepOld, aOp, opBox, opBin, opUn, opCall, opIndexAddr, opFieldAddr, opLoad, opStore, opPick, opExtract, opSlice, opBuildSlice, opBuild, aRow, aev, aevs, aparts, ann, unn, aPut, if_true, if_false, rget_rput, flat, flat1, Nat.blt_eq, aBuiltin, List.getElem?_toArray, List.getElem?_cons_zero, List.getElem?_cons_succ, Nat.zero_add, Option.bind_some, beq_self_eq_true, Bool.not_true, Bool.not_false, Bool.true_beq, Bool.false_beq, opNil, opLookup, opUpdate, opMakeMap]
    rfl
  repeat apply W_assoc
  apply W_regL
  apply Ls_pre 1
  · intro callf
    simp +decide only [List.take, aOps, rinit, aWanted, ↓bite_eq, ↓reduceIte, aStep_eq, aStepOld, aOp, opBox, opBin, opUn, opCall, opIndexAddr, opFieldAddr, opLoad, opStore, opPick, opExtract, opSlice, opBuildSlice, opBuild, aRow, aev, aevs, aparts, ann, unn, aPut, if_true, if_false, rget_rput, flat, flat1, Nat.blt_eq, aBuiltin, List.getElem?_toArray, List.getElem?_cons_zero, List.getElem?_cons_succ, Nat.zero_add, Option.bind_some, beq_self_eq_true, Bool.not_true, Bool.not_false, Bool.true_beq, Bool.false_beq, opNil, opLookup, opUpdate, opMakeMap]
    rfl
  dsimp only [List.drop]
  refine Ls_fnG (vs := [.string (cs i)]) (by simp +decide only [aWanted, List.getElem?_toArray, List.getElem?_cons_zero, List.getElem?_cons_succ, Option.bind_some, rget_rput, if_true, if_false, Bool.not_true, Bool.not_false, Bool.true_beq, Bool.false_beq, beq_self_eq_true, bite_eq]) (by simp +decide only [aevs, aev, aResults, rget_rput, if_true, if_false]) (by decide) (C_known (k2_of (by decide) (k1_31 hi3)) ?_)
  apply Ls_all
  · intro callf
    simp +decide only [aOps, rinit, aWanted, ↓bite_eq, ↓reduceIte, aStep_eq, aStepOld, aOp, opBox, opBin, opUn, opCall, opIndexAddr, opFieldAddr, opLoad, opStore, opPick, opExtract, opSlice, opBuildSlice, opBuild, aRow, aev, aevs, aparts, ann, unn, aPut, if_true, if_false, rget_rput, flat, flat1, Nat.blt_eq, aBuiltin, List.getElem?_toArray, List.getElem?_cons_zero, List.getElem?_cons_succ, Nat.zero_add, Option.bind_some, beq_self_eq_true, Bool.not_true, Bool.not_false, Bool.true_beq, Bool.false_beq, opNil, opLookup, opUpdate, opMakeMap, notT]
    rfl
  repeat apply W_assoc
  refine W_if (b := false) ?_ ?_ ?_
  · simp +decide only [aevs, aev, aResults, rget_rput, if_true, if_false, decide_true, decide_false, Bool.not_true, Bool.not_false]
  · intro h; cases h
  intro _
  apply W_skipq
  have hk := h.hk
  have H1 := h.ext e1
  repeat apply W_assoc
  apply W_regL
  apply Ls_pre 1
  · intro callf
    simp +decide only [List.take, aOps, rinit, aWanted, ↓bite_eq, ↓reduceIte, aStep_eq, aStepOld, aOp, opBox, opBin, opUn, opCall, opIndexAddr, opFieldAddr, opLoad, opStore, opPick, opExtract, opSlice, opBuildSlice, opBuild, aRow, aev, aevs, aparts, ann, unn, aPut, if_true, if_false, rget_rput, flat, flat1, Nat.blt_eq, aBuiltin, List.getElem?_toArray, List.getElem?_cons_zero, List.getElem?_cons_succ, Nat.zero_add, Option.bind_some, beq_self_eq_true, Bool.not_true, Bool.not_false, Bool.true_beq, Bool.false_beq, opNil, opLookup, opUpdate, opMakeMap]
    rfl
  dsimp only [List.drop]
  refine Ls_fnG (vs := [.string (cs i)]) (by simp +decide only [aWanted, List.getElem?_toArray, List.getElem?_cons_zero, List.getElem?_cons_succ, Option.bind_some, rget_rput, if_true, if_false, Bool.not_true, Bool.not_false, Bool.true_beq, Bool.false_beq, beq_self_eq_true, bite_eq]) (by simp +decide only [aevs, aev, aResults, rget_rput, if_true, if_false]) (by decide) (C_known (k2_of (by decide) (k1_45 hi3)) ?_)
  have e2 := Ext.new s1 ⟨1, 25, 0, [], []⟩
  have n2 : (s1.new ⟨1, 25, 0, [], []⟩).next = s1.next + 1 := rfl
  have g1 := (e2.get σ.next (by omega)).trans g1
  generalize s1.new ⟨1, 25, 0, [], []⟩ = s2 at e2 g1 n2 ⊢
  apply Ls_all
  · intro callf
    simp +decide only [aOps, rinit, aWanted, ↓bite_eq, ↓reduceIte, aStep_eq, aStepOld, aOp, opBox, opBin, opUn, opCall, opIndexAddr, opFieldAddr, opLoad, opStore, opPick, opExtract, opSlice, opBuildSlice, opBuild, aRow, aev, aevs, aparts, ann, unn, aPut, if_true, if_false, rget_rput, flat, flat1, Nat.blt_eq, aBuiltin, List.getElem?_toArray, List.getElem?_cons_zero, List.getElem?_cons_succ, Nat.zero_add, Option.bind_some, beq_self_eq_true, Bool.not_true, Bool.not_false, Bool.true_beq, Bool.false_beq, opNil, opLookup, opUpdate, opMakeMap]
    rfl
  have H2 := H1.ext e2
  repeat apply W_assoc
  apply W_reg
  · intro callf
    simp +decide only [aOps, rinit, aWanted, ↓bite_eq, ↓reduceIte, aStep_eq, aStepOld, aOp, opBox, opBin, opUn, opCall, opIndexAddr, opFieldAddr, opLoad, opStore, opPick, opExtract, opSlice, opBuildSlice, opBuild, aRow, aev, aevs, aparts, ann, unn, aPut, if_true, if_false, rget_rput, flat, flat1, Nat.blt_eq, aBuiltin, List.getElem?_toArray, List.getElem?_cons_zero, List.getElem?_cons_succ, Nat.zero_add, Option.bind_some, beq_self_eq_true, Bool.not_true, Bool.not_false, Bool.true_beq, Bool.false_beq, opNil, opLookup, opUpdate, opMakeMap, notT]
    rfl
  repeat apply W_assoc
  refine W_if (b := false) ?_ ?_ ?_
  · simp +decide only [aevs, aev, aResults, rget_rput, if_true, if_false, decide_true, decide_false, Bool.not_true, Bool.not_false]
  · intro h; cases h
  intro _
  apply W_skipq
  have lf := loadCo0 g1
  have lc := loadCo g1
  have ix := idxFs (b := bf) (k := k + 1) (i := i) (by omega)
  have l2 : aLoad Tryz.prog s2 4 (.pointer (some ⟨bf, i * 6 + 2, none⟩)) = some (.bool true) := load1 Tryz.underlying4 rfl (H2.cell hi rfl)
  have l1 : aLoad Tryz.prog s2 3 (.pointer (some ⟨bf, i * 6 + 1, none⟩)) = some (.int .i64 0) := load1 Tryz.underlying3 rfl (H2.cell hi rfl)
  have dB : decide ((i : Int) ≥ ((k + 1 : Nat) : Int)) = false := decide_eq_false (by omega)
  have dC : ((0 : Int) != ((0 : Nat) : Int)) = false := by decide
  repeat apply W_assoc
  apply W_regL
  apply Ls_pre 14
  · intro callf
    simp +decide only [List.take, aOps, rinit, aWanted, ↓bite_eq, ↓reduceIte, aStep_eq, aStepOld, aOp, opBox, opBin, opUn, opCall, opIndexAddr, opFieldAddr, opLoad, opStore, opPick, opExtract, opSlice, opBuildSlice, opBuild, aRow, aev, aevs, aparts, ann, unn, aPut, if_true, if_false, rget_rput, flat, flat1, Nat.blt_eq, aBuiltin, List.getElem?_toArray, List.getElem?_cons_zero, List.getElem?_cons_succ, Nat.zero_add, Option.bind_some, beq_self_eq_true, Bool.not_true, Bool.not_false, Bool.true_beq, Bool.false_beq, opNil, opLookup, opUpdate, opMakeMap, fldC0, lf, lenFs, goInt, geI, dB, ix, fldFn2, l2, notT, opPick]
    rfl
  dsimp only [List.drop]
  apply Ls_all
  · intro callf
    simp +decide only [aOps, rinit, aWanted, ↓bite_eq, ↓reduceIte, aStep_eq, aStepOld, aOp, opBox, opBin, opUn, opCall, opIndexAddr, opFieldAddr, opLoad, opStore, opPick, opExtract, opSlice, opBuildSlice, opBuild, aRow, aev, aevs, aparts, ann, unn, aPut, if_true, if_false, rget_rput, flat, flat1, Nat.blt_eq, aBuiltin, List.getElem?_toArray, List.getElem?_cons_zero, List.getElem?_cons_succ, Nat.zero_add, Option.bind_some, beq_self_eq_true, Bool.not_true, Bool.not_false, Bool.true_beq, Bool.false_beq, opNil, opLookup, opUpdate, opMakeMap, fldC0, lf, lenFs, lenV, goInt, ix, fldF1, l1, neI, dC, opPick]
    rfl
  repeat apply W_assoc
  refine W_if (b := false) ?_ ?_ ?_
  · simp +decide only [aevs, aev, aResults, rget_rput, if_true, if_false, decide_true, decide_false, Bool.not_true, Bool.not_false]
  · intro h; cases h
  intro _
  apply W_skipq
  repeat apply W_assoc
  apply W_regL
  apply Ls_pre 3
  · intro callf
    simp +decide only [List.take, aOps, rinit, aWanted, ↓bite_eq, ↓reduceIte, aStep_eq, aStepOld, aOp, opBox, opBin, opUn, opCall, opIndexAddr, opFieldAddr, opLoad, opStore, opPick, opExtract, opSlice, opBuildSlice, opBuild, aRow, aev, aevs, aparts, ann, unn, aPut, if_true, if_false, rget_rput, flat, flat1, Nat.blt_eq, aBuiltin, List.getElem?_toArray, List.getElem?_cons_zero, List.getElem?_cons_succ, Nat.zero_add, Option.bind_some, beq_self_eq_true, Bool.not_true, Bool.not_false, Bool.true_beq, Bool.false_beq, opNil, opLookup, opUpdate, opMakeMap, lc]
    rfl
  dsimp only [List.drop]
  refine Ls_fnG (vs := [coreV bf bn be k, .int .i64 (i : Int), .slice (some ⟨s1.next, 0, none⟩) 0 0, .int .i64 16384]) (by simp +decide only [aWanted, List.getElem?_toArray, List.getElem?_cons_zero, List.getElem?_cons_succ, Option.bind_some, rget_rput, if_true, if_false, Bool.not_true, Bool.not_false, Bool.true_beq, Bool.false_beq, beq_self_eq_true, bite_eq]) (by simp +decide only [aevs, aev, aResults, rget_rput, if_true, if_false]) (by decide) (C_known (k2_46 (e := none) ⟨_, _, _, _, _, _, _, i, _, H2, hg, hi, hi2, rfl, ⟨ho, ha⟩⟩) ?_)
  unfold vEv
  apply Ls_all
  · intro callf
    simp +decide only [aOps, rinit, aWanted, ↓bite_eq, ↓reduceIte, aStep_eq, aStepOld, aOp, opBox, opBin, opUn, opCall, opIndexAddr, opFieldAddr, opLoad, opStore, opPick, opExtract, opSlice, opBuildSlice, opBuild, aRow, aev, aevs, aparts, ann, unn, aPut, if_true, if_false, rget_rput, flat, flat1, Nat.blt_eq, aBuiltin, List.getElem?_toArray, List.getElem?_cons_zero, List.getElem?_cons_succ, Nat.zero_add, Option.bind_some, beq_self_eq_true, Bool.not_true, Bool.not_false, Bool.true_beq, Bool.false_beq, opNil, opLookup, opUpdate, opMakeMap]
    rfl
  have d0 : ((0 : Int) != 0) = false := by decide
  repeat apply W_assoc
  apply W_reg
  · intro callf
    simp +decide only [aOps, rinit, aWanted, ↓bite_eq, ↓reduceIte, aStep_eq, aStepOld, aOp, opBox, opBin, opUn, opCall, opIndexAddr, opFieldAddr, opLoad, opStore, opPick, opExtract, opSlice, opBuildSlice, opBuild, aRow, aev, aevs, aparts, ann, unn, aPut, if_true, if_false, rget_rput, flat, flat1, Nat.blt_eq, aBuiltin, List.getElem?_toArray, List.getElem?_cons_zero, List.getElem?_cons_succ, Nat.zero_add, Option.bind_some, beq_self_eq_true, Bool.not_true, Bool.not_false, Bool.true_beq, Bool.false_beq, opNil, opLookup, opUpdate, opMakeMap, neI, d0]
    rfl
  repeat apply W_assoc
  refine W_if (b := false) ?_ ?_ ?_
  · simp +decide only [aevs, aev, aResults, rget_rput, if_true, if_false, decide_true, decide_false, Bool.not_true, Bool.not_false]
  · intro h; cases h
  intro _
  apply W_skipq
  repeat apply W_assoc
  apply W_regL
  apply Ls_pre 1
  · intro callf
    simp +decide only [List.take, aOps, rinit, aWanted, ↓bite_eq, ↓reduceIte, aStep_eq, aStepOld, aOp, opBox, opBin, opUn, opCall, opIndexAddr, opFieldAddr, opLoad, opStore, opPick, opExtract, opSlice, opBuildSlice, opBuild, aRow, aev, aevs, aparts, ann, unn, aPut, if_true, if_false, rget_rput, flat, flat1, Nat.blt_eq, aBuiltin, List.getElem?_toArray, List.getElem?_cons_zero, List.getElem?_cons_succ, Nat.zero_add, Option.bind_some, beq_self_eq_true, Bool.not_true, Bool.not_false, Bool.true_beq, Bool.false_beq, opNil, opLookup, opUpdate, opMakeMap]
    rfl
  dsimp only [List.drop]
  refine Ls_fnG (vs := [.string (strE (none))]) (by simp +decide only [aWanted, List.getElem?_toArray, List.getElem?_cons_zero, List.getElem?_cons_succ, Option.bind_some, rget_rput, if_true, if_false, Bool.not_true, Bool.not_false, Bool.true_beq, Bool.false_beq, beq_self_eq_true, bite_eq]) (by simp +decide only [aevs, aev, aResults, rget_rput, if_true, if_false]) (by decide) (C_known (k2_of (by decide) (k1_31s)) ?_)
  apply Ls_all
  · intro callf
    simp +decide only [aOps, rinit, aWanted, ↓bite_eq, ↓reduceIte, aStep_eq, aStepOld, aOp, opBox, opBin, opUn, opCall, opIndexAddr, opFieldAddr, opLoad, opStore, opPick, opExtract, opSlice, opBuildSlice, opBuild, aRow, aev, aevs, aparts, ann, unn, aPut, if_true, if_false, rget_rput, flat, flat1, Nat.blt_eq, aBuiltin, List.getElem?_toArray, List.getElem?_cons_zero, List.getElem?_cons_succ, Nat.zero_add, Option.bind_some, beq_self_eq_true, Bool.not_true, Bool.not_false, Bool.true_beq, Bool.false_beq, opNil, opLookup, opUpdate, opMakeMap, notT]
    rfl
  repeat apply W_assoc
  refine W_if (b := false) ?_ ?_ ?_
  · simp +decide only [aevs, aev, aResults, rget_rput, if_true, if_false, decide_true, decide_false, Bool.not_true, Bool.not_false]
  · intro h; cases h
  intro _
  apply W_skipq
  repeat apply W_assoc
  apply W_reg
  · intro callf
    simp +decide only [aOps, rinit, aWanted, ↓bite_eq, ↓reduceIte, aStep_eq, aStepOld, aOp, opBox, opBin, opUn, opCall, opIndexAddr, opFieldAddr, opLoad, opStore, opPick, opExtract, opSlice, opBuildSlice, opBuild, aRow, aev, aevs, aparts, ann, unn, aPut, if_true, if_false, rget_rput, flat, flat1, Nat.blt_eq, aBuiltin, List.getElem?_toArray, List.getElem?_cons_zero, List.getElem?_cons_succ, Nat.zero_add, Option.bind_some, beq_self_eq_true, Bool.not_true, Bool.not_false, Bool.true_beq, Bool.false_beq, opNil, opLookup, opUpdate, opMakeMap]
    rfl
  refine W_ret ⟨Nat.le_refl _, [.string (strE (none)), .int .i64 0], ?_, rfl, e1.trans e2⟩
  simp +decide only [aevs, aev, aResults, rget_rput, if_true, if_false]

set_option maxRecDepth 20000 in
set_option maxHeartbeats 64000000 in
theorem unfold_stop : C Tryz.prog K2 0 21 [coreV bf bn be k, .string stopS] σ fun u s => u = .tuple #[.string stopS, .int .i64 0] ∧ Ext σ s := by
  refine C_of (k2_of (by decide) (k1_none rfl)) Tryz.func21 rfl (Nat.le_of_ble_eq_true rfl) ?_
  show W _ _ _ 64 _ _ _ _
  unfold Tryz.f21
  dsimp only
  repeat apply W_assoc
  apply W_regL
  apply Ls_pre 1
  · intro callf
    simp +decide only [List.take, aOps, rinit, aWanted, ↓bite_eq, ↓reduceIte, aStep_eq, aStepOld, aOp, opBox, opBin, opUn, opCall, opIndexAddr, opFieldAddr, opLoad, opStore, opPick, opExtract, opSlice, opBuildSlice, opBuild, aRow, aev, aevs, aparts, ann, unn, aPut, if_true, if_false, rget_rput, flat, flat1, Nat.blt_eq, aBuiltin, List.getElem?_toArray, List.getElem?_cons_zero, List.getElem?_cons_succ, Nat.zero_add, Option.bind_some, beq_self_eq_true, Bool.not_true, Bool.not_false, Bool.true_beq, Bool.false_beq, opNil, opLookup, opUpdate, opMakeMap]
    rfl
  dsimp only [List.drop]
  show Ls _ _ _ _ _ _ _ (σ.new ⟨1, 34, 0, [slo bf (k + 1), slo bn 4, .slice none 0 0, slo be 4], []⟩) _
  have e1 := Ext.new σ ⟨1, 34, 0, [slo bf (k + 1), slo bn 4, .slice none 0 0, slo be 4], []⟩
  have g1 : (σ.new ⟨1, 34, 0, [slo bf (k + 1), slo bn 4, .slice none 0 0, slo be 4], []⟩).get σ.next = ⟨1, 34, 0, [slo bf (k + 1), slo bn 4, .slice none 0 0, slo be 4], []⟩ := by rw [AS.get_new, if_pos rfl]
  have n1 : (σ.new ⟨1, 34, 0, [slo bf (k + 1), slo bn 4, .slice none 0 0, slo be 4], []⟩).next = σ.next + 1 := rfl
  generalize σ.new ⟨1, 34, 0, [slo bf (k + 1), slo bn 4, .slice none 0 0, slo be 4], []⟩ = s1 at e1 g1 n1 ⊢
  apply Ls_all
  · intro callf
    simp +decide only [aOps, rinit, aWanted, ↓bite_eq, ↓reduceIte, aStep_eq, aStepOld, aOp, opBox, opBin, opUn, opCall, opIndexAddr, opFieldAddr, opLoad, opStore, opPick, opExtract, opSlice, opBuildSlice, opBuild, aRow, aev, aevs, aparts, ann, unn, aPut, if_true, if_false, rget_rput, flat, flat1, Nat.blt_eq, aBuiltin, List.getElem?_toArray, List.getElem?_cons_zero, List.getElem?_cons_succ, Nat.zero_add, Option.bind_some, beq_self_eq_true, Bool.not_true, Bool.not_false, Bool.true_beq, Bool.false_beq, opNil, opLookup, opUpdate, opMakeMap]
    rfl
  repeat apply W_assoc
  apply W_regL
  apply Ls_pre 1
  · intro callf
    simp +decide only [List.take, aOps, rinit, aWanted, ↓bite_eq, ↓reduceIte, aStep_eq, aStepOld, aOp, opBox, opBin, opUn, opCall, opIndexAddr, opFieldAddr, opLoad, opStore, opPick, opExtract, opSlice, opBuildSlice, opBuild, aRow, aev, aevs, aparts, ann, unn, aPut, if_true, if_false, rget_rput, flat, flat1, Nat.blt_eq, aBuiltin, List.getElem?_toArray, List.getElem?_cons_zero, List.getElem?_cons_succ, Nat.zero_add, Option.bind_some, beq_self_eq_true, Bool.not_true, Bool.not_false, Bool.true_beq, Bool.false_beq, opNil, opLookup, opUpdate, opMakeMap]
    rfl
  dsimp only [List.drop]
  refine Ls_fnG (vs := [.string stopS]) (by simp +decide only [aWanted, List.getElem?_toArray, List.getElem?_cons_zero, List.getElem?_cons_succ, Option.bind_some, rget_rput, if_true, if_false, Bool.not_true, Bool.not_false, Bool.true_beq, Bool.false_beq, beq_self_eq_true, bite_eq]) (by simp +decide only [aevs, aev, aResults, rget_rput, if_true, if_false]) (by decide) (C_known (k2_of (by decide) k1_31s) ?_)
  apply Ls_all
  · intro callf
    simp +decide only [aOps, rinit, aWanted, ↓bite_eq, ↓reduceIte, aStep_eq, aStepOld, aOp, opBox, opBin, opUn, opCall, opIndexAddr, opFieldAddr, opLoad, opStore, opPick, opExtract, opSlice, opBuildSlice, opBuild, aRow, aev, aevs, aparts, ann, unn, aPut, if_true, if_false, rget_rput, flat, flat1, Nat.blt_eq, aBuiltin, List.getElem?_toArray, List.getElem?_cons_zero, List.getElem?_cons_succ, Nat.zero_add, Option.bind_some, beq_self_eq_true, Bool.not_true, Bool.not_false, Bool.true_beq, Bool.false_beq, opNil, opLookup, opUpdate, opMakeMap, notT]
    rfl
  repeat apply W_assoc
  refine W_if (b := false) ?_ ?_ ?_
  · simp +decide only [aevs, aev, aResults, rget_rput, if_true, if_false, decide_true, decide_false, Bool.not_true, Bool.not_false]
  · intro h; cases h
  intro _
  apply W_skipq
  repeat apply W_assoc
  apply W_regL
  apply Ls_pre 1
  · intro callf
    simp +decide only [List.take, aOps, rinit, aWanted, ↓bite_eq, ↓reduceIte, aStep_eq, aStepOld, aOp, opBox, opBin, opUn, opCall, opIndexAddr, opFieldAddr, opLoad, opStore, opPick, opExtract, opSlice, opBuildSlice, opBuild, aRow, aev, aevs, aparts, ann, unn, aPut, if_true, if_false, rget_rput, flat, flat1, Nat.blt_eq, aBuiltin, List.getElem?_toArray, List.getElem?_cons_zero, List.getElem?_cons_succ, Nat.zero_add, Option.bind_some, beq_self_eq_true, Bool.not_true, Bool.not_false, Bool.true_beq, Bool.false_beq, opNil, opLookup, opUpdate, opMakeMap]
    rfl
  dsimp only [List.drop]
  refine Ls_fnG (vs := [.string stopS]) (by simp +decide only [aWanted, List.getElem?_toArray, List.getElem?_cons_zero, List.getElem?_cons_succ, Option.bind_some, rget_rput, if_true, if_false, Bool.not_true, Bool.not_false, Bool.true_beq, Bool.false_beq, beq_self_eq_true, bite_eq]) (by simp +decide only [aevs, aev, aResults, rget_rput, if_true, if_false]) (by decide) (C_known (k2_of (by decide) k1_45s) ?_)
  apply Ls_all
  · intro callf
    simp +decide only [aOps, rinit, aWanted, ↓bite_eq, ↓reduceIte, aStep_eq, aStepOld, aOp, opBox, opBin, opUn, opCall, opIndexAddr, opFieldAddr, opLoad, opStore, opPick, opExtract, opSlice, opBuildSlice, opBuild, aRow, aev, aevs, aparts, ann, unn, aPut, if_true, if_false, rget_rput, flat, flat1, Nat.blt_eq, aBuiltin, List.getElem?_toArray, List.getElem?_cons_zero, List.getElem?_cons_succ, Nat.zero_add, Option.bind_some, beq_self_eq_true, Bool.not_true, Bool.not_false, Bool.true_beq, Bool.false_beq, opNil, opLookup, opUpdate, opMakeMap]
    rfl
  repeat apply W_assoc
  apply W_reg
  · intro callf
    simp +decide only [aOps, rinit, aWanted, ↓bite_eq, ↓reduceIte, aStep_eq, aStepOld, aOp, opBox, opBin, opUn, opCall, opIndexAddr, opFieldAddr, opLoad, opStore, opPick, opExtract, opSlice, opBuildSlice, opBuild, aRow, aev, aevs, aparts, ann, unn, aPut, if_true, if_false, rget_rput, flat, flat1, Nat.blt_eq, aBuiltin, List.getElem?_toArray, List.getElem?_cons_zero, List.getElem?_cons_succ, Nat.zero_add, Option.bind_some, beq_self_eq_true, Bool.not_true, Bool.not_false, Bool.true_beq, Bool.false_beq, opNil, opLookup, opUpdate, opMakeMap, notF]
    rfl
  repeat apply W_assoc
  refine W_if (b := true) ?_ ?_ ?_
  · simp +decide only [aevs, aev, aResults, rget_rput, if_true, if_false, decide_true, decide_false, Bool.not_true, Bool.not_false]
  rotate_left
  · intro h; cases h
  intro _
  repeat apply W_assoc
  apply W_reg
  · intro callf
    simp +decide only [aOps, rinit, aWanted, ↓bite_eq, ↓reduceIte, aStep_eq, aStepOld, aOp, opBox, opBin, opUn, opCall, opIndexAddr, opFieldAddr, opLoad, opStore, opPick, opExtract, opSlice, opBuildSlice, opBuild, aRow, aev, aevs, aparts, ann, unn, aPut, if_true, if_false, rget_rput, flat, flat1, Nat.blt_eq, aBuiltin, List.getElem?_toArray, List.getElem?_cons_zero, List.getElem?_cons_succ, Nat.zero_add, Option.bind_some, beq_self_eq_true, Bool.not_true, Bool.not_false, Bool.true_beq, Bool.false_beq, opNil, opLookup, opUpdate, opMakeMap]
    rfl
  refine W_retq ⟨Nat.le_refl _, [.string stopS, .int .i64 0], ?_, rfl, e1⟩
  simp +decide only [aevs, aev, aResults, rget_rput, if_true, if_false]

end

/-! ### The map of the calls that were seen -/

def entS (l : List Nat) : List (Value × Value) := l.map fun j => (.string (cs j), .bool true)
noncomputable def seenB : Nat → Blk
  | 0 => ⟨3, 0, 0, [], []⟩
  | i + 1 => grown (seenB i) (.string (cs i)) (.bool true)
theorem seenB_is : ∀ i, (seenB i).kind = 3 ∧ (seenB i).ents = entS (List.range i)
  | 0 => ⟨rfl, rfl⟩
  | i + 1 => by
    obtain ⟨h1, h2⟩ := seenB_is i
    refine ⟨h1, ?_⟩
    show (seenB i).ents ++ [(.string (cs i), .bool true)] = _
    rw [h2, List.range_succ]
    unfold entS
    rw [List.map_append]
    rfl
theorem cs_inj {a b : Nat} (ha : a < 33) (hb : b < 33) (h : cs a = cs b) : a = b := by
  rw [← ixS_cs ha, h, ixS_cs hb]
theorem ba_eq (a b : ByteArray) : (a == b) = true ↔ a = b := by
  cases a with
  | mk x => cases b with
    | mk y =>
      show (x == y) = true ↔ _
      rw [beq_iff_eq]
      constructor
      · rintro rfl; rfl
      · intro h; injection h
theorem look : ∀ (l : List Nat) (m p : Nat), m < 33 → (∀ j ∈ l, j < 33) → (m ∉ l → aFind .string (.string (cs m)) (entS l) p = some none) ∧ (m ∈ l → ∃ q, aFind .string (.string (cs m)) (entS l) p = some (some (q, .bool true)))
  | [], m, p, _, _ => ⟨fun _ => rfl, fun h => (nomatch h)⟩
  | x :: l, m, p, hm, hl => by
    obtain ⟨i1, i2⟩ := look l m (p + 1) hm fun j hj => hl j (List.mem_cons_of_mem _ hj)
    have hx := hl x List.mem_cons_self
    have hs : Instr.sameNow .string (.string (cs m)) (.string (cs x)) = some (cs m == cs x) := rfl
    have e : aFind .string (.string (cs m)) (entS (x :: l)) p = (match Instr.sameNow .string (.string (cs m)) (.string (cs x)) with
      | some true => some (some (p, .bool true))
      | some false => aFind .string (.string (cs m)) (entS l) (p + 1)
      | none => none) := rfl
    rw [e, hs]
    by_cases hmx : m = x
    · subst hmx
      rw [show (cs m == cs m) = true from (ba_eq _ _).2 rfl]
      exact ⟨fun h => absurd List.mem_cons_self h, fun _ => ⟨p, rfl⟩⟩
    · rw [show (cs m == cs x) = false from by
        cases hb : (cs m == cs x) with
        | false => rfl
        | true => exact absurd (cs_inj hm hx ((ba_eq _ _).1 hb)) hmx]
      refine ⟨fun h => i1 fun h' => h (List.mem_cons_of_mem _ h'), fun h => ?_⟩
      rcases List.mem_cons.1 h with h | h
      · exact absurd h hmx
      · exact i2 h

section
variable {σ : AS} {mb i m : Nat}
theorem undM : Tryz.prog.underlying 64 = some (.map 25 4) := Tryz.underlying64
theorem undS : Tryz.prog.underlying 25 = some .string := Tryz.underlying25
theorem lookF (hg : σ.get mb = seenB i) (hm : m < 33) (hi : i ≤ 33) (h : i ≤ m) : aLookup Tryz.prog σ 64 (.map (some mb)) (.string (cs m)) false = some (.bool false) := by
  obtain ⟨h1, h2⟩ := seenB_is i
  have h3 := (look (List.range i) m 0 hm fun j hj => by have := List.mem_range.1 hj; omega).1 fun hj => by have := List.mem_range.1 hj; omega
  unfold aLookup
  simp only [undM, undS, aEnts, hg, h1, h2]
  unfold aFindK
  rw [if_pos (show Nat.beq 3 3 = true from rfl)]
  dsimp only
  rw [if_pos (show basicKey .string = true from rfl), h3]
  obtain ⟨inf, hi, hz⟩ : ∃ inf, Tryz.prog.info? 4 = some inf ∧ inf.zero = some (.bool false) := ⟨(Tryz.prog.info? 4).get!, by kernel_rfl, by kernel_rfl⟩
  simp only [hi, hz]
  rfl
theorem lookT (hg : σ.get mb = seenB i) (hi : i ≤ 33) (h : m < i) : aLookup Tryz.prog σ 64 (.map (some mb)) (.string (cs m)) false = some (.bool true) := by
  obtain ⟨h1, h2⟩ := seenB_is i
  obtain ⟨q, h3⟩ := (look (List.range i) m 0 (by omega) fun j hj => by have := List.mem_range.1 hj; omega).2 (List.mem_range.2 h)
  unfold aLookup
  simp only [undM, undS, aEnts, hg, h1, h2]
  unfold aFindK
  rw [if_pos (show Nat.beq 3 3 = true from rfl)]
  dsimp only
  rw [if_pos (show basicKey .string = true from rfl), h3]
  rfl
theorem updS (hg : σ.get mb = seenB i) (hi : i < 33) : aUpdate Tryz.prog σ 64 (.map (some mb)) (.string (cs i)) (.bool true) = some (σ.put mb (seenB (i + 1))) := by
  obtain ⟨h1, h2⟩ := seenB_is i
  have h3 := (look (List.range i) i 0 hi fun j hj => by have := List.mem_range.1 hj; omega).1 fun hj => by have := List.mem_range.1 hj; omega
  unfold aUpdate
  simp only [undM, undS, hg, h1, h2]
  unfold aFindK
  rw [if_pos (show Nat.beq 3 3 = true from rfl)]
  rw [if_pos (show basicKey .string = true from rfl), h3]
  rfl
theorem lenM (hg : σ.get mb = seenB i) : aLen Tryz.prog σ 64 (.map (some mb)) = some (goInt (i : Int)) := by
  obtain ⟨h1, h2⟩ := seenB_is i
  unfold aLen
  simp only [undM, hg, h1, h2]
  rw [if_pos (show Nat.beq 3 3 = true from rfl)]
  unfold entS
  rw [List.length_map, List.length_range]
end

/-! ### Head -/

def headV (e : Option Nat) (k : Nat) : Value := if k < 32 then (match e with
  | none => .tuple #[.string stopS, .int .i64 0]
  | some _ => .tuple #[.string ⟨#[]⟩, .int .i64 19]) else .tuple #[.string ⟨#[]⟩, .int .i64 15]
def lastIs (e : Option Nat) (k : Nat) (o a : Int) : Prop := match e with
  | none => o = 54 ∧ a = 1
  | some b => o = 7 ∧ a = ((b : Nat) : Int) ∧ b ≤ k
theorem eqI {xo yo : Operand} {t : TypeId} {a b : Int} : aBin Tryz.prog .eql t xo yo (.int .i64 a) (.int .i64 b) = some (.bool (a == b)) := by simp only [aBin, aInts, aInt_eq, if_true]
set_option maxRecDepth 20000 in
set_option maxHeartbeats 64000000 in
theorem head_c {σ : AS} {bf bn be k : Nat} {bl : Nat → Nat} {op ar : Nat → Int} (e : Option Nat) (h : Chn σ bf bn be k bl op ar) (hg : ∀ n, n ≤ k → good k (op n) (ar n)) (hc : ∀ i, i < k → op i = 7 ∧ ar i = ((i + 1 : Nat) : Int)) (he : lastIs e k (op k) (ar k)) :
    C Tryz.prog K2 0 6 [coreV bf bn be k, .string (cs 0)] σ fun u s => u = headV e k ∧ Ext σ s := by
  refine C_of (k2_of (by decide) (k1_none rfl)) Tryz.func6 rfl (Nat.le_of_ble_eq_true rfl) ?_
  show W _ _ _ 36 _ _ _ _
  unfold Tryz.f6
  dsimp only
  have hk := h.hk
  repeat apply W_assoc
  apply W_regL
  apply Ls_pre 1
  · intro callf
    simp +decide only [List.take, aOps, rinit, aWanted, ↓bite_eq, ↓reduceIte, aStep_eq, aStepOld, aOp, opBox, opBin, opUn, opCall, opIndexAddr, opFieldAddr, opLoad, opStore, opPick, opExtract, opSlice, opBuildSlice, opBuild, aRow, aev, aevs, aparts, ann, unn, aPut, if_true, if_false, rget_rput, flat, flat1, Nat.blt_eq, aBuiltin, List.getElem?_toArray, List.getElem?_cons_zero, List.getElem?_cons_succ, Nat.zero_add, Option.bind_some, beq_self_eq_true, Bool.not_true, Bool.not_false, Bool.true_beq, Bool.false_beq, opNil, opLookup, opUpdate, opMakeMap]
    rfl
  dsimp only [List.drop]
  show Ls _ _ _ _ _ _ _ (σ.new ⟨1, 34, 0, [slo bf (k + 1), slo bn 4, .slice none 0 0, slo be 4], []⟩) _
  have e1 := Ext.new σ ⟨1, 34, 0, [slo bf (k + 1), slo bn 4, .slice none 0 0, slo be 4], []⟩
  have g1 : (σ.new ⟨1, 34, 0, [slo bf (k + 1), slo bn 4, .slice none 0 0, slo be 4], []⟩).get σ.next = ⟨1, 34, 0, [slo bf (k + 1), slo bn 4, .slice none 0 0, slo be 4], []⟩ := by rw [AS.get_new, if_pos rfl]
  have n1 : (σ.new ⟨1, 34, 0, [slo bf (k + 1), slo bn 4, .slice none 0 0, slo be 4], []⟩).next = σ.next + 1 := rfl
  generalize σ.new ⟨1, 34, 0, [slo bf (k + 1), slo bn 4, .slice none 0 0, slo be 4], []⟩ = s1 at e1 g1 n1 ⊢
  apply Ls_all
  · intro callf
    simp +decide only [aOps, rinit, aWanted, ↓bite_eq, ↓reduceIte, aStep_eq, aStepOld, aOp, opBox, opBin, opUn, opCall, opIndexAddr, opFieldAddr, opLoad, opStore, opPick, opExtract, opSlice, opBuildSlice, opBuild, aRow, aev, aevs, aparts, ann, unn, aPut, if_true, if_false, rget_rput, flat, flat1, Nat.blt_eq, aBuiltin, List.getElem?_toArray, List.getElem?_cons_zero, List.getElem?_cons_succ, Nat.zero_add, Option.bind_some, beq_self_eq_true, Bool.not_true, Bool.not_false, Bool.true_beq, Bool.false_beq, opNil, opLookup, opUpdate, opMakeMap]
    rfl
  repeat apply W_assoc
  apply W_regL
  apply Ls_pre 1
  · intro callf
    simp +decide only [List.take, aOps, rinit, aWanted, ↓bite_eq, ↓reduceIte, aStep_eq, aStepOld, aOp, opBox, opBin, opUn, opCall, opIndexAddr, opFieldAddr, opLoad, opStore, opPick, opExtract, opSlice, opBuildSlice, opBuild, aRow, aev, aevs, aparts, ann, unn, aPut, if_true, if_false, rget_rput, flat, flat1, Nat.blt_eq, aBuiltin, List.getElem?_toArray, List.getElem?_cons_zero, List.getElem?_cons_succ, Nat.zero_add, Option.bind_some, beq_self_eq_true, Bool.not_true, Bool.not_false, Bool.true_beq, Bool.false_beq, opNil, opLookup, opUpdate, opMakeMap]
    rfl
  dsimp only [List.drop]
  show Ls _ _ _ _ _ _ _ (s1.new (seenB 0)) _
  rw [n1]
  have e2 := Ext.new s1 (seenB 0)
  have g2 : (s1.new (seenB 0)).get (σ.next + 1) = seenB 0 := by rw [← n1, AS.get_new, if_pos rfl]
  have n2 : (s1.new (seenB 0)).next = σ.next + 2 := by show s1.next + 1 = _; omega
  have g1 := (e2.get σ.next (by omega)).trans g1
  have e12 := e1.trans e2
  generalize s1.new (seenB 0) = s2 at e2 g1 g2 n2 e12 ⊢
  apply Ls_all
  · intro callf
    simp +decide only [aOps, rinit, aWanted, ↓bite_eq, ↓reduceIte, aStep_eq, aStepOld, aOp, opBox, opBin, opUn, opCall, opIndexAddr, opFieldAddr, opLoad, opStore, opPick, opExtract, opSlice, opBuildSlice, opBuild, aRow, aev, aevs, aparts, ann, unn, aPut, if_true, if_false, rget_rput, flat, flat1, Nat.blt_eq, aBuiltin, List.getElem?_toArray, List.getElem?_cons_zero, List.getElem?_cons_succ, Nat.zero_add, Option.bind_some, beq_self_eq_true, Bool.not_true, Bool.not_false, Bool.true_beq, Bool.false_beq, opNil, opLookup, opUpdate, opMakeMap]
    rfl
  repeat apply W_assoc
  refine W_for (fun (a : Option Nat) r s => (match a with
      | some i => i ≤ k ∧ i ≤ 32 ∧ s.get (σ.next + 1) = seenB i ∧ rget r 1 = .string (cs i)
      | none => k < 32 ∧ s.get (σ.next + 1) = seenB (k + 1) ∧ rget r 1 = .string (strE e)) ∧ Ext σ s ∧ s.get σ.next = ⟨1, 34, 0, [slo bf (k + 1), slo bn 4, .slice none 0 0, slo be 4], []⟩ ∧ σ.next + 1 < s.next ∧ rget r 2 = .pointer (some ⟨σ.next, 0, none⟩) ∧ rget r 6 = .map (some (σ.next + 1))) (fun a => match a with | some i => 100 - i | none => 0) ?_ (some 0) ?_
  rotate_left
  · refine ⟨⟨Nat.zero_le _, Nat.zero_le _, g2, ?_⟩, e12, g1, by omega, ?_, ?_⟩ <;> simp +decide only [rget_rput, rinit, if_true, if_false] <;> rfl
  clear g1 g2 n1 n2 e1 e2 e12
  rintro a r s ⟨ha, E, g1, n1, h2, h6⟩
  cases a with
  | none =>
    obtain ⟨hk32, g2, h1⟩ := ha
    cases e with
    | none =>
      repeat apply W_assoc
      apply W_regL
      apply Ls_pre 1
      · intro callf
        simp +decide only [List.take, aOps, rinit, aWanted, ↓bite_eq, ↓reduceIte, aStep_eq, aStepOld, aOp, opBox, opBin, opUn, opCall, opIndexAddr, opFieldAddr, opLoad, opStore, opPick, opExtract, opSlice, opBuildSlice, opBuild, aRow, aev, aevs, aparts, ann, unn, aPut, if_true, if_false, rget_rput, flat, flat1, Nat.blt_eq, aBuiltin, List.getElem?_toArray, List.getElem?_cons_zero, List.getElem?_cons_succ, Nat.zero_add, Option.bind_some, beq_self_eq_true, Bool.not_true, Bool.not_false, Bool.true_beq, Bool.false_beq, opNil, opLookup, opUpdate, opMakeMap, h1]
        rfl
      dsimp only [List.drop]
      refine Ls_fnG (vs := [.string stopS]) (by simp +decide only [aWanted, List.getElem?_toArray, List.getElem?_cons_zero, List.getElem?_cons_succ, Option.bind_some, rget_rput, if_true, if_false, Bool.not_true, Bool.not_false, Bool.true_beq, Bool.false_beq, beq_self_eq_true, bite_eq]) (by simp +decide only [aevs, aev, aResults, rget_rput, if_true, if_false, strE]) (by decide) (C_known (k2_of (by decide) k1_20s) ?_)
      have d0 : ((1 : Int) == 5) = false := by decide
      apply Ls_all
      · intro callf
        simp +decide only [aOps, rinit, aWanted, ↓bite_eq, ↓reduceIte, aStep_eq, aStepOld, aOp, opBox, opBin, opUn, opCall, opIndexAddr, opFieldAddr, opLoad, opStore, opPick, opExtract, opSlice, opBuildSlice, opBuild, aRow, aev, aevs, aparts, ann, unn, aPut, if_true, if_false, rget_rput, flat, flat1, Nat.blt_eq, aBuiltin, List.getElem?_toArray, List.getElem?_cons_zero, List.getElem?_cons_succ, Nat.zero_add, Option.bind_some, beq_self_eq_true, Bool.not_true, Bool.not_false, Bool.true_beq, Bool.false_beq, opNil, opLookup, opUpdate, opMakeMap, eqI, d0]
        rfl
      repeat apply W_assoc
      refine W_if (b := false) ?_ ?_ ?_
      · simp +decide only [aevs, aev, aResults, rget_rput, if_true, if_false, decide_true, decide_false, Bool.not_true, Bool.not_false]
      · intro h; cases h
      intro _
      refine W_exitq ⟨fun h => (nomatch h), fun _ => ?_, fun h1 h2 => absurd rfl h2⟩
      have lc := loadCo g1
      repeat apply W_assoc
      apply W_regL
      apply Ls_pre 2
      · intro callf
        simp +decide only [List.take, aOps, rinit, aWanted, ↓bite_eq, ↓reduceIte, aStep_eq, aStepOld, aOp, opBox, opBin, opUn, opCall, opIndexAddr, opFieldAddr, opLoad, opStore, opPick, opExtract, opSlice, opBuildSlice, opBuild, aRow, aev, aevs, aparts, ann, unn, aPut, if_true, if_false, rget_rput, flat, flat1, Nat.blt_eq, aBuiltin, List.getElem?_toArray, List.getElem?_cons_zero, List.getElem?_cons_succ, Nat.zero_add, Option.bind_some, beq_self_eq_true, Bool.not_true, Bool.not_false, Bool.true_beq, Bool.false_beq, opNil, opLookup, opUpdate, opMakeMap, h1, h2, lc]
        rfl
      dsimp only [List.drop]
      refine Ls_fn (vs := [coreV bf bn be k, .string stopS]) (by simp +decide only [aevs, aev, aResults, rget_rput, if_true, if_false, strE]) (by decide) (C.mono (unfold_stop) ?_)
      rintro u s3 ⟨rfl, E3⟩
      apply Ls_all
      · intro callf
        simp +decide only [aOps, rinit, aWanted, ↓bite_eq, ↓reduceIte, aStep_eq, aStepOld, aOp, opBox, opBin, opUn, opCall, opIndexAddr, opFieldAddr, opLoad, opStore, opPick, opExtract, opSlice, opBuildSlice, opBuild, aRow, aev, aevs, aparts, ann, unn, aPut, if_true, if_false, rget_rput, flat, flat1, Nat.blt_eq, aBuiltin, List.getElem?_toArray, List.getElem?_cons_zero, List.getElem?_cons_succ, Nat.zero_add, Option.bind_some, beq_self_eq_true, Bool.not_true, Bool.not_false, Bool.true_beq, Bool.false_beq, opNil, opLookup, opUpdate, opMakeMap]
        rfl
      refine W_ret ⟨Nat.le_refl _, [.string stopS, .int .i64 0], ?_, ?_, E.trans E3⟩
      · simp +decide only [aevs, aev, aResults, rget_rput, if_true, if_false]
      · unfold headV
        rw [if_pos hk32]
        rfl
    | some b =>
      obtain ⟨_, _, hb⟩ := he
      repeat apply W_assoc
      apply W_regL
      apply Ls_pre 1
      · intro callf
        simp +decide only [List.take, aOps, rinit, aWanted, ↓bite_eq, ↓reduceIte, aStep_eq, aStepOld, aOp, opBox, opBin, opUn, opCall, opIndexAddr, opFieldAddr, opLoad, opStore, opPick, opExtract, opSlice, opBuildSlice, opBuild, aRow, aev, aevs, aparts, ann, unn, aPut, if_true, if_false, rget_rput, flat, flat1, Nat.blt_eq, aBuiltin, List.getElem?_toArray, List.getElem?_cons_zero, List.getElem?_cons_succ, Nat.zero_add, Option.bind_some, beq_self_eq_true, Bool.not_true, Bool.not_false, Bool.true_beq, Bool.false_beq, opNil, opLookup, opUpdate, opMakeMap, h1]
        rfl
      dsimp only [List.drop]
      refine Ls_fnG (vs := [.string (cs b)]) (by simp +decide only [aWanted, List.getElem?_toArray, List.getElem?_cons_zero, List.getElem?_cons_succ, Option.bind_some, rget_rput, if_true, if_false, Bool.not_true, Bool.not_false, Bool.true_beq, Bool.false_beq, beq_self_eq_true, bite_eq]) (by simp +decide only [aevs, aev, aResults, rget_rput, if_true, if_false, strE]) (by decide) (C_known (k2_of (by decide) (k1_20 (i := b) (by omega))) ?_)
      have d0 : ((5 : Int) == 5) = true := by decide
      apply Ls_all
      · intro callf
        simp +decide only [aOps, rinit, aWanted, ↓bite_eq, ↓reduceIte, aStep_eq, aStepOld, aOp, opBox, opBin, opUn, opCall, opIndexAddr, opFieldAddr, opLoad, opStore, opPick, opExtract, opSlice, opBuildSlice, opBuild, aRow, aev, aevs, aparts, ann, unn, aPut, if_true, if_false, rget_rput, flat, flat1, Nat.blt_eq, aBuiltin, List.getElem?_toArray, List.getElem?_cons_zero, List.getElem?_cons_succ, Nat.zero_add, Option.bind_some, beq_self_eq_true, Bool.not_true, Bool.not_false, Bool.true_beq, Bool.false_beq, opNil, opLookup, opUpdate, opMakeMap, eqI, d0]
        rfl
      repeat apply W_assoc
      refine W_if (b := true) ?_ ?_ ?_
      · simp +decide only [aevs, aev, aResults, rget_rput, if_true, if_false, decide_true, decide_false, Bool.not_true, Bool.not_false]
      rotate_left
      · intro h; cases h
      intro _
      apply W_skipq
      refine W_tail ?_
      refine W_blk ?_
      refine W_tail ?_
      have lk := lookT (m := b) g2 (by omega) (by omega)
      repeat apply W_assoc
      apply W_reg
      · intro callf
        simp +decide only [aOps, rinit, aWanted, ↓bite_eq, ↓reduceIte, aStep_eq, aStepOld, aOp, opBox, opBin, opUn, opCall, opIndexAddr, opFieldAddr, opLoad, opStore, opPick, opExtract, opSlice, opBuildSlice, opBuild, aRow, aev, aevs, aparts, ann, unn, aPut, if_true, if_false, rget_rput, flat, flat1, Nat.blt_eq, aBuiltin, List.getElem?_toArray, List.getElem?_cons_zero, List.getElem?_cons_succ, Nat.zero_add, Option.bind_some, beq_self_eq_true, Bool.not_true, Bool.not_false, Bool.true_beq, Bool.false_beq, opNil, opLookup, opUpdate, opMakeMap, h1, h6, lk, strE]
        rfl
      repeat apply W_assoc
      refine W_if (b := true) ?_ ?_ ?_
      · simp +decide only [aevs, aev, aResults, rget_rput, if_true, if_false, decide_true, decide_false, Bool.not_true, Bool.not_false]
      rotate_left
      · intro h; cases h
      intro _
      repeat apply W_assoc
      apply W_reg
      · intro callf
        simp +decide only [aOps, rinit, aWanted, ↓bite_eq, ↓reduceIte, aStep_eq, aStepOld, aOp, opBox, opBin, opUn, opCall, opIndexAddr, opFieldAddr, opLoad, opStore, opPick, opExtract, opSlice, opBuildSlice, opBuild, aRow, aev, aevs, aparts, ann, unn, aPut, if_true, if_false, rget_rput, flat, flat1, Nat.blt_eq, aBuiltin, List.getElem?_toArray, List.getElem?_cons_zero, List.getElem?_cons_succ, Nat.zero_add, Option.bind_some, beq_self_eq_true, Bool.not_true, Bool.not_false, Bool.true_beq, Bool.false_beq, opNil, opLookup, opUpdate, opMakeMap]
        rfl
      refine W_retq ⟨fun h => ?_, fun _ _ => ⟨fun h => ?_, fun h => ?_, fun _ _ => ⟨Nat.le_refl _, [.string ⟨#[]⟩, .int .i64 19], ?_, ?_, E⟩⟩⟩
      · rcases h with h | h <;> cases h
      · cases h
      · cases h
      · simp +decide only [aevs, aev, aResults, rget_rput, if_true, if_false]
      · unfold headV
        rw [if_pos hk32]
        rfl
  | some i =>
    obtain ⟨hi, hi2, g2, h1⟩ := ha
    repeat apply W_assoc
    apply W_regL
    apply Ls_pre 1
    · intro callf
      simp +decide only [List.take, aOps, rinit, aWanted, ↓bite_eq, ↓reduceIte, aStep_eq, aStepOld, aOp, opBox, opBin, opUn, opCall, opIndexAddr, opFieldAddr, opLoad, opStore, opPick, opExtract, opSlice, opBuildSlice, opBuild, aRow, aev, aevs, aparts, ann, unn, aPut, if_true, if_false, rget_rput, flat, flat1, Nat.blt_eq, aBuiltin, List.getElem?_toArray, List.getElem?_cons_zero, List.getElem?_cons_succ, Nat.zero_add, Option.bind_some, beq_self_eq_true, Bool.not_true, Bool.not_false, Bool.true_beq, Bool.false_beq, opNil, opLookup, opUpdate, opMakeMap, h1]
      rfl
    dsimp only [List.drop]
    refine Ls_fnG (vs := [.string (cs i)]) (by simp +decide only [aWanted, List.getElem?_toArray, List.getElem?_cons_zero, List.getElem?_cons_succ, Option.bind_some, rget_rput, if_true, if_false, Bool.not_true, Bool.not_false, Bool.true_beq, Bool.false_beq, beq_self_eq_true, bite_eq]) (by simp +decide only [aevs, aev, aResults, rget_rput, if_true, if_false]) (by decide) (C_known (k2_of (by decide) (k1_20 (i := i) (by omega))) ?_)
    have d0 : ((5 : Int) == 5) = true := by decide
    apply Ls_all
    · intro callf
      simp +decide only [aOps, rinit, aWanted, ↓bite_eq, ↓reduceIte, aStep_eq, aStepOld, aOp, opBox, opBin, opUn, opCall, opIndexAddr, opFieldAddr, opLoad, opStore, opPick, opExtract, opSlice, opBuildSlice, opBuild, aRow, aev, aevs, aparts, ann, unn, aPut, if_true, if_false, rget_rput, flat, flat1, Nat.blt_eq, aBuiltin, List.getElem?_toArray, List.getElem?_cons_zero, List.getElem?_cons_succ, Nat.zero_add, Option.bind_some, beq_self_eq_true, Bool.not_true, Bool.not_false, Bool.true_beq, Bool.false_beq, opNil, opLookup, opUpdate, opMakeMap, eqI, d0]
      rfl
    repeat apply W_assoc
    refine W_if (b := true) ?_ ?_ ?_
    · simp +decide only [aevs, aev, aResults, rget_rput, if_true, if_false, decide_true, decide_false, Bool.not_true, Bool.not_false]
    rotate_left
    · intro h; cases h
    intro _
    apply W_skipq
    refine W_tail ?_
    refine W_blk ?_
    refine W_tail ?_
    have lk := lookF (m := i) g2 (by omega) (by omega) (Nat.le_refl _)
    repeat apply W_assoc
    apply W_reg
    · intro callf
      simp +decide only [aOps, rinit, aWanted, ↓bite_eq, ↓reduceIte, aStep_eq, aStepOld, aOp, opBox, opBin, opUn, opCall, opIndexAddr, opFieldAddr, opLoad, opStore, opPick, opExtract, opSlice, opBuildSlice, opBuild, aRow, aev, aevs, aparts, ann, unn, aPut, if_true, if_false, rget_rput, flat, flat1, Nat.blt_eq, aBuiltin, List.getElem?_toArray, List.getElem?_cons_zero, List.getElem?_cons_succ, Nat.zero_add, Option.bind_some, beq_self_eq_true, Bool.not_true, Bool.not_false, Bool.true_beq, Bool.false_beq, opNil, opLookup, opUpdate, opMakeMap, h1, h6, lk]
      rfl
    repeat apply W_assoc
    refine W_if (b := false) ?_ ?_ ?_
    · simp +decide only [aevs, aev, aResults, rget_rput, if_true, if_false, decide_true, decide_false, Bool.not_true, Bool.not_false]
    · intro h; cases h
    intro _
    apply W_skipq
    have ll := lenM g2
    by_cases h32 : i = 32
    · have d1 : ((i : Int) == 32) = true := by rw [h32]; rfl
      repeat apply W_assoc
      apply W_reg
      · intro callf
        simp +decide only [aOps, rinit, aWanted, ↓bite_eq, ↓reduceIte, aStep_eq, aStepOld, aOp, opBox, opBin, opUn, opCall, opIndexAddr, opFieldAddr, opLoad, opStore, opPick, opExtract, opSlice, opBuildSlice, opBuild, aRow, aev, aevs, aparts, ann, unn, aPut, if_true, if_false, rget_rput, flat, flat1, Nat.blt_eq, aBuiltin, List.getElem?_toArray, List.getElem?_cons_zero, List.getElem?_cons_succ, Nat.zero_add, Option.bind_some, beq_self_eq_true, Bool.not_true, Bool.not_false, Bool.true_beq, Bool.false_beq, opNil, opLookup, opUpdate, opMakeMap, h6, ll, goInt, eqI, d1]
        rfl
      repeat apply W_assoc
      refine W_if (b := true) ?_ ?_ ?_
      · simp +decide only [aevs, aev, aResults, rget_rput, if_true, if_false, decide_true, decide_false, Bool.not_true, Bool.not_false]
      rotate_left
      · intro h; cases h
      intro _
      repeat apply W_assoc
      apply W_reg
      · intro callf
        simp +decide only [aOps, rinit, aWanted, ↓bite_eq, ↓reduceIte, aStep_eq, aStepOld, aOp, opBox, opBin, opUn, opCall, opIndexAddr, opFieldAddr, opLoad, opStore, opPick, opExtract, opSlice, opBuildSlice, opBuild, aRow, aev, aevs, aparts, ann, unn, aPut, if_true, if_false, rget_rput, flat, flat1, Nat.blt_eq, aBuiltin, List.getElem?_toArray, List.getElem?_cons_zero, List.getElem?_cons_succ, Nat.zero_add, Option.bind_some, beq_self_eq_true, Bool.not_true, Bool.not_false, Bool.true_beq, Bool.false_beq, opNil, opLookup, opUpdate, opMakeMap]
        rfl
      refine W_retq ⟨fun h => ?_, fun _ _ => ⟨fun h => ?_, fun h => ?_, fun _ _ => ⟨Nat.le_refl _, [.string ⟨#[]⟩, .int .i64 15], ?_, ?_, E⟩⟩⟩
      · rcases h with h | h <;> cases h
      · cases h
      · cases h
      · simp +decide only [aevs, aev, aResults, rget_rput, if_true, if_false]
      · unfold headV
        rw [if_neg (by omega)]
        rfl
    have d1 : ((i : Int) == 32) = false := by rw [beq_eq_false_iff_ne]; omega
    repeat apply W_assoc
    apply W_reg
    · intro callf
      simp +decide only [aOps, rinit, aWanted, ↓bite_eq, ↓reduceIte, aStep_eq, aStepOld, aOp, opBox, opBin, opUn, opCall, opIndexAddr, opFieldAddr, opLoad, opStore, opPick, opExtract, opSlice, opBuildSlice, opBuild, aRow, aev, aevs, aparts, ann, unn, aPut, if_true, if_false, rget_rput, flat, flat1, Nat.blt_eq, aBuiltin, List.getElem?_toArray, List.getElem?_cons_zero, List.getElem?_cons_succ, Nat.zero_add, Option.bind_some, beq_self_eq_true, Bool.not_true, Bool.not_false, Bool.true_beq, Bool.false_beq, opNil, opLookup, opUpdate, opMakeMap, h6, ll, goInt, eqI, d1]
      rfl
    repeat apply W_assoc
    refine W_if (b := false) ?_ ?_ ?_
    · simp +decide only [aevs, aev, aResults, rget_rput, if_true, if_false, decide_true, decide_false, Bool.not_true, Bool.not_false]
    · intro h; cases h
    intro _
    apply W_skipq
    have up := updS g2 (by omega)
    repeat apply W_assoc
    apply W_reg
    · intro callf
      simp +decide only [aOps, rinit, aWanted, ↓bite_eq, ↓reduceIte, aStep_eq, aStepOld, aOp, opBox, opBin, opUn, opCall, opIndexAddr, opFieldAddr, opLoad, opStore, opPick, opExtract, opSlice, opBuildSlice, opBuild, aRow, aev, aevs, aparts, ann, unn, aPut, if_true, if_false, rget_rput, flat, flat1, Nat.blt_eq, aBuiltin, List.getElem?_toArray, List.getElem?_cons_zero, List.getElem?_cons_succ, Nat.zero_add, Option.bind_some, beq_self_eq_true, Bool.not_true, Bool.not_false, Bool.true_beq, Bool.false_beq, opNil, opLookup, opUpdate, opMakeMap, h1, h6, up]
      rfl
    have E1 : Ext σ (s.put (σ.next + 1) (seenB (i + 1))) := Ext.put E (by omega) _
    have g1 : (s.put (σ.next + 1) (seenB (i + 1))).get σ.next = ⟨1, 34, 0, [slo bf (k + 1), slo bn 4, .slice none 0 0, slo be 4], []⟩ := by rw [AS.get_put, if_neg (by omega)]; exact g1
    have g2 : (s.put (σ.next + 1) (seenB (i + 1))).get (σ.next + 1) = seenB (i + 1) := by rw [AS.get_put, if_pos rfl]
    have n1 : σ.next + 1 < (s.put (σ.next + 1) (seenB (i + 1))).next := n1
    generalize s.put (σ.next + 1) (seenB (i + 1)) = s3 at E1 g1 g2 n1 ⊢
    have lc := loadCo g1
    have H3 := h.ext E1
    have d0 : ((0 : Int) != 0) = false := by decide
    obtain ⟨j, hC, hN⟩ : ∃ j : ByteArray, (C Tryz.prog K2 0 21 [coreV bf bn be k, .string (cs i)] s3 fun u s => u = .tuple #[.string j, .int .i64 0] ∧ Ext s3 s) ∧ (∀ r s, Ext σ s → s.get σ.next = ⟨1, 34, 0, [slo bf (k + 1), slo bn 4, .slice none 0 0, slo be 4], []⟩ → σ.next + 1 < s.next → s.get (σ.next + 1) = seenB (i + 1) → rget r 1 = .string j → rget r 2 = .pointer (some ⟨σ.next, 0, none⟩) → rget r 6 = .map (some (σ.next + 1)) → ∃ a' : Option Nat, (match a' with | some i => 100 - i | none => 0) < 100 - i ∧ (match a' with
        | some i => i ≤ k ∧ i ≤ 32 ∧ s.get (σ.next + 1) = seenB i ∧ rget r 1 = .string (cs i)
        | none => k < 32 ∧ s.get (σ.next + 1) = seenB (k + 1) ∧ rget r 1 = .string (strE e)) ∧ Ext σ s ∧ s.get σ.next = ⟨1, 34, 0, [slo bf (k + 1), slo bn 4, .slice none 0 0, slo be 4], []⟩ ∧ σ.next + 1 < s.next ∧ rget r 2 = .pointer (some ⟨σ.next, 0, none⟩) ∧ rget r 6 = .map (some (σ.next + 1))) := by
      by_cases hik : i < k
      · refine ⟨cs (i + 1), unfold_to H3 hg hi (by omega) (by omega) (hc i hik).1 (hc i hik).2 (Nat.le_refl _), fun r s E g1 n1 g2 h1 h2 h6 => ⟨some (i + 1), ?_, ⟨by omega, by omega, g2, h1⟩, E, g1, n1, h2, h6⟩⟩
        show 100 - (i + 1) < 100 - i
        omega
      · obtain rfl : i = k := by omega
        cases e with
        | none =>
          refine ⟨stopS, unfold_end H3 hg (Nat.le_refl _) (by omega) (by omega) he.1 he.2, fun r s E g1 n1 g2 h1 h2 h6 => ⟨none, ?_, ⟨by omega, g2, h1⟩, E, g1, n1, h2, h6⟩⟩
          show 0 < 100 - i
          omega
        | some b =>
          refine ⟨cs b, unfold_to H3 hg (Nat.le_refl _) (by omega) (by omega) he.1 he.2.1 (by have := he.2.2; omega), fun r s E g1 n1 g2 h1 h2 h6 => ⟨none, ?_, ⟨by omega, g2, h1⟩, E, g1, n1, h2, h6⟩⟩
          show 0 < 100 - i
          omega
    repeat apply W_assoc
    apply W_regL
    apply Ls_pre 2
    · intro callf
      simp +decide only [List.take, aOps, rinit, aWanted, ↓bite_eq, ↓reduceIte, aStep_eq, aStepOld, aOp, opBox, opBin, opUn, opCall, opIndexAddr, opFieldAddr, opLoad, opStore, opPick, opExtract, opSlice, opBuildSlice, opBuild, aRow, aev, aevs, aparts, ann, unn, aPut, if_true, if_false, rget_rput, flat, flat1, Nat.blt_eq, aBuiltin, List.getElem?_toArray, List.getElem?_cons_zero, List.getElem?_cons_succ, Nat.zero_add, Option.bind_some, beq_self_eq_true, Bool.not_true, Bool.not_false, Bool.true_beq, Bool.false_beq, opNil, opLookup, opUpdate, opMakeMap, h1, h2, lc]
      rfl
    dsimp only [List.drop]
    refine Ls_fn (vs := [coreV bf bn be k, .string (cs i)]) (by simp +decide only [aevs, aev, aResults, rget_rput, if_true, if_false, h1]) (by decide) (C.mono (hC) ?_)
    rintro u s4 ⟨rfl, E4⟩
    apply Ls_all
    · intro callf
      simp +decide only [aOps, rinit, aWanted, ↓bite_eq, ↓reduceIte, aStep_eq, aStepOld, aOp, opBox, opBin, opUn, opCall, opIndexAddr, opFieldAddr, opLoad, opStore, opPick, opExtract, opSlice, opBuildSlice, opBuild, aRow, aev, aevs, aparts, ann, unn, aPut, if_true, if_false, rget_rput, flat, flat1, Nat.blt_eq, aBuiltin, List.getElem?_toArray, List.getElem?_cons_zero, List.getElem?_cons_succ, Nat.zero_add, Option.bind_some, beq_self_eq_true, Bool.not_true, Bool.not_false, Bool.true_beq, Bool.false_beq, opNil, opLookup, opUpdate, opMakeMap]
      rfl
    repeat apply W_assoc
    apply W_reg
    · intro callf
      simp +decide only [aOps, rinit, aWanted, ↓bite_eq, ↓reduceIte, aStep_eq, aStepOld, aOp, opBox, opBin, opUn, opCall, opIndexAddr, opFieldAddr, opLoad, opStore, opPick, opExtract, opSlice, opBuildSlice, opBuild, aRow, aev, aevs, aparts, ann, unn, aPut, if_true, if_false, rget_rput, flat, flat1, Nat.blt_eq, aBuiltin, List.getElem?_toArray, List.getElem?_cons_zero, List.getElem?_cons_succ, Nat.zero_add, Option.bind_some, beq_self_eq_true, Bool.not_true, Bool.not_false, Bool.true_beq, Bool.false_beq, opNil, opLookup, opUpdate, opMakeMap, neI, d0]
      rfl
    repeat apply W_assoc
    refine W_if (b := false) ?_ ?_ ?_
    · simp +decide only [aevs, aev, aResults, rget_rput, if_true, if_false, decide_true, decide_false, Bool.not_true, Bool.not_false]
    · intro h; cases h
    intro _
    apply W_skipq
    repeat apply W_assoc
    apply W_reg
    · intro callf
      simp +decide only [aOps, rinit, aWanted, ↓bite_eq, ↓reduceIte, aStep_eq, aStepOld, aOp, opBox, opBin, opUn, opCall, opIndexAddr, opFieldAddr, opLoad, opStore, opPick, opExtract, opSlice, opBuildSlice, opBuild, aRow, aev, aevs, aparts, ann, unn, aPut, if_true, if_false, rget_rput, flat, flat1, Nat.blt_eq, aBuiltin, List.getElem?_toArray, List.getElem?_cons_zero, List.getElem?_cons_succ, Nat.zero_add, Option.bind_some, beq_self_eq_true, Bool.not_true, Bool.not_false, Bool.true_beq, Bool.false_beq, opNil, opLookup, opUpdate, opMakeMap]
      rfl
    refine W_skip ⟨fun _ => ?_, fun h => absurd rfl h⟩
    refine W_skip ⟨fun _ => hN _ _ (E1.trans E4) ((E4.get _ (by omega)).trans g1) (Nat.lt_of_lt_of_le n1 E4.nxt) ((E4.get _ n1).trans g2) ?_ ?_ ?_, fun h => (nomatch h), fun h => absurd rfl h⟩ <;> simp +decide only [rget_rput, if_true, if_false, h2, h6]


end Go.Proofs.YtacpdefmnijhnaaGreat.U18
