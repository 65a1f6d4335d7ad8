/- Arcs and their order. -/
import Derived.Test.YtacpdefmnijhnaaGreatUD
set_option linter.unusedSimpArgs false
set_option linter.unusedVariables false
namespace Go.Proofs.YtacpdefmnijhnaaGreat.U
open Abs

theorem ltb {a b : Int} (h : a < b) : decide (a < b) = true := decide_eq_true h
theorem ltf {a b : Int} (h : ¬ a < b) : decide (a < b) = false := decide_eq_false h

/-- What cmp.Compare answers. -/
def cmpI (x y : Int) : Int := if x < y then -1 else if y < x then 1 else 0

set_option maxHeartbeats 1000000 in
theorem nan_c {σ : AS} (x : Int) : C Tryz.prog KA 0 132 [.int .i64 x] σ fun u σ' => u = .bool false ∧ σ' = σ := by
  have d1 : decide (x = x) = true := decide_eq_true rfl
  refine C_of (ka rfl rfl) Tryz.func132 rfl (Nat.le_of_ble_eq_true rfl) ?_
  show W _ _ _ 6 _ _ _ _
  unfold Tryz.f132
  dsimp only
  repeat apply W_assoc
  apply W_reg
  · intro callf
    simp +decide only [aOps, rinit, aWanted, ↓bite_eq, ↓reduceIte, aStep_eq, aStepOld, aOp, opBox, opBin, opUn, opCall, opIndexAddr, opFieldAddr, opLoad, opStore, opPick, opExtract, opSlice, opBuildSlice, opBuild, aRow, aev, aevs, aparts, ann, unn, aPut, if_true, if_false, rget_rput, flat, flat1, Nat.blt_eq, aBuiltin, aLen, List.getElem?_toArray, List.getElem?_cons_zero, List.getElem?_cons_succ, Nat.zero_add, Option.bind_some, beq_self_eq_true, Bool.not_true, Bool.not_false, Bool.true_beq, Bool.false_beq]
    rfl
  repeat apply W_assoc
  apply W_reg
  · intro callf
    simp +decide only [aOps, rinit, aWanted, ↓bite_eq, ↓reduceIte, aStep_eq, aStepOld, aOp, opBox, opBin, opUn, opCall, opIndexAddr, opFieldAddr, opLoad, opStore, opPick, opExtract, opSlice, opBuildSlice, opBuild, aRow, aev, aevs, aparts, ann, unn, aPut, if_true, if_false, rget_rput, flat, flat1, Nat.blt_eq, aBuiltin, aLen, List.getElem?_toArray, List.getElem?_cons_zero, List.getElem?_cons_succ, Nat.zero_add, Option.bind_some, beq_self_eq_true, Bool.not_true, Bool.not_false, Bool.true_beq, Bool.false_beq, d1, aBin, aInts, aInt_eq]
    rfl
  refine W_ret ⟨Nat.le_refl _, [.bool (x != x)], ?_, by show Value.bool (x != x) = _; rw [bne_self_eq_false], rfl⟩
  simp +decide only [aevs, aev, aResults, rget_rput, if_true, if_false]

set_option maxHeartbeats 1000000 in
theorem compare_c {σ : AS} (x y : Int) : C Tryz.prog KA 0 75 [.int .i64 x, .int .i64 y] σ fun u σ' => u = .int .i64 (cmpI x y) ∧ σ' = σ := by
  refine C_of (ka rfl rfl) Tryz.func75 rfl (Nat.le_of_ble_eq_true rfl) ?_
  show W _ _ _ 20 _ _ _ _
  unfold Tryz.f75
  dsimp only
  repeat apply W_assoc
  apply W_reg
  · intro callf
    simp +decide only [aOps, rinit, aWanted, ↓bite_eq, ↓reduceIte, aStep_eq, aStepOld, aOp, opBox, opBin, opUn, opCall, opIndexAddr, opFieldAddr, opLoad, opStore, opPick, opExtract, opSlice, opBuildSlice, opBuild, aRow, aev, aevs, aparts, ann, unn, aPut, if_true, if_false, rget_rput, flat, flat1, Nat.blt_eq, aBuiltin, aLen, List.getElem?_toArray, List.getElem?_cons_zero, List.getElem?_cons_succ, Nat.zero_add, Option.bind_some, beq_self_eq_true, Bool.not_true, Bool.not_false, Bool.true_beq, Bool.false_beq]
    rfl
  repeat apply W_assoc
  apply W_regL
  apply Ls_pre 1
  · intro callf
    simp +decide only [List.take, aOps, rinit, aWanted, ↓bite_eq, ↓reduceIte, aStep_eq, aStepOld, aOp, opBox, opBin, opUn, opCall, opIndexAddr, opFieldAddr, opLoad, opStore, opPick, opExtract, opSlice, opBuildSlice, opBuild, aRow, aev, aevs, aparts, ann, unn, aPut, if_true, if_false, rget_rput, flat, flat1, Nat.blt_eq, aBuiltin, aLen, List.getElem?_toArray, List.getElem?_cons_zero, List.getElem?_cons_succ, Nat.zero_add, Option.bind_some, beq_self_eq_true, Bool.not_true, Bool.not_false, Bool.true_beq, Bool.false_beq]
    rfl
  dsimp only [List.drop]
  refine Ls_fn (vs := [.int .i64 x]) (by simp +decide only [aevs, aev, aResults, rget_rput, if_true, if_false]) (by decide) (C.mono (nan_c x) ?_)
  rintro v σ' ⟨rfl, rfl⟩
  apply Ls_all
  · intro callf
    simp +decide only [aOps, rinit, aWanted, ↓bite_eq, ↓reduceIte, aStep_eq, aStepOld, aOp, opBox, opBin, opUn, opCall, opIndexAddr, opFieldAddr, opLoad, opStore, opPick, opExtract, opSlice, opBuildSlice, opBuild, aRow, aev, aevs, aparts, ann, unn, aPut, if_true, if_false, rget_rput, flat, flat1, Nat.blt_eq, aBuiltin, aLen, List.getElem?_toArray, List.getElem?_cons_zero, List.getElem?_cons_succ, Nat.zero_add, Option.bind_some, beq_self_eq_true, Bool.not_true, Bool.not_false, Bool.true_beq, Bool.false_beq]
    rfl
  repeat apply W_assoc
  apply W_regL
  apply Ls_pre 1
  · intro callf
    simp +decide only [List.take, aOps, rinit, aWanted, ↓bite_eq, ↓reduceIte, aStep_eq, aStepOld, aOp, opBox, opBin, opUn, opCall, opIndexAddr, opFieldAddr, opLoad, opStore, opPick, opExtract, opSlice, opBuildSlice, opBuild, aRow, aev, aevs, aparts, ann, unn, aPut, if_true, if_false, rget_rput, flat, flat1, Nat.blt_eq, aBuiltin, aLen, List.getElem?_toArray, List.getElem?_cons_zero, List.getElem?_cons_succ, Nat.zero_add, Option.bind_some, beq_self_eq_true, Bool.not_true, Bool.not_false, Bool.true_beq, Bool.false_beq]
    rfl
  dsimp only [List.drop]
  refine Ls_fn (vs := [.int .i64 y]) (by simp +decide only [aevs, aev, aResults, rget_rput, if_true, if_false]) (by decide) (C.mono (nan_c y) ?_)
  rintro v σ' ⟨rfl, rfl⟩
  apply Ls_all
  · intro callf
    simp +decide only [aOps, rinit, aWanted, ↓bite_eq, ↓reduceIte, aStep_eq, aStepOld, aOp, opBox, opBin, opUn, opCall, opIndexAddr, opFieldAddr, opLoad, opStore, opPick, opExtract, opSlice, opBuildSlice, opBuild, aRow, aev, aevs, aparts, ann, unn, aPut, if_true, if_false, rget_rput, flat, flat1, Nat.blt_eq, aBuiltin, aLen, List.getElem?_toArray, List.getElem?_cons_zero, List.getElem?_cons_succ, Nat.zero_add, Option.bind_some, beq_self_eq_true, Bool.not_true, Bool.not_false, Bool.true_beq, Bool.false_beq]
    rfl
  repeat apply W_assoc
  apply W_reg
  · intro callf
    simp +decide only [aOps, rinit, aWanted, ↓bite_eq, ↓reduceIte, aStep_eq, aStepOld, aOp, opBox, opBin, opUn, opCall, opIndexAddr, opFieldAddr, opLoad, opStore, opPick, opExtract, opSlice, opBuildSlice, opBuild, aRow, aev, aevs, aparts, ann, unn, aPut, if_true, if_false, rget_rput, flat, flat1, Nat.blt_eq, aBuiltin, aLen, List.getElem?_toArray, List.getElem?_cons_zero, List.getElem?_cons_succ, Nat.zero_add, Option.bind_some, beq_self_eq_true, Bool.not_true, Bool.not_false, Bool.true_beq, Bool.false_beq]
    rfl
  repeat apply W_assoc
  refine W_if (b := false) ?_ ?_ ?_
  · simp +decide only [aevs, aev, aResults, rget_rput, if_true, if_false]
  · intro h; cases h
  intro _
  apply W_skipq
  repeat apply W_assoc
  apply W_reg
  · intro callf
    simp +decide only [aOps, rinit, aWanted, ↓bite_eq, ↓reduceIte, aStep_eq, aStepOld, aOp, opBox, opBin, opUn, opCall, opIndexAddr, opFieldAddr, opLoad, opStore, opPick, opExtract, opSlice, opBuildSlice, opBuild, aRow, aev, aevs, aparts, ann, unn, aPut, if_true, if_false, rget_rput, flat, flat1, Nat.blt_eq, aBuiltin, aLen, List.getElem?_toArray, List.getElem?_cons_zero, List.getElem?_cons_succ, Nat.zero_add, Option.bind_some, beq_self_eq_true, Bool.not_true, Bool.not_false, Bool.true_beq, Bool.false_beq]
    rfl
  repeat apply W_assoc
  refine W_if (b := false) ?_ ?_ ?_
  · simp +decide only [aevs, aev, aResults, rget_rput, if_true, if_false]
  · intro h; cases h
  intro _
  apply W_skipq
  by_cases h1 : x < y
  · have d1 := ltb h1
    repeat apply W_assoc
    apply W_reg
    · intro callf
      simp +decide only [aOps, rinit, aWanted, ↓bite_eq, ↓reduceIte, aStep_eq, aStepOld, aOp, opBox, opBin, opUn, opCall, opIndexAddr, opFieldAddr, opLoad, opStore, opPick, opExtract, opSlice, opBuildSlice, opBuild, aRow, aev, aevs, aparts, ann, unn, aPut, if_true, if_false, rget_rput, flat, flat1, Nat.blt_eq, aBuiltin, aLen, List.getElem?_toArray, List.getElem?_cons_zero, List.getElem?_cons_succ, Nat.zero_add, Option.bind_some, beq_self_eq_true, Bool.not_true, Bool.not_false, Bool.true_beq, Bool.false_beq, d1, aBin, aInts, aInt_eq]
      rfl
    repeat apply W_assoc
    refine W_if (b := true) ?_ ?_ ?_
    · simp +decide only [aevs, aev, aResults, rget_rput, if_true, if_false]
    · intro _
      repeat apply W_assoc
      apply W_reg
      · intro callf
        simp +decide only [aOps, rinit, aWanted, ↓bite_eq, ↓reduceIte, aStep_eq, aStepOld, aOp, opBox, opBin, opUn, opCall, opIndexAddr, opFieldAddr, opLoad, opStore, opPick, opExtract, opSlice, opBuildSlice, opBuild, aRow, aev, aevs, aparts, ann, unn, aPut, if_true, if_false, rget_rput, flat, flat1, Nat.blt_eq, aBuiltin, aLen, List.getElem?_toArray, List.getElem?_cons_zero, List.getElem?_cons_succ, Nat.zero_add, Option.bind_some, beq_self_eq_true, Bool.not_true, Bool.not_false, Bool.true_beq, Bool.false_beq]
        rfl
      refine W_retq ⟨Nat.le_refl _, [.int .i64 (-1)], ?_, by simp only [cmpI, if_pos h1]; rfl, rfl⟩
      simp +decide only [aevs, aev, aResults, rget_rput, if_true, if_false]
    · intro h; cases h
  have d1 := ltf h1
  repeat apply W_assoc
  apply W_reg
  · intro callf
    simp +decide only [aOps, rinit, aWanted, ↓bite_eq, ↓reduceIte, aStep_eq, aStepOld, aOp, opBox, opBin, opUn, opCall, opIndexAddr, opFieldAddr, opLoad, opStore, opPick, opExtract, opSlice, opBuildSlice, opBuild, aRow, aev, aevs, aparts, ann, unn, aPut, if_true, if_false, rget_rput, flat, flat1, Nat.blt_eq, aBuiltin, aLen, List.getElem?_toArray, List.getElem?_cons_zero, List.getElem?_cons_succ, Nat.zero_add, Option.bind_some, beq_self_eq_true, Bool.not_true, Bool.not_false, Bool.true_beq, Bool.false_beq, d1, aBin, aInts, aInt_eq]
    rfl
  repeat apply W_assoc
  refine W_if (b := false) ?_ ?_ ?_
  · simp +decide only [aevs, aev, aResults, rget_rput, if_true, if_false]
  · intro h; cases h
  intro _
  apply W_skipq
  by_cases h2 : y < x
  · have d2 : decide (x > y) = true := decide_eq_true h2
    repeat apply W_assoc
    apply W_reg
    · intro callf
      simp +decide only [aOps, rinit, aWanted, ↓bite_eq, ↓reduceIte, aStep_eq, aStepOld, aOp, opBox, opBin, opUn, opCall, opIndexAddr, opFieldAddr, opLoad, opStore, opPick, opExtract, opSlice, opBuildSlice, opBuild, aRow, aev, aevs, aparts, ann, unn, aPut, if_true, if_false, rget_rput, flat, flat1, Nat.blt_eq, aBuiltin, aLen, List.getElem?_toArray, List.getElem?_cons_zero, List.getElem?_cons_succ, Nat.zero_add, Option.bind_some, beq_self_eq_true, Bool.not_true, Bool.not_false, Bool.true_beq, Bool.false_beq, d2, aBin, aInts, aInt_eq]
      rfl
    repeat apply W_assoc
    refine W_if (b := true) ?_ ?_ ?_
    · simp +decide only [aevs, aev, aResults, rget_rput, if_true, if_false]
    · intro _
      repeat apply W_assoc
      apply W_reg
      · intro callf
        simp +decide only [aOps, rinit, aWanted, ↓bite_eq, ↓reduceIte, aStep_eq, aStepOld, aOp, opBox, opBin, opUn, opCall, opIndexAddr, opFieldAddr, opLoad, opStore, opPick, opExtract, opSlice, opBuildSlice, opBuild, aRow, aev, aevs, aparts, ann, unn, aPut, if_true, if_false, rget_rput, flat, flat1, Nat.blt_eq, aBuiltin, aLen, List.getElem?_toArray, List.getElem?_cons_zero, List.getElem?_cons_succ, Nat.zero_add, Option.bind_some, beq_self_eq_true, Bool.not_true, Bool.not_false, Bool.true_beq, Bool.false_beq]
        rfl
      refine W_retq ⟨Nat.le_refl _, [.int .i64 1], ?_, by simp only [cmpI, if_neg h1, if_pos h2]; rfl, rfl⟩
      simp +decide only [aevs, aev, aResults, rget_rput, if_true, if_false]
    · intro h; cases h
  have d2 : decide (x > y) = false := decide_eq_false h2
  repeat apply W_assoc
  apply W_reg
  · intro callf
    simp +decide only [aOps, rinit, aWanted, ↓bite_eq, ↓reduceIte, aStep_eq, aStepOld, aOp, opBox, opBin, opUn, opCall, opIndexAddr, opFieldAddr, opLoad, opStore, opPick, opExtract, opSlice, opBuildSlice, opBuild, aRow, aev, aevs, aparts, ann, unn, aPut, if_true, if_false, rget_rput, flat, flat1, Nat.blt_eq, aBuiltin, aLen, List.getElem?_toArray, List.getElem?_cons_zero, List.getElem?_cons_succ, Nat.zero_add, Option.bind_some, beq_self_eq_true, Bool.not_true, Bool.not_false, Bool.true_beq, Bool.false_beq, d2, aBin, aInts, aInt_eq]
    rfl
  repeat apply W_assoc
  refine W_if (b := false) ?_ ?_ ?_
  · simp +decide only [aevs, aev, aResults, rget_rput, if_true, if_false]
  · intro h; cases h
  intro _
  apply W_skipq
  repeat apply W_assoc
  apply W_reg
  · intro callf
    simp +decide only [aOps, rinit, aWanted, ↓bite_eq, ↓reduceIte, aStep_eq, aStepOld, aOp, opBox, opBin, opUn, opCall, opIndexAddr, opFieldAddr, opLoad, opStore, opPick, opExtract, opSlice, opBuildSlice, opBuild, aRow, aev, aevs, aparts, ann, unn, aPut, if_true, if_false, rget_rput, flat, flat1, Nat.blt_eq, aBuiltin, aLen, List.getElem?_toArray, List.getElem?_cons_zero, List.getElem?_cons_succ, Nat.zero_add, Option.bind_some, beq_self_eq_true, Bool.not_true, Bool.not_false, Bool.true_beq, Bool.false_beq]
    rfl
  refine W_ret ⟨Nat.le_refl _, [.int .i64 0], ?_, by simp only [cmpI, if_neg h1, if_neg h2]; rfl, rfl⟩
  simp +decide only [aevs, aev, aResults, rget_rput, if_true, if_false]

theorem wrap_up {i n : Nat} (h : i < n) (hn : n ≤ 2 ^ 62) : IntKind.i64.wrap ((i : Int) + 1) = ((i + 1 : Nat) : Int) := by
  rw [wrap64_id _ (by omega) (by omega)]; omega

theorem loadI {σ σ' : AS} {base : Option Addr} {len cap : Nat} {l : List Int} (h : RS 1 RInt σ (.slice base len cap) l) {i : Nat} {x : Int} (hi : l[i]? = some x) (e : Ext σ σ') :
    ∃ b off, base = some ⟨b, off, none⟩ ∧ aLoad Tryz.prog σ' 3 (.pointer (some ⟨b, off + i * 1, none⟩)) = some (.int .i64 x) := by
  obtain ⟨-, b, off, rfl, hb, hc⟩ := intOf h hi
  exact ⟨b, off, rfl, load1 Tryz.underlying3 rfl (by rw [e.cells (a := ⟨b, off + i * 1, none⟩) hb]; exact hc)⟩

/-- What cmp.Or answers. -/
def orI : List Int → Int
  | [] => 0
  | x :: l => if x = 0 then orI l else x

theorem orI_drop : ∀ {l : List Int} {i : Nat}, (∀ x ∈ l.take i, x = 0) → orI l = orI (l.drop i)
  | l, 0, _ => rfl
  | [], i + 1, _ => rfl
  | x :: l, i + 1, h => by
    have h1 : x = 0 := h x (by simp)
    show (if x = 0 then orI l else x) = orI (l.drop i)
    rw [if_pos h1]
    exact orI_drop fun y hy => h y (by simp [hy])

set_option maxHeartbeats 2000000 in
theorem or_c {σ : AS} {v : Value} {l : List Int} (h : RS 1 RInt σ v l) (hl : l.length ≤ 100) : C Tryz.prog KA 0 74 [v] σ fun u σ' => u = .int .i64 (orI l) ∧ σ' = σ := by
  obtain ⟨base, cap, rfl, -⟩ := id h
  refine C_of (ka rfl rfl) Tryz.func74 rfl (Nat.le_of_ble_eq_true rfl) ?_
  show W _ _ _ 18 _ _ _ _
  unfold Tryz.f74
  dsimp only
  repeat apply W_assoc
  apply W_reg
  · intro callf
    simp +decide only [aOps, rinit, aWanted, ↓bite_eq, ↓reduceIte, aStep_eq, aStepOld, aOp, opBox, opBin, opUn, opCall, opIndexAddr, opFieldAddr, opLoad, opStore, opPick, opExtract, opSlice, opBuildSlice, opBuild, aRow, aev, aevs, aparts, ann, unn, aPut, if_true, if_false, rget_rput, flat, flat1, Nat.blt_eq, aBuiltin, aLen, List.getElem?_toArray, List.getElem?_cons_zero, List.getElem?_cons_succ, Nat.zero_add, Option.bind_some, beq_self_eq_true, Bool.not_true, Bool.not_false, Bool.true_beq, Bool.false_beq]
    rfl
  repeat apply W_assoc
  apply W_reg
  · intro callf
    simp +decide only [aOps, rinit, aWanted, ↓bite_eq, ↓reduceIte, aStep_eq, aStepOld, aOp, opBox, opBin, opUn, opCall, opIndexAddr, opFieldAddr, opLoad, opStore, opPick, opExtract, opSlice, opBuildSlice, opBuild, aRow, aev, aevs, aparts, ann, unn, aPut, if_true, if_false, rget_rput, flat, flat1, Nat.blt_eq, aBuiltin, aLen, List.getElem?_toArray, List.getElem?_cons_zero, List.getElem?_cons_succ, Nat.zero_add, Option.bind_some, beq_self_eq_true, Bool.not_true, Bool.not_false, Bool.true_beq, Bool.false_beq]
    rfl
  repeat apply W_assoc
  apply W_reg
  · intro callf
    simp +decide only [aOps, rinit, aWanted, ↓bite_eq, ↓reduceIte, aStep_eq, aStepOld, aOp, opBox, opBin, opUn, opCall, opIndexAddr, opFieldAddr, opLoad, opStore, opPick, opExtract, opSlice, opBuildSlice, opBuild, aRow, aev, aevs, aparts, ann, unn, aPut, if_true, if_false, rget_rput, flat, flat1, Nat.blt_eq, aBuiltin, aLen, List.getElem?_toArray, List.getElem?_cons_zero, List.getElem?_cons_succ, Nat.zero_add, Option.bind_some, beq_self_eq_true, Bool.not_true, Bool.not_false, Bool.true_beq, Bool.false_beq, Tryz.underlying40, goInt]
    rfl
  refine W_tail ?_
  repeat apply W_assoc
  refine W_for (fun (i : Nat) r s => s = σ ∧ i ≤ l.length ∧ (∀ x ∈ l.take i, x = 0) ∧ rget r 3 = .int .i64 0 ∧ rget r 6 = .slice base l.length cap ∧ rget r 7 = .int .i64 (l.length : Int) ∧ rget r 8 = .int .i64 (i : Int)) (fun i => l.length - i) ?_ 0 ?_
  rotate_left
  · refine ⟨rfl, Nat.zero_le _, by simp, ?_, ?_, ?_, ?_⟩ <;> simp +decide only [rget_rput, rinit, if_true, if_false, goInt] <;> first | exact True.intro | rfl
  rintro i r s ⟨rfl, hi, hz, h3, h6, h7, h8⟩
  by_cases hlt : i < l.length
  rotate_left
  · have d1 : decide ((i : Int) < (l.length : Int)) = false := decide_eq_false (by omega)
    repeat apply W_assoc
    apply W_reg
    · intro callf
      simp +decide only [aOps, rinit, aWanted, ↓bite_eq, ↓reduceIte, aStep_eq, aStepOld, aOp, opBox, opBin, opUn, opCall, opIndexAddr, opFieldAddr, opLoad, opStore, opPick, opExtract, opSlice, opBuildSlice, opBuild, aRow, aev, aevs, aparts, ann, unn, aPut, if_true, if_false, rget_rput, flat, flat1, Nat.blt_eq, aBuiltin, aLen, List.getElem?_toArray, List.getElem?_cons_zero, List.getElem?_cons_succ, Nat.zero_add, Option.bind_some, beq_self_eq_true, Bool.not_true, Bool.not_false, Bool.true_beq, Bool.false_beq, h7, h8, d1, aBin, aInts, aInt_eq]
      rfl
    repeat apply W_assoc
    refine W_if (b := false) ?_ ?_ ?_
    · simp +decide only [aevs, aev, aResults, rget_rput, if_true, if_false]
    · intro h; cases h
    intro _
    refine W_exitq ⟨fun h => (nomatch h), fun _ => ?_, fun h1 h2 => absurd rfl h2⟩
    repeat apply W_assoc
    apply W_reg
    · intro callf
      simp +decide only [aOps, rinit, aWanted, ↓bite_eq, ↓reduceIte, aStep_eq, aStepOld, aOp, opBox, opBin, opUn, opCall, opIndexAddr, opFieldAddr, opLoad, opStore, opPick, opExtract, opSlice, opBuildSlice, opBuild, aRow, aev, aevs, aparts, ann, unn, aPut, if_true, if_false, rget_rput, flat, flat1, Nat.blt_eq, aBuiltin, aLen, List.getElem?_toArray, List.getElem?_cons_zero, List.getElem?_cons_succ, Nat.zero_add, Option.bind_some, beq_self_eq_true, Bool.not_true, Bool.not_false, Bool.true_beq, Bool.false_beq, h3]
      rfl
    refine W_retq ⟨Nat.le_refl _, [.int .i64 0], ?_, ?_, rfl⟩
    · simp +decide only [aevs, aev, aResults, rget_rput, if_true, if_false]
    · rw [orI_drop hz, List.drop_eq_nil_of_le (by omega)]; rfl
  have d1 : decide ((i : Int) < (l.length : Int)) = true := decide_eq_true (by omega)
  repeat apply W_assoc
  apply W_reg
  · intro callf
    simp +decide only [aOps, rinit, aWanted, ↓bite_eq, ↓reduceIte, aStep_eq, aStepOld, aOp, opBox, opBin, opUn, opCall, opIndexAddr, opFieldAddr, opLoad, opStore, opPick, opExtract, opSlice, opBuildSlice, opBuild, aRow, aev, aevs, aparts, ann, unn, aPut, if_true, if_false, rget_rput, flat, flat1, Nat.blt_eq, aBuiltin, aLen, List.getElem?_toArray, List.getElem?_cons_zero, List.getElem?_cons_succ, Nat.zero_add, Option.bind_some, beq_self_eq_true, Bool.not_true, Bool.not_false, Bool.true_beq, Bool.false_beq, h7, h8, d1, aBin, aInts, aInt_eq]
    rfl
  repeat apply W_assoc
  refine W_if (b := true) ?_ ?_ ?_
  · simp +decide only [aevs, aev, aResults, rget_rput, if_true, if_false]
  rotate_left
  · intro h; cases h
  intro _
  apply W_skipq
  obtain ⟨x, hx⟩ : ∃ x, l[i]? = some x := ⟨l[i], by simp [hlt]⟩
  obtain ⟨b, off, rfl, L⟩ := loadI h hx (Ext.refl s)
  have w1 := wrap_up hlt (by omega)
  refine W_blk ?_
  repeat apply W_assoc
  apply W_reg
  · intro callf
    simp +decide only [aOps, rinit, aWanted, ↓bite_eq, ↓reduceIte, aStep_eq, aStepOld, aOp, opBox, opBin, opUn, opCall, opIndexAddr, opFieldAddr, opLoad, opStore, opPick, opExtract, opSlice, opBuildSlice, opBuild, aRow, aev, aevs, aparts, ann, unn, aPut, if_true, if_false, rget_rput, flat, flat1, Nat.blt_eq, aBuiltin, aLen, List.getElem?_toArray, List.getElem?_cons_zero, List.getElem?_cons_succ, Nat.zero_add, Option.bind_some, beq_self_eq_true, Bool.not_true, Bool.not_false, Bool.true_beq, Bool.false_beq, h6, h8, idxI hlt, L]
    rfl
  have dx : orI l = orI (x :: l.drop (i + 1)) := by
    have := (List.getElem?_eq_some_iff.1 hx).2
    rw [orI_drop hz, List.drop_eq_getElem_cons hlt, this]
  by_cases hx0 : x = 0
  · subst hx0
    have b0 : ((0 : Int) != 0) = false := rfl
    repeat apply W_assoc
    apply W_reg
    · intro callf
      simp +decide only [aOps, rinit, aWanted, ↓bite_eq, ↓reduceIte, aStep_eq, aStepOld, aOp, opBox, opBin, opUn, opCall, opIndexAddr, opFieldAddr, opLoad, opStore, opPick, opExtract, opSlice, opBuildSlice, opBuild, aRow, aev, aevs, aparts, ann, unn, aPut, if_true, if_false, rget_rput, flat, flat1, Nat.blt_eq, aBuiltin, aLen, List.getElem?_toArray, List.getElem?_cons_zero, List.getElem?_cons_succ, Nat.zero_add, Option.bind_some, beq_self_eq_true, Bool.not_true, Bool.not_false, Bool.true_beq, Bool.false_beq, h3, h8, b0, aBin, aInts, aInt_eq]
      rfl
    refine W_tail ?_
    repeat apply W_assoc
    refine W_if (b := false) ?_ ?_ ?_
    · simp +decide only [aevs, aev, aResults, rget_rput, if_true, if_false]
    · intro h; cases h
    intro _
    apply W_skipq
    refine W_skip ⟨fun _ => ?_, fun h => absurd rfl h⟩
    refine W_tail ?_
    repeat apply W_assoc
    apply W_reg
    · intro callf
      simp +decide only [aOps, rinit, aWanted, ↓bite_eq, ↓reduceIte, aStep_eq, aStepOld, aOp, opBox, opBin, opUn, opCall, opIndexAddr, opFieldAddr, opLoad, opStore, opPick, opExtract, opSlice, opBuildSlice, opBuild, aRow, aev, aevs, aparts, ann, unn, aPut, if_true, if_false, rget_rput, flat, flat1, Nat.blt_eq, aBuiltin, aLen, List.getElem?_toArray, List.getElem?_cons_zero, List.getElem?_cons_succ, Nat.zero_add, Option.bind_some, beq_self_eq_true, Bool.not_true, Bool.not_false, Bool.true_beq, Bool.false_beq, h8, w1, aBin, aInts, aInt_eq]
      rfl
    refine W_skip ⟨fun _ => ⟨i + 1, ?_, rfl, by omega, ?_, ?_, ?_, ?_, ?_⟩, fun h => (nomatch h), fun h => absurd rfl h⟩
    · show l.length - (i + 1) < l.length - i
      omega
    · intro y hy
      rw [List.take_add_one, hx] at hy
      rcases List.mem_append.1 hy with hy | hy
      · exact hz y hy
      · simpa using hy
    all_goals simp +decide only [rget_rput, if_true, if_false, h3, h6, h7]
  have hb0 : (x != 0) = true := by simp [hx0]
  repeat apply W_assoc
  apply W_reg
  · intro callf
    simp +decide only [aOps, rinit, aWanted, ↓bite_eq, ↓reduceIte, aStep_eq, aStepOld, aOp, opBox, opBin, opUn, opCall, opIndexAddr, opFieldAddr, opLoad, opStore, opPick, opExtract, opSlice, opBuildSlice, opBuild, aRow, aev, aevs, aparts, ann, unn, aPut, if_true, if_false, rget_rput, flat, flat1, Nat.blt_eq, aBuiltin, aLen, List.getElem?_toArray, List.getElem?_cons_zero, List.getElem?_cons_succ, Nat.zero_add, Option.bind_some, beq_self_eq_true, Bool.not_true, Bool.not_false, Bool.true_beq, Bool.false_beq, h3, h8, hb0, aBin, aInts, aInt_eq]
    rfl
  refine W_tail ?_
  repeat apply W_assoc
  refine W_if (b := true) ?_ ?_ ?_
  · simp +decide only [aevs, aev, aResults, rget_rput, if_true, if_false, hb0]
  · intro _
    repeat apply W_assoc
    apply W_reg
    · intro callf
      simp +decide only [aOps, rinit, aWanted, ↓bite_eq, ↓reduceIte, aStep_eq, aStepOld, aOp, opBox, opBin, opUn, opCall, opIndexAddr, opFieldAddr, opLoad, opStore, opPick, opExtract, opSlice, opBuildSlice, opBuild, aRow, aev, aevs, aparts, ann, unn, aPut, if_true, if_false, rget_rput, flat, flat1, Nat.blt_eq, aBuiltin, aLen, List.getElem?_toArray, List.getElem?_cons_zero, List.getElem?_cons_succ, Nat.zero_add, Option.bind_some, beq_self_eq_true, Bool.not_true, Bool.not_false, Bool.true_beq, Bool.false_beq]
      rfl
    refine W_retq ⟨fun h => h.elim (fun h => (nomatch h)) (fun h => (nomatch h)), fun _ _ => ⟨fun h => (nomatch h), fun h => (nomatch h), fun _ _ => ⟨Nat.le_refl _, [.int .i64 x], ?_, ?_, rfl⟩⟩⟩
    · simp +decide only [aevs, aev, aResults, rget_rput, if_true, if_false]
    · rw [dx]; simp only [orI, if_neg hx0]; rfl
  · intro h; cases h

theorem bs2 {σ : AS} {x y : Int} : aBuildSlice Tryz.prog σ 40 2 [(0, .int .i64 x), (1, .int .i64 y)] = some (.slice (some ⟨σ.next, 0, none⟩) 2 2, σ.new ⟨1, 3, 0, [.int .i64 x, .int .i64 y], []⟩) := by kernel_rfl

theorem sv_int {n : Nat} {k : IntKind} {i : Int} : (vsc n 9 (.int k i) && veq 9 (.int k i) (.int k i)) = true := by
  unfold vsc veq
  simp

abbrev Arc : Type := Nat × Nat
def vArc (x : Arc) : Value := .agg #[.int .i64 (x.1 : Int), .int .i64 (x.2 : Int)]
def RArc (_ : AS) (cs : List Value) (x : Arc) : Prop := cs = [.int .i64 (x.1 : Int), .int .i64 (x.2 : Int)]
theorem RArc.keeps : Keeps RArc := fun _ _ _ _ _ h => h

theorem fldA0 {b off : Nat} : aField Tryz.prog 62 0 (.pointer (some ⟨b, off, none⟩)) = some (.pointer (some ⟨b, off, none⟩)) := by kernel_rfl
theorem fldA1 {b off : Nat} : aField Tryz.prog 62 1 (.pointer (some ⟨b, off, none⟩)) = some (.pointer (some ⟨b, off + 1, none⟩)) := by kernel_rfl

theorem loadArc {σ : AS} {b off : Nat} {x : Arc} {cs : List Value} (h : aCells σ ⟨b, off, none⟩ 2 = some cs) (hc : RArc σ cs x) : aLoad Tryz.prog σ 62 (.pointer (some ⟨b, off, none⟩)) = some (vArc x) := by
  unfold RArc at hc
  subst hc
  exact loadN Tryz.underlying62 rfl (i := (Tryz.prog.info? 62).get!) (by kernel_rfl) (by rw [show ((Tryz.prog.info? 62).get!).size = 2 by kernel_rfl]; exact h)

/-- How two arcs compare. -/
def cmpA (a b : Arc) : Int := orI [cmpI a.1 b.1, cmpI a.2 b.2]

/-- A block that holds an arc. -/
def arcB (x : Arc) : Blk := ⟨1, 62, 0, (vArc x).cells.toList, []⟩

theorem arcB_load {σ σ' : AS} {b : Nat} {x : Arc} (h : σ.get b = arcB x) (hb : b < σ.next) (e : Ext σ σ') :
    aLoad Tryz.prog σ' 3 (.pointer (some ⟨b, 0, none⟩)) = some (.int .i64 (x.1 : Int)) ∧ aLoad Tryz.prog σ' 3 (.pointer (some ⟨b, 0 + 1, none⟩)) = some (.int .i64 (x.2 : Int)) := by
  have hg := (e.get b hb).trans h
  exact ⟨load1 Tryz.underlying3 rfl (cells_at hg rfl (Nat.le_of_ble_eq_true rfl)), load1 Tryz.underlying3 rfl (cells_at hg rfl (Nat.le_of_ble_eq_true rfl))⟩

set_option maxHeartbeats 4000000 in
theorem cmpArc_c {σ : AS} (a b : Arc) : C Tryz.prog KA 0 42 [vArc a, vArc b] σ fun u σ' => u = .int .i64 (cmpA a b) ∧ Ext σ σ' := by
  refine C_of (ka rfl rfl) Tryz.func42 rfl (Nat.le_of_ble_eq_true rfl) ?_
  show W _ _ _ 17 _ _ _ _
  unfold Tryz.f42
  dsimp only
  repeat apply W_assoc
  apply W_reg
  · intro callf
    simp +decide only [aOps, rinit, aWanted, ↓bite_eq, ↓reduceIte, aStep_eq, aStepOld, aOp, opBox, opBin, opUn, opCall, opIndexAddr, opFieldAddr, opLoad, opStore, opPick, opExtract, opSlice, opBuildSlice, opBuild, aRow, aev, aevs, aparts, ann, unn, aPut, if_true, if_false, rget_rput, flat, flat1, Nat.blt_eq, aBuiltin, aLen, List.getElem?_toArray, List.getElem?_cons_zero, List.getElem?_cons_succ, Nat.zero_add, Option.bind_some, beq_self_eq_true, Bool.not_true, Bool.not_false, Bool.true_beq, Bool.false_beq, new_next]
    rfl
  have e1 : Ext σ ((σ.new (arcB a)).new (arcB b)) := (Ext.new _ _).trans (Ext.new _ _)
  have ga : ((σ.new (arcB a)).new (arcB b)).get σ.next = arcB a := by rw [AS.get_new, if_neg (by show ¬ σ.next + 1 = σ.next; omega), AS.get_new, if_pos rfl]
  have gb : ((σ.new (arcB a)).new (arcB b)).get (σ.next + 1) = arcB b := by rw [AS.get_new, if_pos (show (σ.new (arcB a)).next = σ.next + 1 from rfl)]
  have la : σ.next < ((σ.new (arcB a)).new (arcB b)).next := by show σ.next < σ.next + 1 + 1; omega
  have lb : σ.next + 1 < ((σ.new (arcB a)).new (arcB b)).next := by show σ.next + 1 < σ.next + 1 + 1; omega
  show W _ _ _ _ _ _ ((σ.new (arcB a)).new (arcB b)) _
  generalize (σ.new (arcB a)).new (arcB b) = σ1 at e1 ga gb la lb
  generalize σ.next = pa at ga gb la lb
  repeat apply W_assoc
  refine W_drw [6, 8] [pa, pa + 1] (by kernel_rfl) (by kernel_rfl) ?_
  apply Lg_pre 4
  · intro callf
    simp +decide only [List.take, aQ, memb, List.any_nil, List.any_cons, Bool.true_or, Bool.or_false, Bool.and_true, Bool.or_true, Bool.false_or, Bool.true_and, reset_merge, reset_reset, reset_next, reset_low, merge_next, merge_idem, new_low, ble_self, aOps, rinit, aWanted, ↓bite_eq, ↓reduceIte, aStep_eq, aStepOld, aOp, opBox, opBin, opUn, opCall, opIndexAddr, opFieldAddr, opLoad, opStore, opPick, opExtract, opSlice, opBuildSlice, opBuild, aRow, aev, aevs, aparts, ann, unn, aPut, if_true, if_false, rget_rput, flat, flat1, Nat.blt_eq, aBuiltin, aLen, List.getElem?_toArray, List.getElem?_cons_zero, List.getElem?_cons_succ, Nat.zero_add, Option.bind_some, beq_self_eq_true, Bool.not_true, Bool.not_false, Bool.true_beq, Bool.false_beq, fldA0, (arcB_load ga la (Ext.reset _)).1, (arcB_load gb lb (Ext.reset _)).1]
    rfl
  dsimp only [List.drop, List.take, List.length]
  have e2 : Ext σ1 (σ1.merge σ1.reset) := (Ext.refl _).merge (σ := σ1)
  generalize σ1.merge σ1.reset = σ2 at e2
  refine Lg_fn (vs := [.int .i64 (a.1 : Int), .int .i64 (b.1 : Int)]) (by simp +decide only [aevs, aev, aResults, rget_rput, if_true, if_false]) (by decide) rfl (C.mono (compare_c (a.1 : Int) (b.1 : Int)) ?_)
  rintro v s1 ⟨rfl, rfl⟩
  refine ⟨Nat.le_refl _, ?_⟩
  have e3 : Ext σ1 (σ2.merge σ2.reset) := e2.trans ((Ext.refl _).merge (σ := σ2))
  generalize σ2.merge σ2.reset = σ3 at e3
  apply Lg_pre 1
  · intro callf
    simp +decide only [List.take, aQ, memb, List.any_nil, List.any_cons, Bool.true_or, Bool.or_false, Bool.and_true, Bool.or_true, Bool.false_or, Bool.true_and, reset_merge, reset_reset, reset_next, reset_low, merge_next, merge_idem, new_low, ble_self, aOps, rinit, aWanted, ↓bite_eq, ↓reduceIte, aStep_eq, aStepOld, aOp, opBox, opBin, opUn, opCall, opIndexAddr, opFieldAddr, opLoad, opStore, opPick, opExtract, opSlice, opBuildSlice, opBuild, aRow, aev, aevs, aparts, ann, unn, aPut, if_true, if_false, rget_rput, flat, flat1, Nat.blt_eq, aBuiltin, aLen, List.getElem?_toArray, List.getElem?_cons_zero, List.getElem?_cons_succ, Nat.zero_add, Option.bind_some, beq_self_eq_true, Bool.not_true, Bool.not_false, Bool.true_beq, Bool.false_beq, fldA1]
    rfl
  dsimp only [List.drop, List.take, List.length]
  have e4 : Ext σ1 (σ3.merge σ3.reset) := e3.trans ((Ext.refl _).merge (σ := σ3))
  generalize σ3.merge σ3.reset = σ4 at e4
  refine Lg_load (b := pa) (off := 0 + 1) (v := .int .i64 (a.2 : Int)) (by simp +decide only [aevs, aev, aResults, rget_rput, if_true, if_false]) (arcB_load ga la (e4.trans (Ext.reset _))).2 sv_int (e4.lt la) (by simp [memb]) (by decide) ?_
  have e5 : Ext σ1 (σ4.merge σ4.reset) := e4.trans ((Ext.refl _).merge (σ := σ4))
  generalize σ4.merge σ4.reset = σ5 at e5
  apply Lg_pre 1
  · intro callf
    simp +decide only [List.take, aQ, memb, List.any_nil, List.any_cons, Bool.true_or, Bool.or_false, Bool.and_true, Bool.or_true, Bool.false_or, Bool.true_and, reset_merge, reset_reset, reset_next, reset_low, merge_next, merge_idem, new_low, ble_self, aOps, rinit, aWanted, ↓bite_eq, ↓reduceIte, aStep_eq, aStepOld, aOp, opBox, opBin, opUn, opCall, opIndexAddr, opFieldAddr, opLoad, opStore, opPick, opExtract, opSlice, opBuildSlice, opBuild, aRow, aev, aevs, aparts, ann, unn, aPut, if_true, if_false, rget_rput, flat, flat1, Nat.blt_eq, aBuiltin, aLen, List.getElem?_toArray, List.getElem?_cons_zero, List.getElem?_cons_succ, Nat.zero_add, Option.bind_some, beq_self_eq_true, Bool.not_true, Bool.not_false, Bool.true_beq, Bool.false_beq, fldA1]
    rfl
  dsimp only [List.drop, List.take, List.length]
  have e6 : Ext σ1 (σ5.merge σ5.reset) := e5.trans ((Ext.refl _).merge (σ := σ5))
  generalize σ5.merge σ5.reset = σ6 at e6
  refine Lg_load (b := pa + 1) (off := 0 + 1) (v := .int .i64 (b.2 : Int)) (by simp +decide only [aevs, aev, aResults, rget_rput, if_true, if_false]) (arcB_load gb lb (e6.trans (Ext.reset _))).2 sv_int (e6.lt lb) (by simp [memb]) (by decide) ?_
  have e7 : Ext σ1 (σ6.merge σ6.reset) := e6.trans ((Ext.refl _).merge (σ := σ6))
  generalize σ6.merge σ6.reset = σ7 at e7
  refine Lg_fn (vs := [.int .i64 (a.2 : Int), .int .i64 (b.2 : Int)]) (by simp +decide only [aevs, aev, aResults, rget_rput, if_true, if_false]) (by decide) rfl (C.mono (compare_c (a.2 : Int) (b.2 : Int)) ?_)
  rintro v s1 ⟨rfl, rfl⟩
  refine ⟨Nat.le_refl _, ?_⟩
  have e8 : Ext σ1 (σ7.merge σ7.reset) := e7.trans ((Ext.refl _).merge (σ := σ7))
  generalize σ7.merge σ7.reset = σ8 at e8
  generalize hx : cmpI (a.1 : Int) (b.1 : Int) = x
  generalize hy : cmpI (a.2 : Int) (b.2 : Int) = y
  apply Lg_pre 1
  · intro callf
    simp +decide only [List.take, aQ, memb, List.any_nil, List.any_cons, Bool.true_or, Bool.or_false, Bool.and_true, Bool.or_true, Bool.false_or, Bool.true_and, reset_merge, reset_reset, reset_next, reset_low, merge_next, merge_idem, new_low, ble_self, aOps, rinit, aWanted, ↓bite_eq, ↓reduceIte, aStep_eq, aStepOld, aOp, opBox, opBin, opUn, opCall, opIndexAddr, opFieldAddr, opLoad, opStore, opPick, opExtract, opSlice, opBuildSlice, opBuild, aRow, aev, aevs, aparts, ann, unn, aPut, if_true, if_false, rget_rput, flat, flat1, Nat.blt_eq, aBuiltin, aLen, List.getElem?_toArray, List.getElem?_cons_zero, List.getElem?_cons_succ, Nat.zero_add, Option.bind_some, beq_self_eq_true, Bool.not_true, Bool.not_false, Bool.true_beq, Bool.false_beq, bs2, new_next]
    rfl
  dsimp only [List.drop, List.take, List.length]
  have g9 : (σ8.merge (σ8.reset.new ⟨1, 3, 0, [.int .i64 x, .int .i64 y], []⟩)).get σ8.next = ⟨1, 3, 0, [.int .i64 x, .int .i64 y], []⟩ := by show (σ8.reset.new _).get σ8.next = _; rw [AS.get_new, if_pos (show σ8.reset.next = σ8.next from rfl)]
  have l9 : σ8.next < (σ8.merge (σ8.reset.new ⟨1, 3, 0, [.int .i64 x, .int .i64 y], []⟩)).next := Nat.lt_succ_self _
  have e9 : Ext σ1 (σ8.merge (σ8.reset.new ⟨1, 3, 0, [.int .i64 x, .int .i64 y], []⟩)) := e8.trans (Ext.merge (Ext.new _ _))
  generalize σ8.merge (σ8.reset.new ⟨1, 3, 0, [.int .i64 x, .int .i64 y], []⟩) = σ9 at g9 l9 e9
  have hrs : RS 1 RInt σ9 (.slice (some ⟨σ8.next, 0, none⟩) 2 2) [x, y] := RS.of_block (l := [x, y]) l9 g9 (Nat.le_refl _) fun i z hz => by
    match i with
    | 0 => cases hz; rfl
    | 1 => cases hz; rfl
    | i + 2 => simp at hz
  refine Lg_fn (vs := [.slice (some ⟨σ8.next, 0, none⟩) 2 2]) (by simp +decide only [aevs, aev, aResults, rget_rput, if_true, if_false]) (by decide) rfl (C.mono (or_c (hrs.ext RInt.keeps (Ext.reset _)) (Nat.le_of_ble_eq_true rfl)) ?_)
  rintro v s1 ⟨rfl, rfl⟩
  refine ⟨Nat.le_refl _, ?_⟩
  have e10 : Ext σ1 (σ9.merge σ9.reset) := e9.trans ((Ext.refl _).merge (σ := σ9))
  generalize σ9.merge σ9.reset = σ10 at e10
  apply Lg_all
  · intro callf
    simp +decide only [aQ, memb, List.any_nil, List.any_cons, Bool.true_or, Bool.or_false, Bool.and_true, Bool.or_true, Bool.false_or, Bool.true_and, reset_merge, reset_reset, reset_next, reset_low, merge_next, merge_idem, new_low, ble_self, aOps, rinit, aWanted, ↓bite_eq, ↓reduceIte, aStep_eq, aStepOld, aOp, opBox, opBin, opUn, opCall, opIndexAddr, opFieldAddr, opLoad, opStore, opPick, opExtract, opSlice, opBuildSlice, opBuild, aRow, aev, aevs, aparts, ann, unn, aPut, if_true, if_false, rget_rput, flat, flat1, Nat.blt_eq, aBuiltin, aLen, List.getElem?_toArray, List.getElem?_cons_zero, List.getElem?_cons_succ, Nat.zero_add, Option.bind_some, beq_self_eq_true, Bool.not_true, Bool.not_false, Bool.true_beq, Bool.false_beq]
    rfl
  refine W_ret ⟨Nat.le_refl _, [.int .i64 (orI [x, y])], ?_, ?_, (e1.trans e10).trans ((Ext.refl _).merge)⟩
  · simp +decide only [aevs, aev, aResults, rget_rput, if_true, if_false]
  · subst hx hy; rfl

end Go.Proofs.YtacpdefmnijhnaaGreat.U
