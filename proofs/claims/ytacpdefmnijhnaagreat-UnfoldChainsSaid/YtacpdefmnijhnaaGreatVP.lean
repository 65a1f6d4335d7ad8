/- Law 18: the law: the walk. -/
import Derived.Test.YtacpdefmnijhnaaGreatVO
import Derived.Test.YtacpdefmnijhnaaGreatAbsQ
set_option linter.unusedSimpArgs false
set_option linter.unusedVariables false
namespace Go.Proofs.YtacpdefmnijhnaaGreat.U18
open Abs U

theorem conv8 (v : Int) : flatO (asPure Tryz.prog (convert 5 3 (.int .u8 v))) = some (.int .i64 (IntKind.i64.wrap v)) := by kernel_rfl
theorem bld2 (a b : Int) : aBuild Tryz.prog 23 [(0, .int .i64 a), (1, .int .i64 b)] = some (.agg #[.int .i64 a, .int .i64 b, .int .i64 0]) := by kernel_rfl
theorem bldS {σ : AS} (a b : Int) : aBuildSlice Tryz.prog σ 24 1 [(0, .agg #[.int .i64 a, .int .i64 b, .int .i64 0])] = some (sl1 σ.next, σ.new (codeB a b)) := by kernel_rfl
theorem eqStop {xo yo : Operand} : aBin Tryz.prog .eql 25 xo yo (.string stopS) (.string stopS) = some (.bool true) := by kernel_rfl
theorem addI {xo yo : Operand} {t : TypeId} {a b : Int} : aBin Tryz.prog .add t xo yo (.int .i64 a) (.int .i64 b) = some (.int .i64 (IntKind.i64.wrap (a + b))) := by simp only [aBin, aInts, aInt_eq, if_true]
theorem wrap64 {v : Int} (h0 : 0 ≤ v) (h1 : v < 1000) : IntKind.i64.wrap v = v := wrap64_id _ (by omega) (by omega)
set_option maxRecDepth 20000 in
set_option maxHeartbeats 64000000 in
theorem law_c {σ : AS} {kd bk : Int} (hk0 : 0 ≤ kd) (hk1 : 0 ≤ bk) (hb8 : bk < 256) : C Tryz.prog K2 0 3 [.int .u8 kd, .int .u8 bk] σ fun u s => u = .bool true ∧ Ext σ s := by
  refine C_of (k2_of (by decide) (k1_none rfl)) Tryz.func3 rfl (Nat.le_of_ble_eq_true rfl) ?_
  show W _ _ _ 65 _ _ _ _
  unfold Tryz.f3
  dsimp only
  repeat apply W_assoc
  apply W_reg
  · intro callf
    simp +decide only [aOps, rinit, aWanted, ↓bite_eq, ↓reduceIte, aStep_eq, aStepOld, aOp, opBox, opBin, opUn, opCall, opIndexAddr, opFieldAddr, opLoad, opStore, opPick, opExtract, opSlice, opBuildSlice, opBuild, aRow, aev, aevs, aparts, ann, unn, aPut, if_true, if_false, rget_rput, flat, flat1, Nat.blt_eq, aBuiltin, List.getElem?_toArray, List.getElem?_cons_zero, List.getElem?_cons_succ, Nat.zero_add, Option.bind_some, beq_self_eq_true, Bool.not_true, Bool.not_false, Bool.true_beq, Bool.false_beq, opNil]
    rfl
  have hr := fun xo yo => aRem (P := Tryz.prog) (t := 5) (k := .u8) (a := kd) (b := 40) xo yo (by decide)
  have hq0 : 0 ≤ kd.tmod 40 := Int.tmod_nonneg _ hk0
  have hq8 : kd.tmod 40 < 40 := Int.tmod_lt_of_pos _ (by decide)
  generalize kd.tmod 40 = q at hr hq0 hq8
  obtain ⟨k, rfl⟩ : ∃ k : Nat, q = (k : Int) := ⟨q.toNat, by omega⟩
  have hk : k < 40 := by omega
  have w1 := wrap64 (v := (k : Int)) (by omega) (by omega)
  repeat apply W_assoc
  apply W_reg
  · intro callf
    simp +decide only [aOps, rinit, aWanted, ↓bite_eq, ↓reduceIte, aStep_eq, aStepOld, aOp, opBox, opBin, opUn, opCall, opIndexAddr, opFieldAddr, opLoad, opStore, opPick, opExtract, opSlice, opBuildSlice, opBuild, aRow, aev, aevs, aparts, ann, unn, aPut, if_true, if_false, rget_rput, flat, flat1, Nat.blt_eq, aBuiltin, List.getElem?_toArray, List.getElem?_cons_zero, List.getElem?_cons_succ, Nat.zero_add, Option.bind_some, beq_self_eq_true, Bool.not_true, Bool.not_false, Bool.true_beq, Bool.false_beq, opNil, opConvert, conv8, hr, w1]
    rfl
  repeat apply W_assoc
  apply W_regL
  apply Ls_pre 1
  · intro callf
    simp +decide only [List.take, aOps, rinit, aWanted, ↓bite_eq, ↓reduceIte, aStep_eq, aStepOld, aOp, opBox, opBin, opUn, opCall, opIndexAddr, opFieldAddr, opLoad, opStore, opPick, opExtract, opSlice, opBuildSlice, opBuild, aRow, aev, aevs, aparts, ann, unn, aPut, if_true, if_false, rget_rput, flat, flat1, Nat.blt_eq, aBuiltin, List.getElem?_toArray, List.getElem?_cons_zero, List.getElem?_cons_succ, Nat.zero_add, Option.bind_some, beq_self_eq_true, Bool.not_true, Bool.not_false, Bool.true_beq, Bool.false_beq, opNil, bld2]
    rfl
  dsimp only [List.drop]
  apply Ls_pre 1
  · intro callf
    simp +decide only [List.take, aOps, rinit, aWanted, ↓bite_eq, ↓reduceIte, aStep_eq, aStepOld, aOp, opBox, opBin, opUn, opCall, opIndexAddr, opFieldAddr, opLoad, opStore, opPick, opExtract, opSlice, opBuildSlice, opBuild, aRow, aev, aevs, aparts, ann, unn, aPut, if_true, if_false, rget_rput, flat, flat1, Nat.blt_eq, aBuiltin, List.getElem?_toArray, List.getElem?_cons_zero, List.getElem?_cons_succ, Nat.zero_add, Option.bind_some, beq_self_eq_true, Bool.not_true, Bool.not_false, Bool.true_beq, Bool.false_beq, opNil, bldS]
    rfl
  dsimp only [List.drop]
  have e1 := Ext.new σ (codeB 54 1)
  have g1 : (σ.new (codeB 54 1)).get σ.next = codeB 54 1 := by rw [AS.get_new, if_pos rfl]
  have n1 : (σ.new (codeB 54 1)).next = σ.next + 1 := rfl
  generalize σ.new (codeB 54 1) = s1 at e1 g1 n1 ⊢
  apply Ls_all
  · intro callf
    simp +decide only [aOps, rinit, aWanted, ↓bite_eq, ↓reduceIte, aStep_eq, aStepOld, aOp, opBox, opBin, opUn, opCall, opIndexAddr, opFieldAddr, opLoad, opStore, opPick, opExtract, opSlice, opBuildSlice, opBuild, aRow, aev, aevs, aparts, ann, unn, aPut, if_true, if_false, rget_rput, flat, flat1, Nat.blt_eq, aBuiltin, List.getElem?_toArray, List.getElem?_cons_zero, List.getElem?_cons_succ, Nat.zero_add, Option.bind_some, beq_self_eq_true, Bool.not_true, Bool.not_false, Bool.true_beq, Bool.false_beq, opNil]
    rfl
  obtain ⟨s2, A2, E2, -, C2⟩ := k1_7 (σ := s1) (b := σ.next) (k := k) hk (by omega) (op := 54) (ar := 1) (by exact g1)
  have gd2 : ∀ n, n ≤ k → good k (if n = k then (54 : Int) else 7) (if n = k then (1 : Int) else ((n + 1 : Nat) : Int)) := fun n hn => by
    by_cases e : n = k
    · rw [if_pos e, if_pos e]; exact .inr ⟨rfl, rfl⟩
    · rw [if_neg e, if_neg e]; exact .inl ⟨rfl, by omega, by omega⟩
  have ch2 : ∀ i, i < k → (if i = k then (54 : Int) else 7) = 7 ∧ (if i = k then (1 : Int) else ((i + 1 : Nat) : Int)) = ((i + 1 : Nat) : Int) := fun i hi => by
    rw [if_neg (by omega), if_neg (by omega)]; exact ⟨rfl, rfl⟩
  have H2 := head_c none C2 gd2 ch2 (by show (if k = k then (54 : Int) else 7) = 54 ∧ (if k = k then (1 : Int) else _) = 1; rw [if_pos rfl, if_pos rfl]; exact ⟨rfl, rfl⟩)
  repeat apply W_assoc
  apply W_regL
  apply Ls_pre 2
  · intro callf
    simp +decide only [List.take, aOps, rinit, aWanted, ↓bite_eq, ↓reduceIte, aStep_eq, aStepOld, aOp, opBox, opBin, opUn, opCall, opIndexAddr, opFieldAddr, opLoad, opStore, opPick, opExtract, opSlice, opBuildSlice, opBuild, aRow, aev, aevs, aparts, ann, unn, aPut, if_true, if_false, rget_rput, flat, flat1, Nat.blt_eq, aBuiltin, List.getElem?_toArray, List.getElem?_cons_zero, List.getElem?_cons_succ, Nat.zero_add, Option.bind_some, beq_self_eq_true, Bool.not_true, Bool.not_false, Bool.true_beq, Bool.false_beq, opNil]
    rfl
  dsimp only [List.drop]
  refine Ls_fnG (vs := [.int .i64 (k : Int), sl1 σ.next]) (by simp +decide only [aWanted, List.getElem?_toArray, List.getElem?_cons_zero, List.getElem?_cons_succ, Option.bind_some, rget_rput, if_true, if_false, Bool.not_true, Bool.not_false, Bool.true_beq, Bool.false_beq, beq_self_eq_true, bite_eq]) (by simp +decide only [aevs, aev, aResults, rget_rput, if_true, if_false]) (by decide) (C_known (k2_of (by decide) A2) ?_)
  refine Ls_fnG (vs := [.int .i64 0, .slice none 0 0]) (by simp +decide only [aWanted, List.getElem?_toArray, List.getElem?_cons_zero, List.getElem?_cons_succ, Option.bind_some, rget_rput, if_true, if_false, Bool.not_true, Bool.not_false, Bool.true_beq, Bool.false_beq, beq_self_eq_true, bite_eq]) (by simp +decide only [aevs, aev, aResults, rget_rput, if_true, if_false]) (by decide) (C_known (k2_of (by decide) k1_8) ?_)
  refine Ls_fn (vs := [coreV s1.next (s1.next + 1) (s1.next + 2) k, .string (cs 0)]) (by simp +decide only [aevs, aev, aResults, rget_rput, if_true, if_false]) (by decide) (C.mono (H2) ?_)
  rintro v s3 ⟨rfl, E3⟩
  have e13 := (e1.trans E2).trans E3
  obtain ⟨v1, er, hv, hc⟩ : ∃ v1 : ByteArray, ∃ er : Int, headV none k = .tuple #[.string v1, .int .i64 er] ∧ ((k < 32 ∧ v1 = stopS ∧ er = 0) ∨ (¬ k < 32 ∧ er = 15)) := by
    unfold headV
    by_cases h : k < 32
    · rw [if_pos h]; exact ⟨_, _, rfl, .inl ⟨h, rfl, rfl⟩⟩
    · rw [if_neg h]; exact ⟨_, _, rfl, .inr ⟨h, rfl⟩⟩
  rw [hv]
  apply Ls_all
  · intro callf
    simp +decide only [aOps, rinit, aWanted, ↓bite_eq, ↓reduceIte, aStep_eq, aStepOld, aOp, opBox, opBin, opUn, opCall, opIndexAddr, opFieldAddr, opLoad, opStore, opPick, opExtract, opSlice, opBuildSlice, opBuild, aRow, aev, aevs, aparts, ann, unn, aPut, if_true, if_false, rget_rput, flat, flat1, Nat.blt_eq, aBuiltin, List.getElem?_toArray, List.getElem?_cons_zero, List.getElem?_cons_succ, Nat.zero_add, Option.bind_some, beq_self_eq_true, Bool.not_true, Bool.not_false, Bool.true_beq, Bool.false_beq, opNil]
    rfl
  have x3 := e13.nxt
  have hb0 : 0 ≤ bk.tmod ((k : Int) + 1) := Int.tmod_nonneg _ hk1
  have hb1 : bk.tmod ((k : Int) + 1) < (k : Int) + 1 := Int.tmod_lt_of_pos _ (by omega)
  have hr2 := fun xo yo => aRem (P := Tryz.prog) (t := 3) (k := .i64) (a := bk) (b := (k : Int) + 1) xo yo (by omega)
  have w2 := wrap64 (v := bk) hk1 (by omega)
  have w3 := wrap64 (v := (k : Int) + 1) (by omega) (by omega)
  generalize bk.tmod ((k : Int) + 1) = b at hr2 hb0 hb1
  obtain ⟨b, rfl⟩ : ∃ j : Nat, b = (j : Int) := ⟨b.toNat, by omega⟩
  have hbk : b ≤ k := by omega
  repeat apply W_assoc
  apply W_regL
  apply Ls_pre 6
  · intro callf
    simp +decide only [List.take, aOps, rinit, aWanted, ↓bite_eq, ↓reduceIte, aStep_eq, aStepOld, aOp, opBox, opBin, opUn, opCall, opIndexAddr, opFieldAddr, opLoad, opStore, opPick, opExtract, opSlice, opBuildSlice, opBuild, aRow, aev, aevs, aparts, ann, unn, aPut, if_true, if_false, rget_rput, flat, flat1, Nat.blt_eq, aBuiltin, List.getElem?_toArray, List.getElem?_cons_zero, List.getElem?_cons_succ, Nat.zero_add, Option.bind_some, beq_self_eq_true, Bool.not_true, Bool.not_false, Bool.true_beq, Bool.false_beq, opNil, opConvert, conv8, w2, w3, hr2, bld2, addI]
    rfl
  dsimp only [List.drop]
  apply Ls_pre 1
  · intro callf
    simp +decide only [List.take, aOps, rinit, aWanted, ↓bite_eq, ↓reduceIte, aStep_eq, aStepOld, aOp, opBox, opBin, opUn, opCall, opIndexAddr, opFieldAddr, opLoad, opStore, opPick, opExtract, opSlice, opBuildSlice, opBuild, aRow, aev, aevs, aparts, ann, unn, aPut, if_true, if_false, rget_rput, flat, flat1, Nat.blt_eq, aBuiltin, List.getElem?_toArray, List.getElem?_cons_zero, List.getElem?_cons_succ, Nat.zero_add, Option.bind_some, beq_self_eq_true, Bool.not_true, Bool.not_false, Bool.true_beq, Bool.false_beq, opNil, bldS]
    rfl
  dsimp only [List.drop]
  have e4 := Ext.new s3 (codeB 7 (b : Int))
  have g4 : (s3.new (codeB 7 (b : Int))).get s3.next = codeB 7 (b : Int) := by rw [AS.get_new, if_pos rfl]
  have n4 : (s3.new (codeB 7 (b : Int))).next = s3.next + 1 := rfl
  generalize s3.new (codeB 7 (b : Int)) = s4 at e4 g4 n4 ⊢
  apply Ls_all
  · intro callf
    simp +decide only [aOps, rinit, aWanted, ↓bite_eq, ↓reduceIte, aStep_eq, aStepOld, aOp, opBox, opBin, opUn, opCall, opIndexAddr, opFieldAddr, opLoad, opStore, opPick, opExtract, opSlice, opBuildSlice, opBuild, aRow, aev, aevs, aparts, ann, unn, aPut, if_true, if_false, rget_rput, flat, flat1, Nat.blt_eq, aBuiltin, List.getElem?_toArray, List.getElem?_cons_zero, List.getElem?_cons_succ, Nat.zero_add, Option.bind_some, beq_self_eq_true, Bool.not_true, Bool.not_false, Bool.true_beq, Bool.false_beq, opNil]
    rfl
  obtain ⟨s5, A5, E5, -, C5⟩ := k1_7 (σ := s4) (b := s3.next) (k := k) hk (by omega) (op := 7) (ar := (b : Int)) (by exact g4)
  have gd5 : ∀ n, n ≤ k → good k (if n = k then (7 : Int) else 7) (if n = k then ((b : Int) : Int) else ((n + 1 : Nat) : Int)) := fun n hn => by
    by_cases e : n = k
    · rw [if_pos e, if_pos e]; exact .inl ⟨rfl, by omega, by omega⟩
    · rw [if_neg e, if_neg e]; exact .inl ⟨rfl, by omega, by omega⟩
  have ch5 : ∀ i, i < k → (if i = k then (7 : Int) else 7) = 7 ∧ (if i = k then ((b : Int) : Int) else ((i + 1 : Nat) : Int)) = ((i + 1 : Nat) : Int) := fun i hi => by
    rw [if_neg (by omega), if_neg (by omega)]; exact ⟨rfl, rfl⟩
  have H5 := head_c (some b) C5 gd5 ch5 (by show (if k = k then (7 : Int) else 7) = 7 ∧ (if k = k then (b : Int) else _) = ((b : Nat) : Int) ∧ b ≤ k; rw [if_pos rfl, if_pos rfl]; exact ⟨rfl, rfl, hbk⟩)
  repeat apply W_assoc
  apply W_regL
  apply Ls_pre 2
  · intro callf
    simp +decide only [List.take, aOps, rinit, aWanted, ↓bite_eq, ↓reduceIte, aStep_eq, aStepOld, aOp, opBox, opBin, opUn, opCall, opIndexAddr, opFieldAddr, opLoad, opStore, opPick, opExtract, opSlice, opBuildSlice, opBuild, aRow, aev, aevs, aparts, ann, unn, aPut, if_true, if_false, rget_rput, flat, flat1, Nat.blt_eq, aBuiltin, List.getElem?_toArray, List.getElem?_cons_zero, List.getElem?_cons_succ, Nat.zero_add, Option.bind_some, beq_self_eq_true, Bool.not_true, Bool.not_false, Bool.true_beq, Bool.false_beq, opNil]
    rfl
  dsimp only [List.drop]
  refine Ls_fnG (vs := [.int .i64 (k : Int), sl1 s3.next]) (by simp +decide only [aWanted, List.getElem?_toArray, List.getElem?_cons_zero, List.getElem?_cons_succ, Option.bind_some, rget_rput, if_true, if_false, Bool.not_true, Bool.not_false, Bool.true_beq, Bool.false_beq, beq_self_eq_true, bite_eq]) (by simp +decide only [aevs, aev, aResults, rget_rput, if_true, if_false]) (by decide) (C_known (k2_of (by decide) A5) ?_)
  refine Ls_fnG (vs := [.int .i64 0, .slice none 0 0]) (by simp +decide only [aWanted, List.getElem?_toArray, List.getElem?_cons_zero, List.getElem?_cons_succ, Option.bind_some, rget_rput, if_true, if_false, Bool.not_true, Bool.not_false, Bool.true_beq, Bool.false_beq, beq_self_eq_true, bite_eq]) (by simp +decide only [aevs, aev, aResults, rget_rput, if_true, if_false]) (by decide) (C_known (k2_of (by decide) k1_8) ?_)
  refine Ls_fn (vs := [coreV s4.next (s4.next + 1) (s4.next + 2) k, .string (cs 0)]) (by simp +decide only [aevs, aev, aResults, rget_rput, if_true, if_false]) (by decide) (C.mono (H5) ?_)
  rintro v s6 ⟨rfl, E6⟩
  have e16 := ((e13.trans e4).trans E5).trans E6
  obtain ⟨v2, e2, hv2, hc2⟩ : ∃ v2 : ByteArray, ∃ e2 : Int, headV (some b) k = .tuple #[.string v2, .int .i64 e2] ∧ ((k < 32 ∧ e2 = 19) ∨ (¬ k < 32 ∧ e2 = 15)) := by
    unfold headV
    by_cases h : k < 32
    · rw [if_pos h]; exact ⟨_, _, rfl, .inl ⟨h, rfl⟩⟩
    · rw [if_neg h]; exact ⟨_, _, rfl, .inr ⟨h, rfl⟩⟩
  rw [hv2]
  apply Ls_all
  · intro callf
    simp +decide only [aOps, rinit, aWanted, ↓bite_eq, ↓reduceIte, aStep_eq, aStepOld, aOp, opBox, opBin, opUn, opCall, opIndexAddr, opFieldAddr, opLoad, opStore, opPick, opExtract, opSlice, opBuildSlice, opBuild, aRow, aev, aevs, aparts, ann, unn, aPut, if_true, if_false, rget_rput, flat, flat1, Nat.blt_eq, aBuiltin, List.getElem?_toArray, List.getElem?_cons_zero, List.getElem?_cons_succ, Nat.zero_add, Option.bind_some, beq_self_eq_true, Bool.not_true, Bool.not_false, Bool.true_beq, Bool.false_beq, opNil]
    rfl
  repeat apply W_assoc
  apply W_reg
  · intro callf
    simp +decide only [aOps, rinit, aWanted, ↓bite_eq, ↓reduceIte, aStep_eq, aStepOld, aOp, opBox, opBin, opUn, opCall, opIndexAddr, opFieldAddr, opLoad, opStore, opPick, opExtract, opSlice, opBuildSlice, opBuild, aRow, aev, aevs, aparts, ann, unn, aPut, if_true, if_false, rget_rput, flat, flat1, Nat.blt_eq, aBuiltin, List.getElem?_toArray, List.getElem?_cons_zero, List.getElem?_cons_succ, Nat.zero_add, Option.bind_some, beq_self_eq_true, Bool.not_true, Bool.not_false, Bool.true_beq, Bool.false_beq, opNil]
    rfl
  by_cases h32 : k < 32
  · obtain ⟨rfl, rfl⟩ : v1 = stopS ∧ er = 0 := by rcases hc with ⟨_, h, h'⟩ | ⟨h, _⟩; exact ⟨h, h'⟩; exact absurd h32 h
    obtain rfl : e2 = 19 := by rcases hc2 with ⟨_, h⟩ | ⟨h, _⟩; exact h; exact absurd h32 h
    have d1 : decide ((k : Int) + 1 > 32) = false := decide_eq_false (by omega)
    have dA : ((0 : Int) == 0) = true := by decide
    have dB : ((0 : Int) != 0) = false := by decide
    have dC : ((19 : Int) == 19) = true := by decide
    repeat apply W_assoc
    apply W_reg
    · intro callf
      simp +decide only [aOps, rinit, aWanted, ↓bite_eq, ↓reduceIte, aStep_eq, aStepOld, aOp, opBox, opBin, opUn, opCall, opIndexAddr, opFieldAddr, opLoad, opStore, opPick, opExtract, opSlice, opBuildSlice, opBuild, aRow, aev, aevs, aparts, ann, unn, aPut, if_true, if_false, rget_rput, flat, flat1, Nat.blt_eq, aBuiltin, List.getElem?_toArray, List.getElem?_cons_zero, List.getElem?_cons_succ, Nat.zero_add, Option.bind_some, beq_self_eq_true, Bool.not_true, Bool.not_false, Bool.true_beq, Bool.false_beq, opNil, w3, d1, addI, gtI]
      rfl
    repeat apply W_assoc
    refine W_if (b := false) ?_ ?_ ?_
    · simp +decide only [aevs, aev, aResults, rget_rput, if_true, if_false, decide_true, decide_false, Bool.not_true, Bool.not_false]
    · intro h; cases h
    intro _
    apply W_skipq
    repeat apply W_assoc
    apply W_regL
    refine Ls_fnG (vs := []) (by simp +decide only [aWanted, List.getElem?_toArray, List.getElem?_cons_zero, List.getElem?_cons_succ, Option.bind_some, rget_rput, if_true, if_false, Bool.not_true, Bool.not_false, Bool.true_beq, Bool.false_beq, beq_self_eq_true, bite_eq]) (by simp +decide only [aevs, aev, aResults, rget_rput, if_true, if_false]) (by decide) (C_known (k2_of (by decide) k1_9) ?_)
    apply Ls_pre 10
    · intro callf
      simp +decide only [List.take, aOps, rinit, aWanted, ↓bite_eq, ↓reduceIte, aStep_eq, aStepOld, aOp, opBox, opBin, opUn, opCall, opIndexAddr, opFieldAddr, opLoad, opStore, opPick, opExtract, opSlice, opBuildSlice, opBuild, aRow, aev, aevs, aparts, ann, unn, aPut, if_true, if_false, rget_rput, flat, flat1, Nat.blt_eq, aBuiltin, List.getElem?_toArray, List.getElem?_cons_zero, List.getElem?_cons_succ, Nat.zero_add, Option.bind_some, beq_self_eq_true, Bool.not_true, Bool.not_false, Bool.true_beq, Bool.false_beq, opNil, eqI, neI, dA, dB, opPick]
      rfl
    dsimp only [List.drop]
    refine Ls_fnG (vs := [.int .i64 1, .slice none 0 0]) (by simp +decide only [aWanted, List.getElem?_toArray, List.getElem?_cons_zero, List.getElem?_cons_succ, Option.bind_some, rget_rput, if_true, if_false, Bool.not_true, Bool.not_false, Bool.true_beq, Bool.false_beq, beq_self_eq_true, bite_eq]) (by simp +decide only [aevs, aev, aResults, rget_rput, if_true, if_false]) (by decide) (C_known (k2_of (by decide) k1_10) ?_)
    apply Ls_all
    · intro callf
      simp +decide only [aOps, rinit, aWanted, ↓bite_eq, ↓reduceIte, aStep_eq, aStepOld, aOp, opBox, opBin, opUn, opCall, opIndexAddr, opFieldAddr, opLoad, opStore, opPick, opExtract, opSlice, opBuildSlice, opBuild, aRow, aev, aevs, aparts, ann, unn, aPut, if_true, if_false, rget_rput, flat, flat1, Nat.blt_eq, aBuiltin, List.getElem?_toArray, List.getElem?_cons_zero, List.getElem?_cons_succ, Nat.zero_add, Option.bind_some, beq_self_eq_true, Bool.not_true, Bool.not_false, Bool.true_beq, Bool.false_beq, opNil, eqStop, eqI, dC, opPick]
      rfl
    refine W_ret ⟨Nat.le_refl _, [.bool true], ?_, rfl, e16⟩
    simp +decide only [aevs, aev, aResults, rget_rput, if_true, if_false]
  obtain rfl : er = 15 := by rcases hc with ⟨h, _⟩ | ⟨_, h⟩; exact absurd h h32; exact h
  obtain rfl : e2 = 15 := by rcases hc2 with ⟨h, _⟩ | ⟨_, h⟩; exact absurd h h32; exact h
  have d1 : decide ((k : Int) + 1 > 32) = true := decide_eq_true (by omega)
  have dA : ((15 : Int) == 15) = true := by decide
  have dB : ((15 : Int) != 0) = true := by decide
  repeat apply W_assoc
  apply W_reg
  · intro callf
    simp +decide only [aOps, rinit, aWanted, ↓bite_eq, ↓reduceIte, aStep_eq, aStepOld, aOp, opBox, opBin, opUn, opCall, opIndexAddr, opFieldAddr, opLoad, opStore, opPick, opExtract, opSlice, opBuildSlice, opBuild, aRow, aev, aevs, aparts, ann, unn, aPut, if_true, if_false, rget_rput, flat, flat1, Nat.blt_eq, aBuiltin, List.getElem?_toArray, List.getElem?_cons_zero, List.getElem?_cons_succ, Nat.zero_add, Option.bind_some, beq_self_eq_true, Bool.not_true, Bool.not_false, Bool.true_beq, Bool.false_beq, opNil, w3, d1, addI, gtI]
    rfl
  repeat apply W_assoc
  refine W_if (b := true) ?_ ?_ ?_
  · simp +decide only [aevs, aev, aResults, rget_rput, if_true, if_false, decide_true, decide_false, Bool.not_true, Bool.not_false]
  rotate_left
  · intro h; cases h
  intro _
  repeat apply W_assoc
  apply W_reg
  · intro callf
    simp +decide only [aOps, rinit, aWanted, ↓bite_eq, ↓reduceIte, aStep_eq, aStepOld, aOp, opBox, opBin, opUn, opCall, opIndexAddr, opFieldAddr, opLoad, opStore, opPick, opExtract, opSlice, opBuildSlice, opBuild, aRow, aev, aevs, aparts, ann, unn, aPut, if_true, if_false, rget_rput, flat, flat1, Nat.blt_eq, aBuiltin, List.getElem?_toArray, List.getElem?_cons_zero, List.getElem?_cons_succ, Nat.zero_add, Option.bind_some, beq_self_eq_true, Bool.not_true, Bool.not_false, Bool.true_beq, Bool.false_beq, opNil]
    rfl
  repeat apply W_assoc
  apply W_reg
  · intro callf
    simp +decide only [aOps, rinit, aWanted, ↓bite_eq, ↓reduceIte, aStep_eq, aStepOld, aOp, opBox, opBin, opUn, opCall, opIndexAddr, opFieldAddr, opLoad, opStore, opPick, opExtract, opSlice, opBuildSlice, opBuild, aRow, aev, aevs, aparts, ann, unn, aPut, if_true, if_false, rget_rput, flat, flat1, Nat.blt_eq, aBuiltin, List.getElem?_toArray, List.getElem?_cons_zero, List.getElem?_cons_succ, Nat.zero_add, Option.bind_some, beq_self_eq_true, Bool.not_true, Bool.not_false, Bool.true_beq, Bool.false_beq, opNil]
    rfl
  repeat apply W_assoc
  apply W_regL
  refine Ls_fnG (vs := []) (by simp +decide only [aWanted, List.getElem?_toArray, List.getElem?_cons_zero, List.getElem?_cons_succ, Option.bind_some, rget_rput, if_true, if_false, Bool.not_true, Bool.not_false, Bool.true_beq, Bool.false_beq, beq_self_eq_true, bite_eq]) (by simp +decide only [aevs, aev, aResults, rget_rput, if_true, if_false]) (by decide) (C_known (k2_of (by decide) k1_9) ?_)
  apply Ls_all
  · intro callf
    simp +decide only [aOps, rinit, aWanted, ↓bite_eq, ↓reduceIte, aStep_eq, aStepOld, aOp, opBox, opBin, opUn, opCall, opIndexAddr, opFieldAddr, opLoad, opStore, opPick, opExtract, opSlice, opBuildSlice, opBuild, aRow, aev, aevs, aparts, ann, unn, aPut, if_true, if_false, rget_rput, flat, flat1, Nat.blt_eq, aBuiltin, List.getElem?_toArray, List.getElem?_cons_zero, List.getElem?_cons_succ, Nat.zero_add, Option.bind_some, beq_self_eq_true, Bool.not_true, Bool.not_false, Bool.true_beq, Bool.false_beq, opNil, eqI, neI, dA, dB, opPick]
    rfl
  refine W_ret ⟨Nat.le_refl _, [.bool true], ?_, rfl, e16⟩
  simp +decide only [aevs, aev, aResults, rget_rput, if_true, if_false]


end Go.Proofs.YtacpdefmnijhnaaGreat.U18
