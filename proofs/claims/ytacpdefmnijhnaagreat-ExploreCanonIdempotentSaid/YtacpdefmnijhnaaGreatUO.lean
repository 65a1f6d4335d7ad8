/- A system is generated: the walk. -/
import Derived.Test.YtacpdefmnijhnaaGreatUN
set_option linter.unusedSimpArgs false
set_option linter.unusedVariables false
namespace Go.Proofs.YtacpdefmnijhnaaGreat.U
open Abs

theorem Gen.tapeM {σ0 σ s : AS} {tb lb b6 bo N lr : Nat} {lv : Value} {ints : List Int} {R rows : List Value} {L : List (List Arc)} {v : Value} {l : List Arc} (h : Gen σ0 tb lb b6 bo N lr lv ints σ R rows L v l) (e : ExtX [tb] σ (σ.merge s)) (t : Tape tb s lv ints) : Gen σ0 tb lb b6 bo N lr lv ints (σ.merge s) R rows L v l := by
  obtain ⟨p, hp⟩ := t.own
  exact h.tapeX e (h.tape.keep e (pos := p) hp)

set_option maxHeartbeats 32000000 in
theorem lts_c {σ : AS} {tb : Nat} {lv : Value} {ints : List Int} (hT : Tape tb σ lv ints) : C Tryz.prog KA 0 15 [.pointer (some ⟨tb, 0, none⟩), .int .i64 10] σ fun u σ' => ∃ ov L, u = .agg #[ov] ∧ OutR σ' ov L ∧ Small L ∧ ExtX [tb] σ σ' := by
  refine C_of (ka rfl rfl) Tryz.func15 rfl (Nat.le_of_ble_eq_true rfl) ?_
  show W _ _ _ 45 _ _ _ _
  unfold Tryz.f15
  dsimp only
  repeat apply W_assoc
  apply W_reg
  · intro callf
    simp +decide only [aOps, rinit, aWanted, ↓bite_eq, ↓reduceIte, aStep_eq, aStepOld, aOp, opBox, opBin, opUn, opCall, opIndexAddr, opFieldAddr, opLoad, opStore, opPick, opExtract, opSlice, opBuildSlice, opBuild, aRow, aev, aevs, aparts, ann, unn, aPut, if_true, if_false, rget_rput, flat, flat1, Nat.blt_eq, aBuiltin, aLen, List.getElem?_toArray, List.getElem?_cons_zero, List.getElem?_cons_succ, Nat.zero_add, Option.bind_some, beq_self_eq_true, Bool.not_true, Bool.not_false, Bool.true_beq, Bool.false_beq, allocL]
    rfl
  have E0 : Ext σ (σ.new ⟨1, 54, 0, [.slice none 0 0], []⟩) := Ext.new _ _
  have BR := BoxAt.new σ (.slice none 0 0)
  have T0 := hT.ext E0
  have htb := hT.lt
  generalize hbo : σ.next = bo at BR
  generalize σ.new ⟨1, 54, 0, [.slice none 0 0], []⟩ = σ1 at E0 BR T0
  repeat apply W_assoc
  apply W_regL
  apply Ls_pre 2
  · intro callf
    simp +decide only [List.take, aOps, rinit, aWanted, ↓bite_eq, ↓reduceIte, aStep_eq, aStepOld, aOp, opBox, opBin, opUn, opCall, opIndexAddr, opFieldAddr, opLoad, opStore, opPick, opExtract, opSlice, opBuildSlice, opBuild, aRow, aev, aevs, aparts, ann, unn, aPut, if_true, if_false, rget_rput, flat, flat1, Nat.blt_eq, aBuiltin, aLen, List.getElem?_toArray, List.getElem?_cons_zero, List.getElem?_cons_succ, Nat.zero_add, Option.bind_some, beq_self_eq_true, Bool.not_true, Bool.not_false, Bool.true_beq, Bool.false_beq]
    rfl
  dsimp only [List.drop]
  refine Ls_fn (vs := [.pointer (some ⟨tb, 0, none⟩), .int .i64 10]) (by simp +decide only [aevs, aev, aResults, rget_rput, if_true, if_false]) (by decide) (C.mono (next_c T0 (n := 10) (by omega) (by omega)) ?_)
  rintro v σ' ⟨⟨m, rfl, hm0, hm1⟩, TP, EX⟩
  obtain ⟨N, hN⟩ : ∃ N : Nat, (N : Int) = 1 + m := ⟨(1 + m).toNat, by omega⟩
  have w0 : IntKind.i64.wrap (1 + m) = (N : Int) := by rw [wrap64_id _ (by omega) (by omega)]; omega
  have hN1 : 0 < N := by omega
  have hN10 : N ≤ 10 := by omega
  clear hm0 hm1
  have BR := BR.extX EX (by simp; omega)
  have EX := (ExtX.of E0 (X := [tb])).trans EX
  apply Ls_all
  · intro callf
    simp +decide only [aOps, rinit, aWanted, ↓bite_eq, ↓reduceIte, aStep_eq, aStepOld, aOp, opBox, opBin, opUn, opCall, opIndexAddr, opFieldAddr, opLoad, opStore, opPick, opExtract, opSlice, opBuildSlice, opBuild, aRow, aev, aevs, aparts, ann, unn, aPut, if_true, if_false, rget_rput, flat, flat1, Nat.blt_eq, aBuiltin, aLen, List.getElem?_toArray, List.getElem?_cons_zero, List.getElem?_cons_succ, Nat.zero_add, Option.bind_some, beq_self_eq_true, Bool.not_true, Bool.not_false, Bool.true_beq, Bool.false_beq, w0, aBin, aInts, aInt_eq]
    rfl
  clear T0 E0 w0 hN
  generalize σ' = σ1 at TP BR EX
  generalize hlb : σ1.next = lb
  have hlb2 : bo < lb := by have := BR.lt; omega
  have hbo2 : σ.next ≤ bo := by omega
  have hNX : (σ1.new ⟨1, 60, 0, List.replicate N (.slice none 0 0), []⟩).next = lb + 1 := by rw [← hlb]; rfl
  repeat apply W_assoc
  apply W_reg
  · intro callf
    simp +decide only [aOps, rinit, aWanted, ↓bite_eq, ↓reduceIte, aStep_eq, aStepOld, aOp, opBox, opBin, opUn, opCall, opIndexAddr, opFieldAddr, opLoad, opStore, opPick, opExtract, opSlice, opBuildSlice, opBuild, aRow, aev, aevs, aparts, ann, unn, aPut, if_true, if_false, rget_rput, flat, flat1, Nat.blt_eq, aBuiltin, aLen, List.getElem?_toArray, List.getElem?_cons_zero, List.getElem?_cons_succ, Nat.zero_add, Option.bind_some, beq_self_eq_true, Bool.not_true, Bool.not_false, Bool.true_beq, Bool.false_beq, opMakeSlice, makeR (show N ≤ 1000000 by omega), hlb, buildL, allocL, hNX, storeL (σ := (σ1.new ⟨1, 60, 0, List.replicate N (.slice none 0 0), []⟩).new ⟨1, 54, 0, [.slice none 0 0], []⟩) (b := lb + 1) (x := .slice none 0 0) (by rw [AS.get_new, if_pos hNX])]
    rfl
  have e1 : Ext σ1 (((σ1.new ⟨1, 60, 0, List.replicate N (.slice none 0 0), []⟩).new ⟨1, 54, 0, [.slice none 0 0], []⟩).put (lb + 1) ⟨1, 54, 0, [.slice (some ⟨lb, 0, none⟩) N N], []⟩) := Ext.put ((Ext.new _ _).trans (Ext.new _ _)) (by omega) _
  have G : Gen σ tb lb (lb + 1) bo N (lb + 2) lv ints (((σ1.new ⟨1, 60, 0, List.replicate N (.slice none 0 0), []⟩).new ⟨1, 54, 0, [.slice none 0 0], []⟩).put (lb + 1) ⟨1, 54, 0, [.slice (some ⟨lb, 0, none⟩) N N], []⟩) (List.replicate N (.slice none 0 0)) [] [] (.slice none 0 0) [] := by
    have hnx : (((σ1.new ⟨1, 60, 0, List.replicate N (.slice none 0 0), []⟩).new ⟨1, 54, 0, [.slice none 0 0], []⟩).put (lb + 1) ⟨1, 54, 0, [.slice (some ⟨lb, 0, none⟩) N N], []⟩).next = lb + 2 := by rw [← hlb]; rfl
    refine { tape0 := hT, own := ?_, lbg := ?_, box := ⟨by rw [hnx]; omega, by rw [AS.get_put, if_pos rfl]⟩, res := BR.ext e1, done := RowsB.nil, row := .inl ⟨rfl, rfl⟩, ext := EX.trans (ExtX.of e1), ok := by simp, okl := by simp, lrn := by rw [hnx]; exact Nat.le_refl _, lr0 := by omega, lbl := by omega, boxl := by omega, resl := by omega, b6o := by omega }
    · obtain ⟨p, hp⟩ := TP.own
      exact ⟨p, (e1.get tb TP.lt).trans hp⟩
    · rw [AS.get_put, if_neg (by omega), AS.get_new, if_neg (by rw [hNX]; omega), AS.get_new, if_pos hlb]
  clear e1 hNX
  generalize hb6 : lb + 1 = b6 at G
  generalize ((σ1.new ⟨1, 60, 0, List.replicate N (.slice none 0 0), []⟩).new ⟨1, 54, 0, [.slice none 0 0], []⟩).put b6 ⟨1, 54, 0, [.slice (some ⟨lb, 0, none⟩) N N], []⟩ = σ2 at G
  clear TP BR EX hlb
  repeat apply W_assoc
  apply W_reg
  · intro callf
    simp +decide only [aOps, rinit, aWanted, ↓bite_eq, ↓reduceIte, aStep_eq, aStepOld, aOp, opBox, opBin, opUn, opCall, opIndexAddr, opFieldAddr, opLoad, opStore, opPick, opExtract, opSlice, opBuildSlice, opBuild, aRow, aev, aevs, aparts, ann, unn, aPut, if_true, if_false, rget_rput, flat, flat1, Nat.blt_eq, aBuiltin, aLen, List.getElem?_toArray, List.getElem?_cons_zero, List.getElem?_cons_succ, Nat.zero_add, Option.bind_some, beq_self_eq_true, Bool.not_true, Bool.not_false, Bool.true_beq, Bool.false_beq]
    rfl
  repeat apply W_assoc
  refine W_for (fun (x : Nat × Nat × List Value × List Value × List (List Arc)) r s => x.1 ≤ N ∧ x.2.2.2.2.length = x.1 ∧ x.2.2.1 = x.2.2.2.1 ++ List.replicate (N - x.1) (.slice none 0 0) ∧ Gen σ tb lb b6 bo N x.2.1 lv ints s x.2.2.1 x.2.2.2.1 x.2.2.2.2 (.slice none 0 0) [] ∧
      rget r 0 = .pointer (some ⟨tb, 0, none⟩) ∧ rget r 4 = .pointer (some ⟨bo, 0, none⟩) ∧ rget r 5 = .int .i64 (N : Int) ∧ rget r 6 = .pointer (some ⟨b6, 0, none⟩) ∧ rget r 7 = .int .i64 (x.1 : Int))
    (fun x => N - x.1) ?_ (0, lb + 2, List.replicate N (.slice none 0 0), [], []) ?_
  rotate_left
  · refine ⟨Nat.zero_le _, rfl, rfl, G, ?_, ?_, ?_, ?_, ?_⟩ <;> simp +decide only [rget_rput, rinit, if_true, if_false, goInt, hbo, hb6] <;> first | exact True.intro | rfl
  clear G
  rintro ⟨i, lr, R, rows, L⟩ r σ3 ⟨hi, hL, hR, G, h0, h4, h5, h6, h7⟩
  dsimp only at hi hL hR G h7
  by_cases hlt : i < N
  rotate_left
  · have d1 : decide ((i : Int) < (N : Int)) = false := decide_eq_false (by omega)
    obtain rfl : i = N := by omega
    rw [Nat.sub_self, List.replicate_zero, List.append_nil] at hR
    repeat apply W_assoc
    apply W_reg
    · intro callf
      simp +decide only [aOps, rinit, aWanted, ↓bite_eq, ↓reduceIte, aStep_eq, aStepOld, aOp, opBox, opBin, opUn, opCall, opIndexAddr, opFieldAddr, opLoad, opStore, opPick, opExtract, opSlice, opBuildSlice, opBuild, aRow, aev, aevs, aparts, ann, unn, aPut, if_true, if_false, rget_rput, flat, flat1, Nat.blt_eq, aBuiltin, aLen, List.getElem?_toArray, List.getElem?_cons_zero, List.getElem?_cons_succ, Nat.zero_add, Option.bind_some, beq_self_eq_true, Bool.not_true, Bool.not_false, Bool.true_beq, Bool.false_beq, h5, h7, d1, aBin, aInts, aInt_eq]
      rfl
    repeat apply W_assoc
    refine W_if (b := false) ?_ ?_ ?_
    · simp +decide only [aevs, aev, aResults, rget_rput, if_true, if_false]
    · intro h; cases h
    intro _
    refine W_exitq ⟨fun h => (nomatch h), fun _ => ?_, fun h1 h2 => absurd rfl h2⟩
    repeat apply W_assoc
    apply W_reg
    · intro callf
      simp +decide only [aOps, rinit, aWanted, ↓bite_eq, ↓reduceIte, aStep_eq, aStepOld, aOp, opBox, opBin, opUn, opCall, opIndexAddr, opFieldAddr, opLoad, opStore, opPick, opExtract, opSlice, opBuildSlice, opBuild, aRow, aev, aevs, aparts, ann, unn, aPut, if_true, if_false, rget_rput, flat, flat1, Nat.blt_eq, aBuiltin, aLen, List.getElem?_toArray, List.getElem?_cons_zero, List.getElem?_cons_succ, Nat.zero_add, Option.bind_some, beq_self_eq_true, Bool.not_true, Bool.not_false, Bool.true_beq, Bool.false_beq, h4, h6, G.box.load, storeL G.res.get]
      rfl
    obtain ⟨f1, f2⟩ := G.fin hL hN1 hR ⟨1, 54, 0, [.slice (some ⟨lb, 0, none⟩) i i], []⟩
    have BF : BoxAt (σ3.put bo ⟨1, 54, 0, [.slice (some ⟨lb, 0, none⟩) i i], []⟩) bo (.slice (some ⟨lb, 0, none⟩) i i) := ⟨G.res.lt, by rw [AS.get_put, if_pos rfl]⟩
    generalize σ3.put bo ⟨1, 54, 0, [.slice (some ⟨lb, 0, none⟩) i i], []⟩ = σF at f1 f2 BF
    refine W_ret ⟨Nat.le_refl _, [.agg #[.slice (some ⟨lb, 0, none⟩) i i]], ?_, _, L, rfl, f1, G.small hL hN1 hN10, f2⟩
    simp +decide only [aResults, rget_rput, if_true, if_false, h4, BF.load]
  have d1 : decide ((i : Int) < (N : Int)) = true := decide_eq_true (by omega)
  repeat apply W_assoc
  apply W_reg
  · intro callf
    simp +decide only [aOps, rinit, aWanted, ↓bite_eq, ↓reduceIte, aStep_eq, aStepOld, aOp, opBox, opBin, opUn, opCall, opIndexAddr, opFieldAddr, opLoad, opStore, opPick, opExtract, opSlice, opBuildSlice, opBuild, aRow, aev, aevs, aparts, ann, unn, aPut, if_true, if_false, rget_rput, flat, flat1, Nat.blt_eq, aBuiltin, aLen, List.getElem?_toArray, List.getElem?_cons_zero, List.getElem?_cons_succ, Nat.zero_add, Option.bind_some, beq_self_eq_true, Bool.not_true, Bool.not_false, Bool.true_beq, Bool.false_beq, h5, h7, d1, aBin, aInts, aInt_eq]
    rfl
  repeat apply W_assoc
  refine W_if (b := true) ?_ ?_ ?_
  · simp +decide only [aevs, aev, aResults, rget_rput, if_true, if_false]
  rotate_left
  · intro h; cases h
  intro _
  apply W_skipq
  refine W_blk ?_
  repeat apply W_assoc
  apply W_regL
  apply Ls_pre 1
  · intro callf
    simp +decide only [List.take, aOps, rinit, aWanted, ↓bite_eq, ↓reduceIte, aStep_eq, aStepOld, aOp, opBox, opBin, opUn, opCall, opIndexAddr, opFieldAddr, opLoad, opStore, opPick, opExtract, opSlice, opBuildSlice, opBuild, aRow, aev, aevs, aparts, ann, unn, aPut, if_true, if_false, rget_rput, flat, flat1, Nat.blt_eq, aBuiltin, aLen, List.getElem?_toArray, List.getElem?_cons_zero, List.getElem?_cons_succ, Nat.zero_add, Option.bind_some, beq_self_eq_true, Bool.not_true, Bool.not_false, Bool.true_beq, Bool.false_beq, h0]
    rfl
  dsimp only [List.drop]
  refine Ls_fn (vs := [.pointer (some ⟨tb, 0, none⟩), .int .i64 4]) (by simp +decide only [aevs, aev, aResults, rget_rput, if_true, if_false, h0]) (by decide) (C.mono (next_c G.tape (n := 4) (by omega) (by omega)) ?_)
  rintro v σ' ⟨⟨m4, rfl, hm0, hm1⟩, TP, E4⟩
  obtain ⟨M, rfl⟩ : ∃ M : Nat, m4 = (M : Int) := ⟨m4.toNat, by omega⟩
  have G := G.tapeX E4 TP
  apply Ls_all
  · intro callf
    simp +decide only [aOps, rinit, aWanted, ↓bite_eq, ↓reduceIte, aStep_eq, aStepOld, aOp, opBox, opBin, opUn, opCall, opIndexAddr, opFieldAddr, opLoad, opStore, opPick, opExtract, opSlice, opBuildSlice, opBuild, aRow, aev, aevs, aparts, ann, unn, aPut, if_true, if_false, rget_rput, flat, flat1, Nat.blt_eq, aBuiltin, aLen, List.getElem?_toArray, List.getElem?_cons_zero, List.getElem?_cons_succ, Nat.zero_add, Option.bind_some, beq_self_eq_true, Bool.not_true, Bool.not_false, Bool.true_beq, Bool.false_beq]
    rfl
  clear TP E4
  generalize σ' = σ3 at G
  repeat apply W_assoc
  refine W_tail ?_
  repeat apply W_assoc
  refine W_for (fun (x : Nat × List Value × Value × List Arc) r s => x.1 + x.2.2.2.length ≤ 3 ∧ x.2.1 = rows ++ x.2.2.1 :: List.replicate (N - i - 1) (.slice none 0 0) ∧ Gen σ tb lb b6 bo N lr lv ints s x.2.1 rows L x.2.2.1 x.2.2.2 ∧
      rget r 0 = .pointer (some ⟨tb, 0, none⟩) ∧ rget r 4 = .pointer (some ⟨bo, 0, none⟩) ∧ rget r 5 = .int .i64 (N : Int) ∧ rget r 6 = .pointer (some ⟨b6, 0, none⟩) ∧ rget r 7 = .int .i64 (i : Int) ∧ rget r 8 = .int .i64 (x.1 : Int))
    (fun x => x.1) ?_ (M, R, .slice none 0 0, []) ?_
  rotate_left
  · refine ⟨by show M + 0 ≤ 3; omega, ?_, G, ?_, ?_, ?_, ?_, ?_, ?_⟩
    · show R = rows ++ .slice none 0 0 :: List.replicate (N - i - 1) (.slice none 0 0)
      rw [hR, ← List.replicate_succ, show N - i - 1 + 1 = N - i by omega]
    all_goals simp +decide only [rget_rput, rinit, if_true, if_false, goInt, h0, h4, h5, h6, h7]
  clear G h0 h4 h5 h6 h7 hm0 hm1 hR
  rintro ⟨c, R, v, l⟩ r σ3 ⟨hc, hR, G, h0, h4, h5, h6, h7, h8⟩
  dsimp only at hc hR G h8
  have hrl : rows.length = i := by rw [G.done.len, hL]
  by_cases hc0 : 0 < c
  rotate_left
  · have d2 : decide ((c : Int) > 0) = false := decide_eq_false (by omega)
    repeat apply W_assoc
    apply W_reg
    · intro callf
      simp +decide only [aOps, rinit, aWanted, ↓bite_eq, ↓reduceIte, aStep_eq, aStepOld, aOp, opBox, opBin, opUn, opCall, opIndexAddr, opFieldAddr, opLoad, opStore, opPick, opExtract, opSlice, opBuildSlice, opBuild, aRow, aev, aevs, aparts, ann, unn, aPut, if_true, if_false, rget_rput, flat, flat1, Nat.blt_eq, aBuiltin, aLen, List.getElem?_toArray, List.getElem?_cons_zero, List.getElem?_cons_succ, Nat.zero_add, Option.bind_some, beq_self_eq_true, Bool.not_true, Bool.not_false, Bool.true_beq, Bool.false_beq, h8, d2, aBin, aInts, aInt_eq]
      rfl
    repeat apply W_assoc
    refine W_if (b := false) ?_ ?_ ?_
    · simp +decide only [aevs, aev, aResults, rget_rput, if_true, if_false]
    · intro h; cases h
    intro _
    refine W_exitq ⟨fun h => (nomatch h), fun _ => ?_, fun h1 h2 => absurd rfl h2⟩
    refine W_skip ⟨fun _ => ?_, fun h => absurd rfl h⟩
    refine W_tail ?_
    have w6 : IntKind.i64.wrap ((i : Int) + 1) = ((i + 1 : Nat) : Int) := by rw [wrap64_id _ (by omega) (by omega)]; omega
    repeat apply W_assoc
    apply W_reg
    · intro callf
      simp +decide only [aOps, rinit, aWanted, ↓bite_eq, ↓reduceIte, aStep_eq, aStepOld, aOp, opBox, opBin, opUn, opCall, opIndexAddr, opFieldAddr, opLoad, opStore, opPick, opExtract, opSlice, opBuildSlice, opBuild, aRow, aev, aevs, aparts, ann, unn, aPut, if_true, if_false, rget_rput, flat, flat1, Nat.blt_eq, aBuiltin, aLen, List.getElem?_toArray, List.getElem?_cons_zero, List.getElem?_cons_succ, Nat.zero_add, Option.bind_some, beq_self_eq_true, Bool.not_true, Bool.not_false, Bool.true_beq, Bool.false_beq, h7, w6, aBin, aInts, aInt_eq]
      rfl
    refine W_skip ⟨fun _ => ⟨(i + 1, σ3.next, R, rows ++ [v], L ++ [l]), ?_, ?_⟩, fun h => (nomatch h), fun h => absurd rfl h⟩
    · show N - (i + 1) < N - i
      omega
    · refine ⟨by show i + 1 ≤ _; omega, by show (L ++ [l]).length = i + 1; rw [List.length_append, hL]; rfl, ?_, G.next (by omega), ?_, ?_, ?_, ?_, ?_⟩
      · show R = rows ++ [v] ++ List.replicate (N - (i + 1)) (.slice none 0 0)
        rw [hR, List.append_assoc, show N - (i + 1) = N - i - 1 by omega]
        rfl
      all_goals simp +decide only [rget_rput, if_true, if_false, h0, h4, h5, h6]
  have d2 : decide ((c : Int) > 0) = true := decide_eq_true (by omega)
  repeat apply W_assoc
  apply W_reg
  · intro callf
    simp +decide only [aOps, rinit, aWanted, ↓bite_eq, ↓reduceIte, aStep_eq, aStepOld, aOp, opBox, opBin, opUn, opCall, opIndexAddr, opFieldAddr, opLoad, opStore, opPick, opExtract, opSlice, opBuildSlice, opBuild, aRow, aev, aevs, aparts, ann, unn, aPut, if_true, if_false, rget_rput, flat, flat1, Nat.blt_eq, aBuiltin, aLen, List.getElem?_toArray, List.getElem?_cons_zero, List.getElem?_cons_succ, Nat.zero_add, Option.bind_some, beq_self_eq_true, Bool.not_true, Bool.not_false, Bool.true_beq, Bool.false_beq, h8, d2, aBin, aInts, aInt_eq]
    rfl
  repeat apply W_assoc
  refine W_if (b := true) ?_ ?_ ?_
  · simp +decide only [aevs, aev, aResults, rget_rput, if_true, if_false]
  rotate_left
  · intro h; cases h
  intro _
  apply W_skipq
  refine W_blk ?_
  refine W_tail ?_
  have hRi : R[i]? = some v := by rw [hR, List.getElem?_append_right (by omega), hrl, Nat.sub_self]; rfl
  have hRl : i < R.length := (List.getElem?_eq_some_iff.1 hRi).1
  repeat apply W_assoc
  refine W_drw [1, 4, 7] [b6, lb] (by kernel_rfl) (by kernel_rfl) ?_
  apply Lg_pre 1
  · intro callf
    simp +decide only [List.take, aQ, memb, List.any_nil, List.any_cons, Bool.true_or, Bool.or_false, Bool.and_true, Bool.or_true, Bool.false_or, Bool.true_and, reset_merge, reset_reset, reset_next, reset_low, merge_next, merge_idem, new_low, ble_self, aOps, rinit, aWanted, ↓bite_eq, ↓reduceIte, aStep_eq, aStepOld, aOp, opBox, opBin, opUn, opCall, opIndexAddr, opFieldAddr, opLoad, opStore, opPick, opExtract, opSlice, opBuildSlice, opBuild, aRow, aev, aevs, aparts, ann, unn, aPut, if_true, if_false, rget_rput, flat, flat1, Nat.blt_eq, aBuiltin, aLen, List.getElem?_toArray, List.getElem?_cons_zero, List.getElem?_cons_succ, Nat.zero_add, Option.bind_some, beq_self_eq_true, Bool.not_true, Bool.not_false, Bool.true_beq, Bool.false_beq, h6, fldL]
    rfl
  dsimp only [List.drop, List.take, List.length]
  have e0 : Ext σ3 (σ3.merge σ3.reset) := (Ext.refl _).merge (σ := σ3)
  have G := G.to e0
  clear e0
  generalize σ3.merge σ3.reset = σ4 at G
  refine Lg_load (b := b6) (off := 0) (v := .slice (some ⟨lb, 0, none⟩) N N) (by simp +decide only [aevs, aev, aResults, rget_rput, if_true, if_false]) (G.to (Ext.reset σ4)).box.out (sv_slice (Nat.lt_of_lt_of_le G.lbl.2 G.lrn)) G.box.lt (by simp [memb]) (by decide) ?_
  have e0 : Ext σ4 (σ4.merge σ4.reset) := (Ext.refl _).merge (σ := σ4)
  have G := G.to e0
  clear e0
  generalize σ4.merge σ4.reset = σ5 at G
  apply Lg_pre 2
  · intro callf
    simp +decide only [List.take, aQ, memb, List.any_nil, List.any_cons, Bool.true_or, Bool.or_false, Bool.and_true, Bool.or_true, Bool.false_or, Bool.true_and, reset_merge, reset_reset, reset_next, reset_low, merge_next, merge_idem, new_low, ble_self, aOps, rinit, aWanted, ↓bite_eq, ↓reduceIte, aStep_eq, aStepOld, aOp, opBox, opBin, opUn, opCall, opIndexAddr, opFieldAddr, opLoad, opStore, opPick, opExtract, opSlice, opBuildSlice, opBuild, aRow, aev, aevs, aparts, ann, unn, aPut, if_true, if_false, rget_rput, flat, flat1, Nat.blt_eq, aBuiltin, aLen, List.getElem?_toArray, List.getElem?_cons_zero, List.getElem?_cons_succ, Nat.zero_add, Option.bind_some, beq_self_eq_true, Bool.not_true, Bool.not_false, Bool.true_beq, Bool.false_beq, h6, h7, fldL]
    rfl
  dsimp only [List.drop, List.take, List.length]
  have e0 : Ext σ5 (σ5.merge σ5.reset) := (Ext.refl _).merge (σ := σ5)
  have G := G.to e0
  clear e0
  generalize σ5.merge σ5.reset = σ6 at G
  refine Lg_load (b := b6) (off := 0) (v := .slice (some ⟨lb, 0, none⟩) N N) (by simp +decide only [aevs, aev, aResults, rget_rput, if_true, if_false]) (G.to (Ext.reset σ6)).box.out (sv_slice (Nat.lt_of_lt_of_le G.lbl.2 G.lrn)) G.box.lt (by simp [memb]) (by decide) ?_
  have e0 : Ext σ6 (σ6.merge σ6.reset) := (Ext.refl _).merge (σ := σ6)
  have G := G.to e0
  clear e0
  generalize σ6.merge σ6.reset = σ7 at G
  apply Lg_pre 2
  · intro callf
    simp +decide only [List.take, aQ, memb, List.any_nil, List.any_cons, Bool.true_or, Bool.or_false, Bool.and_true, Bool.or_true, Bool.false_or, Bool.true_and, reset_merge, reset_reset, reset_next, reset_low, merge_next, merge_idem, new_low, ble_self, aOps, rinit, aWanted, ↓bite_eq, ↓reduceIte, aStep_eq, aStepOld, aOp, opBox, opBin, opUn, opCall, opIndexAddr, opFieldAddr, opLoad, opStore, opPick, opExtract, opSlice, opBuildSlice, opBuild, aRow, aev, aevs, aparts, ann, unn, aPut, if_true, if_false, rget_rput, flat, flat1, Nat.blt_eq, aBuiltin, aLen, List.getElem?_toArray, List.getElem?_cons_zero, List.getElem?_cons_succ, Nat.zero_add, Option.bind_some, beq_self_eq_true, Bool.not_true, Bool.not_false, Bool.true_beq, Bool.false_beq, h7, idxR0 hlt]
    rfl
  dsimp only [List.drop, List.take, List.length]
  have e0 : Ext σ7 (σ7.merge σ7.reset) := (Ext.refl _).merge (σ := σ7)
  have G := G.to e0
  clear e0
  generalize σ7.merge σ7.reset = σ8 at G
  refine Lg_load (b := lb) (off := i) (v := v) (by simp +decide only [aevs, aev, aResults, rget_rput, if_true, if_false]) (rowAt (G.to (Ext.reset σ8)).lbg hRi) G.row.row.sv (Nat.lt_of_lt_of_le G.lbl.2 G.lrn) (by simp [memb]) (by decide) ?_
  have e0 : Ext σ8 (σ8.merge σ8.reset) := (Ext.refl _).merge (σ := σ8)
  have G := G.to e0
  clear e0
  generalize σ8.merge σ8.reset = σ9 at G
  apply Lg_pre 1
  · intro callf
    simp +decide only [List.take, aQ, memb, List.any_nil, List.any_cons, Bool.true_or, Bool.or_false, Bool.and_true, Bool.or_true, Bool.false_or, Bool.true_and, reset_merge, reset_reset, reset_next, reset_low, merge_next, merge_idem, new_low, ble_self, aOps, rinit, aWanted, ↓bite_eq, ↓reduceIte, aStep_eq, aStepOld, aOp, opBox, opBin, opUn, opCall, opIndexAddr, opFieldAddr, opLoad, opStore, opPick, opExtract, opSlice, opBuildSlice, opBuild, aRow, aev, aevs, aparts, ann, unn, aPut, if_true, if_false, rget_rput, flat, flat1, Nat.blt_eq, aBuiltin, aLen, List.getElem?_toArray, List.getElem?_cons_zero, List.getElem?_cons_succ, Nat.zero_add, Option.bind_some, beq_self_eq_true, Bool.not_true, Bool.not_false, Bool.true_beq, Bool.false_beq, h0]
    rfl
  dsimp only [List.drop, List.take, List.length]
  have e0 : Ext σ9 (σ9.merge σ9.reset) := (Ext.refl _).merge (σ := σ9)
  have G := G.to e0
  clear e0
  generalize σ9.merge σ9.reset = σ10 at G
  refine Lg_bar (vs := [.pointer (some ⟨tb, 0, none⟩), .int .i64 6]) (by simp +decide only [aevs, aev, aResults, rget_rput, if_true, if_false, h0]) (by decide) (by kernel_rfl) (by kernel_rfl) (C.mono (next_c (G.to (Ext.reset σ10)).tape (n := 6) (by omega) (by omega)) ?_)
  rintro v2 s1 ⟨⟨m6, rfl, hm60, hm61⟩, T1, E1⟩
  refine ⟨fun x hx hlt => E1.get x hlt (by have h1 := G.lbl; have h2 := G.boxl; have h3 := G.tape0.lt; simp at hx ⊢; rcases hx with rfl | rfl <;> omega), ?_⟩
  have G := G.tapeM E1.merge T1
  clear T1 E1
  generalize σ10.merge s1 = σ11 at G
  obtain ⟨ev, rfl⟩ : ∃ ev : Nat, m6 = (ev : Int) := ⟨m6.toNat, by omega⟩
  apply Lg_pre 2
  · intro callf
    simp +decide only [List.take, aQ, memb, List.any_nil, List.any_cons, Bool.true_or, Bool.or_false, Bool.and_true, Bool.or_true, Bool.false_or, Bool.true_and, reset_merge, reset_reset, reset_next, reset_low, merge_next, merge_idem, new_low, ble_self, aOps, rinit, aWanted, ↓bite_eq, ↓reduceIte, aStep_eq, aStepOld, aOp, opBox, opBin, opUn, opCall, opIndexAddr, opFieldAddr, opLoad, opStore, opPick, opExtract, opSlice, opBuildSlice, opBuild, aRow, aev, aevs, aparts, ann, unn, aPut, if_true, if_false, rget_rput, flat, flat1, Nat.blt_eq, aBuiltin, aLen, List.getElem?_toArray, List.getElem?_cons_zero, List.getElem?_cons_succ, Nat.zero_add, Option.bind_some, beq_self_eq_true, Bool.not_true, Bool.not_false, Bool.true_beq, Bool.false_beq, h0, h5]
    rfl
  dsimp only [List.drop, List.take, List.length]
  have e0 : Ext σ11 (σ11.merge σ11.reset) := (Ext.refl _).merge (σ := σ11)
  have G := G.to e0
  clear e0
  generalize σ11.merge σ11.reset = σ12 at G
  refine Lg_bar (vs := [.pointer (some ⟨tb, 0, none⟩), .int .i64 (N : Int)]) (by simp +decide only [aevs, aev, aResults, rget_rput, if_true, if_false, h0]) (by decide) (by kernel_rfl) (by kernel_rfl) (C.mono (next_c (G.to (Ext.reset σ12)).tape (n := (N : Int)) (by omega) (by omega)) ?_)
  rintro v2 s1 ⟨⟨mt, rfl, hmt0, hmt1⟩, T1, E1⟩
  refine ⟨fun x hx hlt => E1.get x hlt (by have h1 := G.lbl; have h2 := G.boxl; have h3 := G.tape0.lt; simp at hx ⊢; rcases hx with rfl | rfl <;> omega), ?_⟩
  have G := G.tapeM E1.merge T1
  clear T1 E1
  generalize σ12.merge s1 = σ13 at G
  obtain ⟨to, rfl⟩ : ∃ to : Nat, mt = (to : Int) := ⟨mt.toNat, by omega⟩
  apply Lg_pre 1
  · intro callf
    simp +decide only [List.take, aQ, memb, List.any_nil, List.any_cons, Bool.true_or, Bool.or_false, Bool.and_true, Bool.or_true, Bool.false_or, Bool.true_and, reset_merge, reset_reset, reset_next, reset_low, merge_next, merge_idem, new_low, ble_self, aOps, rinit, aWanted, ↓bite_eq, ↓reduceIte, aStep_eq, aStepOld, aOp, opBox, opBin, opUn, opCall, opIndexAddr, opFieldAddr, opLoad, opStore, opPick, opExtract, opSlice, opBuildSlice, opBuild, aRow, aev, aevs, aparts, ann, unn, aPut, if_true, if_false, rget_rput, flat, flat1, Nat.blt_eq, aBuiltin, aLen, List.getElem?_toArray, List.getElem?_cons_zero, List.getElem?_cons_succ, Nat.zero_add, Option.bind_some, beq_self_eq_true, Bool.not_true, Bool.not_false, Bool.true_beq, Bool.false_beq, buildA]
    rfl
  dsimp only [List.drop, List.take, List.length]
  have e0 : Ext σ13 (σ13.merge σ13.reset) := (Ext.refl _).merge (σ := σ13)
  have G := G.to e0
  clear e0
  generalize σ13.merge σ13.reset = σ14 at G
  refine Lg_qopX (v := .slice (some ⟨σ14.next, 0, none⟩) 1 1) (s1 := σ14.reset.new ⟨1, 62, 0, [.int .i64 (ev : Int), .int .i64 (to : Int)], []⟩) (by intro callf; simp +decide only [aOps, rinit, aWanted, ↓bite_eq, ↓reduceIte, aStep_eq, aStepOld, aOp, opBox, opBin, opUn, opCall, opIndexAddr, opFieldAddr, opLoad, opStore, opPick, opExtract, opSlice, opBuildSlice, opBuild, aRow, aev, aevs, aparts, ann, unn, aPut, if_true, if_false, rget_rput, flat, flat1, Nat.blt_eq, aBuiltin, aLen, List.getElem?_toArray, List.getElem?_cons_zero, List.getElem?_cons_succ, Nat.zero_add, Option.bind_some, beq_self_eq_true, Bool.not_true, Bool.not_false, Bool.true_beq, Bool.false_beq, sliceA1]; rfl) (by decide) (by kernel_rfl) (Nat.le_refl _) ?_
  have G := G.to (Ext.merge (Ext.new σ14.reset ⟨1, 62, 0, [.int .i64 (ev : Int), .int .i64 (to : Int)], []⟩))
  have hbb : (σ14.merge (σ14.reset.new ⟨1, 62, 0, [.int .i64 (ev : Int), .int .i64 (to : Int)], []⟩)).reset.get σ14.next = ⟨1, 62, 0, [.int .i64 (ev : Int), .int .i64 (to : Int)], []⟩ := by
    show (σ14.reset.new ⟨1, 62, 0, [.int .i64 (ev : Int), .int .i64 (to : Int)], []⟩).get σ14.next = _
    rw [AS.get_new]; exact if_pos rfl
  generalize σ14.merge (σ14.reset.new ⟨1, 62, 0, [.int .i64 (ev : Int), .int .i64 (to : Int)], []⟩) = σ15 at G hbb
  obtain ⟨v', s, g1, g2, g3, g4⟩ := (G.to (Ext.reset σ15)).row.al.push (x := (ev, to)) G.lrn hbb (by omega)
  have hvo : ∀ i, Own v' i → lr ≤ i := fun i hi => by
    rcases g4 i hi with h1 | h1
    · exact (G.row.own h1).1
    · exact Nat.le_trans G.lrn h1
  refine Lg_opX (v := v') (s1 := s) (by intro callf; simp +decide only [aOps, rinit, aWanted, ↓bite_eq, ↓reduceIte, aStep_eq, aStepOld, aOp, opBox, opBin, opUn, opCall, opIndexAddr, opFieldAddr, opLoad, opStore, opPick, opExtract, opSlice, opBuildSlice, opBuild, aRow, aev, aevs, aparts, ann, unn, aPut, if_true, if_false, rget_rput, flat, flat1, Nat.blt_eq, aBuiltin, aLen, List.getElem?_toArray, List.getElem?_cons_zero, List.getElem?_cons_succ, Nat.zero_add, Option.bind_some, beq_self_eq_true, Bool.not_true, Bool.not_false, Bool.true_beq, Bool.false_beq, g1]) (by decide) (by kernel_rfl) (by kernel_rfl) (fun x hx hlt => g3.get x hlt fun he => by
    have h1 := (G.row.own he).1
    have h2 := G.lbl
    have h3 := G.boxl
    simp at hx
    rcases hx with rfl | rfl <;> omega) ?_
  have G := G.grow (g3.merge G.lrn) (g2.keep (σ' := σ15.merge s) (Nat.le_refl _) fun _ _ _ => rfl) (show ev ≤ 5 ∧ to < N by omega)
  clear g1 g2 g3 g4 hbb
  generalize σ15.merge s = σ16 at G
  apply Lg_pre 1
  · intro callf
    simp +decide only [List.take, aQ, memb, List.any_nil, List.any_cons, Bool.true_or, Bool.or_false, Bool.and_true, Bool.or_true, Bool.false_or, Bool.true_and, reset_merge, reset_reset, reset_next, reset_low, merge_next, merge_idem, new_low, ble_self, aOps, rinit, aWanted, ↓bite_eq, ↓reduceIte, aStep_eq, aStepOld, aOp, opBox, opBin, opUn, opCall, opIndexAddr, opFieldAddr, opLoad, opStore, opPick, opExtract, opSlice, opBuildSlice, opBuild, aRow, aev, aevs, aparts, ann, unn, aPut, if_true, if_false, rget_rput, flat, flat1, Nat.blt_eq, aBuiltin, aLen, List.getElem?_toArray, List.getElem?_cons_zero, List.getElem?_cons_succ, Nat.zero_add, Option.bind_some, beq_self_eq_true, Bool.not_true, Bool.not_false, Bool.true_beq, Bool.false_beq, idxR0 hlt]
    rfl
  dsimp only [List.drop, List.take, List.length]
  have e0 : Ext σ16 (σ16.merge σ16.reset) := (Ext.refl _).merge (σ := σ16)
  have G := G.to e0
  clear e0
  generalize σ16.merge σ16.reset = σ17 at G
  obtain ⟨vb, vc, hv'⟩ := G.row.row.len
  refine Lg_store (b := lb) (off := i) (v := v') (by simp +decide only [aevs, aev, aResults, rget_rput, if_true, if_false]) (by simp +decide only [aevs, aev, aResults, rget_rput, if_true, if_false]) (storeR hv' (G.to (Ext.reset σ17)).lbg hRl) (fun y hy => by rw [AS.get_put, if_neg (fun e => hy e.symm)]; rfl) (by kernel_rfl) (by kernel_rfl) (by kernel_rfl) ?_
  have G := G.merge ((G.to (Ext.reset σ17)).put (R' := R.set i v'))
  generalize σ17.merge (σ17.reset.put lb ⟨1, 60, 0, R.set i v', []⟩) = σ18 at G
  show W _ _ _ 45 _ _ _ _
  refine W_skip ⟨fun _ => ?_, fun h => absurd rfl h⟩
  refine W_tail ?_
  have w1 : IntKind.i64.wrap ((c : Int) - 1) = ((c - 1 : Nat) : Int) := by rw [wrap64_id _ (by omega) (by omega)]; omega
  repeat apply W_assoc
  apply W_reg
  · intro callf
    simp +decide only [aOps, rinit, aWanted, ↓bite_eq, ↓reduceIte, aStep_eq, aStepOld, aOp, opBox, opBin, opUn, opCall, opIndexAddr, opFieldAddr, opLoad, opStore, opPick, opExtract, opSlice, opBuildSlice, opBuild, aRow, aev, aevs, aparts, ann, unn, aPut, if_true, if_false, rget_rput, flat, flat1, Nat.blt_eq, aBuiltin, aLen, List.getElem?_toArray, List.getElem?_cons_zero, List.getElem?_cons_succ, Nat.zero_add, Option.bind_some, beq_self_eq_true, Bool.not_true, Bool.not_false, Bool.true_beq, Bool.false_beq, h8, w1, aBin, aInts, aInt_eq]
    rfl
  refine W_skip ⟨fun _ => ⟨(c - 1, R.set i v', v', l ++ [(ev, to)]), ?_, ?_⟩, fun h => (nomatch h), fun h => absurd rfl h⟩
  · show c - 1 < c
    omega
  · refine ⟨by show c - 1 + (l ++ [(ev, to)]).length ≤ 3; rw [List.length_append]; simp; omega, ?_, G, ?_, ?_, ?_, ?_, ?_, ?_⟩
    · show R.set i v' = rows ++ v' :: List.replicate (N - i - 1) (.slice none 0 0)
      rw [hR, List.set_append_right _ _ (by omega), hrl, Nat.sub_self]
      rfl
    all_goals simp +decide only [rget_rput, if_true, if_false, h0, h4, h5, h6, h7]

end Go.Proofs.YtacpdefmnijhnaaGreat.U
