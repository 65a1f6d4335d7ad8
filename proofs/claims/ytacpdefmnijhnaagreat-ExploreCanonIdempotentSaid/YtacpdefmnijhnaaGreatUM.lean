/- Systems are compared; a system is canonical; choices. -/
import Derived.Test.YtacpdefmnijhnaaGreatUL
set_option linter.unusedSimpArgs false
set_option linter.unusedVariables false
namespace Go.Proofs.YtacpdefmnijhnaaGreat.U
open Abs

theorem maxI {P : Program} {a b : Int} : aMinMax Builtin.max2 P [.int .i64 a, .int .i64 b] = some (.int .i64 (if b > a then b else a)) := by
  unfold aMinMax
  rfl

set_option maxHeartbeats 8000000 in
theorem equal_c {σ : AS} {v w : Value} {l : List Arc} (h1 : RowV σ v l) (h2 : RowV σ w l) (hn : l.length ≤ 1000) : C Tryz.prog KA 0 41 [v, w] σ fun u σ' => u = .bool true ∧ Ext σ σ' := by
  obtain ⟨vb, vc, hv⟩ := h1.len
  obtain ⟨wb, wc, hw⟩ := h2.len
  subst hv
  subst hw
  have d0 : ((l.length : Int) != (l.length : Int)) = false := by simp
  refine C_of (ka rfl rfl) Tryz.func41 rfl (Nat.le_of_ble_eq_true rfl) ?_
  show W _ _ _ 26 _ _ _ _
  unfold Tryz.f41
  dsimp only
  repeat apply W_assoc
  apply W_reg
  · intro callf
    simp +decide only [aOps, rinit, aWanted, ↓bite_eq, ↓reduceIte, aStep_eq, aStepOld, aOp, opBox, opBin, opUn, opCall, opIndexAddr, opFieldAddr, opLoad, opStore, opPick, opExtract, opSlice, opBuildSlice, opBuild, aRow, aev, aevs, aparts, ann, unn, aPut, if_true, if_false, rget_rput, flat, flat1, Nat.blt_eq, aBuiltin, aLen, List.getElem?_toArray, List.getElem?_cons_zero, List.getElem?_cons_succ, Nat.zero_add, Option.bind_some, beq_self_eq_true, Bool.not_true, Bool.not_false, Bool.true_beq, Bool.false_beq]
    rfl
  repeat apply W_assoc
  apply W_reg
  · intro callf
    simp +decide only [aOps, rinit, aWanted, ↓bite_eq, ↓reduceIte, aStep_eq, aStepOld, aOp, opBox, opBin, opUn, opCall, opIndexAddr, opFieldAddr, opLoad, opStore, opPick, opExtract, opSlice, opBuildSlice, opBuild, aRow, aev, aevs, aparts, ann, unn, aPut, if_true, if_false, rget_rput, flat, flat1, Nat.blt_eq, aBuiltin, aLen, List.getElem?_toArray, List.getElem?_cons_zero, List.getElem?_cons_succ, Nat.zero_add, Option.bind_some, beq_self_eq_true, Bool.not_true, Bool.not_false, Bool.true_beq, Bool.false_beq, Tryz.underlying60, goInt, d0, neII]
    rfl
  repeat apply W_assoc
  refine W_if (b := false) ?_ ?_ ?_
  · simp +decide only [aevs, aev, aResults, rget_rput, if_true, if_false]
  · intro h; cases h
  intro _
  apply W_skipq
  repeat apply W_assoc
  apply W_reg
  · intro callf
    simp +decide only [aOps, rinit, aWanted, ↓bite_eq, ↓reduceIte, aStep_eq, aStepOld, aOp, opBox, opBin, opUn, opCall, opIndexAddr, opFieldAddr, opLoad, opStore, opPick, opExtract, opSlice, opBuildSlice, opBuild, aRow, aev, aevs, aparts, ann, unn, aPut, if_true, if_false, rget_rput, flat, flat1, Nat.blt_eq, aBuiltin, aLen, List.getElem?_toArray, List.getElem?_cons_zero, List.getElem?_cons_succ, Nat.zero_add, Option.bind_some, beq_self_eq_true, Bool.not_true, Bool.not_false, Bool.true_beq, Bool.false_beq]
    rfl
  repeat apply W_assoc
  refine W_for (fun (j : Nat) r s => j ≤ l.length ∧ Ext σ s ∧ rget r 0 = .slice vb l.length vc ∧ rget r 1 = .slice wb l.length wc ∧ rget r 5 = .int .i64 (j : Int)) (fun j => l.length - j) ?_ 0 ?_
  rotate_left
  · refine ⟨Nat.zero_le _, Ext.refl _, ?_, ?_, ?_⟩ <;> simp +decide only [rget_rput, rinit, if_true, if_false, goInt] <;> first | exact True.intro | rfl
  rintro j r s ⟨hj, E1, h0, h1', h5⟩
  try dsimp only at hj h5
  by_cases hjl : j < l.length
  rotate_left
  · have d2 : decide ((j : Int) < (l.length : Int)) = false := decide_eq_false (by omega)
    repeat apply W_assoc
    apply W_reg
    · intro callf
      simp +decide only [aOps, rinit, aWanted, ↓bite_eq, ↓reduceIte, aStep_eq, aStepOld, aOp, opBox, opBin, opUn, opCall, opIndexAddr, opFieldAddr, opLoad, opStore, opPick, opExtract, opSlice, opBuildSlice, opBuild, aRow, aev, aevs, aparts, ann, unn, aPut, if_true, if_false, rget_rput, flat, flat1, Nat.blt_eq, aBuiltin, aLen, List.getElem?_toArray, List.getElem?_cons_zero, List.getElem?_cons_succ, Nat.zero_add, Option.bind_some, beq_self_eq_true, Bool.not_true, Bool.not_false, Bool.true_beq, Bool.false_beq, h0, h5, d2, Tryz.underlying60, goInt, aBin, aInts, aInt_eq]
      rfl
    repeat apply W_assoc
    refine W_if (b := false) ?_ ?_ ?_
    · simp +decide only [aevs, aev, aResults, rget_rput, if_true, if_false]
    · intro h; cases h
    intro _
    refine W_exitq ⟨fun h => (nomatch h), fun _ => ?_, fun h1 h2 => absurd rfl h2⟩
    repeat apply W_assoc
    apply W_reg
    · intro callf
      simp +decide only [aOps, rinit, aWanted, ↓bite_eq, ↓reduceIte, aStep_eq, aStepOld, aOp, opBox, opBin, opUn, opCall, opIndexAddr, opFieldAddr, opLoad, opStore, opPick, opExtract, opSlice, opBuildSlice, opBuild, aRow, aev, aevs, aparts, ann, unn, aPut, if_true, if_false, rget_rput, flat, flat1, Nat.blt_eq, aBuiltin, aLen, List.getElem?_toArray, List.getElem?_cons_zero, List.getElem?_cons_succ, Nat.zero_add, Option.bind_some, beq_self_eq_true, Bool.not_true, Bool.not_false, Bool.true_beq, Bool.false_beq]
      rfl
    refine W_ret ⟨Nat.le_refl _, [.bool true], ?_, rfl, E1⟩
    simp +decide only [aevs, aev, aResults, rget_rput, if_true, if_false]
  have d2 : decide ((j : Int) < (l.length : Int)) = true := decide_eq_true (by omega)
  repeat apply W_assoc
  apply W_reg
  · intro callf
    simp +decide only [aOps, rinit, aWanted, ↓bite_eq, ↓reduceIte, aStep_eq, aStepOld, aOp, opBox, opBin, opUn, opCall, opIndexAddr, opFieldAddr, opLoad, opStore, opPick, opExtract, opSlice, opBuildSlice, opBuild, aRow, aev, aevs, aparts, ann, unn, aPut, if_true, if_false, rget_rput, flat, flat1, Nat.blt_eq, aBuiltin, aLen, List.getElem?_toArray, List.getElem?_cons_zero, List.getElem?_cons_succ, Nat.zero_add, Option.bind_some, beq_self_eq_true, Bool.not_true, Bool.not_false, Bool.true_beq, Bool.false_beq, h0, h5, d2, Tryz.underlying60, goInt, aBin, aInts, aInt_eq]
    rfl
  repeat apply W_assoc
  refine W_if (b := true) ?_ ?_ ?_
  · simp +decide only [aevs, aev, aResults, rget_rput, if_true, if_false]
  rotate_left
  · intro h; cases h
  intro _
  apply W_skipq
  refine W_blk ?_
  obtain ⟨x, hx⟩ : ∃ x, l[j]? = some x := ⟨l[j], by simp [hjl]⟩
  obtain ⟨b1, o1, c1, e1, hb1, i1, l1, -⟩ := h1.at hx
  obtain ⟨b2, o2, c2, e2, hb2, i2, l2, -⟩ := h2.at hx
  have l1 := l1 s.reset (E1.get b1 hb1)
  have l2 := l2 s.reset (E1.get b2 hb2)
  have ex : ∀ xo yo, aBin Tryz.prog .neq 62 xo yo (vArc x) (vArc x) = some (.bool false) := fun xo yo => (eqA xo yo x x).2.trans (by simp)
  refine W_tail ?_
  repeat apply W_assoc
  refine W_drw [] [] (by kernel_rfl) (by kernel_rfl) ?_
  apply Lg_all
  · intro callf
    simp +decide only [aQ, memb, List.any_nil, List.any_cons, Bool.true_or, Bool.or_false, Bool.and_true, Bool.or_true, Bool.false_or, Bool.true_and, reset_merge, reset_reset, reset_next, reset_low, merge_next, merge_idem, new_low, ble_self, aOps, rinit, aWanted, ↓bite_eq, ↓reduceIte, aStep_eq, aStepOld, aOp, opBox, opBin, opUn, opCall, opIndexAddr, opFieldAddr, opLoad, opStore, opPick, opExtract, opSlice, opBuildSlice, opBuild, aRow, aev, aevs, aparts, ann, unn, aPut, if_true, if_false, rget_rput, flat, flat1, Nat.blt_eq, aBuiltin, aLen, List.getElem?_toArray, List.getElem?_cons_zero, List.getElem?_cons_succ, Nat.zero_add, Option.bind_some, beq_self_eq_true, Bool.not_true, Bool.not_false, Bool.true_beq, Bool.false_beq, h0, h1', h5, i1, i2, l1, l2, ex]
    rfl
  have E2 := E1.trans ((Ext.refl _).merge (σ := s))
  generalize s.merge s.reset = s2 at E2
  repeat apply W_assoc
  refine W_if (b := false) ?_ ?_ ?_
  · simp +decide only [aevs, aev, aResults, rget_rput, if_true, if_false]
  · intro h; cases h
  intro _
  refine W_skipq ?_
  refine W_skip ⟨fun _ => ?_, fun h => absurd rfl h⟩
  refine W_tail ?_
  have w6 : IntKind.i64.wrap ((j : Int) + 1) = ((j + 1 : Nat) : Int) := by rw [wrap64_id _ (by omega) (by omega)]; omega
  repeat apply W_assoc
  apply W_reg
  · intro callf
    simp +decide only [aOps, rinit, aWanted, ↓bite_eq, ↓reduceIte, aStep_eq, aStepOld, aOp, opBox, opBin, opUn, opCall, opIndexAddr, opFieldAddr, opLoad, opStore, opPick, opExtract, opSlice, opBuildSlice, opBuild, aRow, aev, aevs, aparts, ann, unn, aPut, if_true, if_false, rget_rput, flat, flat1, Nat.blt_eq, aBuiltin, aLen, List.getElem?_toArray, List.getElem?_cons_zero, List.getElem?_cons_succ, Nat.zero_add, Option.bind_some, beq_self_eq_true, Bool.not_true, Bool.not_false, Bool.true_beq, Bool.false_beq, h5, w6, aBin, aInts, aInt_eq]
    rfl
  refine W_skip ⟨fun _ => ⟨j + 1, ?_, ?_⟩, fun h => (nomatch h), fun h => absurd rfl h⟩
  · show l.length - (j + 1) < l.length - j
    omega
  · refine ⟨by show j + 1 ≤ _; omega, E2, ?_, ?_, ?_⟩ <;> simp +decide only [rget_rput, if_true, if_false, h0, h1']

set_option maxHeartbeats 8000000 in
theorem same_c {σ : AS} {v w : Value} {L : List (List Arc)} (h1 : OutR σ v L) (h2 : OutR σ w L) (hn : L.length ≤ 1000) (hr : ∀ l ∈ L, l.length ≤ 1000) : C Tryz.prog KA 0 19 [.agg #[v], .agg #[w]] σ fun u σ' => u = .bool true ∧ Ext σ σ' := by
  obtain ⟨vb, vc, hv⟩ := h1.len
  obtain ⟨wb, wc, hw⟩ := h2.len
  subst hv
  subst hw
  have d0 : ((L.length : Int) != (L.length : Int)) = false := by simp
  refine C_of (ka rfl rfl) Tryz.func19 rfl (Nat.le_of_ble_eq_true rfl) ?_
  show W _ _ _ 32 _ _ _ _
  unfold Tryz.f19
  dsimp only
  repeat apply W_assoc
  apply W_reg
  · intro callf
    simp +decide only [aOps, rinit, aWanted, ↓bite_eq, ↓reduceIte, aStep_eq, aStepOld, aOp, opBox, opBin, opUn, opCall, opIndexAddr, opFieldAddr, opLoad, opStore, opPick, opExtract, opSlice, opBuildSlice, opBuild, aRow, aev, aevs, aparts, ann, unn, aPut, if_true, if_false, rget_rput, flat, flat1, Nat.blt_eq, aBuiltin, aLen, List.getElem?_toArray, List.getElem?_cons_zero, List.getElem?_cons_succ, Nat.zero_add, Option.bind_some, beq_self_eq_true, Bool.not_true, Bool.not_false, Bool.true_beq, Bool.false_beq]
    rfl
  have e1 : Ext σ (σ.new ⟨1, 54, 0, (Value.agg #[.slice vb L.length vc]).cells.toList, []⟩) := Ext.new σ _
  have B1 := BoxAt.new σ (.slice vb L.length vc)
  change BoxAt (σ.new ⟨1, 54, 0, (Value.agg #[.slice vb L.length vc]).cells.toList, []⟩) σ.next (.slice vb L.length vc) at B1
  have hb2 : (σ.new ⟨1, 54, 0, (Value.agg #[.slice vb L.length vc]).cells.toList, []⟩).next = σ.next + 1 := rfl
  generalize σ.new ⟨1, 54, 0, (Value.agg #[.slice vb L.length vc]).cells.toList, []⟩ = σ1 at e1 B1 hb2
  have e2 : Ext σ1 (σ1.new ⟨1, 54, 0, (Value.agg #[.slice wb L.length wc]).cells.toList, []⟩) := Ext.new σ1 _
  have B2 := BoxAt.new σ1 (.slice wb L.length wc)
  change BoxAt (σ1.new ⟨1, 54, 0, (Value.agg #[.slice wb L.length wc]).cells.toList, []⟩) σ1.next (.slice wb L.length wc) at B2
  have B1 := B1.ext e2
  have H1 := h1.ext (e1.trans e2)
  have H2 := h2.ext (e1.trans e2)
  have e1 := e1.trans e2
  generalize σ1.next = b2 at B2 hb2
  generalize σ1.new ⟨1, 54, 0, (Value.agg #[.slice wb L.length wc]).cells.toList, []⟩ = σ2 at e1 B1 B2 H1 H2
  repeat apply W_assoc
  apply W_reg
  · intro callf
    simp +decide only [aOps, rinit, aWanted, ↓bite_eq, ↓reduceIte, aStep_eq, aStepOld, aOp, opBox, opBin, opUn, opCall, opIndexAddr, opFieldAddr, opLoad, opStore, opPick, opExtract, opSlice, opBuildSlice, opBuild, aRow, aev, aevs, aparts, ann, unn, aPut, if_true, if_false, rget_rput, flat, flat1, Nat.blt_eq, aBuiltin, aLen, List.getElem?_toArray, List.getElem?_cons_zero, List.getElem?_cons_succ, Nat.zero_add, Option.bind_some, beq_self_eq_true, Bool.not_true, Bool.not_false, Bool.true_beq, Bool.false_beq, fldL, B1.out, B2.out, Tryz.underlying52, goInt, d0, neII]
    rfl
  repeat apply W_assoc
  refine W_if (b := false) ?_ ?_ ?_
  · simp +decide only [aevs, aev, aResults, rget_rput, if_true, if_false]
  · intro h; cases h
  intro _
  apply W_skipq
  repeat apply W_assoc
  apply W_reg
  · intro callf
    simp +decide only [aOps, rinit, aWanted, ↓bite_eq, ↓reduceIte, aStep_eq, aStepOld, aOp, opBox, opBin, opUn, opCall, opIndexAddr, opFieldAddr, opLoad, opStore, opPick, opExtract, opSlice, opBuildSlice, opBuild, aRow, aev, aevs, aparts, ann, unn, aPut, if_true, if_false, rget_rput, flat, flat1, Nat.blt_eq, aBuiltin, aLen, List.getElem?_toArray, List.getElem?_cons_zero, List.getElem?_cons_succ, Nat.zero_add, Option.bind_some, beq_self_eq_true, Bool.not_true, Bool.not_false, Bool.true_beq, Bool.false_beq]
    rfl
  repeat apply W_assoc
  refine W_for (fun (j : Nat) r s => j ≤ L.length ∧ Ext σ2 s ∧ rget r 2 = .pointer (some ⟨σ.next, 0, none⟩) ∧ rget r 3 = .pointer (some ⟨b2, 0, none⟩) ∧ rget r 5 = .int .i64 (j : Int)) (fun j => L.length - j) ?_ 0 ?_
  rotate_left
  · refine ⟨Nat.zero_le _, Ext.refl _, ?_, ?_, ?_⟩ <;> simp +decide only [rget_rput, rinit, if_true, if_false, goInt, hb2] <;> first | exact True.intro | rfl
  rintro j r s ⟨hj, E1, h2', h3, h5⟩
  try dsimp only at hj h5
  have C1 := B1.ext E1
  have C2 := B2.ext E1
  by_cases hjl : j < L.length
  rotate_left
  · have d2 : decide ((j : Int) < (L.length : Int)) = false := decide_eq_false (by omega)
    repeat apply W_assoc
    apply W_reg
    · intro callf
      simp +decide only [aOps, rinit, aWanted, ↓bite_eq, ↓reduceIte, aStep_eq, aStepOld, aOp, opBox, opBin, opUn, opCall, opIndexAddr, opFieldAddr, opLoad, opStore, opPick, opExtract, opSlice, opBuildSlice, opBuild, aRow, aev, aevs, aparts, ann, unn, aPut, if_true, if_false, rget_rput, flat, flat1, Nat.blt_eq, aBuiltin, aLen, List.getElem?_toArray, List.getElem?_cons_zero, List.getElem?_cons_succ, Nat.zero_add, Option.bind_some, beq_self_eq_true, Bool.not_true, Bool.not_false, Bool.true_beq, Bool.false_beq, h2', h5, fldL, C1.out, d2, Tryz.underlying52, goInt, aBin, aInts, aInt_eq]
      rfl
    repeat apply W_assoc
    refine W_if (b := false) ?_ ?_ ?_
    · simp +decide only [aevs, aev, aResults, rget_rput, if_true, if_false]
    · intro h; cases h
    intro _
    refine W_exitq ⟨fun h => (nomatch h), fun _ => ?_, fun h1 h2 => absurd rfl h2⟩
    repeat apply W_assoc
    apply W_reg
    · intro callf
      simp +decide only [aOps, rinit, aWanted, ↓bite_eq, ↓reduceIte, aStep_eq, aStepOld, aOp, opBox, opBin, opUn, opCall, opIndexAddr, opFieldAddr, opLoad, opStore, opPick, opExtract, opSlice, opBuildSlice, opBuild, aRow, aev, aevs, aparts, ann, unn, aPut, if_true, if_false, rget_rput, flat, flat1, Nat.blt_eq, aBuiltin, aLen, List.getElem?_toArray, List.getElem?_cons_zero, List.getElem?_cons_succ, Nat.zero_add, Option.bind_some, beq_self_eq_true, Bool.not_true, Bool.not_false, Bool.true_beq, Bool.false_beq]
      rfl
    refine W_ret ⟨Nat.le_refl _, [.bool true], ?_, rfl, e1.trans E1⟩
    simp +decide only [aevs, aev, aResults, rget_rput, if_true, if_false]
  have d2 : decide ((j : Int) < (L.length : Int)) = true := decide_eq_true (by omega)
  repeat apply W_assoc
  apply W_reg
  · intro callf
    simp +decide only [aOps, rinit, aWanted, ↓bite_eq, ↓reduceIte, aStep_eq, aStepOld, aOp, opBox, opBin, opUn, opCall, opIndexAddr, opFieldAddr, opLoad, opStore, opPick, opExtract, opSlice, opBuildSlice, opBuild, aRow, aev, aevs, aparts, ann, unn, aPut, if_true, if_false, rget_rput, flat, flat1, Nat.blt_eq, aBuiltin, aLen, List.getElem?_toArray, List.getElem?_cons_zero, List.getElem?_cons_succ, Nat.zero_add, Option.bind_some, beq_self_eq_true, Bool.not_true, Bool.not_false, Bool.true_beq, Bool.false_beq, h2', h5, fldL, C1.out, d2, Tryz.underlying52, goInt, aBin, aInts, aInt_eq]
    rfl
  repeat apply W_assoc
  refine W_if (b := true) ?_ ?_ ?_
  · simp +decide only [aevs, aev, aResults, rget_rput, if_true, if_false]
  rotate_left
  · intro h; cases h
  intro _
  apply W_skipq
  refine W_blk ?_
  obtain ⟨l, hl⟩ : ∃ l, L[j]? = some l := ⟨L[j], by simp [hjl]⟩
  obtain ⟨b1, o1, c1, v1, f1, hb1, i1, l1, r1⟩ := H1.at hl
  obtain ⟨b3, o3, c3, v3, f3, hb3, i3, l3, r3⟩ := H2.at hl
  have l1 := l1 s.reset (E1.get b1 hb1)
  have l3 := l3 s.reset (E1.get b3 hb3)
  have o1 := (C1.ext (Ext.reset _)).out
  have o3 := (C2.ext (Ext.reset _)).out
  refine W_tail ?_
  repeat apply W_assoc
  refine W_drw [] [] (by kernel_rfl) (by kernel_rfl) ?_
  apply Lg_pre 10
  · intro callf
    simp +decide only [List.take, aQ, memb, List.any_nil, List.any_cons, Bool.true_or, Bool.or_false, Bool.and_true, Bool.or_true, Bool.false_or, Bool.true_and, reset_merge, reset_reset, reset_next, reset_low, merge_next, merge_idem, new_low, ble_self, aOps, rinit, aWanted, ↓bite_eq, ↓reduceIte, aStep_eq, aStepOld, aOp, opBox, opBin, opUn, opCall, opIndexAddr, opFieldAddr, opLoad, opStore, opPick, opExtract, opSlice, opBuildSlice, opBuild, aRow, aev, aevs, aparts, ann, unn, aPut, if_true, if_false, rget_rput, flat, flat1, Nat.blt_eq, aBuiltin, aLen, List.getElem?_toArray, List.getElem?_cons_zero, List.getElem?_cons_succ, Nat.zero_add, Option.bind_some, beq_self_eq_true, Bool.not_true, Bool.not_false, Bool.true_beq, Bool.false_beq, h2', h3, h5, fldL, o1, o3, i1, i3, l1, l3]
    rfl
  dsimp only [List.drop, List.take, List.length]
  have E2 := E1.trans ((Ext.refl _).merge (σ := s))
  generalize s.merge s.reset = s2 at E2
  refine Lg_fn (vs := [v1, v3]) (by simp +decide only [aevs, aev, aResults, rget_rput, if_true, if_false]) (by decide) rfl (C.mono (equal_c (r1.ext (E2.trans (Ext.reset _))) (r3.ext (E2.trans (Ext.reset _))) (hr l (List.mem_of_getElem? hl))) ?_)
  rintro v s1 ⟨rfl, E3⟩
  refine ⟨E3.quiet, ?_⟩
  have E4 := E2.trans E3.merge
  generalize s2.merge s1 = s4 at E4
  apply Lg_all
  · intro callf
    simp +decide only [aQ, memb, List.any_nil, List.any_cons, Bool.true_or, Bool.or_false, Bool.and_true, Bool.or_true, Bool.false_or, Bool.true_and, reset_merge, reset_reset, reset_next, reset_low, merge_next, merge_idem, new_low, ble_self, aOps, rinit, aWanted, ↓bite_eq, ↓reduceIte, aStep_eq, aStepOld, aOp, opBox, opBin, opUn, opCall, opIndexAddr, opFieldAddr, opLoad, opStore, opPick, opExtract, opSlice, opBuildSlice, opBuild, aRow, aev, aevs, aparts, ann, unn, aPut, if_true, if_false, rget_rput, flat, flat1, Nat.blt_eq, aBuiltin, aLen, List.getElem?_toArray, List.getElem?_cons_zero, List.getElem?_cons_succ, Nat.zero_add, Option.bind_some, beq_self_eq_true, Bool.not_true, Bool.not_false, Bool.true_beq, Bool.false_beq, not_b]
    rfl
  have E5 := E4.trans ((Ext.refl _).merge (σ := s4))
  generalize s4.merge s4.reset = s5 at E5
  repeat apply W_assoc
  refine W_if (b := false) ?_ ?_ ?_
  · simp +decide only [aevs, aev, aResults, rget_rput, if_true, if_false]
  · intro h; cases h
  intro _
  refine W_skipq ?_
  refine W_skip ⟨fun _ => ?_, fun h => absurd rfl h⟩
  refine W_tail ?_
  have w6 : IntKind.i64.wrap ((j : Int) + 1) = ((j + 1 : Nat) : Int) := by rw [wrap64_id _ (by omega) (by omega)]; omega
  repeat apply W_assoc
  apply W_reg
  · intro callf
    simp +decide only [aOps, rinit, aWanted, ↓bite_eq, ↓reduceIte, aStep_eq, aStepOld, aOp, opBox, opBin, opUn, opCall, opIndexAddr, opFieldAddr, opLoad, opStore, opPick, opExtract, opSlice, opBuildSlice, opBuild, aRow, aev, aevs, aparts, ann, unn, aPut, if_true, if_false, rget_rput, flat, flat1, Nat.blt_eq, aBuiltin, aLen, List.getElem?_toArray, List.getElem?_cons_zero, List.getElem?_cons_succ, Nat.zero_add, Option.bind_some, beq_self_eq_true, Bool.not_true, Bool.not_false, Bool.true_beq, Bool.false_beq, h5, w6, aBin, aInts, aInt_eq]
    rfl
  refine W_skip ⟨fun _ => ⟨j + 1, ?_, ?_⟩, fun h => (nomatch h), fun h => absurd rfl h⟩
  · show L.length - (j + 1) < L.length - j
    omega
  · refine ⟨by show j + 1 ≤ _; omega, E5, ?_, ?_, ?_⟩ <;> simp +decide only [rget_rput, if_true, if_false, h2', h3]

/-- What the check of a canonical system asks, when m is known at the beginning. -/
def Canons : Nat → Nat → List (List Arc) → Prop
  | _, _, [] => True
  | s, m, r :: L => s < m ∧ Can.Asc r ∧ (∀ p a q, r = p ++ a :: q → a.2 ≤ Can.knows m p) ∧ Canons (s + 1) (Can.knows m r) L

theorem canons_at : ∀ {L : List (List Arc)} {s m : Nat}, Canons s m L → ∀ {i : Nat} {r : List Arc}, L[i]? = some r → s + i < Can.knows m (L.take i).flatten ∧ Can.Asc r ∧ (∀ p a q, r = p ++ a :: q → a.2 ≤ Can.knows (Can.knows m (L.take i).flatten) p)
  | [], s, m, h, i, r, hr => by simp at hr
  | x :: L, s, m, h, 0, r, hr => by
    obtain rfl : x = r := by simpa using hr
    exact ⟨h.1, h.2.1, h.2.2.1⟩
  | x :: L, s, m, h, i + 1, r, hr => by
    have := canons_at h.2.2.2 (i := i) (r := r) (by simpa using hr)
    rw [List.take_succ_cons, List.flatten_cons, Can.knows_app]
    exact ⟨by have := this.1; omega, this.2⟩

theorem cmpA_asc {l : List Arc} (h : Can.Asc l) {i : Nat} {x y : Arc} (hi : 0 < i) (hy : l[i - 1]? = some y) (hx : l[i]? = some x) : cmpA y x < 0 := by
  rw [cmpA_neg]
  obtain ⟨h1, e1⟩ := List.getElem?_eq_some_iff.1 hx
  obtain ⟨h2, e2⟩ := List.getElem?_eq_some_iff.1 hy
  rw [← e1, ← e2]
  exact List.pairwise_iff_getElem.1 h (i - 1) i h2 h1 (by omega)

set_option maxHeartbeats 16000000 in
theorem canonical_c {σ : AS} {v : Value} {L : List (List Arc)} (h : OutR σ v L) (hs : Small L) (hc : Canons 0 1 L) : C Tryz.prog KA 0 18 [.agg #[v]] σ fun u σ' => u = .bool true ∧ Ext σ σ' := by
  refine C_of (ka rfl rfl) Tryz.func18 rfl (Nat.le_of_ble_eq_true rfl) ?_
  show W _ _ _ 54 _ _ _ _
  unfold Tryz.f18
  dsimp only
  repeat apply W_assoc
  apply W_reg
  · intro callf
    simp +decide only [aOps, rinit, aWanted, ↓bite_eq, ↓reduceIte, aStep_eq, aStepOld, aOp, opBox, opBin, opUn, opCall, opIndexAddr, opFieldAddr, opLoad, opStore, opPick, opExtract, opSlice, opBuildSlice, opBuild, aRow, aev, aevs, aparts, ann, unn, aPut, if_true, if_false, rget_rput, flat, flat1, Nat.blt_eq, aBuiltin, aLen, List.getElem?_toArray, List.getElem?_cons_zero, List.getElem?_cons_succ, Nat.zero_add, Option.bind_some, beq_self_eq_true, Bool.not_true, Bool.not_false, Bool.true_beq, Bool.false_beq]
    rfl
  have e1 : Ext σ (σ.new ⟨1, 54, 0, (Value.agg #[v]).cells.toList, []⟩) := Ext.new σ _
  have B := BoxAt.new σ v
  change BoxAt (σ.new ⟨1, 54, 0, (Value.agg #[v]).cells.toList, []⟩) σ.next v at B
  have H := h.ext e1
  generalize σ.new ⟨1, 54, 0, (Value.agg #[v]).cells.toList, []⟩ = σ1 at e1 B H
  obtain ⟨base, cap, hv⟩ := h.len
  subst hv
  have hL := hs.len
  have hpos := List.length_pos_iff.2 hs.pos
  repeat apply W_assoc
  apply W_regL
  apply Ls_pre 1
  · intro callf
    simp +decide only [List.take, aOps, rinit, aWanted, ↓bite_eq, ↓reduceIte, aStep_eq, aStepOld, aOp, opBox, opBin, opUn, opCall, opIndexAddr, opFieldAddr, opLoad, opStore, opPick, opExtract, opSlice, opBuildSlice, opBuild, aRow, aev, aevs, aparts, ann, unn, aPut, if_true, if_false, rget_rput, flat, flat1, Nat.blt_eq, aBuiltin, aLen, List.getElem?_toArray, List.getElem?_cons_zero, List.getElem?_cons_succ, Nat.zero_add, Option.bind_some, beq_self_eq_true, Bool.not_true, Bool.not_false, Bool.true_beq, Bool.false_beq, B.load]
    rfl
  dsimp only [List.drop]
  refine Ls_fn (vs := [.agg #[.slice base L.length cap]]) (by simp +decide only [aevs, aev, aResults, rget_rput, if_true, if_false]) (by decide) (C.mono (formed_c H hs) ?_)
  rintro v σ' ⟨rfl, E0⟩
  apply Ls_all
  · intro callf
    simp +decide only [aOps, rinit, aWanted, ↓bite_eq, ↓reduceIte, aStep_eq, aStepOld, aOp, opBox, opBin, opUn, opCall, opIndexAddr, opFieldAddr, opLoad, opStore, opPick, opExtract, opSlice, opBuildSlice, opBuild, aRow, aev, aevs, aparts, ann, unn, aPut, if_true, if_false, rget_rput, flat, flat1, Nat.blt_eq, aBuiltin, aLen, List.getElem?_toArray, List.getElem?_cons_zero, List.getElem?_cons_succ, Nat.zero_add, Option.bind_some, beq_self_eq_true, Bool.not_true, Bool.not_false, Bool.true_beq, Bool.false_beq, not_b]
    rfl
  have B := B.ext E0
  have H := H.ext E0
  have e1 := e1.trans E0
  generalize σ' = σ1 at e1 B H
  repeat apply W_assoc
  refine W_if (b := false) ?_ ?_ ?_
  · simp +decide only [aevs, aev, aResults, rget_rput, if_true, if_false]
  · intro h; cases h
  intro _
  apply W_skipq
  repeat apply W_assoc
  apply W_reg
  · intro callf
    simp +decide only [aOps, rinit, aWanted, ↓bite_eq, ↓reduceIte, aStep_eq, aStepOld, aOp, opBox, opBin, opUn, opCall, opIndexAddr, opFieldAddr, opLoad, opStore, opPick, opExtract, opSlice, opBuildSlice, opBuild, aRow, aev, aevs, aparts, ann, unn, aPut, if_true, if_false, rget_rput, flat, flat1, Nat.blt_eq, aBuiltin, aLen, List.getElem?_toArray, List.getElem?_cons_zero, List.getElem?_cons_succ, Nat.zero_add, Option.bind_some, beq_self_eq_true, Bool.not_true, Bool.not_false, Bool.true_beq, Bool.false_beq]
    rfl
  repeat apply W_assoc
  apply W_reg
  · intro callf
    simp +decide only [aOps, rinit, aWanted, ↓bite_eq, ↓reduceIte, aStep_eq, aStepOld, aOp, opBox, opBin, opUn, opCall, opIndexAddr, opFieldAddr, opLoad, opStore, opPick, opExtract, opSlice, opBuildSlice, opBuild, aRow, aev, aevs, aparts, ann, unn, aPut, if_true, if_false, rget_rput, flat, flat1, Nat.blt_eq, aBuiltin, aLen, List.getElem?_toArray, List.getElem?_cons_zero, List.getElem?_cons_succ, Nat.zero_add, Option.bind_some, beq_self_eq_true, Bool.not_true, Bool.not_false, Bool.true_beq, Bool.false_beq, fldL, B.out, Tryz.underlying52, goInt]
    rfl
  repeat apply W_assoc
  refine W_for (fun (i : Nat) r s => i ≤ L.length ∧ Ext σ1 s ∧ rget r 3 = .int .i64 (Can.knows 1 (L.take i).flatten : Int) ∧ Can.knows 1 (L.take i).flatten ≤ 1000 ∧ rget r 12 = .slice base L.length cap ∧ rget r 13 = .int .i64 (L.length : Int) ∧ rget r 14 = .int .i64 (i : Int)) (fun i => L.length - i) ?_ 0 ?_
  rotate_left
  · refine ⟨Nat.zero_le _, Ext.refl _, ?_, by simp [Can.knows], ?_, ?_, ?_⟩ <;> simp +decide only [rget_rput, rinit, if_true, if_false, goInt] <;> first | exact True.intro | rfl
  rintro i r σ2 ⟨hi, E2, h3, hK, h12, h13, h14⟩
  try dsimp only at hi h3 h14 hK
  by_cases hlt : i < L.length
  rotate_left
  · have d1 : decide ((i : Int) < (L.length : Int)) = false := decide_eq_false (by omega)
    repeat apply W_assoc
    apply W_reg
    · intro callf
      simp +decide only [aOps, rinit, aWanted, ↓bite_eq, ↓reduceIte, aStep_eq, aStepOld, aOp, opBox, opBin, opUn, opCall, opIndexAddr, opFieldAddr, opLoad, opStore, opPick, opExtract, opSlice, opBuildSlice, opBuild, aRow, aev, aevs, aparts, ann, unn, aPut, if_true, if_false, rget_rput, flat, flat1, Nat.blt_eq, aBuiltin, aLen, List.getElem?_toArray, List.getElem?_cons_zero, List.getElem?_cons_succ, Nat.zero_add, Option.bind_some, beq_self_eq_true, Bool.not_true, Bool.not_false, Bool.true_beq, Bool.false_beq, h13, h14, d1, aBin, aInts, aInt_eq]
      rfl
    repeat apply W_assoc
    refine W_if (b := false) ?_ ?_ ?_
    · simp +decide only [aevs, aev, aResults, rget_rput, if_true, if_false]
    · intro h; cases h
    intro _
    refine W_exitq ⟨fun h => (nomatch h), fun _ => ?_, fun h1 h2 => absurd rfl h2⟩
    repeat apply W_assoc
    apply W_reg
    · intro callf
      simp +decide only [aOps, rinit, aWanted, ↓bite_eq, ↓reduceIte, aStep_eq, aStepOld, aOp, opBox, opBin, opUn, opCall, opIndexAddr, opFieldAddr, opLoad, opStore, opPick, opExtract, opSlice, opBuildSlice, opBuild, aRow, aev, aevs, aparts, ann, unn, aPut, if_true, if_false, rget_rput, flat, flat1, Nat.blt_eq, aBuiltin, aLen, List.getElem?_toArray, List.getElem?_cons_zero, List.getElem?_cons_succ, Nat.zero_add, Option.bind_some, beq_self_eq_true, Bool.not_true, Bool.not_false, Bool.true_beq, Bool.false_beq]
      rfl
    refine W_ret ⟨Nat.le_refl _, [.bool true], ?_, rfl, e1.trans E2⟩
    simp +decide only [aevs, aev, aResults, rget_rput, if_true, if_false]
  have d1 : decide ((i : Int) < (L.length : Int)) = true := decide_eq_true (by omega)
  repeat apply W_assoc
  apply W_reg
  · intro callf
    simp +decide only [aOps, rinit, aWanted, ↓bite_eq, ↓reduceIte, aStep_eq, aStepOld, aOp, opBox, opBin, opUn, opCall, opIndexAddr, opFieldAddr, opLoad, opStore, opPick, opExtract, opSlice, opBuildSlice, opBuild, aRow, aev, aevs, aparts, ann, unn, aPut, if_true, if_false, rget_rput, flat, flat1, Nat.blt_eq, aBuiltin, aLen, List.getElem?_toArray, List.getElem?_cons_zero, List.getElem?_cons_succ, Nat.zero_add, Option.bind_some, beq_self_eq_true, Bool.not_true, Bool.not_false, Bool.true_beq, Bool.false_beq, h13, h14, d1, aBin, aInts, aInt_eq]
    rfl
  repeat apply W_assoc
  refine W_if (b := true) ?_ ?_ ?_
  · simp +decide only [aevs, aev, aResults, rget_rput, if_true, if_false]
  rotate_left
  · intro h; cases h
  intro _
  apply W_skipq
  refine W_blk ?_
  obtain ⟨l, hl⟩ : ∃ l, L[i]? = some l := ⟨L[i], by simp [hlt]⟩
  have hlm := List.mem_of_getElem? hl
  obtain ⟨hc1, hc2, hc3⟩ := canons_at hc hl
  obtain ⟨b, off, c', w, hvw, hb, hix, hld, hrow⟩ := H.at hl
  have hld2 := hld σ2 (E2.get b hb)
  obtain ⟨wb, wc, hw⟩ := hrow.len
  subst hw
  have hll := hs.rows l hlm
  have hkn : Can.knows 1 (L.take (i + 1)).flatten = Can.knows (Can.knows 1 (L.take i).flatten) l := by
    rw [List.take_add_one, hl, List.flatten_append, Can.knows_app]
    simp
  generalize Can.knows 1 (L.take i).flatten = k0 at hc1 hc3 hkn h3 hK
  have hkmax : ∀ p q, l = p ++ q → Can.knows k0 p ≤ 1000 := fun p q e => Can.knows_max hK fun a ha => by
    have := hs.to l hlm a (by rw [e]; simp [ha])
    omega
  have d5 : ((i : Int) == (k0 : Int)) = false := by
    have : (i : Int) ≠ (k0 : Int) := by omega
    simpa using this
  repeat apply W_assoc
  apply W_reg
  · intro callf
    simp +decide only [aOps, rinit, aWanted, ↓bite_eq, ↓reduceIte, aStep_eq, aStepOld, aOp, opBox, opBin, opUn, opCall, opIndexAddr, opFieldAddr, opLoad, opStore, opPick, opExtract, opSlice, opBuildSlice, opBuild, aRow, aev, aevs, aparts, ann, unn, aPut, if_true, if_false, rget_rput, flat, flat1, Nat.blt_eq, aBuiltin, aLen, List.getElem?_toArray, List.getElem?_cons_zero, List.getElem?_cons_succ, Nat.zero_add, Option.bind_some, beq_self_eq_true, Bool.not_true, Bool.not_false, Bool.true_beq, Bool.false_beq, h12, h14, hix, hld2]
    rfl
  repeat apply W_assoc
  apply W_reg
  · intro callf
    simp +decide only [aOps, rinit, aWanted, ↓bite_eq, ↓reduceIte, aStep_eq, aStepOld, aOp, opBox, opBin, opUn, opCall, opIndexAddr, opFieldAddr, opLoad, opStore, opPick, opExtract, opSlice, opBuildSlice, opBuild, aRow, aev, aevs, aparts, ann, unn, aPut, if_true, if_false, rget_rput, flat, flat1, Nat.blt_eq, aBuiltin, aLen, List.getElem?_toArray, List.getElem?_cons_zero, List.getElem?_cons_succ, Nat.zero_add, Option.bind_some, beq_self_eq_true, Bool.not_true, Bool.not_false, Bool.true_beq, Bool.false_beq, h3, eqII, d5]
    rfl
  repeat apply W_assoc
  refine W_if (b := false) ?_ ?_ ?_
  · simp +decide only [aevs, aev, aResults, rget_rput, if_true, if_false]
  · intro h; cases h
  intro _
  apply W_skipq
  repeat apply W_assoc
  apply W_reg
  · intro callf
    simp +decide only [aOps, rinit, aWanted, ↓bite_eq, ↓reduceIte, aStep_eq, aStepOld, aOp, opBox, opBin, opUn, opCall, opIndexAddr, opFieldAddr, opLoad, opStore, opPick, opExtract, opSlice, opBuildSlice, opBuild, aRow, aev, aevs, aparts, ann, unn, aPut, if_true, if_false, rget_rput, flat, flat1, Nat.blt_eq, aBuiltin, aLen, List.getElem?_toArray, List.getElem?_cons_zero, List.getElem?_cons_succ, Nat.zero_add, Option.bind_some, beq_self_eq_true, Bool.not_true, Bool.not_false, Bool.true_beq, Bool.false_beq, Tryz.underlying60, goInt]
    rfl
  refine W_tail ?_
  repeat apply W_assoc
  refine W_for (fun (j : Nat) r s => j ≤ l.length ∧ Ext σ1 s ∧ rget r 3 = .int .i64 (Can.knows k0 (l.take j) : Int) ∧ rget r 5 = .slice wb l.length wc ∧ rget r 12 = .slice base L.length cap ∧ rget r 13 = .int .i64 (L.length : Int) ∧ rget r 14 = .int .i64 (i : Int) ∧ rget r 22 = .slice wb l.length wc ∧ rget r 23 = .int .i64 (l.length : Int) ∧ rget r 24 = .int .i64 (j : Int)) (fun j => l.length - j) ?_ 0 ?_
  rotate_left
  · refine ⟨Nat.zero_le _, E2, ?_, ?_, ?_, ?_, ?_, ?_, ?_, ?_⟩ <;> simp +decide only [rget_rput, rinit, if_true, if_false, goInt, h3, h12, h13, h14] <;> first | exact True.intro | rfl
  clear h3 h12 h13 h14 hld2
  rintro j r σ3 ⟨hj, E3, h3, h5, h12, h13, h14, h22, h23, h24⟩
  try dsimp only at hj h3 h24
  by_cases hjl : j < l.length
  rotate_left
  · have d2 : decide ((j : Int) < (l.length : Int)) = false := decide_eq_false (by omega)
    obtain rfl : j = l.length := by omega
    repeat apply W_assoc
    apply W_reg
    · intro callf
      simp +decide only [aOps, rinit, aWanted, ↓bite_eq, ↓reduceIte, aStep_eq, aStepOld, aOp, opBox, opBin, opUn, opCall, opIndexAddr, opFieldAddr, opLoad, opStore, opPick, opExtract, opSlice, opBuildSlice, opBuild, aRow, aev, aevs, aparts, ann, unn, aPut, if_true, if_false, rget_rput, flat, flat1, Nat.blt_eq, aBuiltin, aLen, List.getElem?_toArray, List.getElem?_cons_zero, List.getElem?_cons_succ, Nat.zero_add, Option.bind_some, beq_self_eq_true, Bool.not_true, Bool.not_false, Bool.true_beq, Bool.false_beq, h23, h24, d2, aBin, aInts, aInt_eq]
      rfl
    repeat apply W_assoc
    refine W_if (b := false) ?_ ?_ ?_
    · simp +decide only [aevs, aev, aResults, rget_rput, if_true, if_false]
    · intro h; cases h
    intro _
    refine W_exitq ⟨fun h => (nomatch h), fun _ => ?_, fun h1 h2 => absurd rfl h2⟩
    refine W_skip ⟨fun _ => ?_, fun h => absurd rfl h⟩
    refine W_tail ?_
    have w6 : IntKind.i64.wrap ((i : Int) + 1) = ((i + 1 : Nat) : Int) := by rw [wrap64_id _ (by omega) (by omega)]; omega
    repeat apply W_assoc
    apply W_reg
    · intro callf
      simp +decide only [aOps, rinit, aWanted, ↓bite_eq, ↓reduceIte, aStep_eq, aStepOld, aOp, opBox, opBin, opUn, opCall, opIndexAddr, opFieldAddr, opLoad, opStore, opPick, opExtract, opSlice, opBuildSlice, opBuild, aRow, aev, aevs, aparts, ann, unn, aPut, if_true, if_false, rget_rput, flat, flat1, Nat.blt_eq, aBuiltin, aLen, List.getElem?_toArray, List.getElem?_cons_zero, List.getElem?_cons_succ, Nat.zero_add, Option.bind_some, beq_self_eq_true, Bool.not_true, Bool.not_false, Bool.true_beq, Bool.false_beq, h14, w6, aBin, aInts, aInt_eq]
      rfl
    rw [List.take_of_length_le (Nat.le_refl _), ← hkn] at h3
    refine W_skip ⟨fun _ => ⟨i + 1, ?_, ?_⟩, fun h => (nomatch h), fun h => absurd rfl h⟩
    · show L.length - (i + 1) < L.length - i
      omega
    · refine ⟨by show i + 1 ≤ _; omega, E3, ?_, by rw [hkn]; exact hkmax l [] (by simp), ?_, ?_, ?_⟩ <;> simp +decide only [rget_rput, if_true, if_false, h3, h12, h13]
  have d2 : decide ((j : Int) < (l.length : Int)) = true := decide_eq_true (by omega)
  repeat apply W_assoc
  apply W_reg
  · intro callf
    simp +decide only [aOps, rinit, aWanted, ↓bite_eq, ↓reduceIte, aStep_eq, aStepOld, aOp, opBox, opBin, opUn, opCall, opIndexAddr, opFieldAddr, opLoad, opStore, opPick, opExtract, opSlice, opBuildSlice, opBuild, aRow, aev, aevs, aparts, ann, unn, aPut, if_true, if_false, rget_rput, flat, flat1, Nat.blt_eq, aBuiltin, aLen, List.getElem?_toArray, List.getElem?_cons_zero, List.getElem?_cons_succ, Nat.zero_add, Option.bind_some, beq_self_eq_true, Bool.not_true, Bool.not_false, Bool.true_beq, Bool.false_beq, h23, h24, d2, aBin, aInts, aInt_eq]
    rfl
  repeat apply W_assoc
  refine W_if (b := true) ?_ ?_ ?_
  · simp +decide only [aevs, aev, aResults, rget_rput, if_true, if_false]
  rotate_left
  · intro h; cases h
  intro _
  apply W_skipq
  refine W_blk ?_
  obtain ⟨x, hx⟩ : ∃ x, l[j]? = some x := ⟨l[j], by simp [hjl]⟩
  have hsp : l = l.take j ++ x :: l.drop (j + 1) := by
    obtain ⟨_, e⟩ := List.getElem?_eq_some_iff.1 hx
    rw [← e, List.getElem_cons_drop, List.take_append_drop]
  have hxk := hc3 _ _ _ hsp
  have hkb := hkmax _ _ hsp
  have hkn2 : Can.knows k0 (l.take (j + 1)) = max (Can.knows k0 (l.take j)) (x.2 + 1) := by
    rw [List.take_add_one, hx, Can.knows_app]
    rfl
  generalize Can.knows k0 (l.take j) = kj at h3 hxk hkb hkn2
  obtain ⟨b2, off2, c2, hw2, hb2, hix2, hld3, -⟩ := hrow.at hx
  have hld4 := hld3 σ3 (E3.get b2 hb2)
  repeat apply W_assoc
  apply W_reg
  · intro callf
    simp +decide only [aOps, rinit, aWanted, ↓bite_eq, ↓reduceIte, aStep_eq, aStepOld, aOp, opBox, opBin, opUn, opCall, opIndexAddr, opFieldAddr, opLoad, opStore, opPick, opExtract, opSlice, opBuildSlice, opBuild, aRow, aev, aevs, aparts, ann, unn, aPut, if_true, if_false, rget_rput, flat, flat1, Nat.blt_eq, aBuiltin, aLen, List.getElem?_toArray, List.getElem?_cons_zero, List.getElem?_cons_succ, Nat.zero_add, Option.bind_some, beq_self_eq_true, Bool.not_true, Bool.not_false, Bool.true_beq, Bool.false_beq, h22, h24, hix2, hld4, allocA, storeA]
    rfl
  have D := decl_at σ3 x
  have E4 := E3.trans (decl_ext σ3 x)
  generalize σ3.next = bx at D
  generalize decl σ3 x = σ4 at D E4
  refine W_tail ?_
  have dx : decide ((x.2 : Int) > (kj : Int)) = false := decide_eq_false (by omega)
  have fin : ∀ (r : Regs) (s : AS), Ext σ1 s → ArcAt s bx x → rget r 3 = .int .i64 (kj : Int) → rget r 7 = .pointer (some ⟨bx, 0, none⟩) → rget r 5 = .slice wb l.length wc → rget r 12 = .slice base L.length cap → rget r 13 = .int .i64 (L.length : Int) → rget r 14 = .int .i64 (i : Int) → rget r 22 = .slice wb l.length wc → rget r 23 = .int .i64 (l.length : Int) → rget r 24 = .int .i64 (j : Int) → True := fun _ _ _ _ _ _ _ _ _ _ _ _ _ => trivial
  have wx : IntKind.i64.wrap ((x.2 : Int) + 1) = ((x.2 + 1 : Nat) : Int) := by rw [wrap64_id _ (by omega) (by omega)]; omega
  have wm : (if ((x.2 + 1 : Nat) : Int) > (kj : Int) then ((x.2 + 1 : Nat) : Int) else (kj : Int)) = ((max kj (x.2 + 1) : Nat) : Int) := by
    split <;> omega
  have w6 : IntKind.i64.wrap ((j : Int) + 1) = ((j + 1 : Nat) : Int) := by rw [wrap64_id _ (by omega) (by omega)]; omega
  by_cases hj0 : 0 < j
  rotate_left
  · obtain rfl : j = 0 := by omega
    have d6 : decide (((0 : Nat) : Int) > 0) = false := rfl
    have to4 := (D.ext (Ext.reset σ4)).to
    repeat apply W_assoc
    refine W_drw [] [] (by kernel_rfl) (by kernel_rfl) ?_
    apply Lg_all
    · intro callf
      simp +decide only [aQ, memb, List.any_nil, List.any_cons, Bool.true_or, Bool.or_false, Bool.and_true, Bool.or_true, Bool.false_or, Bool.true_and, reset_merge, reset_reset, reset_next, reset_low, merge_next, merge_idem, new_low, ble_self, aOps, rinit, aWanted, ↓bite_eq, ↓reduceIte, aStep_eq, aStepOld, aOp, opBox, opBin, opUn, opCall, opIndexAddr, opFieldAddr, opLoad, opStore, opPick, opExtract, opSlice, opBuildSlice, opBuild, aRow, aev, aevs, aparts, ann, unn, aPut, if_true, if_false, rget_rput, flat, flat1, Nat.blt_eq, aBuiltin, aLen, List.getElem?_toArray, List.getElem?_cons_zero, List.getElem?_cons_succ, Nat.zero_add, Option.bind_some, beq_self_eq_true, Bool.not_true, Bool.not_false, Bool.true_beq, Bool.false_beq, h3, h5, h24, d6, opPick, fldA1, to4, dx, aBin, aInts, aInt_eq]
      rfl
    have E6 := E4.trans ((Ext.refl _).merge (σ := σ4))
    have D6 := D.ext ((Ext.refl _).merge (σ := σ4))
    generalize σ4.merge σ4.reset = σ6 at E6 D6
    repeat apply W_assoc
    refine W_if (b := false) ?_ ?_ ?_
    · simp +decide only [aevs, aev, aResults, rget_rput, if_true, if_false]
    · intro h; cases h
    intro _
    apply W_skipq
    repeat apply W_assoc
    apply W_reg
    · intro callf
      simp +decide only [aOps, rinit, aWanted, ↓bite_eq, ↓reduceIte, aStep_eq, aStepOld, aOp, opBox, opBin, opUn, opCall, opIndexAddr, opFieldAddr, opLoad, opStore, opPick, opExtract, opSlice, opBuildSlice, opBuild, aRow, aev, aevs, aparts, ann, unn, aPut, if_true, if_false, rget_rput, flat, flat1, Nat.blt_eq, aBuiltin, aLen, List.getElem?_toArray, List.getElem?_cons_zero, List.getElem?_cons_succ, Nat.zero_add, Option.bind_some, beq_self_eq_true, Bool.not_true, Bool.not_false, Bool.true_beq, Bool.false_beq, h3, fldA1, D6.to, wx, maxI, wm, aBin, aInts, aInt_eq]
      rfl
    refine W_skip ⟨fun _ => ?_, fun h => absurd rfl h⟩
    refine W_tail ?_
    repeat apply W_assoc
    apply W_reg
    · intro callf
      simp +decide only [aOps, rinit, aWanted, ↓bite_eq, ↓reduceIte, aStep_eq, aStepOld, aOp, opBox, opBin, opUn, opCall, opIndexAddr, opFieldAddr, opLoad, opStore, opPick, opExtract, opSlice, opBuildSlice, opBuild, aRow, aev, aevs, aparts, ann, unn, aPut, if_true, if_false, rget_rput, flat, flat1, Nat.blt_eq, aBuiltin, aLen, List.getElem?_toArray, List.getElem?_cons_zero, List.getElem?_cons_succ, Nat.zero_add, Option.bind_some, beq_self_eq_true, Bool.not_true, Bool.not_false, Bool.true_beq, Bool.false_beq, h24, w6, aBin, aInts, aInt_eq]
      rfl
    rw [← hkn2] at wm
    refine W_skip ⟨fun _ => ⟨0 + 1, ?_, ?_⟩, fun h => (nomatch h), fun h => absurd rfl h⟩
    · show l.length - (0 + 1) < l.length - 0
      omega
    · refine ⟨by show 0 + 1 ≤ _; omega, E6, ?_, ?_, ?_, ?_, ?_, ?_, ?_, ?_⟩ <;> simp +decide only [rget_rput, if_true, if_false, h5, h12, h13, h14, h22, h23, hkn2]
  have d6 : decide ((j : Int) > 0) = true := decide_eq_true (by omega)
  have w7 : IntKind.i64.wrap ((j : Int) - 1) = ((j - 1 : Nat) : Int) := by rw [wrap64_id _ (by omega) (by omega)]; omega
  obtain ⟨y, hy⟩ : ∃ y, l[j - 1]? = some y := ⟨l[j - 1]'(by omega), by simp [show j - 1 < l.length by omega]⟩
  have hneg := cmpA_asc hc2 hj0 hy hx
  have d7 : decide (cmpA y x ≥ 0) = false := decide_eq_false (by omega)
  obtain ⟨b3, off3, c3, hw3, hb3, hix3, hld5, -⟩ := hrow.at hy
  have hld6 := hld5 σ4.reset (E4.get b3 hb3)
  have ld4 := (D.ext (Ext.reset σ4)).load
  repeat apply W_assoc
  refine W_drw [] [] (by kernel_rfl) (by kernel_rfl) ?_
  apply Lg_pre 9
  · intro callf
    simp +decide only [List.take, aQ, memb, List.any_nil, List.any_cons, Bool.true_or, Bool.or_false, Bool.and_true, Bool.or_true, Bool.false_or, Bool.true_and, reset_merge, reset_reset, reset_next, reset_low, merge_next, merge_idem, new_low, ble_self, aOps, rinit, aWanted, ↓bite_eq, ↓reduceIte, aStep_eq, aStepOld, aOp, opBox, opBin, opUn, opCall, opIndexAddr, opFieldAddr, opLoad, opStore, opPick, opExtract, opSlice, opBuildSlice, opBuild, aRow, aev, aevs, aparts, ann, unn, aPut, if_true, if_false, rget_rput, flat, flat1, Nat.blt_eq, aBuiltin, aLen, List.getElem?_toArray, List.getElem?_cons_zero, List.getElem?_cons_succ, Nat.zero_add, Option.bind_some, beq_self_eq_true, Bool.not_true, Bool.not_false, Bool.true_beq, Bool.false_beq, h5, h24, d6, w7, hix3, hld6, ld4, aBin, aInts, aInt_eq]
    rfl
  dsimp only [List.drop, List.take, List.length]
  have E5 := E4.trans ((Ext.refl _).merge (σ := σ4))
  have D5 := D.ext ((Ext.refl _).merge (σ := σ4))
  generalize σ4.merge σ4.reset = σ5 at E5 D5
  refine Lg_fnG (vs := [vArc y, vArc x]) (by simp +decide only [aWanted, List.getElem?_toArray, List.getElem?_cons_zero, List.getElem?_cons_succ, Option.bind_some, rget_rput, if_true, if_false]) (by simp +decide only [aevs, aev, aResults, rget_rput, if_true, if_false]) (by decide) rfl (C.mono (cmpArc_c y x) ?_)
  rintro w s1 ⟨rfl, e6⟩
  refine ⟨e6.quiet, ?_⟩
  have E6 := E5.trans e6.merge
  have D6 := D5.ext e6.merge
  generalize σ5.merge s1 = σ6 at E6 D6
  have to6 := (D6.ext (Ext.reset σ6)).to
  apply Lg_all
  · intro callf
    simp +decide only [aQ, memb, List.any_nil, List.any_cons, Bool.true_or, Bool.or_false, Bool.and_true, Bool.or_true, Bool.false_or, Bool.true_and, reset_merge, reset_reset, reset_next, reset_low, merge_next, merge_idem, new_low, ble_self, aOps, rinit, aWanted, ↓bite_eq, ↓reduceIte, aStep_eq, aStepOld, aOp, opBox, opBin, opUn, opCall, opIndexAddr, opFieldAddr, opLoad, opStore, opPick, opExtract, opSlice, opBuildSlice, opBuild, aRow, aev, aevs, aparts, ann, unn, aPut, if_true, if_false, rget_rput, flat, flat1, Nat.blt_eq, aBuiltin, aLen, List.getElem?_toArray, List.getElem?_cons_zero, List.getElem?_cons_succ, Nat.zero_add, Option.bind_some, beq_self_eq_true, Bool.not_true, Bool.not_false, Bool.true_beq, Bool.false_beq, h3, d7, opPick, fldA1, to6, dx, aBin, aInts, aInt_eq]
    rfl
  have E7 := E6.trans ((Ext.refl _).merge (σ := σ6))
  have D7 := D6.ext ((Ext.refl _).merge (σ := σ6))
  generalize σ6.merge σ6.reset = σ7 at E7 D7
  repeat apply W_assoc
  refine W_if (b := false) ?_ ?_ ?_
  · simp +decide only [aevs, aev, aResults, rget_rput, if_true, if_false]
  · intro h; cases h
  intro _
  apply W_skipq
  repeat apply W_assoc
  apply W_reg
  · intro callf
    simp +decide only [aOps, rinit, aWanted, ↓bite_eq, ↓reduceIte, aStep_eq, aStepOld, aOp, opBox, opBin, opUn, opCall, opIndexAddr, opFieldAddr, opLoad, opStore, opPick, opExtract, opSlice, opBuildSlice, opBuild, aRow, aev, aevs, aparts, ann, unn, aPut, if_true, if_false, rget_rput, flat, flat1, Nat.blt_eq, aBuiltin, aLen, List.getElem?_toArray, List.getElem?_cons_zero, List.getElem?_cons_succ, Nat.zero_add, Option.bind_some, beq_self_eq_true, Bool.not_true, Bool.not_false, Bool.true_beq, Bool.false_beq, h3, fldA1, D7.to, wx, maxI, wm, aBin, aInts, aInt_eq]
    rfl
  refine W_skip ⟨fun _ => ?_, fun h => absurd rfl h⟩
  refine W_tail ?_
  repeat apply W_assoc
  apply W_reg
  · intro callf
    simp +decide only [aOps, rinit, aWanted, ↓bite_eq, ↓reduceIte, aStep_eq, aStepOld, aOp, opBox, opBin, opUn, opCall, opIndexAddr, opFieldAddr, opLoad, opStore, opPick, opExtract, opSlice, opBuildSlice, opBuild, aRow, aev, aevs, aparts, ann, unn, aPut, if_true, if_false, rget_rput, flat, flat1, Nat.blt_eq, aBuiltin, aLen, List.getElem?_toArray, List.getElem?_cons_zero, List.getElem?_cons_succ, Nat.zero_add, Option.bind_some, beq_self_eq_true, Bool.not_true, Bool.not_false, Bool.true_beq, Bool.false_beq, h24, w6, aBin, aInts, aInt_eq]
    rfl
  refine W_skip ⟨fun _ => ⟨j + 1, ?_, ?_⟩, fun h => (nomatch h), fun h => absurd rfl h⟩
  · show l.length - (j + 1) < l.length - j
    omega
  · refine ⟨by show j + 1 ≤ _; omega, E7, ?_, ?_, ?_, ?_, ?_, ?_, ?_, ?_⟩ <;> simp +decide only [rget_rput, if_true, if_false, h5, h12, h13, h14, h22, h23, hkn2]

end Go.Proofs.YtacpdefmnijhnaaGreat.U
