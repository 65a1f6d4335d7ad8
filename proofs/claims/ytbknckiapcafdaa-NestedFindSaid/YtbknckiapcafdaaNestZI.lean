/- Both searches find the same (functions 8, 12). -/
import Derived.Test.YtbknckiapcafdaaNestZH
set_option linter.unusedSimpArgs false
set_option linter.unusedVariables false
namespace Go.Proofs.Ytbknckiapcafdaa.Nest
open Abs Abs2

theorem beqSelf2 (xo yo : Operand) (c : Bool) : aBin Try.prog .eql 4 xo yo (.bool c) (.bool c) = some (.bool true) := by cases c <;> kernel_rfl
theorem eqSelf23 (xo yo : Operand) (a : Int) : aBin Try.prog .eql 23 xo yo (.int .i64 a) (.int .i64 a) = some (.bool true) := by
  simp only [aBin, aInts, aInt_eq, if_true, beq_self_eq_true]
theorem neqArc (xo yo : Operand) (x : Arc) : aBin Try.prog .neq 27 xo yo (vArc x) (vArc x) = some (.bool false) := by
  obtain ⟨a, b⟩ := x
  refine ((aBin_struct (b := true) Try.underlying27 (by kernel_rfl) rfl rfl ?_ (by kernel_rfl) xo yo).2).trans rfl
  have p1 : ∀ x y : Int, asPure Try.prog (part 3 #[.int .i64 x, .int .i64 y] 0) = some (.int .i64 x) := fun x y => by kernel_rfl
  have p2 : ∀ x y : Int, asPure Try.prog (part 3 #[.int .i64 x, .int .i64 y] 1) = some (.int .i64 y) := fun x y => by kernel_rfl
  simp only [eqFieldsO, p1, p2, Option.bind_some, asPure_equal_int 9998 _ _ Try.underlying3]
  simp

set_option maxHeartbeats 8000000 in
theorem same_c {σ : AS} {s t : Value} {l : List Arc} (hs : RS 2 RArc σ s l) (ht : RS 2 RArc σ t l) (hl : l.length ≤ 2 ^ 62) : C Try.prog Kn 0 8 [s, t] σ fun v σ' => v = .bool true ∧ Ext σ σ' := by
  obtain ⟨sb, sc, rfl, -⟩ := id hs
  obtain ⟨tb, tc, rfl, -⟩ := id ht
  have d0 : ((l.length : Int) != (l.length : Int)) = false := by rw [bne_eq_false_iff_eq]
  refine C_of (kn (by decide)) Try.func8 rfl (Nat.le_of_ble_eq_true rfl) ?_
  show W _ _ _ 26 _ _ _ _
  unfold Try.f8
  dsimp only
  repeat apply W_assoc
  apply W_reg
  · intro callf
    simp +decide only [aOps, rinit, aWanted, ↓bite_eq, ↓reduceIte, aStep_eq, aStepOld, aOp, aev, ann, aPut, Nat.zero_add]
    rfl
  repeat apply W_assoc
  apply W_reg
  · intro callf
    simp +decide only [aOps, aWanted, ↓bite_eq, ↓reduceIte, aStep_eq, aStepOld, aOp, opBin, opCall, aev, aevs, ann, aPut, rget_rput, aBuiltin, aLen, List.getElem?_toArray, List.getElem?_cons_zero, d0, Try.underlying22, goInt, aBin, aInts, aInt_eq]
    rfl
  repeat apply W_assoc
  refine W_if (b := false) ?_ ?_ ?_
  · simp +decide only [aev, rget_rput, if_true, if_false]
  · intro h; cases h
  intro _
  apply W_skipq
  repeat apply W_assoc
  apply W_reg
  · intro callf
    simp +decide only [aOps, aWanted, ↓bite_eq, ↓reduceIte, aStep_eq, aStepOld, aOp, aev, ann, aPut]
    rfl
  repeat apply W_assoc
  refine W_for (fun (j : Nat) r σ' => j ≤ l.length ∧ Ext σ σ' ∧ rget r 0 = .slice sb l.length sc ∧ rget r 1 = .slice tb l.length tc ∧ rget r 5 = .int .i64 (j : Int))
    (fun j => l.length - j) ?_ 0 ?_
  rotate_left
  · simp +decide only [rget_rput, if_true, if_false]
    refine ⟨Nat.zero_le _, Ext.refl _, ?_, ?_, ?_⟩ <;> first | exact True.intro | rfl
  rintro j r σ2 ⟨hj, e2, h0, h1, h5⟩
  by_cases hlt : j < l.length
  rotate_left
  · have d1 : decide ((j : Int) < (l.length : Int)) = false := decide_eq_false (by omega)
    repeat apply W_assoc
    apply W_reg
    · intro callf
      simp +decide only [aOps, aWanted, ↓bite_eq, ↓reduceIte, aStep_eq, aStepOld, aOp, opBin, opCall, aev, aevs, ann, aPut, rget_rput, aBuiltin, aLen, List.getElem?_toArray, List.getElem?_cons_zero, h0, h5, d1, Try.underlying22, goInt, aBin, aInts, aInt_eq]
      rfl
    repeat apply W_assoc
    refine W_if (b := false) ?_ ?_ ?_
    · simp +decide only [aev, rget_rput, if_true, if_false]
    · intro h; cases h
    intro _
    refine W_exitq ⟨fun h => (nomatch h), fun _ => ?_, fun h1 h2 => absurd rfl h2⟩
    repeat apply W_assoc
    apply W_reg
    · intro callf
      simp +decide only [aOps, aWanted, ↓bite_eq, ↓reduceIte, aStep_eq, aStepOld, aOp, aev, ann, aPut]
      rfl
    refine W_ret ⟨Nat.le_refl _, [.bool true], ?_, rfl, e2⟩
    simp +decide only [aResults, rget_rput, if_true, if_false]
  have d1 : decide ((j : Int) < (l.length : Int)) = true := decide_eq_true (by omega)
  repeat apply W_assoc
  apply W_reg
  · intro callf
    simp +decide only [aOps, aWanted, ↓bite_eq, ↓reduceIte, aStep_eq, aStepOld, aOp, opBin, opCall, aev, aevs, ann, aPut, rget_rput, aBuiltin, aLen, List.getElem?_toArray, List.getElem?_cons_zero, h0, h5, d1, Try.underlying22, goInt, aBin, aInts, aInt_eq]
    rfl
  repeat apply W_assoc
  refine W_if (b := true) ?_ ?_ ?_
  · simp +decide only [aev, rget_rput, if_true, if_false]
  rotate_left
  · intro h; cases h
  intro _
  apply W_skipq
  refine W_blk ?_
  obtain ⟨a, ha⟩ : ∃ a, l[j]? = some a := ⟨l[j], by simp [hlt]⟩
  obtain ⟨-, b1, off1, rfl, -, hat⟩ := arcOf hs ha
  obtain ⟨-, b2, off2, rfl, -, hat2⟩ := arcOf ht ha
  have eQ := e2.trans (Ext.reset σ2)
  repeat apply W_assoc
  refine W_drw [] [] (by kernel_rfl) (by kernel_rfl) ?_
  apply Lg_all
  · intro callf
    simp +decide only [aQ, memb, List.any_nil, Bool.true_or, Bool.and_true, reset_merge, reset_reset, reset_next, reset_low, merge_next, merge_idem, ble_self, aWanted, ↓bite_eq, ↓reduceIte, aStep_eq, aStepOld, aOp, opBin, opIndexAddr, opLoad, aev, ann, aPut, rget_rput, Nat.zero_add, Bool.not_false, h0, h1, h5, idx22 hlt, (hat _ eQ).1, (hat2 _ eQ).1, neqArc]
    rfl
  have e3 : Ext σ2 (σ2.merge σ2.reset) := (Ext.refl _).merge
  generalize σ2.merge σ2.reset = σ3 at e3
  refine W_tail ?_
  repeat apply W_assoc
  refine W_if (b := false) ?_ ?_ ?_
  · simp +decide only [aev, rget_rput, if_true, if_false]
  · intro h; cases h
  intro _
  apply W_skipq
  refine W_skip ⟨fun _ => ?_, fun h => absurd rfl h⟩
  refine W_tail ?_
  have w1 : IntKind.i64.wrap ((j : Int) + 1) = ((j + 1 : Nat) : Int) := by rw [wrap64_id _ (by omega) (by omega)]; omega
  repeat apply W_assoc
  apply W_reg
  · intro callf
    simp +decide only [aOps, aWanted, ↓bite_eq, ↓reduceIte, aStep_eq, aStepOld, aOp, opBin, aev, ann, aPut, rget_rput, h5, w1, aBin, aInts, aInt_eq]
    rfl
  refine W_skip ⟨fun _ => ⟨j + 1, ?_, ?_⟩, fun h => (nomatch h), fun h => absurd rfl h⟩
  · omega
  · refine ⟨by omega, e2.trans e3, ?_, ?_, ?_⟩ <;> simp +decide only [rget_rput, if_true, if_false, h0, h1]

set_option maxHeartbeats 8000000 in
theorem finds_c {σ : AS} {s : Value} {L : Lts} (hs : RS 1 RRow σ s L) (hz : Small L) (hN : L.length ≤ 400) : C Try.prog Kn 0 12 [.agg #[s]] σ fun v σ' => v = .bool true ∧ Ext σ σ' := by
  obtain ⟨sb, sc, rfl, -⟩ := id hs
  refine C_of (kn (by decide)) Try.func12 rfl (Nat.le_of_ble_eq_true rfl) ?_
  show W _ _ _ 43 _ _ _ _
  unfold Try.f12
  dsimp only
  have AT := LtsAt.new hs
  have e0 := Ext.new σ ⟨1, 30, 0, (Value.agg #[.slice sb L.length sc]).cells.toList, []⟩
  repeat apply W_assoc
  apply W_reg
  · intro callf
    simp +decide only [aOps, rinit, aWanted, ↓bite_eq, ↓reduceIte, aStep_eq, aStepOld, aOp, opBox, aRow, aev, ann, aPut, rget_rput]
    rfl
  generalize hb1 : σ.next = b1 at AT
  generalize σ.new ⟨1, 30, 0, (Value.agg #[.slice sb L.length sc]).cells.toList, []⟩ = σ1 at AT e0
  repeat apply W_assoc
  apply W_regL
  apply Ls_pre 1
  · intro callf
    simp +decide only [List.take, aOps, aWanted, ↓bite_eq, ↓reduceIte, aStep_eq, aStepOld, aOp, opLoad, aev, ann, aPut, rget_rput, AT.load]
    rfl
  dsimp only [List.drop]
  refine Ls_fn (vs := [.agg #[.slice sb L.length sc]]) (by simp +decide only [aevs, aev, rget_rput, if_true, if_false]) (by decide) (C.mono (find_prog AT.rd hz hN) ?_)
  rintro v σ' ⟨⟨pv, qv, rfl, P1, Q1, hl1, hl2⟩, e1⟩
  apply Ls_all
  · intro callf
    simp +decide only [aOps, aWanted, ↓bite_eq, ↓reduceIte, aStep_eq, aStepOld, aOp, opExtract, aev, ann, aPut, rget_rput, List.getElem?_toArray, List.getElem?_cons_zero, List.getElem?_cons_succ]
    rfl
  have AT := AT.ext e1
  have e0 := e0.trans e1
  generalize σ' = σ2 at AT e0 P1 Q1
  repeat apply W_assoc
  apply W_regL
  apply Ls_pre 1
  · intro callf
    simp +decide only [List.take, aOps, aWanted, ↓bite_eq, ↓reduceIte, aStep_eq, aStepOld, aOp, opLoad, aev, ann, aPut, rget_rput, AT.load]
    rfl
  dsimp only [List.drop]
  refine Ls_fn (vs := [.agg #[.slice sb L.length sc]]) (by simp +decide only [aevs, aev, rget_rput, if_true, if_false]) (by decide) (C.mono (find_ref AT.rd hz hN) ?_)
  rintro v σ' ⟨⟨pw, qw, rfl, P2, Q2, -, -⟩, e2⟩
  apply Ls_all
  · intro callf
    simp +decide only [aOps, aWanted, ↓bite_eq, ↓reduceIte, aStep_eq, aStepOld, aOp, opExtract, aev, ann, aPut, rget_rput, List.getElem?_toArray, List.getElem?_cons_zero, List.getElem?_cons_succ]
    rfl
  have P1 := P1.ext RArc.keeps e2
  have Q1 := Q1.ext RArc.keeps e2
  have e0 := e0.trans e2
  generalize σ' = σ3 at e0 P1 Q1 P2 Q2
  repeat apply W_assoc
  apply W_regL
  apply Ls_pre 11
  · intro callf
    simp +decide only [List.take, aOps, aWanted, ↓bite_eq, ↓reduceIte, aStep_eq, aStepOld, aOp, opBin, opPick, aev, ann, aPut, rget_rput, List.getElem?_toArray, List.getElem?_cons_zero, List.getElem?_cons_succ, Option.bind_some, beq_self_eq_true, beqSelf2, opPick, eqSelf23]
    rfl
  dsimp only [List.drop]
  refine Ls_fnG (vs := [pv, pw]) (by simp +decide only [aWanted, List.getElem?_toArray, List.getElem?_cons_zero, List.getElem?_cons_succ, Option.bind_some, rget_rput, if_true, if_false]) (by simp +decide only [aevs, aev, rget_rput, if_true, if_false]) (by decide) (C.mono (same_c P1 P2 (by omega)) ?_)
  rintro v σ' ⟨rfl, e3⟩
  have Q1 := Q1.ext RArc.keeps e3
  have Q2 := Q2.ext RArc.keeps e3
  have e0 := e0.trans e3
  generalize σ' = σ4 at e0 Q1 Q2
  apply Ls_pre 4
  · intro callf
    simp +decide only [List.take, aOps, aWanted, ↓bite_eq, ↓reduceIte, aStep_eq, aStepOld, aOp, opPick, aev, ann, aPut, rget_rput, List.getElem?_toArray, List.getElem?_cons_zero, List.getElem?_cons_succ, Option.bind_some, beq_self_eq_true, opPick]
    rfl
  dsimp only [List.drop]
  refine Ls_fnG (vs := [qv, qw]) (by simp +decide only [aWanted, List.getElem?_toArray, List.getElem?_cons_zero, List.getElem?_cons_succ, Option.bind_some, rget_rput, if_true, if_false]) (by simp +decide only [aevs, aev, rget_rput, if_true, if_false]) (by decide) (C.mono (same_c Q1 Q2 (by omega)) ?_)
  rintro v σ' ⟨rfl, e4⟩
  apply Ls_all
  · intro callf
    simp +decide only [aOps, aWanted, ↓bite_eq, ↓reduceIte, aStep_eq, aStepOld, aOp, opPick, aev, ann, aPut, rget_rput, opPick]
    rfl
  refine W_ret ⟨Nat.le_refl _, [.bool true], ?_, rfl, e0.trans e4⟩
  simp +decide only [aResults, rget_rput, if_true, if_false]

end Go.Proofs.Ytbknckiapcafdaa.Nest
