/- Contracts: is a system huge. -/
import Derived.Test.YtbknckiapcafdaaNestH
set_option linter.unusedSimpArgs false
set_option linter.unusedVariables false
namespace Go.Proofs.Ytbknckiapcafdaa.Nest
open Abs Abs2

set_option maxHeartbeats 4000000 in
theorem huge12 {σ : AS} {s : Value} {L : Lts} (hs : RS 1 RRow σ s L) (hz : Small L) : C Try.prog Kn 0 16 [.agg #[s]] σ fun v σ' => (∃ b, v = .bool b ∧ (b = false → L.length ≤ 12)) ∧ Ext σ σ' := by
  refine C_of (kn (by decide)) Try.func16 rfl (Nat.le_of_ble_eq_true rfl) ?_
  show W _ _ _ 32 _ _ _ _
  unfold Try.f16
  dsimp only
  repeat apply W_assoc
  apply W_reg
  · intro callf
    simp +decide only [aOps, rinit, aWanted, ↓bite_eq, ↓reduceIte, aStep_eq, aStepOld, aOp, opBox, aRow, aev, ann, aPut, rget_rput]
    rfl
  have B := LtsAt.new hs
  have e1 := Ext.new σ ⟨1, 30, 0, (Value.agg #[s]).cells.toList, []⟩
  generalize σ.new ⟨1, 30, 0, (Value.agg #[s]).cells.toList, []⟩ = σ1 at B e1
  obtain ⟨sb, sc, rfl, -⟩ := id hs
  repeat apply W_assoc
  apply W_reg
  · intro callf
    simp +decide only [aOps, aWanted, ↓bite_eq, ↓reduceIte, aStep_eq, aStepOld, aOp, aev, ann, aPut]
    rfl
  repeat apply W_assoc
  apply W_reg
  · intro callf
    simp +decide only [aOps, aWanted, ↓bite_eq, ↓reduceIte, aStep_eq, aStepOld, aOp, aev, ann, aPut]
    rfl
  repeat apply W_assoc
  refine W_for (fun (i : Nat) r σ' => i ≤ L.length ∧ Ext σ1 σ' ∧ rget r 1 = .pointer (some ⟨σ.next, 0, none⟩) ∧ (∃ k : Int, rget r 3 = .int .i64 k) ∧ rget r 4 = .int .i64 (i : Int))
    (fun i => L.length - i) ?_ 0 ?_
  rotate_left
  · simp +decide only [rget_rput, if_true, if_false]
    exact ⟨Nat.zero_le _, Ext.refl _, trivial, ⟨0, rfl⟩, rfl⟩
  rintro i r σ2 ⟨hi, e2, h1, ⟨k, h3⟩, h4⟩
  have B2 := B.ext e2
  by_cases hb : i < L.length
  rotate_left
  · have d : decide ((i : Int) < (L.length : Int)) = false := decide_eq_false (by omega)
    repeat apply W_assoc
    apply W_reg
    · intro callf
      simp +decide only [aOps, aWanted, ↓bite_eq, ↓reduceIte, aStep_eq, aStepOld, aOp, opBin, opCall, opFieldAddr, opLoad, opPick, aev, aevs, ann, aPut, rget_rput, aBuiltin, aLen, List.getElem?_toArray, List.getElem?_cons_zero, List.getElem?_cons_succ, Option.bind_some, Bool.not_true, Bool.false_beq, h1, h4, fldL, B2.out, Try.underlying28, goInt, d, aBin, aInts, aInt_eq]
      rfl
    repeat apply W_assoc
    refine W_if (b := false) ?_ ?_ ?_
    · simp +decide only [aev, rget_rput, if_true, if_false]
    · intro h; cases h
    intro _
    refine W_exitq ⟨fun h => (nomatch h), fun _ => ?_, fun h1 h2 => absurd rfl h2⟩
    by_cases hg : (L.length : Int) > 12
    · have d3 : decide ((L.length : Int) > 12) = true := decide_eq_true hg
      repeat apply W_assoc
      apply W_reg
      · intro callf
        simp +decide only [aOps, aWanted, ↓bite_eq, ↓reduceIte, aStep_eq, aStepOld, aOp, opBin, opCall, opFieldAddr, opLoad, opPick, aev, aevs, ann, aPut, rget_rput, aBuiltin, aLen, List.getElem?_toArray, List.getElem?_cons_zero, List.getElem?_cons_succ, Option.bind_some, Bool.true_beq, h1, fldL, B2.out, Try.underlying28, goInt, d3, aBin, aInts, aInt_eq]
        rfl
      refine W_ret ⟨Nat.le_refl _, [.bool (true)], ?_, ⟨_, rfl, fun h => by first | cases h | omega⟩, e1.trans e2⟩
      simp +decide only [aResults, rget_rput, if_true, if_false]
    · have d3 : decide ((L.length : Int) > 12) = false := decide_eq_false hg
      repeat apply W_assoc
      apply W_reg
      · intro callf
        simp +decide only [aOps, aWanted, ↓bite_eq, ↓reduceIte, aStep_eq, aStepOld, aOp, opBin, opCall, opFieldAddr, opLoad, opPick, aev, aevs, ann, aPut, rget_rput, aBuiltin, aLen, List.getElem?_toArray, List.getElem?_cons_zero, List.getElem?_cons_succ, Option.bind_some, beq_self_eq_true, h1, h3, fldL, B2.out, Try.underlying28, goInt, d3, aBin, aInts, aInt_eq]
        rfl
      refine W_ret ⟨Nat.le_refl _, [.bool (decide (k > 60))], ?_, ⟨_, rfl, fun h => by first | cases h | omega⟩, e1.trans e2⟩
      simp +decide only [aResults, rget_rput, if_true, if_false]
  have d : decide ((i : Int) < (L.length : Int)) = true := decide_eq_true (by omega)
  by_cases hk : k ≤ 60
  rotate_left
  · have d2 : decide (k ≤ 60) = false := decide_eq_false hk
    repeat apply W_assoc
    apply W_reg
    · intro callf
      simp +decide only [aOps, aWanted, ↓bite_eq, ↓reduceIte, aStep_eq, aStepOld, aOp, opBin, opCall, opFieldAddr, opLoad, opPick, aev, aevs, ann, aPut, rget_rput, aBuiltin, aLen, List.getElem?_toArray, List.getElem?_cons_zero, List.getElem?_cons_succ, Option.bind_some, beq_self_eq_true, h1, h3, h4, fldL, B2.out, Try.underlying28, goInt, d, d2, aBin, aInts, aInt_eq]
      rfl
    repeat apply W_assoc
    refine W_if (b := false) ?_ ?_ ?_
    · simp +decide only [aev, rget_rput, if_true, if_false]
    · intro h; cases h
    intro _
    refine W_exitq ⟨fun h => (nomatch h), fun _ => ?_, fun h1 h2 => absurd rfl h2⟩
    by_cases hg : (L.length : Int) > 12
    · have d3 : decide ((L.length : Int) > 12) = true := decide_eq_true hg
      repeat apply W_assoc
      apply W_reg
      · intro callf
        simp +decide only [aOps, aWanted, ↓bite_eq, ↓reduceIte, aStep_eq, aStepOld, aOp, opBin, opCall, opFieldAddr, opLoad, opPick, aev, aevs, ann, aPut, rget_rput, aBuiltin, aLen, List.getElem?_toArray, List.getElem?_cons_zero, List.getElem?_cons_succ, Option.bind_some, Bool.true_beq, h1, fldL, B2.out, Try.underlying28, goInt, d3, aBin, aInts, aInt_eq]
        rfl
      refine W_ret ⟨Nat.le_refl _, [.bool (true)], ?_, ⟨_, rfl, fun h => by first | cases h | omega⟩, e1.trans e2⟩
      simp +decide only [aResults, rget_rput, if_true, if_false]
    · have d3 : decide ((L.length : Int) > 12) = false := decide_eq_false hg
      repeat apply W_assoc
      apply W_reg
      · intro callf
        simp +decide only [aOps, aWanted, ↓bite_eq, ↓reduceIte, aStep_eq, aStepOld, aOp, opBin, opCall, opFieldAddr, opLoad, opPick, aev, aevs, ann, aPut, rget_rput, aBuiltin, aLen, List.getElem?_toArray, List.getElem?_cons_zero, List.getElem?_cons_succ, Option.bind_some, beq_self_eq_true, h1, h3, fldL, B2.out, Try.underlying28, goInt, d3, aBin, aInts, aInt_eq]
        rfl
      refine W_ret ⟨Nat.le_refl _, [.bool (decide (k > 60))], ?_, ⟨_, rfl, fun h => by first | cases h | omega⟩, e1.trans e2⟩
      simp +decide only [aResults, rget_rput, if_true, if_false]
  have d2 : decide (k ≤ 60) = true := decide_eq_true hk
  obtain ⟨row, hrow⟩ : ∃ row, L[i]? = some row := ⟨L[i], by simp [hb]⟩
  have hrm : row ∈ L := List.mem_of_getElem? hrow
  obtain ⟨-, rb, roff, rv, rfl, hrb, hrl, hrs⟩ := rowOf B.rd hrow
  obtain ⟨vb, vc, rfl, -⟩ := id hrs
  repeat apply W_assoc
  apply W_reg
  · intro callf
    simp +decide only [aOps, aWanted, ↓bite_eq, ↓reduceIte, aStep_eq, aStepOld, aOp, opBin, opCall, opFieldAddr, opLoad, opPick, aev, aevs, ann, aPut, rget_rput, aBuiltin, aLen, List.getElem?_toArray, List.getElem?_cons_zero, List.getElem?_cons_succ, Option.bind_some, beq_self_eq_true, h1, h3, h4, fldL, B2.out, Try.underlying28, goInt, d, d2, aBin, aInts, aInt_eq]
    rfl
  repeat apply W_assoc
  refine W_if (b := true) ?_ ?_ ?_
  · simp +decide only [aev, rget_rput, if_true, if_false]
  rotate_left
  · intro h; cases h
  intro _
  apply W_skipq
  refine W_blk ?_
  refine W_tail ?_
  repeat apply W_assoc
  apply W_reg
  · intro callf
    simp +decide only [aOps, aWanted, ↓bite_eq, ↓reduceIte, aStep_eq, aStepOld, aOp, opBin, opCall, opIndexAddr, opFieldAddr, opLoad, aev, aevs, ann, aPut, rget_rput, aBuiltin, aLen, List.getElem?_toArray, List.getElem?_cons_zero, h1, h3, h4, fldL, B2.out, idx28 hb, hrl σ2 e2, Try.underlying22, goInt, aBin, aInts, aInt_eq]
    rfl
  refine W_skip ⟨fun _ => ?_, fun h => absurd rfl h⟩
  refine W_tail ?_
  repeat apply W_assoc
  apply W_reg
  · intro callf
    simp +decide only [aOps, aWanted, ↓bite_eq, ↓reduceIte, aStep_eq, aStepOld, aOp, opBin, aev, ann, aPut, rget_rput, h4, wrap_add hb hz.len, aBin, aInts, aInt_eq]
    rfl
  refine W_skip ⟨fun _ => ⟨i + 1, ?_, ?_⟩, fun h => (nomatch h), fun h => absurd rfl h⟩
  · omega
  · simp +decide only [rget_rput, if_true, if_false, h1]
    exact ⟨by omega, e2, trivial, ⟨_, rfl⟩, trivial⟩

theorem huge {σ : AS} {s : Value} {L : Lts} (hs : RS 1 RRow σ s L) (hz : Small L) : C Try.prog Kn 0 16 [.agg #[s]] σ fun v σ' => (∃ b, v = .bool b) ∧ Ext σ σ' := (huge12 hs hz).mono fun _ _ ⟨⟨b, h1, _⟩, h2⟩ => ⟨⟨b, h1⟩, h2⟩

end Go.Proofs.Ytbknckiapcafdaa.Nest
