/- Contracts of the reference: valid systems, a path. -/
import Derived.Test.YtbknckiapcafdaaNestF
set_option linter.unusedSimpArgs false
set_option linter.unusedVariables false
namespace Go.Proofs.Ytbknckiapcafdaa.Nest
open Abs

end Go.Proofs.Ytbknckiapcafdaa.Nest

/- Contracts: a lasso, by the program and by the reference. -/
set_option linter.unusedSimpArgs false
set_option linter.unusedVariables false
namespace Go.Proofs.Ytbknckiapcafdaa.Nest
open Abs

/-- The reference's walk: where a path ends, or -1. -/
def walkF (L : Lts) (k : Nat) (l : List Arc) : Int := if (followF L k l).2 then ((followF L k l).1 : Int) else -1

/-- Is it a lasso? -/
def lassoB (L : Lts) (l m : List Arc) : Bool :=
  if validB L = true then (if m.length = 0 then false else if (m.any fun a => a.1 != 0) = true then false else
    if (followF L 0 l).2 = true then (followF L (followF L 0 l).1 m).2 && decide ((followF L 0 l).1 = (followF L (followF L 0 l).1 m).1) else false) else false

theorem valid_loose {L : Lts} (h : validB L = true) : looseB L = true := by
  unfold validB at h
  rw [Bool.and_eq_true] at h
  exact h.1
theorem loose_pos {L : Lts} (h : looseB L = true) : 0 < L.length := by
  unfold looseB at h
  simp only [Bool.and_eq_true, decide_eq_true_eq] at h
  omega
theorem loose_wf {L : Lts} (h : looseB L = true) (hz : Small L) : WF L := by
  refine ⟨hz.len, fun r hr => Nat.le_trans (hz.row r hr) (by decide), fun r hr a ha => ?_⟩
  unfold looseB at h
  simp only [Bool.and_eq_true, List.all_eq_true] at h
  have := h.2 r hr a ha
  unfold okA at this
  simp only [Bool.and_eq_true, decide_eq_true_eq] at this
  omega

set_option maxHeartbeats 4000000 in
theorem lasso_prog {σ : AS} {s p q : Value} {L : Lts} {l m : List Arc} (hs : RS 1 RRow σ s L) (hz : Small L) (hp : RS 2 RArc σ p l) (hl : l.length ≤ 2 ^ 62) (hq : RS 2 RArc σ q m) (hm : m.length ≤ 2 ^ 62) :
    C Try.prog Kn 0 19 [.agg #[s], p, q] σ fun v σ' => v = .bool (lassoB L l m) ∧ Ext σ σ' := by
  refine C_of (kn (by decide)) Try.func19 rfl (Nat.le_of_ble_eq_true rfl) ?_
  show W _ _ _ 41 _ _ _ _
  unfold Try.f19
  dsimp only
  repeat apply W_assoc
  apply W_reg
  · intro callf
    simp +decide only [aOps, rinit, aWanted, ↓bite_eq, ↓reduceIte, aStep_eq, aStepOld, aOp, opBox, aRow, aev, ann, aPut, rget_rput, Nat.zero_add]
    rfl
  have B := LtsAt.new hs
  have e1 := Ext.new σ ⟨1, 30, 0, (Value.agg #[s]).cells.toList, []⟩
  generalize σ.new ⟨1, 30, 0, (Value.agg #[s]).cells.toList, []⟩ = σ1 at B e1
  obtain ⟨pb, pc, rfl, -⟩ := id hp
  obtain ⟨qb, qc, rfl, -⟩ := id hq
  repeat apply W_assoc
  apply W_regL
  apply Ls_pre 1
  · intro callf
    simp +decide only [List.take, aOps, aWanted, ↓bite_eq, ↓reduceIte, aStep_eq, aStepOld, aOp, opLoad, aev, ann, aPut, rget_rput, B.load]
    rfl
  dsimp only [List.drop]
  refine Ls_fn (vs := [.agg #[s]]) (by simp +decide only [aevs, aev, rget_rput, if_true, if_false]) (by decide) (C.mono (valid_prog (hs.ext RRow.keeps e1) hz) ?_)
  rintro v σ' ⟨rfl, e0⟩
  have B := B.ext e0
  have e1 := e1.trans e0
  generalize σ' = σ1 at B e1
  by_cases hv : validB L = true
  rotate_left
  · have hv : validB L = false := by simpa using hv
    rw [hv]
    apply Ls_all
    · intro callf
      simp +decide only [aOps, aWanted, ↓bite_eq, ↓reduceIte, aStep_eq, aStepOld, aOp, opUn, opPick, aev, ann, aPut, rget_rput, List.getElem?_toArray, List.getElem?_cons_zero, List.getElem?_cons_succ, Option.bind_some, Bool.not_false, Bool.true_beq, not_b]
      rfl
    repeat apply W_assoc
    refine W_if (b := true) ?_ ?_ ?_
    · simp +decide only [aev, rget_rput, if_true, if_false]
    · intro _
      repeat apply W_assoc
      apply W_reg
      · intro callf
        simp +decide only [aOps, aWanted, ↓bite_eq, ↓reduceIte, aStep_eq, aStepOld, aOp, aev, ann, aPut]
        rfl
      refine W_retq ⟨Nat.le_refl _, [.bool false], ?_, ?_, e1⟩
      · simp +decide only [aResults, rget_rput, if_true, if_false]
      · simp only [aResult, lassoB, hv]; rfl
    · intro h; cases h
  rw [hv]
  have hw := loose_wf (valid_loose hv) hz
  have h0 := loose_pos (valid_loose hv)
  by_cases hn : m.length = 0
  · have d : ((m.length : Int) == 0) = true := by simp [hn]
    apply Ls_all
    · intro callf
      simp +decide only [aOps, aWanted, ↓bite_eq, ↓reduceIte, aStep_eq, aStepOld, aOp, opBin, opUn, opCall, opPick, aev, aevs, ann, aPut, rget_rput, aBuiltin, aLen, List.getElem?_toArray, List.getElem?_cons_zero, List.getElem?_cons_succ, Option.bind_some, beq_self_eq_true, Bool.not_true, not_b, goInt, Try.underlying22, d, aBin, aInts, aInt_eq]
      rfl
    repeat apply W_assoc
    refine W_if (b := true) ?_ ?_ ?_
    · simp +decide only [aev, rget_rput, if_true, if_false]
    · intro _
      repeat apply W_assoc
      apply W_reg
      · intro callf
        simp +decide only [aOps, aWanted, ↓bite_eq, ↓reduceIte, aStep_eq, aStepOld, aOp, aev, ann, aPut]
        rfl
      refine W_retq ⟨Nat.le_refl _, [.bool false], ?_, ?_, e1⟩
      · simp +decide only [aResults, rget_rput, if_true, if_false]
      · simp only [aResult, lassoB, hn, hv]; rfl
    · intro h; cases h
  have d : ((m.length : Int) == 0) = false := by simp [hn]
  apply Ls_all
  · intro callf
    simp +decide only [aOps, aWanted, ↓bite_eq, ↓reduceIte, aStep_eq, aStepOld, aOp, opBin, opUn, opCall, opPick, aev, aevs, ann, aPut, rget_rput, aBuiltin, aLen, List.getElem?_toArray, List.getElem?_cons_zero, List.getElem?_cons_succ, Option.bind_some, beq_self_eq_true, Bool.not_true, not_b, goInt, Try.underlying22, d, aBin, aInts, aInt_eq]
    rfl
  repeat apply W_assoc
  refine W_if (b := false) ?_ ?_ ?_
  · simp +decide only [aev, rget_rput, if_true, if_false]
  · intro h; cases h
  intro _
  apply W_skipq
  repeat apply W_assoc
  apply W_regL
  apply Ls_pre 1
  · intro callf
    simp +decide only [List.take, aOps, aWanted, ↓bite_eq, ↓reduceIte, aStep_eq, aStepOld, aOp, aev, ann, aPut, rget_rput]
    rfl
  dsimp only [List.drop]
  refine Ls_fn (vs := [.slice qb m.length qc, .func (.func 35) #[] #[]]) (by simp +decide only [aevs, aev, rget_rput, if_true, if_false]) (by decide) (C.mono (containsFunc (hq.ext RArc.keeps e1) hm) ?_)
  rintro v σ' ⟨rfl, e0⟩
  have B := B.ext e0
  have e1 := e1.trans e0
  generalize σ' = σ1 at B e1
  apply Ls_all
  · intro callf
    simp +decide only [aOps]
    rfl
  repeat apply W_assoc
  refine W_if (b := (m.any fun a => a.1 != 0)) ?_ ?_ ?_
  · simp +decide only [aev, rget_rput, if_true, if_false]
  · intro h
    repeat apply W_assoc
    apply W_reg
    · intro callf
      simp +decide only [aOps, aWanted, ↓bite_eq, ↓reduceIte, aStep_eq, aStepOld, aOp, aev, ann, aPut]
      rfl
    refine W_retq ⟨Nat.le_refl _, [.bool false], ?_, ?_, e1⟩
    · simp +decide only [aResults, rget_rput, if_true, if_false]
    · simp only [aResult, lassoB, hn, hv, h]; rfl
  intro ha
  apply W_skipq
  obtain ⟨k1, b1, hf⟩ : ∃ k1 b1, followF L 0 l = (k1, b1) := ⟨_, _, rfl⟩
  have F1 := follow (k := 0) (hs.ext RRow.keeps e1) hw h0 (hp.ext RArc.keeps e1) hl
  rw [hf] at F1
  repeat apply W_assoc
  apply W_regL
  apply Ls_pre 2
  · intro callf
    simp +decide only [List.take, aOps, aWanted, ↓bite_eq, ↓reduceIte, aStep_eq, aStepOld, aOp, opLoad, aev, ann, aPut, rget_rput, B.load]
    rfl
  dsimp only [List.drop]
  refine Ls_fn (vs := [.agg #[s], .int .i64 0, .slice pb l.length pc]) (by simp +decide only [aevs, aev, rget_rput, if_true, if_false]) (by decide) (C.mono (F1) ?_)
  rintro v σ' ⟨rfl, hk1, e0⟩
  have B := B.ext e0
  have e1 := e1.trans e0
  generalize σ' = σ1 at B e1
  apply Ls_all
  · intro callf
    simp +decide only [aOps, aWanted, ↓bite_eq, ↓reduceIte, aStep_eq, aStepOld, aOp, opExtract, aev, ann, aPut, rget_rput, List.getElem?_toArray, List.getElem?_cons_zero, List.getElem?_cons_succ]
    rfl
  repeat apply W_assoc
  apply W_reg
  · intro callf
    simp +decide only [aOps, aWanted, ↓bite_eq, ↓reduceIte, aStep_eq, aStepOld, aOp, opUn, aev, ann, aPut, rget_rput, flat, flat1, not_b]
    rfl
  repeat apply W_assoc
  refine W_if (b := (!b1)) ?_ ?_ ?_
  · simp +decide only [aev, rget_rput, if_true, if_false]
  · intro h
    have h : b1 = false := by simpa using h
    repeat apply W_assoc
    apply W_reg
    · intro callf
      simp +decide only [aOps, aWanted, ↓bite_eq, ↓reduceIte, aStep_eq, aStepOld, aOp, aev, ann, aPut]
      rfl
    refine W_retq ⟨Nat.le_refl _, [.bool false], ?_, ?_, e1⟩
    · simp +decide only [aResults, rget_rput, if_true, if_false]
    · simp only [aResult, lassoB, hn, hv, ha, hf, h]; rfl
  intro h
  have h : b1 = true := by simpa using h
  apply W_skipq
  obtain ⟨k2, b2, hg⟩ : ∃ k2 b2, followF L k1 m = (k2, b2) := ⟨_, _, rfl⟩
  have F2 := follow (k := k1) (hs.ext RRow.keeps e1) hw hk1 (hq.ext RArc.keeps e1) hm
  rw [hg] at F2
  repeat apply W_assoc
  apply W_regL
  apply Ls_pre 3
  · intro callf
    simp +decide only [List.take, aOps, aWanted, ↓bite_eq, ↓reduceIte, aStep_eq, aStepOld, aOp, opLoad, aev, ann, aPut, rget_rput, B.load]
    rfl
  dsimp only [List.drop]
  refine Ls_fn (vs := [.agg #[s], .int .i64 (k1 : Int), .slice qb m.length qc]) (by simp +decide only [aevs, aev, rget_rput, if_true, if_false]) (by decide) (C.mono (F2) ?_)
  rintro v σ' ⟨rfl, hk2, e0⟩
  have B := B.ext e0
  have e1 := e1.trans e0
  generalize σ' = σ1 at B e1
  apply Ls_all
  · intro callf
    simp +decide only [aOps, aWanted, ↓bite_eq, ↓reduceIte, aStep_eq, aStepOld, aOp, opExtract, aev, ann, aPut, rget_rput, List.getElem?_toArray, List.getElem?_cons_zero, List.getElem?_cons_succ]
    rfl
  have hr : lassoB L l m = (b2 && decide (k1 = k2)) := by
    unfold lassoB
    rw [if_pos hv, if_neg hn, if_neg (by rw [ha]; decide), hf]
    dsimp only
    rw [if_pos h, hg]
  cases b2 with
  | false =>
    repeat apply W_assoc
    apply W_reg
    · intro callf
      simp +decide only [aOps, aWanted, ↓bite_eq, ↓reduceIte, aStep_eq, aStepOld, aOp, opPick, aev, ann, aPut, rget_rput, List.getElem?_toArray, List.getElem?_cons_zero, List.getElem?_cons_succ, Option.bind_some, Bool.not_true, Bool.false_beq]
      rfl
    refine W_ret ⟨Nat.le_refl _, [.bool false], ?_, ?_, e1⟩
    · simp +decide only [aResults, rget_rput, if_true, if_false]
    · rw [hr]; rfl
  | true =>
    by_cases hk : k1 = k2
    · have d2 : ((k1 : Int) == (k2 : Int)) = true := by simp [hk]
      repeat apply W_assoc
      apply W_reg
      · intro callf
        simp +decide only [aOps, aWanted, ↓bite_eq, ↓reduceIte, aStep_eq, aStepOld, aOp, opBin, opPick, aev, ann, aPut, rget_rput, List.getElem?_toArray, List.getElem?_cons_zero, List.getElem?_cons_succ, Option.bind_some, beq_self_eq_true, d2, aBin, aInts, aInt_eq]
        rfl
      refine W_ret ⟨Nat.le_refl _, [.bool true], ?_, ?_, e1⟩
      · simp +decide only [aResults, rget_rput, if_true, if_false]
      · rw [hr]; simp [aResult, hk]
    · have d2 : ((k1 : Int) == (k2 : Int)) = false := by
        simp; omega
      repeat apply W_assoc
      apply W_reg
      · intro callf
        simp +decide only [aOps, aWanted, ↓bite_eq, ↓reduceIte, aStep_eq, aStepOld, aOp, opBin, opPick, aev, ann, aPut, rget_rput, List.getElem?_toArray, List.getElem?_cons_zero, List.getElem?_cons_succ, Option.bind_some, beq_self_eq_true, d2, aBin, aInts, aInt_eq]
        rfl
      refine W_ret ⟨Nat.le_refl _, [.bool false], ?_, ?_, e1⟩
      · simp +decide only [aResults, rget_rput, if_true, if_false]
      · rw [hr]; simp [aResult, hk]

namespace Abs2
open Abs
variable {P : Program} {K : Tbl} {G n : Nat} {ops : Array Oper} {r : Regs} {σ : AS} {l : List Oper}
/-- A call that stands under a guard. -/
theorem Ls_fnG {Q : Regs → AS → Prop} {d : Nat} {args : Array Operand} {ts : Array TypeId} {ty : TypeId} {pos : String} {aft : Array Edge} {fid : FuncId} {vs : List Value} {gd : Option (Nat × Bool)}
    (hw : aWanted ops r ⟨some d, .call ⟨.value (.func fid), args, ts⟩, ty, pos, aft, gd⟩ = true) (hv : aevs G r args.toList = some vs) (hd : d < n)
    (h : C P K G fid vs σ fun v σ' => Ls P K G n ops l (rput r d v) σ' Q) : Ls P K G n ops (⟨some d, .call ⟨.value (.func fid), args, ts⟩, ty, pos, aft, gd⟩ :: l) r σ Q :=
  Ls_cons hw (O_call (first := #[]) (captured := #[]) rfl hv (by
    have e : (#[] : Array Value).toList ++ vs ++ (#[] : Array Value).toList = vs := by simp
    rw [e]
    exact h.mono fun v σ' h => ⟨_, by simp only [aPut, bite_eq]; rw [if_pos (by rw [Nat.blt_eq]; exact hd)], h⟩))
theorem Lg_fnG {sj X : List Nat} {Q : Regs → AS → Prop} {k0 : Nat} {d : Nat} {args : Array Operand} {ts : Array TypeId} {ty : TypeId} {pos : String} {aft : Array Edge} {fid : FuncId} {vs : List Value} {gd : Option (Nat × Bool)}
    (hw : aWanted ops r ⟨some d, .call ⟨.value (.func fid), args, ts⟩, ty, pos, aft, gd⟩ = true) (hv : aevs G r args.toList = some vs) (hd : d < n) (hm : memb sj k0 = false)
    (h : C P K G fid vs σ.reset fun v s1 => σ.next ≤ s1.low ∧ Lg P K G n ops sj X (k0 + 1) l (rput r d v) (σ.merge s1) Q) :
    Lg P K G n ops sj X k0 (⟨some d, .call ⟨.value (.func fid), args, ts⟩, ty, pos, aft, gd⟩ :: l) r σ Q := by
  refine ⟨fun _ => O_call (first := #[]) (captured := #[]) rfl hv ?_, fun h => by rw [hw] at h; cases h⟩
  have e : (#[] : Array Value).toList ++ vs ++ (#[] : Array Value).toList = vs := by simp
  rw [e]
  exact h.mono fun v s1 ⟨h1, h2⟩ => ⟨⟨.inl h1, fun h => by rw [hm] at h; cases h⟩, _, by simp only [aPut, bite_eq]; rw [if_pos (by rw [Nat.blt_eq]; exact hd)], h2⟩
end Abs2
open Abs2

end Go.Proofs.Ytbknckiapcafdaa.Nest
