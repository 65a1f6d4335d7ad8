/- Contracts: a lasso, by the program and by the reference. -/
import Derived.Test.YtbknckiapcafdaaNestG
set_option linter.unusedSimpArgs false
set_option linter.unusedVariables false
namespace Go.Proofs.Ytbknckiapcafdaa.Nest
open Abs

/-- The reference's walk: where a path ends, or -1. -/
def walkF (L : Lts) (k : Nat) (l : List Arc) : Int := if (followF L k l).2 then ((followF L k l).1 : Int) else -1

set_option maxHeartbeats 4000000 in
theorem walk {σ : AS} {s p : Value} {L : Lts} {l : List Arc} {k : Nat} (hs : RS 1 RRow σ s L) (hw : WF L) (hk : k < L.length) (hp : RS 2 RArc σ p l) (hl : l.length ≤ 2 ^ 62) :
    C Try.prog Kn 0 37 [.agg #[s], .int .i64 (k : Int), p] σ fun v σ' => v = .int .i64 (walkF L k l) ∧ Ext σ σ' := by
  refine C_of (kn (by decide)) Try.func37 rfl (Nat.le_of_ble_eq_true rfl) ?_
  show W _ _ _ 50 _ _ _ _
  unfold Try.f37
  dsimp only
  repeat apply W_assoc
  apply W_reg
  · intro callf
    simp +decide only [aOps, rinit, aWanted, ↓bite_eq, ↓reduceIte, aStep_eq, aStepOld, aOp, opBox, aRow, aev, ann, aPut, rget_rput, Nat.zero_add]
    rfl
  have B := LtsAt.new hs
  have e1 := Ext.new σ ⟨1, 30, 0, (Value.agg #[s]).cells.toList, []⟩
  have P1 := hp.ext RArc.keeps e1
  generalize σ.new ⟨1, 30, 0, (Value.agg #[s]).cells.toList, []⟩ = σ1 at B e1 P1
  obtain ⟨base, cap, rfl, -⟩ := id hp
  obtain ⟨sb, sc, rfl, -⟩ := id hs
  repeat apply W_assoc
  apply W_reg
  · intro callf
    simp +decide only [aOps, aWanted, ↓bite_eq, ↓reduceIte, aStep_eq, aStepOld, aOp, aev, ann, aPut]
    rfl
  repeat apply W_assoc
  refine W_for (fun (x : Nat × Nat) r σ' => x.1 ≤ l.length ∧ x.2 < L.length ∧ Ext σ1 σ' ∧ rget r 1 = .int .i64 (x.2 : Int) ∧ rget r 2 = .slice base l.length cap ∧ rget r 3 = .pointer (some ⟨σ.next, 0, none⟩) ∧ rget r 7 = .int .i64 (x.1 : Int) ∧ followF L k l = followF L x.2 (l.drop x.1))
    (fun x => l.length - x.1) ?_ (0, k) ?_
  rotate_left
  · simp +decide only [rget_rput, if_true, if_false]
    exact ⟨Nat.zero_le _, hk, Ext.refl _, trivial, trivial, trivial, rfl, rfl⟩
  rintro ⟨i, j⟩ r σ2 ⟨hi, hj, e2, h1, h2, h3, h7, hf⟩
  dsimp only at hi hj h1 h7 hf
  repeat apply W_assoc
  apply W_reg
  · intro callf
    simp +decide only [aOps, aWanted, ↓bite_eq, ↓reduceIte, aStep_eq, aStepOld, aOp, opBin, opCall, aev, aevs, ann, aPut, rget_rput, aBuiltin, aLen, List.getElem?_toArray, List.getElem?_cons_zero, h2, h7, Try.underlying22, goInt, aBin, aInts, aInt_eq]
    rfl
  repeat apply W_assoc
  refine W_if (b := decide ((i : Int) < (l.length : Int))) ?_ ?_ ?_
  · simp +decide only [aev, rget_rput, if_true, if_false]
  rotate_left
  · intro hb
    have hb : i = l.length := by
      have := of_decide_eq_false hb
      omega
    refine W_exitq ⟨fun h => (nomatch h), fun _ => ?_, fun h1 h2 => absurd rfl h2⟩
    repeat apply W_assoc
    apply W_reg
    · intro callf
      simp +decide only [aOps, aWanted, ↓bite_eq, ↓reduceIte, aStep_eq, aStepOld, aOp, aev, ann, aPut, rget_rput, h1]
      rfl
    subst hb
    rw [List.drop_length] at hf
    refine W_ret ⟨Nat.le_refl _, [.int .i64 (j : Int)], ?_, ?_, e1.trans e2⟩
    · simp +decide only [aResults, rget_rput, if_true, if_false]
    · unfold walkF; rw [hf]; rfl
  intro hb
  have hb : i < l.length := by
    have := of_decide_eq_true hb
    omega
  apply W_skipq
  refine W_blk ?_
  obtain ⟨y, hy⟩ : ∃ y, l[i]? = some y := ⟨l[i], by simp [hb]⟩
  obtain ⟨-, b, off, rfl, hbl, hat⟩ := arcOf P1 hy
  obtain ⟨row, hrow⟩ : ∃ row, L[j]? = some row := ⟨L[j], by simp [hj]⟩
  have hrm : row ∈ L := List.mem_of_getElem? hrow
  obtain ⟨-, rb, roff, rv, rfl, hrb, hrl, hrs⟩ := rowOf B.rd hrow
  obtain ⟨vb, vc, rfl, -⟩ := id hrs
  repeat apply W_assoc
  apply W_reg
  · intro callf
    simp +decide only [aOps, aWanted, ↓bite_eq, ↓reduceIte, aStep_eq, aStepOld, aOp, aev, ann, aPut]
    rfl
  repeat apply W_assoc
  apply W_reg
  · intro callf
    simp +decide only [aOps, aWanted, ↓bite_eq, ↓reduceIte, aStep_eq, aStepOld, aOp, aev, ann, aPut]
    rfl
  repeat apply W_assoc
  refine W_for (fun (m : Nat) r σ' => m ≤ row.length ∧ Ext σ1 σ' ∧ rget r 1 = .int .i64 (j : Int) ∧ rget r 2 = .slice (some ⟨b, off, none⟩) l.length cap ∧ rget r 3 = .pointer (some ⟨σ.next, 0, none⟩) ∧ rget r 7 = .int .i64 (i : Int) ∧ rget r 8 = .bool (decide (y ∈ row.take m)) ∧ rget r 9 = .int .i64 (m : Int))
    (fun m => row.length - m) ?_ 0 ?_
  rotate_left
  · simp +decide only [rget_rput, if_true, if_false, h1, h2, h3, h7]
    exact ⟨Nat.zero_le _, e2, trivial, trivial, trivial, trivial, by simp, rfl⟩
  rintro m r σ3 ⟨hm, e3, h1, h2, h3, h7, h8, h9⟩
  have B3 := B.ext e3
  repeat apply W_assoc
  apply W_reg
  · intro callf
    simp +decide only [aOps, aWanted, ↓bite_eq, ↓reduceIte, aStep_eq, aStepOld, aOp, opBin, opCall, opIndexAddr, opFieldAddr, opLoad, aev, aevs, ann, aPut, rget_rput, aBuiltin, aLen, List.getElem?_toArray, List.getElem?_cons_zero, h1, h3, h9, fldL, B3.out, idx28 hj, hrl σ3 e3, Try.underlying22, goInt, aBin, aInts, aInt_eq]
    rfl
  repeat apply W_assoc
  refine W_if (b := decide ((m : Int) < (row.length : Int))) ?_ ?_ ?_
  · simp +decide only [aev, rget_rput, if_true, if_false]
  rotate_left
  · intro hb
    have hb : m = row.length := by
      have := of_decide_eq_false hb
      omega
    subst hb
    rw [List.take_length] at h8
    refine W_exitq ⟨fun h => (nomatch h), fun _ => ?_, fun h1 h2 => absurd rfl h2⟩
    repeat apply W_assoc
    apply W_reg
    · intro callf
      simp +decide only [aOps, aWanted, ↓bite_eq, ↓reduceIte, aStep_eq, aStepOld, aOp, opUn, aev, ann, aPut, rget_rput, flat, flat1, h8, not_b]
      rfl
    repeat apply W_assoc
    refine W_if (b := (!decide (y ∈ row))) ?_ ?_ ?_
    · simp +decide only [aev, rget_rput, if_true, if_false]
    · intro h
      have h : y ∉ row := by simpa using h
      repeat apply W_assoc
      apply W_reg
      · intro callf
        simp +decide only [aOps, aWanted, ↓bite_eq, ↓reduceIte, aStep_eq, aStepOld, aOp, aev, ann, aPut]
        rfl
      refine W_retq ⟨fun h => (nomatch h), fun _ _ => ⟨fun h => (nomatch h), fun h => (nomatch h), fun _ _ => ⟨Nat.le_refl _, [.int .i64 (-1)], ?_, ?_, e1.trans e3⟩⟩⟩
      · simp +decide only [aResults, rget_rput, if_true, if_false]
      · unfold walkF; rw [hf, followF_stop hy (by rw [rowD hrow]; exact h)]; rfl
    · intro h
      have h : y ∈ row := by simpa using h
      obtain ⟨t1, t2⟩ := hw.to row (List.mem_of_getElem? hrow) y h
      apply W_skipq
      refine W_tail ?_
      repeat apply W_assoc
      apply W_reg
      · intro callf
        simp +decide only [aOps, aWanted, ↓bite_eq, ↓reduceIte, aStep_eq, aStepOld, aOp, opIndexAddr, opFieldAddr, opLoad, aev, ann, aPut, rget_rput, h2, h7, idx22 ‹i < l.length›, fld1, (hat σ3 e3).2.2]
        rfl
      refine W_skip ⟨fun _ => ?_, fun h => absurd rfl h⟩
      refine W_tail ?_
      repeat apply W_assoc
      apply W_reg
      · intro callf
        simp +decide only [aOps, aWanted, ↓bite_eq, ↓reduceIte, aStep_eq, aStepOld, aOp, opBin, aev, ann, aPut, rget_rput, h7, wrap_add ‹i < l.length› hl, aBin, aInts, aInt_eq]
        rfl
      refine W_skip ⟨fun _ => ⟨(i + 1, y.2.toNat), ?_, ?_⟩, fun h => (nomatch h), fun h => absurd rfl h⟩
      · show l.length - (i + 1) < l.length - i
        omega
      · simp +decide only [rget_rput, if_true, if_false, h2, h3]
        refine ⟨by omega, by omega, e3, ?_, trivial, trivial, trivial, ?_⟩
        · rw [Int.toNat_of_nonneg t1]
        · rw [hf, followF_step hy (by rw [rowD hrow]; exact h)]
  intro hb
  have hb : m < row.length := by
    have := of_decide_eq_true hb
    omega
  apply W_skipq
  refine W_blk ?_
  obtain ⟨x, hx⟩ : ∃ x, row[m]? = some x := ⟨row[m], by simp [hb]⟩
  obtain ⟨-, xb, xoff, rfl, hxl, hax⟩ := arcOf hrs hx
  refine W_tail ?_
  have htk : row.take (m + 1) = row.take m ++ [x] := by rw [List.take_add_one, hx]; rfl
  have E3 := e3.trans (Ext.reset _)
  have e4 := e3.trans ((Ext.refl _).merge (σ := σ3))
  by_cases hc : y ∈ row.take m
  · rw [decide_eq_true hc] at h8
    repeat apply W_assoc
    refine W_drw [] [] (by kernel_rfl) (by kernel_rfl) ?_
    apply Lg_all
    · intro callf
      simp +decide only [aQ, memb, List.any_nil, Bool.true_or, Bool.and_true, reset_merge, reset_reset, reset_next, reset_low, merge_next, merge_idem, ble_self, aWanted, ↓bite_eq, ↓reduceIte, aStep_eq, aStepOld, aOp, opPick, aev, ann, aPut, rget_rput, List.getElem?_toArray, List.getElem?_cons_zero, List.getElem?_cons_succ, Nat.zero_add, Option.bind_some, Bool.not_false, Bool.true_beq, h8]
      rfl
    generalize σ3.merge σ3.reset = σ4 at e4
    refine W_skip ⟨fun _ => ?_, fun h => absurd rfl h⟩
    refine W_tail ?_
    repeat apply W_assoc
    apply W_reg
    · intro callf
      simp +decide only [aOps, aWanted, ↓bite_eq, ↓reduceIte, aStep_eq, aStepOld, aOp, opBin, aev, ann, aPut, rget_rput, h9, wrap_add hb (hw.row row hrm), aBin, aInts, aInt_eq]
      rfl
    refine W_skip ⟨fun _ => ⟨m + 1, ?_, ?_⟩, fun h => (nomatch h), fun h => absurd rfl h⟩
    · omega
    · simp +decide only [rget_rput, if_true, if_false, h1, h2, h3, h7]
      refine ⟨by omega, e4, trivial, trivial, trivial, trivial, ?_, trivial⟩
      rw [htk, decide_eq_true (List.mem_append_left _ hc)]
  · rw [decide_eq_false hc] at h8
    repeat apply W_assoc
    refine W_drw [] [] (by kernel_rfl) (by kernel_rfl) ?_
    apply Lg_all
    · intro callf
      simp +decide only [aQ, memb, List.any_nil, Bool.true_or, Bool.and_true, reset_merge, reset_reset, reset_next, reset_low, merge_next, merge_idem, ble_self, aWanted, ↓bite_eq, ↓reduceIte, aStep_eq, aStepOld, aOp, opBin, opIndexAddr, opFieldAddr, opLoad, opPick, aev, ann, aPut, rget_rput, List.getElem?_toArray, List.getElem?_cons_zero, List.getElem?_cons_succ, Nat.zero_add, Option.bind_some, beq_self_eq_true, Bool.not_false, h1, h2, h3, h7, h8, h9, fldL, (B3.ext (Ext.reset _)).out, idx28 hj, hrl _ E3, idx22 ‹i < l.length›, idx22 hb, (hax _ E3).1, (hat _ E3).1, eqArc]
      rfl
    generalize σ3.merge σ3.reset = σ4 at e4
    refine W_skip ⟨fun _ => ?_, fun h => absurd rfl h⟩
    refine W_tail ?_
    repeat apply W_assoc
    apply W_reg
    · intro callf
      simp +decide only [aOps, aWanted, ↓bite_eq, ↓reduceIte, aStep_eq, aStepOld, aOp, opBin, aev, ann, aPut, rget_rput, h9, wrap_add hb (hw.row row hrm), aBin, aInts, aInt_eq]
      rfl
    refine W_skip ⟨fun _ => ⟨m + 1, ?_, ?_⟩, fun h => (nomatch h), fun h => absurd rfl h⟩
    · omega
    · simp +decide only [rget_rput, if_true, if_false, h1, h2, h3, h7]
      refine ⟨by omega, e4, trivial, trivial, trivial, trivial, ?_, trivial⟩
      rw [htk]
      congr 1
      rw [Bool.eq_iff_iff, decide_eq_true_eq, decide_eq_true_eq, List.mem_append, List.mem_singleton]
      exact ⟨fun h => .inr h.symm, fun h => h.elim (fun h => absurd h hc) (fun h => h.symm)⟩

/-- Is it a lasso? -/
def lassoB (L : Lts) (l m : List Arc) : Bool :=
  if validB L = true then (if m.length = 0 then false else if (m.any fun a => a.1 != 0) = true then false else
    if (followF L 0 l).2 = true then (followF L (followF L 0 l).1 m).2 && decide ((followF L 0 l).1 = (followF L (followF L 0 l).1 m).1) else false) else false

theorem followF_lt {L : Lts} (hw : WF L) : ∀ {l : List Arc} {k : Nat}, k < L.length → (followF L k l).1 < L.length
  | [], k, h => h
  | a :: l, k, h => by
    rw [followF]
    by_cases hm : a ∈ L.getD k []
    · rw [if_pos hm]
      have hr : L.getD k [] ∈ L := by
        rw [List.getD_eq_getElem?_getD, List.getElem?_eq_getElem h]
        exact List.getElem_mem h
      have := hw.to _ hr a hm
      exact followF_lt hw (by omega)
    · rw [if_neg hm]; exact h
theorem valid_loose {L : Lts} (h : validB L = true) : looseB L = true := by
  unfold validB at h
  rw [Bool.and_eq_true] at h
  exact h.1
theorem loose_pos {L : Lts} (h : looseB L = true) : 0 < L.length := by
  unfold looseB at h
  simp only [Bool.and_eq_true, decide_eq_true_eq] at h
  omega
theorem loose_wf {L : Lts} (h : looseB L = true) (hz : Small L) : WF L := by
  refine ⟨hz.len, fun r hr => Nat.le_trans (hz.row r hr) (by decide), fun r hr a ha => ?_⟩
  unfold looseB at h
  simp only [Bool.and_eq_true, List.all_eq_true] at h
  have := h.2 r hr a ha
  unfold okA at this
  simp only [Bool.and_eq_true, decide_eq_true_eq] at this
  omega

set_option maxHeartbeats 4000000 in
theorem lasso_prog {σ : AS} {s p q : Value} {L : Lts} {l m : List Arc} (hs : RS 1 RRow σ s L) (hz : Small L) (hp : RS 2 RArc σ p l) (hl : l.length ≤ 2 ^ 62) (hq : RS 2 RArc σ q m) (hm : m.length ≤ 2 ^ 62) :
    C Try.prog Kn 0 19 [.agg #[s], p, q] σ fun v σ' => v = .bool (lassoB L l m) ∧ Ext σ σ' := by
  refine C_of (kn (by decide)) Try.func19 rfl (Nat.le_of_ble_eq_true rfl) ?_
  show W _ _ _ 41 _ _ _ _
  unfold Try.f19
  dsimp only
  repeat apply W_assoc
  apply W_reg
  · intro callf
    simp +decide only [aOps, rinit, aWanted, ↓bite_eq, ↓reduceIte, aStep_eq, aStepOld, aOp, opBox, aRow, aev, ann, aPut, rget_rput, Nat.zero_add]
    rfl
  have B := LtsAt.new hs
  have e1 := Ext.new σ ⟨1, 30, 0, (Value.agg #[s]).cells.toList, []⟩
  generalize σ.new ⟨1, 30, 0, (Value.agg #[s]).cells.toList, []⟩ = σ1 at B e1
  obtain ⟨pb, pc, rfl, -⟩ := id hp
  obtain ⟨qb, qc, rfl, -⟩ := id hq
  repeat apply W_assoc
  apply W_regL
  apply Ls_pre 1
  · intro callf
    simp +decide only [List.take, aOps, aWanted, ↓bite_eq, ↓reduceIte, aStep_eq, aStepOld, aOp, opLoad, aev, ann, aPut, rget_rput, B.load]
    rfl
  dsimp only [List.drop]
  refine Ls_fn (vs := [.agg #[s]]) (by simp +decide only [aevs, aev, rget_rput, if_true, if_false]) (by decide) (C.mono (valid_prog (hs.ext RRow.keeps e1) hz) ?_)
  rintro v σ' ⟨rfl, e0⟩
  have B := B.ext e0
  have e1 := e1.trans e0
  generalize σ' = σ1 at B e1
  by_cases hv : validB L = true
  rotate_left
  · have hv : validB L = false := by simpa using hv
    rw [hv]
    apply Ls_all
    · intro callf
      simp +decide only [aOps, aWanted, ↓bite_eq, ↓reduceIte, aStep_eq, aStepOld, aOp, opUn, opPick, aev, ann, aPut, rget_rput, List.getElem?_toArray, List.getElem?_cons_zero, List.getElem?_cons_succ, Option.bind_some, Bool.not_false, Bool.true_beq, not_b]
      rfl
    repeat apply W_assoc
    refine W_if (b := true) ?_ ?_ ?_
    · simp +decide only [aev, rget_rput, if_true, if_false]
    · intro _
      repeat apply W_assoc
      apply W_reg
      · intro callf
        simp +decide only [aOps, aWanted, ↓bite_eq, ↓reduceIte, aStep_eq, aStepOld, aOp, aev, ann, aPut]
        rfl
      refine W_retq ⟨Nat.le_refl _, [.bool false], ?_, ?_, e1⟩
      · simp +decide only [aResults, rget_rput, if_true, if_false]
      · simp only [aResult, lassoB, hv]; rfl
    · intro h; cases h
  rw [hv]
  have hw := loose_wf (valid_loose hv) hz
  have h0 := loose_pos (valid_loose hv)
  by_cases hn : m.length = 0
  · have d : ((m.length : Int) == 0) = true := by simp [hn]
    apply Ls_all
    · intro callf
      simp +decide only [aOps, aWanted, ↓bite_eq, ↓reduceIte, aStep_eq, aStepOld, aOp, opBin, opUn, opCall, opPick, aev, aevs, ann, aPut, rget_rput, aBuiltin, aLen, List.getElem?_toArray, List.getElem?_cons_zero, List.getElem?_cons_succ, Option.bind_some, beq_self_eq_true, Bool.not_true, not_b, goInt, Try.underlying22, d, aBin, aInts, aInt_eq]
      rfl
    repeat apply W_assoc
    refine W_if (b := true) ?_ ?_ ?_
    · simp +decide only [aev, rget_rput, if_true, if_false]
    · intro _
      repeat apply W_assoc
      apply W_reg
      · intro callf
        simp +decide only [aOps, aWanted, ↓bite_eq, ↓reduceIte, aStep_eq, aStepOld, aOp, aev, ann, aPut]
        rfl
      refine W_retq ⟨Nat.le_refl _, [.bool false], ?_, ?_, e1⟩
      · simp +decide only [aResults, rget_rput, if_true, if_false]
      · simp only [aResult, lassoB, hn, hv]; rfl
    · intro h; cases h
  have d : ((m.length : Int) == 0) = false := by simp [hn]
  apply Ls_all
  · intro callf
    simp +decide only [aOps, aWanted, ↓bite_eq, ↓reduceIte, aStep_eq, aStepOld, aOp, opBin, opUn, opCall, opPick, aev, aevs, ann, aPut, rget_rput, aBuiltin, aLen, List.getElem?_toArray, List.getElem?_cons_zero, List.getElem?_cons_succ, Option.bind_some, beq_self_eq_true, Bool.not_true, not_b, goInt, Try.underlying22, d, aBin, aInts, aInt_eq]
    rfl
  repeat apply W_assoc
  refine W_if (b := false) ?_ ?_ ?_
  · simp +decide only [aev, rget_rput, if_true, if_false]
  · intro h; cases h
  intro _
  apply W_skipq
  repeat apply W_assoc
  apply W_regL
  apply Ls_pre 1
  · intro callf
    simp +decide only [List.take, aOps, aWanted, ↓bite_eq, ↓reduceIte, aStep_eq, aStepOld, aOp, aev, ann, aPut, rget_rput]
    rfl
  dsimp only [List.drop]
  refine Ls_fn (vs := [.slice qb m.length qc, .func (.func 35) #[] #[]]) (by simp +decide only [aevs, aev, rget_rput, if_true, if_false]) (by decide) (C.mono (containsFunc (hq.ext RArc.keeps e1) hm) ?_)
  rintro v σ' ⟨rfl, e0⟩
  have B := B.ext e0
  have e1 := e1.trans e0
  generalize σ' = σ1 at B e1
  apply Ls_all
  · intro callf
    simp +decide only [aOps]
    rfl
  repeat apply W_assoc
  refine W_if (b := (m.any fun a => a.1 != 0)) ?_ ?_ ?_
  · simp +decide only [aev, rget_rput, if_true, if_false]
  · intro h
    repeat apply W_assoc
    apply W_reg
    · intro callf
      simp +decide only [aOps, aWanted, ↓bite_eq, ↓reduceIte, aStep_eq, aStepOld, aOp, aev, ann, aPut]
      rfl
    refine W_retq ⟨Nat.le_refl _, [.bool false], ?_, ?_, e1⟩
    · simp +decide only [aResults, rget_rput, if_true, if_false]
    · simp only [aResult, lassoB, hn, hv, h]; rfl
  intro ha
  apply W_skipq
  obtain ⟨k1, b1, hf⟩ : ∃ k1 b1, followF L 0 l = (k1, b1) := ⟨_, _, rfl⟩
  have F1 := follow (k := 0) (hs.ext RRow.keeps e1) hw h0 (hp.ext RArc.keeps e1) hl
  rw [hf] at F1
  repeat apply W_assoc
  apply W_regL
  apply Ls_pre 2
  · intro callf
    simp +decide only [List.take, aOps, aWanted, ↓bite_eq, ↓reduceIte, aStep_eq, aStepOld, aOp, opLoad, aev, ann, aPut, rget_rput, B.load]
    rfl
  dsimp only [List.drop]
  refine Ls_fn (vs := [.agg #[s], .int .i64 0, .slice pb l.length pc]) (by simp +decide only [aevs, aev, rget_rput, if_true, if_false]) (by decide) (C.mono (F1) ?_)
  rintro v σ' ⟨rfl, hk1, e0⟩
  have B := B.ext e0
  have e1 := e1.trans e0
  generalize σ' = σ1 at B e1
  apply Ls_all
  · intro callf
    simp +decide only [aOps, aWanted, ↓bite_eq, ↓reduceIte, aStep_eq, aStepOld, aOp, opExtract, aev, ann, aPut, rget_rput, List.getElem?_toArray, List.getElem?_cons_zero, List.getElem?_cons_succ]
    rfl
  repeat apply W_assoc
  apply W_reg
  · intro callf
    simp +decide only [aOps, aWanted, ↓bite_eq, ↓reduceIte, aStep_eq, aStepOld, aOp, opUn, aev, ann, aPut, rget_rput, flat, flat1, not_b]
    rfl
  repeat apply W_assoc
  refine W_if (b := (!b1)) ?_ ?_ ?_
  · simp +decide only [aev, rget_rput, if_true, if_false]
  · intro h
    have h : b1 = false := by simpa using h
    repeat apply W_assoc
    apply W_reg
    · intro callf
      simp +decide only [aOps, aWanted, ↓bite_eq, ↓reduceIte, aStep_eq, aStepOld, aOp, aev, ann, aPut]
      rfl
    refine W_retq ⟨Nat.le_refl _, [.bool false], ?_, ?_, e1⟩
    · simp +decide only [aResults, rget_rput, if_true, if_false]
    · simp only [aResult, lassoB, hn, hv, ha, hf, h]; rfl
  intro h
  have h : b1 = true := by simpa using h
  apply W_skipq
  obtain ⟨k2, b2, hg⟩ : ∃ k2 b2, followF L k1 m = (k2, b2) := ⟨_, _, rfl⟩
  have F2 := follow (k := k1) (hs.ext RRow.keeps e1) hw hk1 (hq.ext RArc.keeps e1) hm
  rw [hg] at F2
  repeat apply W_assoc
  apply W_regL
  apply Ls_pre 3
  · intro callf
    simp +decide only [List.take, aOps, aWanted, ↓bite_eq, ↓reduceIte, aStep_eq, aStepOld, aOp, opLoad, aev, ann, aPut, rget_rput, B.load]
    rfl
  dsimp only [List.drop]
  refine Ls_fn (vs := [.agg #[s], .int .i64 (k1 : Int), .slice qb m.length qc]) (by simp +decide only [aevs, aev, rget_rput, if_true, if_false]) (by decide) (C.mono (F2) ?_)
  rintro v σ' ⟨rfl, hk2, e0⟩
  have B := B.ext e0
  have e1 := e1.trans e0
  generalize σ' = σ1 at B e1
  apply Ls_all
  · intro callf
    simp +decide only [aOps, aWanted, ↓bite_eq, ↓reduceIte, aStep_eq, aStepOld, aOp, opExtract, aev, ann, aPut, rget_rput, List.getElem?_toArray, List.getElem?_cons_zero, List.getElem?_cons_succ]
    rfl
  have hr : lassoB L l m = (b2 && decide (k1 = k2)) := by
    unfold lassoB
    rw [if_pos hv, if_neg hn, if_neg (by rw [ha]; decide), hf]
    dsimp only
    rw [if_pos h, hg]
  cases b2 with
  | false =>
    repeat apply W_assoc
    apply W_reg
    · intro callf
      simp +decide only [aOps, aWanted, ↓bite_eq, ↓reduceIte, aStep_eq, aStepOld, aOp, opPick, aev, ann, aPut, rget_rput, List.getElem?_toArray, List.getElem?_cons_zero, List.getElem?_cons_succ, Option.bind_some, Bool.not_true, Bool.false_beq]
      rfl
    refine W_ret ⟨Nat.le_refl _, [.bool false], ?_, ?_, e1⟩
    · simp +decide only [aResults, rget_rput, if_true, if_false]
    · rw [hr]; rfl
  | true =>
    by_cases hk : k1 = k2
    · have d2 : ((k1 : Int) == (k2 : Int)) = true := by simp [hk]
      repeat apply W_assoc
      apply W_reg
      · intro callf
        simp +decide only [aOps, aWanted, ↓bite_eq, ↓reduceIte, aStep_eq, aStepOld, aOp, opBin, opPick, aev, ann, aPut, rget_rput, List.getElem?_toArray, List.getElem?_cons_zero, List.getElem?_cons_succ, Option.bind_some, beq_self_eq_true, d2, aBin, aInts, aInt_eq]
        rfl
      refine W_ret ⟨Nat.le_refl _, [.bool true], ?_, ?_, e1⟩
      · simp +decide only [aResults, rget_rput, if_true, if_false]
      · rw [hr]; simp [aResult, hk]
    · have d2 : ((k1 : Int) == (k2 : Int)) = false := by
        simp; omega
      repeat apply W_assoc
      apply W_reg
      · intro callf
        simp +decide only [aOps, aWanted, ↓bite_eq, ↓reduceIte, aStep_eq, aStepOld, aOp, opBin, opPick, aev, ann, aPut, rget_rput, List.getElem?_toArray, List.getElem?_cons_zero, List.getElem?_cons_succ, Option.bind_some, beq_self_eq_true, d2, aBin, aInts, aInt_eq]
        rfl
      refine W_ret ⟨Nat.le_refl _, [.bool false], ?_, ?_, e1⟩
      · simp +decide only [aResults, rget_rput, if_true, if_false]
      · rw [hr]; simp [aResult, hk]

namespace Abs2
open Abs
variable {P : Program} {K : Tbl} {G n : Nat} {ops : Array Oper} {r : Regs} {σ : AS} {l : List Oper}
/-- A call that stands under a guard. -/
theorem Ls_fnG {Q : Regs → AS → Prop} {d : Nat} {args : Array Operand} {ts : Array TypeId} {ty : TypeId} {pos : String} {aft : Array Edge} {fid : FuncId} {vs : List Value} {gd : Option (Nat × Bool)}
    (hw : aWanted ops r ⟨some d, .call ⟨.value (.func fid), args, ts⟩, ty, pos, aft, gd⟩ = true) (hv : aevs G r args.toList = some vs) (hd : d < n)
    (h : C P K G fid vs σ fun v σ' => Ls P K G n ops l (rput r d v) σ' Q) : Ls P K G n ops (⟨some d, .call ⟨.value (.func fid), args, ts⟩, ty, pos, aft, gd⟩ :: l) r σ Q :=
  Ls_cons hw (O_call (first := #[]) (captured := #[]) rfl hv (by
    have e : (#[] : Array Value).toList ++ vs ++ (#[] : Array Value).toList = vs := by simp
    rw [e]
    exact h.mono fun v σ' h => ⟨_, by simp only [aPut, bite_eq]; rw [if_pos (by rw [Nat.blt_eq]; exact hd)], h⟩))
theorem Lg_fnG {sj X : List Nat} {Q : Regs → AS → Prop} {k0 : Nat} {d : Nat} {args : Array Operand} {ts : Array TypeId} {ty : TypeId} {pos : String} {aft : Array Edge} {fid : FuncId} {vs : List Value} {gd : Option (Nat × Bool)}
    (hw : aWanted ops r ⟨some d, .call ⟨.value (.func fid), args, ts⟩, ty, pos, aft, gd⟩ = true) (hv : aevs G r args.toList = some vs) (hd : d < n) (hm : memb sj k0 = false)
    (h : C P K G fid vs σ.reset fun v s1 => σ.next ≤ s1.low ∧ Lg P K G n ops sj X (k0 + 1) l (rput r d v) (σ.merge s1) Q) :
    Lg P K G n ops sj X k0 (⟨some d, .call ⟨.value (.func fid), args, ts⟩, ty, pos, aft, gd⟩ :: l) r σ Q := by
  refine ⟨fun _ => O_call (first := #[]) (captured := #[]) rfl hv ?_, fun h => by rw [hw] at h; cases h⟩
  have e : (#[] : Array Value).toList ++ vs ++ (#[] : Array Value).toList = vs := by simp
  rw [e]
  exact h.mono fun v s1 ⟨h1, h2⟩ => ⟨⟨.inl h1, fun h => by rw [hm] at h; cases h⟩, _, by simp only [aPut, bite_eq]; rw [if_pos (by rw [Nat.blt_eq]; exact hd)], h2⟩
end Abs2
open Abs2

set_option maxHeartbeats 4000000 in
theorem lasso_ref {σ : AS} {s p q : Value} {L : Lts} {l m : List Arc} (hs : RS 1 RRow σ s L) (hz : Small L) (hp : RS 2 RArc σ p l) (hl : l.length ≤ 2 ^ 62) (hq : RS 2 RArc σ q m) (hm : m.length ≤ 2 ^ 62) :
    C Try.prog Kn 0 20 [.agg #[s], p, q] σ fun v σ' => v = .bool (lassoB L l m) ∧ Ext σ σ' := by
  refine C_of (kn (by decide)) Try.func20 rfl (Nat.le_of_ble_eq_true rfl) ?_
  show W _ _ _ 42 _ _ _ _
  unfold Try.f20
  dsimp only
  repeat apply W_assoc
  apply W_reg
  · intro callf
    simp +decide only [aOps, rinit, aWanted, ↓bite_eq, ↓reduceIte, aStep_eq, aStepOld, aOp, opBox, aRow, aev, ann, aPut, rget_rput, Nat.zero_add]
    rfl
  have B := LtsAt.new hs
  have e1 := Ext.new σ ⟨1, 30, 0, (Value.agg #[s]).cells.toList, []⟩
  generalize σ.new ⟨1, 30, 0, (Value.agg #[s]).cells.toList, []⟩ = σ1 at B e1
  obtain ⟨pb, pc, rfl, -⟩ := id hp
  obtain ⟨qb, qc, rfl, -⟩ := id hq
  repeat apply W_assoc
  apply W_regL
  apply Ls_pre 1
  · intro callf
    simp +decide only [List.take, aOps, aWanted, ↓bite_eq, ↓reduceIte, aStep_eq, aStepOld, aOp, opLoad, aev, ann, aPut, rget_rput, B.load]
    rfl
  dsimp only [List.drop]
  refine Ls_fn (vs := [.agg #[s]]) (by simp +decide only [aevs, aev, rget_rput, if_true, if_false]) (by decide) (C.mono (valid_ref (hs.ext RRow.keeps e1) hz) ?_)
  rintro v σ' ⟨rfl, e0⟩
  have B := B.ext e0
  have e1 := e1.trans e0
  generalize σ' = σ1 at B e1
  by_cases hv : validB L = true
  rotate_left
  · have hv : validB L = false := by simpa using hv
    rw [hv]
    apply Ls_all
    · intro callf
      simp +decide only [aOps, aWanted, ↓bite_eq, ↓reduceIte, aStep_eq, aStepOld, aOp, opUn, opPick, aev, ann, aPut, rget_rput, List.getElem?_toArray, List.getElem?_cons_zero, List.getElem?_cons_succ, Option.bind_some, Bool.not_false, Bool.true_beq, not_b]
      rfl
    repeat apply W_assoc
    refine W_if (b := true) ?_ ?_ ?_
    · simp +decide only [aev, rget_rput, if_true, if_false]
    · intro _
      repeat apply W_assoc
      apply W_reg
      · intro callf
        simp +decide only [aOps, aWanted, ↓bite_eq, ↓reduceIte, aStep_eq, aStepOld, aOp, aev, ann, aPut]
        rfl
      refine W_retq ⟨Nat.le_refl _, [.bool false], ?_, ?_, e1⟩
      · simp +decide only [aResults, rget_rput, if_true, if_false]
      · simp only [aResult, lassoB, hv]; rfl
    · intro h; cases h
  rw [hv]
  have hw := loose_wf (valid_loose hv) hz
  have h0 := loose_pos (valid_loose hv)
  by_cases hn : m.length = 0
  · have d : ((m.length : Int) == 0) = true := by simp [hn]
    apply Ls_all
    · intro callf
      simp +decide only [aOps, aWanted, ↓bite_eq, ↓reduceIte, aStep_eq, aStepOld, aOp, opBin, opUn, opCall, opPick, aev, aevs, ann, aPut, rget_rput, aBuiltin, aLen, List.getElem?_toArray, List.getElem?_cons_zero, List.getElem?_cons_succ, Option.bind_some, beq_self_eq_true, Bool.not_true, not_b, goInt, Try.underlying22, d, aBin, aInts, aInt_eq]
      rfl
    repeat apply W_assoc
    refine W_if (b := true) ?_ ?_ ?_
    · simp +decide only [aev, rget_rput, if_true, if_false]
    · intro _
      repeat apply W_assoc
      apply W_reg
      · intro callf
        simp +decide only [aOps, aWanted, ↓bite_eq, ↓reduceIte, aStep_eq, aStepOld, aOp, aev, ann, aPut]
        rfl
      refine W_retq ⟨Nat.le_refl _, [.bool false], ?_, ?_, e1⟩
      · simp +decide only [aResults, rget_rput, if_true, if_false]
      · simp only [aResult, lassoB, hn, hv]; rfl
    · intro h; cases h
  have d : ((m.length : Int) == 0) = false := by simp [hn]
  apply Ls_all
  · intro callf
    simp +decide only [aOps, aWanted, ↓bite_eq, ↓reduceIte, aStep_eq, aStepOld, aOp, opBin, opUn, opCall, opPick, aev, aevs, ann, aPut, rget_rput, aBuiltin, aLen, List.getElem?_toArray, List.getElem?_cons_zero, List.getElem?_cons_succ, Option.bind_some, beq_self_eq_true, Bool.not_true, not_b, goInt, Try.underlying22, d, aBin, aInts, aInt_eq]
    rfl
  repeat apply W_assoc
  refine W_if (b := false) ?_ ?_ ?_
  · simp +decide only [aev, rget_rput, if_true, if_false]
  · intro h; cases h
  intro _
  apply W_skipq
  obtain ⟨k1, b1, hf⟩ : ∃ k1 b1, followF L 0 l = (k1, b1) := ⟨_, _, rfl⟩
  have hk1 : k1 < L.length := by have := followF_lt hw h0 (l := l); rw [hf] at this; exact this
  have F1 := walk (k := 0) (hs.ext RRow.keeps e1) hw h0 (hp.ext RArc.keeps e1) hl
  have W1 : walkF L 0 l = if b1 = true then (k1 : Int) else -1 := by unfold walkF; rw [hf]
  rw [W1] at F1
  repeat apply W_assoc
  apply W_regL
  apply Ls_pre 2
  · intro callf
    simp +decide only [List.take, aOps, aWanted, ↓bite_eq, ↓reduceIte, aStep_eq, aStepOld, aOp, opLoad, aev, ann, aPut, rget_rput, B.load]
    rfl
  dsimp only [List.drop]
  refine Ls_fn (vs := [.agg #[s], .int .i64 0, .slice pb l.length pc]) (by simp +decide only [aevs, aev, rget_rput, if_true, if_false]) (by decide) (C.mono (F1) ?_)
  rintro v σ' ⟨rfl, e0⟩
  have B := B.ext e0
  have e1 := e1.trans e0
  generalize σ' = σ1 at B e1
  apply Ls_all
  · intro callf
    simp +decide only [aOps, aWanted, ↓bite_eq, ↓reduceIte, aStep_eq, aStepOld, aOp, aev, ann, aPut, rget_rput]
    rfl
  cases b1 with
  | false =>
    rw [if_neg (by decide)]
    have hr : lassoB L l m = false := by
      unfold lassoB
      rw [if_pos hv, if_neg hn, hf]
      dsimp only
      split <;> rfl
    have d1 : decide ((-1 : Int) < 0) = true := rfl
    repeat apply W_assoc
    apply W_regL
    apply Ls_all
    · intro callf
      simp +decide only [aOps, aWanted, ↓bite_eq, ↓reduceIte, aStep_eq, aStepOld, aOp, opBin, opPick, aev, ann, aPut, rget_rput, List.getElem?_toArray, List.getElem?_cons_zero, List.getElem?_cons_succ, Option.bind_some, aBin, aInts, aInt_eq]
      rfl
    repeat apply W_assoc
    refine W_if (b := true) ?_ ?_ ?_
    · simp +decide only [aev, rget_rput, if_true, if_false]
    · intro _
      repeat apply W_assoc
      apply W_reg
      · intro callf
        simp +decide only [aOps, aWanted, ↓bite_eq, ↓reduceIte, aStep_eq, aStepOld, aOp, aev, ann, aPut]
        rfl
      refine W_retq ⟨Nat.le_refl _, [.bool false], ?_, ?_, e1⟩
      · simp +decide only [aResults, rget_rput, if_true, if_false]
      · rw [hr]; rfl
    · intro h; cases h
  | true =>
    rw [if_pos rfl]
    have d1 : decide ((k1 : Int) < 0) = false := decide_eq_false (by omega)
    obtain ⟨k2, b2, hg⟩ : ∃ k2 b2, followF L k1 m = (k2, b2) := ⟨_, _, rfl⟩
    have F2 := walk (k := k1) (hs.ext RRow.keeps e1) hw hk1 (hq.ext RArc.keeps e1) hm
    have W2 : walkF L k1 m = if b2 = true then (k2 : Int) else -1 := by unfold walkF; rw [hg]
    rw [W2] at F2
    have hr : lassoB L l m = if (m.any fun a => a.1 != 0) = true then false else (b2 && decide (k1 = k2)) := by
      unfold lassoB
      rw [if_pos hv, if_neg hn, hf]
      dsimp only
      rw [if_pos rfl, hg]
    repeat apply W_assoc
    apply W_regL
    apply Ls_pre 6
    · intro callf
      simp +decide only [List.take, aOps, aWanted, ↓bite_eq, ↓reduceIte, aStep_eq, aStepOld, aOp, opBin, opLoad, aev, ann, aPut, rget_rput, List.getElem?_toArray, List.getElem?_cons_zero, List.getElem?_cons_succ, Option.bind_some, beq_self_eq_true, d1, B.load, aBin, aInts, aInt_eq]
      rfl
    dsimp only [List.drop]
    refine Ls_fnG (vs := [.agg #[s], .int .i64 (k1 : Int), .slice qb m.length qc]) (by simp +decide only [aWanted, List.getElem?_toArray, List.getElem?_cons_zero, List.getElem?_cons_succ, Option.bind_some, rget_rput, if_true, if_false]) (by simp +decide only [aevs, aev, rget_rput, if_true, if_false]) (by decide) (C.mono F2 ?_)
    rintro v σ' ⟨rfl, e0⟩
    have B := B.ext e0
    have e1 := e1.trans e0
    generalize σ' = σ1 at B e1
    by_cases hk : b2 = true ∧ k1 = k2
    rotate_left
    · have d2 : ((if b2 = true then (k2 : Int) else -1) != (k1 : Int)) = true := by
        rw [bne_iff_ne]
        intro h
        cases b2 with
        | false => rw [if_neg (by decide)] at h; omega
        | true => rw [if_pos rfl] at h; exact hk ⟨rfl, by omega⟩
      apply Ls_all
      · intro callf
        simp +decide only [aOps, aWanted, ↓bite_eq, ↓reduceIte, aStep_eq, aStepOld, aOp, opBin, opPick, aev, ann, aPut, rget_rput, List.getElem?_toArray, List.getElem?_cons_zero, List.getElem?_cons_succ, Option.bind_some, beq_self_eq_true, d2, aBin, aInts, aInt_eq]
        rfl
      repeat apply W_assoc
      refine W_if (b := true) ?_ ?_ ?_
      · simp +decide only [aev, rget_rput, if_true, if_false]
      · intro _
        repeat apply W_assoc
        apply W_reg
        · intro callf
          simp +decide only [aOps, aWanted, ↓bite_eq, ↓reduceIte, aStep_eq, aStepOld, aOp, aev, ann, aPut]
          rfl
        refine W_retq ⟨Nat.le_refl _, [.bool false], ?_, ?_, e1⟩
        · simp +decide only [aResults, rget_rput, if_true, if_false]
        · rw [hr]
          have : (b2 && decide (k1 = k2)) = false := by
            rw [Bool.eq_false_iff]
            intro h
            rw [Bool.and_eq_true, decide_eq_true_eq] at h
            exact hk h
          rw [this, ite_self]; rfl
      · intro h; cases h
    obtain ⟨rfl, rfl⟩ := hk
    have d2 : ((k1 : Int) != (k1 : Int)) = false := by simp
    apply Ls_all
    · intro callf
      simp +decide only [aOps, aWanted, ↓bite_eq, ↓reduceIte, aStep_eq, aStepOld, aOp, opBin, opPick, aev, ann, aPut, rget_rput, List.getElem?_toArray, List.getElem?_cons_zero, List.getElem?_cons_succ, Option.bind_some, beq_self_eq_true, d2, aBin, aInts, aInt_eq]
      rfl
    repeat apply W_assoc
    refine W_if (b := false) ?_ ?_ ?_
    · simp +decide only [aev, rget_rput, if_true, if_false]
    · intro h; cases h
    intro _
    apply W_skipq
    rw [show (true && decide (k1 = k1)) = true by simp] at hr
    repeat apply W_assoc
    apply W_reg
    · intro callf
      simp +decide only [aOps, aWanted, ↓bite_eq, ↓reduceIte, aStep_eq, aStepOld, aOp, aev, ann, aPut]
      rfl
    repeat apply W_assoc
    have Q1 := hq.ext RArc.keeps e1
    refine W_for (fun (i : Nat) r σ' => i ≤ m.length ∧ Ext σ1 σ' ∧ rget r 2 = .slice qb m.length qc ∧ rget r 8 = .int .i64 (i : Int) ∧ ∀ a ∈ m.take i, a.1 = 0)
      (fun i => m.length - i) ?_ 0 ?_
    rotate_left
    · simp +decide only [rget_rput, if_true, if_false]
      exact ⟨Nat.zero_le _, Ext.refl _, trivial, rfl, by simp⟩
    rintro i r σ2 ⟨hi, e2, h2, h8, hok⟩
    repeat apply W_assoc
    apply W_reg
    · intro callf
      simp +decide only [aOps, aWanted, ↓bite_eq, ↓reduceIte, aStep_eq, aStepOld, aOp, opBin, opCall, aev, aevs, ann, aPut, rget_rput, aBuiltin, aLen, List.getElem?_toArray, List.getElem?_cons_zero, h2, h8, Try.underlying22, goInt, aBin, aInts, aInt_eq]
      rfl
    repeat apply W_assoc
    refine W_if (b := decide ((i : Int) < (m.length : Int))) ?_ ?_ ?_
    · simp +decide only [aev, rget_rput, if_true, if_false]
    rotate_left
    · intro hb
      have hb : i = m.length := by
        have := of_decide_eq_false hb
        omega
      refine W_exitq ⟨fun h => (nomatch h), fun _ => ?_, fun h1 h2 => absurd rfl h2⟩
      repeat apply W_assoc
      apply W_reg
      · intro callf
        simp +decide only [aOps, aWanted, ↓bite_eq, ↓reduceIte, aStep_eq, aStepOld, aOp, aev, ann, aPut]
        rfl
      refine W_ret ⟨Nat.le_refl _, [.bool true], ?_, ?_, e1.trans e2⟩
      · simp +decide only [aResults, rget_rput, if_true, if_false]
      · subst hb
        rw [List.take_length] at hok
        rw [hr, if_neg (by
          rw [Bool.not_eq_true, List.any_eq_false]
          intro a ha
          simp [hok a ha])]; rfl
    intro hb
    have hb : i < m.length := by
      have := of_decide_eq_true hb
      omega
    apply W_skipq
    refine W_blk ?_
    obtain ⟨y, hy⟩ : ∃ y, m[i]? = some y := ⟨m[i], by simp [hb]⟩
    have hym : y ∈ m := List.mem_of_getElem? hy
    obtain ⟨-, b, off, rfl, hbl, hat⟩ := arcOf Q1 hy
    by_cases hz0 : y.1 = 0
    rotate_left
    · have d3 : (y.1 != 0) = true := by simp [hz0]
      repeat apply W_assoc
      apply W_reg
      · intro callf
        simp +decide only [aOps, aWanted, ↓bite_eq, ↓reduceIte, aStep_eq, aStepOld, aOp, opBin, opIndexAddr, opFieldAddr, opLoad, aev, ann, aPut, rget_rput, h2, h8, idx22 hb, fld0, (hat σ2 e2).2.1, d3, aBin, aInts, aInt_eq]
        rfl
      refine W_tail ?_
      repeat apply W_assoc
      refine W_if (b := true) ?_ ?_ ?_
      · simp +decide only [aev, rget_rput, if_true, if_false]
      · intro _
        repeat apply W_assoc
        apply W_reg
        · intro callf
          simp +decide only [aOps, aWanted, ↓bite_eq, ↓reduceIte, aStep_eq, aStepOld, aOp, aev, ann, aPut]
          rfl
        refine W_retq ⟨fun h => (nomatch h), fun _ _ => ⟨fun h => (nomatch h), fun h => (nomatch h), fun _ _ => ⟨Nat.le_refl _, [.bool false], ?_, ?_, e1.trans e2⟩⟩⟩
        · simp +decide only [aResults, rget_rput, if_true, if_false]
        · rw [hr, if_pos (List.any_eq_true.2 ⟨y, hym, d3⟩)]; rfl
      · intro h; cases h
    have d3 : (y.1 != 0) = false := by simp [hz0]
    repeat apply W_assoc
    apply W_reg
    · intro callf
      simp +decide only [aOps, aWanted, ↓bite_eq, ↓reduceIte, aStep_eq, aStepOld, aOp, opBin, opIndexAddr, opFieldAddr, opLoad, aev, ann, aPut, rget_rput, h2, h8, idx22 hb, fld0, (hat σ2 e2).2.1, d3, aBin, aInts, aInt_eq]
      rfl
    refine W_tail ?_
    repeat apply W_assoc
    refine W_if (b := false) ?_ ?_ ?_
    · simp +decide only [aev, rget_rput, if_true, if_false]
    · intro h; cases h
    intro _
    apply W_skipq
    refine W_skip ⟨fun _ => ?_, fun h => absurd rfl h⟩
    refine W_tail ?_
    repeat apply W_assoc
    apply W_reg
    · intro callf
      simp +decide only [aOps, aWanted, ↓bite_eq, ↓reduceIte, aStep_eq, aStepOld, aOp, opBin, aev, ann, aPut, rget_rput, h8, wrap_add hb hm, aBin, aInts, aInt_eq]
      rfl
    refine W_skip ⟨fun _ => ⟨i + 1, ?_, ?_⟩, fun h => (nomatch h), fun h => absurd rfl h⟩
    · omega
    · simp +decide only [rget_rput, if_true, if_false, h2]
      refine ⟨by omega, e2, trivial, trivial, ?_⟩
      rw [List.take_add_one, hy]
      simp only [Option.toList_some, List.mem_append, List.mem_singleton]
      exact fun a ha => ha.elim (hok a) (fun e => by rw [e]; exact hz0)

end Go.Proofs.Ytbknckiapcafdaa.Nest
