/- Contracts of the reference: valid systems, a path. -/
import Derived.Test.YtbknckiapcafdaaNestF
set_option linter.unusedSimpArgs false
set_option linter.unusedVariables false
namespace Go.Proofs.Ytbknckiapcafdaa.Nest
open Abs

set_option maxHeartbeats 4000000 in
theorem loose_ref {σ : AS} {s : Value} {L : Lts} (hs : RS 1 RRow σ s L) (hz : Small L) : C Try.prog Kn 0 50 [.agg #[s]] σ fun v σ' => v = .bool (looseB L) ∧ Ext σ σ' := by
  refine C_of (kn (by decide)) Try.func50 rfl (Nat.le_of_ble_eq_true rfl) ?_
  show W _ _ _ 69 _ _ _ _
  unfold Try.f50
  dsimp only
  repeat apply W_assoc
  apply W_reg
  · intro callf
    simp +decide only [aOps, rinit, aWanted, ↓bite_eq, ↓reduceIte, aStep_eq, aStepOld, aOp, opBox, aRow, aev, ann, aPut, rget_rput]
    rfl
  have B := LtsAt.new hs
  have e1 := Ext.new σ ⟨1, 30, 0, (Value.agg #[s]).cells.toList, []⟩
  generalize σ.new ⟨1, 30, 0, (Value.agg #[s]).cells.toList, []⟩ = σ1 at B e1
  obtain ⟨sb, sc, rfl, -⟩ := id hs
  repeat apply W_assoc
  apply W_reg
  · intro callf
    simp +decide only [aOps, aWanted, ↓bite_eq, ↓reduceIte, aStep_eq, aStepOld, aOp, opCall, opFieldAddr, opLoad, aev, aevs, ann, aPut, rget_rput, aBuiltin, aLen, List.getElem?_toArray, List.getElem?_cons_zero, fldL, B.out, Try.underlying28, goInt]
    rfl
  by_cases hn : 1 ≤ L.length ∧ L.length ≤ 16384
  rotate_left
  · by_cases h1 : (L.length : Int) < 1
    · have d1 : decide ((L.length : Int) < 1) = true := decide_eq_true h1
      repeat apply W_assoc
      apply W_reg
      · intro callf
        simp +decide only [aOps, aWanted, ↓bite_eq, ↓reduceIte, aStep_eq, aStepOld, aOp, opBin, opPick, aev, ann, aPut, rget_rput, List.getElem?_toArray, List.getElem?_cons_zero, List.getElem?_cons_succ, Option.bind_some, Bool.true_beq, d1, aBin, aInts, aInt_eq]
        rfl
      repeat apply W_assoc
      refine W_if (b := true) ?_ ?_ ?_
      · simp +decide only [aev, rget_rput, if_true, if_false]
      · intro _
        repeat apply W_assoc
        apply W_reg
        · intro callf
          simp +decide only [aOps, aWanted, ↓bite_eq, ↓reduceIte, aStep_eq, aStepOld, aOp, aev, ann, aPut]
          rfl
        refine W_retq ⟨Nat.le_refl _, [.bool false], ?_, ?_, e1⟩
        · simp +decide only [aResults, rget_rput, if_true, if_false]
        · simp only [aResult, loose_len hn]
      · intro h; cases h
    · have d1 : decide ((L.length : Int) < 1) = false := decide_eq_false h1
      have d2 : decide ((L.length : Int) > 16384) = true := decide_eq_true (by omega)
      repeat apply W_assoc
      apply W_reg
      · intro callf
        simp +decide only [aOps, aWanted, ↓bite_eq, ↓reduceIte, aStep_eq, aStepOld, aOp, opBin, opPick, aev, ann, aPut, rget_rput, List.getElem?_toArray, List.getElem?_cons_zero, List.getElem?_cons_succ, Option.bind_some, beq_self_eq_true, d1, d2, aBin, aInts, aInt_eq]
        rfl
      repeat apply W_assoc
      refine W_if (b := true) ?_ ?_ ?_
      · simp +decide only [aev, rget_rput, if_true, if_false]
      · intro _
        repeat apply W_assoc
        apply W_reg
        · intro callf
          simp +decide only [aOps, aWanted, ↓bite_eq, ↓reduceIte, aStep_eq, aStepOld, aOp, aev, ann, aPut]
          rfl
        refine W_retq ⟨Nat.le_refl _, [.bool false], ?_, ?_, e1⟩
        · simp +decide only [aResults, rget_rput, if_true, if_false]
        · simp only [aResult, loose_len hn]
      · intro h; cases h
  have d1 : decide ((L.length : Int) < 1) = false := decide_eq_false (by omega)
  have d2 : decide ((L.length : Int) > 16384) = false := decide_eq_false (by omega)
  repeat apply W_assoc
  apply W_reg
  · intro callf
    simp +decide only [aOps, aWanted, ↓bite_eq, ↓reduceIte, aStep_eq, aStepOld, aOp, opBin, opPick, aev, ann, aPut, rget_rput, List.getElem?_toArray, List.getElem?_cons_zero, List.getElem?_cons_succ, Option.bind_some, beq_self_eq_true, d1, d2, aBin, aInts, aInt_eq]
    rfl
  repeat apply W_assoc
  refine W_if (b := false) ?_ ?_ ?_
  · simp +decide only [aev, rget_rput, if_true, if_false]
  · intro h; cases h
  intro _
  apply W_skipq
  repeat apply W_assoc
  apply W_reg
  · intro callf
    simp +decide only [aOps, aWanted, ↓bite_eq, ↓reduceIte, aStep_eq, aStepOld, aOp, aev, ann, aPut]
    rfl
  repeat apply W_assoc
  apply W_reg
  · intro callf
    simp +decide only [aOps, aWanted, ↓bite_eq, ↓reduceIte, aStep_eq, aStepOld, aOp, aev, ann, aPut]
    rfl
  repeat apply W_assoc
  refine W_for (fun (i : Nat) r σ' => i ≤ L.length ∧ Ext σ1 σ' ∧ rget r 1 = .pointer (some ⟨σ.next, 0, none⟩) ∧ rget r 3 = .int .i64 (L.length : Int) ∧ rget r 4 = .int .i64 ((total (L.take i) : Nat) : Int) ∧ rget r 5 = .int .i64 (i : Int) ∧
      total (L.take i) ≤ 262144 ∧ ∀ w ∈ L.take i, ∀ a ∈ w, okA L.length a = true)
    (fun i => L.length - i) ?_ 0 ?_
  rotate_left
  · simp +decide only [rget_rput, if_true, if_false]
    refine ⟨Nat.zero_le _, Ext.refl _, trivial, trivial, ?_, rfl, ?_, ?_⟩
    · simp [total]
    · simp [total]
    · intro w hw; simp at hw
  rintro i r σ2 ⟨hi, e2, h1, h3, h4, h5, ht, hok⟩
  repeat apply W_assoc
  apply W_reg
  · intro callf
    simp +decide only [aOps, aWanted, ↓bite_eq, ↓reduceIte, aStep_eq, aStepOld, aOp, opBin, aev, ann, aPut, rget_rput, h3, h5, aBin, aInts, aInt_eq]
    rfl
  repeat apply W_assoc
  refine W_if (b := decide ((i : Int) < (L.length : Int))) ?_ ?_ ?_
  · simp +decide only [aev, rget_rput, if_true, if_false]
  rotate_left
  · intro hb
    have hb : i = L.length := by
      have := of_decide_eq_false hb
      omega
    refine W_exitq ⟨fun h => (nomatch h), fun _ => ?_, fun h1 h2 => absurd rfl h2⟩
    repeat apply W_assoc
    apply W_reg
    · intro callf
      simp +decide only [aOps, aWanted, ↓bite_eq, ↓reduceIte, aStep_eq, aStepOld, aOp, aev, ann, aPut]
      rfl
    refine W_ret ⟨Nat.le_refl _, [.bool true], ?_, ?_, e1.trans e2⟩
    · simp +decide only [aResults, rget_rput, if_true, if_false]
    · subst hb
      rw [List.take_length] at ht hok
      rw [loose_true hn ht hok]; rfl
  intro hb
  have hb : i < L.length := by
    have := of_decide_eq_true hb
    omega
  apply W_skipq
  refine W_blk ?_
  obtain ⟨row, hrow⟩ : ∃ row, L[i]? = some row := ⟨L[i], by simp [hb]⟩
  have hrm : row ∈ L := List.mem_of_getElem? hrow
  obtain ⟨-, rb, roff, rv, rfl, hrb, hrl, hrs⟩ := rowOf B.rd hrow
  obtain ⟨vb, vc, rfl, -⟩ := id hrs
  have htt := total_take hrow
  have htl := total_le (L := L) (i := i + 1)
  have hrz := hz.row row hrm
  have B2 := B.ext e2
  repeat apply W_assoc
  apply W_reg
  · intro callf
    simp +decide only [aOps, aWanted, ↓bite_eq, ↓reduceIte, aStep_eq, aStepOld, aOp, opBin, opCall, opIndexAddr, opFieldAddr, opLoad, aev, aevs, ann, aPut, rget_rput, aBuiltin, aLen, List.getElem?_toArray, List.getElem?_cons_zero, h1, h4, h5, fldL, B2.out, idx28 hb, hrl σ2 e2, Try.underlying22, goInt, wrap_plus (show total (L.take i) ≤ 2 ^ 62 by omega) hrz, aBin, aInts, aInt_eq]
    rfl
  repeat apply W_assoc
  apply W_reg
  · intro callf
    simp +decide only [aOps, aWanted, ↓bite_eq, ↓reduceIte, aStep_eq, aStepOld, aOp, opBin, aev, ann, aPut, rget_rput, aBin, aInts, aInt_eq]
    rfl
  repeat apply W_assoc
  refine W_if (b := decide (((total (L.take i) + row.length : Nat) : Int) > 262144)) ?_ ?_ ?_
  · simp +decide only [aev, rget_rput, if_true, if_false]
  · intro hg
    have hg := of_decide_eq_true hg
    repeat apply W_assoc
    apply W_reg
    · intro callf
      simp +decide only [aOps, aWanted, ↓bite_eq, ↓reduceIte, aStep_eq, aStepOld, aOp, aev, ann, aPut]
      rfl
    refine W_retq ⟨fun h => h.elim (fun h => (nomatch h)) (fun h => (nomatch h)), fun _ _ => ⟨fun h => (nomatch h), fun h => (nomatch h), fun _ _ => ⟨Nat.le_refl _, [.bool false], ?_, ?_, e1.trans e2⟩⟩⟩
    · simp +decide only [aResults, rget_rput, if_true, if_false]
    · rw [loose_total (by omega)]; rfl
  intro hg
  have hg := of_decide_eq_false hg
  have hg : total (L.take i) + row.length ≤ 262144 := by omega
  apply W_skipq
  repeat apply W_assoc
  apply W_reg
  · intro callf
    simp +decide only [aOps, aWanted, ↓bite_eq, ↓reduceIte, aStep_eq, aStepOld, aOp, aev, ann, aPut]
    rfl
  refine W_tail ?_
  refine W_for (fun (j : Nat) r σ' => j ≤ row.length ∧ Ext σ1 σ' ∧ rget r 1 = .pointer (some ⟨σ.next, 0, none⟩) ∧ rget r 3 = .int .i64 (L.length : Int) ∧ rget r 4 = .int .i64 ((total (L.take i) + row.length : Nat) : Int) ∧ rget r 5 = .int .i64 (i : Int) ∧ rget r 6 = .int .i64 (j : Int) ∧
      ∀ a ∈ row.take j, okA L.length a = true)
    (fun j => row.length - j) ?_ 0 ?_
  rotate_left
  · simp +decide only [rget_rput, if_true, if_false, h1, h3, h5]
    exact ⟨Nat.zero_le _, e2, trivial, trivial, trivial, trivial, rfl, by simp⟩
  rintro j r σ3 ⟨hj, e3, h1, h3, h4, h5, h6, hokj⟩
  have B3 := B.ext e3
  repeat apply W_assoc
  apply W_reg
  · intro callf
    simp +decide only [aOps, aWanted, ↓bite_eq, ↓reduceIte, aStep_eq, aStepOld, aOp, opBin, opCall, opIndexAddr, opFieldAddr, opLoad, aev, aevs, ann, aPut, rget_rput, aBuiltin, aLen, List.getElem?_toArray, List.getElem?_cons_zero, h1, h5, h6, fldL, B3.out, idx28 ‹i < L.length›, hrl σ3 e3, Try.underlying22, goInt, aBin, aInts, aInt_eq]
    rfl
  repeat apply W_assoc
  refine W_if (b := decide ((j : Int) < (row.length : Int))) ?_ ?_ ?_
  · simp +decide only [aev, rget_rput, if_true, if_false]
  rotate_left
  · intro hb
    have hb : j = row.length := by
      have := of_decide_eq_false hb
      omega
    refine W_exitq ⟨fun h => (nomatch h), fun _ => ?_, fun h1 h2 => absurd rfl h2⟩
    refine W_skip ⟨fun _ => ?_, fun h => absurd rfl h⟩
    refine W_tail ?_
    repeat apply W_assoc
    apply W_reg
    · intro callf
      simp +decide only [aOps, aWanted, ↓bite_eq, ↓reduceIte, aStep_eq, aStepOld, aOp, opBin, aev, ann, aPut, rget_rput, h5, wrap_add ‹i < L.length› hz.len, aBin, aInts, aInt_eq]
      rfl
    refine W_skip ⟨fun _ => ⟨i + 1, ?_, ?_⟩, fun h => (nomatch h), fun h => absurd rfl h⟩
    · omega
    · simp +decide only [rget_rput, if_true, if_false, h1, h3, h4]
      refine ⟨by omega, e3, trivial, trivial, ?_, trivial, by omega, ?_⟩
      · rw [htt]
      · rw [List.take_add_one, hrow]
        simp only [Option.toList_some, List.mem_append, List.mem_singleton]
        rintro w (hw | rfl)
        · exact hok w hw
        · subst hb; rw [List.take_length] at hokj; exact hokj
  intro hb
  have hb : j < row.length := by
    have := of_decide_eq_true hb
    omega
  apply W_skipq
  refine W_blk ?_
  obtain ⟨y, hy⟩ : ∃ y, row[j]? = some y := ⟨row[j], by simp [hb]⟩
  have hym : y ∈ row := List.mem_of_getElem? hy
  obtain ⟨-, b, off, rfl, hbl, hat⟩ := arcOf hrs hy
  repeat apply W_assoc
  apply W_reg
  · intro callf
    simp +decide only [aOps, aWanted, ↓bite_eq, ↓reduceIte, aStep_eq, aStepOld, aOp, opIndexAddr, opFieldAddr, opLoad, opStore, aev, ann, unn, aPut, rget_rput, h1, h5, h6, fldL, B3.out, idx28 ‹i < L.length›, hrl σ3 e3, idx22 hb, (hat σ3 e3).1, alloc27, store27]
    rfl
  have D := decl_at σ3 y
  have e4 := e3.trans (decl_ext σ3 y)
  generalize decl σ3 y = σ4 at D e4
  refine W_tail ?_
  by_cases c1 : decide (y.1 < 0) = true
  · have d1 := c1
    repeat apply W_assoc
    apply W_reg
    · intro callf
      simp +decide only [aOps, aWanted, ↓bite_eq, ↓reduceIte, aStep_eq, aStepOld, aOp, opBin, opFieldAddr, opLoad, opPick, aev, ann, aPut, rget_rput, List.getElem?_toArray, List.getElem?_cons_zero, List.getElem?_cons_succ, Option.bind_some, Bool.true_beq, fld0, D.ev, aBin, aInts, aInt_eq, d1]
      rfl
    repeat apply W_assoc
    refine W_if (b := true) ?_ ?_ ?_
    · simp +decide only [aev, rget_rput, if_true, if_false]
    · intro _
      repeat apply W_assoc
      apply W_reg
      · intro callf
        simp +decide only [aOps, aWanted, ↓bite_eq, ↓reduceIte, aStep_eq, aStepOld, aOp, aev, ann, aPut]
        rfl
      refine W_retq ⟨fun h => (nomatch h), fun _ _ => ⟨fun h => (nomatch h), fun h => (nomatch h), fun _ _ => ⟨fun h => h.elim (fun h => (nomatch h)) (fun h => (nomatch h)), fun _ _ => ⟨fun h => (nomatch h), fun h => (nomatch h), fun _ _ => ⟨Nat.le_refl _, [.bool false], ?_, ?_, e1.trans e4⟩⟩⟩⟩⟩
      · simp +decide only [aResults, rget_rput, if_true, if_false]
      · rw [loose_arc hrm hym (okA_false.2 (.inl d1))]; rfl
    · intro h; cases h
  have d1 : decide (y.1 < 0) = false := by simpa using c1
  by_cases c2 : decide (y.1 > 1025) = true
  · have d2 := c2
    repeat apply W_assoc
    apply W_reg
    · intro callf
      simp +decide only [aOps, aWanted, ↓bite_eq, ↓reduceIte, aStep_eq, aStepOld, aOp, opBin, opFieldAddr, opLoad, opPick, aev, ann, aPut, rget_rput, List.getElem?_toArray, List.getElem?_cons_zero, List.getElem?_cons_succ, Option.bind_some, beq_self_eq_true, Bool.true_beq, fld0, D.ev, aBin, aInts, aInt_eq, d1, d2]
      rfl
    repeat apply W_assoc
    refine W_if (b := true) ?_ ?_ ?_
    · simp +decide only [aev, rget_rput, if_true, if_false]
    · intro _
      repeat apply W_assoc
      apply W_reg
      · intro callf
        simp +decide only [aOps, aWanted, ↓bite_eq, ↓reduceIte, aStep_eq, aStepOld, aOp, aev, ann, aPut]
        rfl
      refine W_retq ⟨fun h => (nomatch h), fun _ _ => ⟨fun h => (nomatch h), fun h => (nomatch h), fun _ _ => ⟨fun h => h.elim (fun h => (nomatch h)) (fun h => (nomatch h)), fun _ _ => ⟨fun h => (nomatch h), fun h => (nomatch h), fun _ _ => ⟨Nat.le_refl _, [.bool false], ?_, ?_, e1.trans e4⟩⟩⟩⟩⟩
      · simp +decide only [aResults, rget_rput, if_true, if_false]
      · rw [loose_arc hrm hym (okA_false.2 (.inr (.inl d2)))]; rfl
    · intro h; cases h
  have d2 : decide (y.1 > 1025) = false := by simpa using c2
  by_cases c3 : decide (y.2 < 0) = true
  · have d3 := c3
    repeat apply W_assoc
    apply W_reg
    · intro callf
      simp +decide only [aOps, aWanted, ↓bite_eq, ↓reduceIte, aStep_eq, aStepOld, aOp, opBin, opFieldAddr, opLoad, opPick, aev, ann, aPut, rget_rput, List.getElem?_toArray, List.getElem?_cons_zero, List.getElem?_cons_succ, Nat.zero_add, Option.bind_some, beq_self_eq_true, Bool.true_beq, fld0, fld1, D.ev, D.to, aBin, aInts, aInt_eq, d1, d2, d3]
      rfl
    repeat apply W_assoc
    refine W_if (b := true) ?_ ?_ ?_
    · simp +decide only [aev, rget_rput, if_true, if_false]
    · intro _
      repeat apply W_assoc
      apply W_reg
      · intro callf
        simp +decide only [aOps, aWanted, ↓bite_eq, ↓reduceIte, aStep_eq, aStepOld, aOp, aev, ann, aPut]
        rfl
      refine W_retq ⟨fun h => (nomatch h), fun _ _ => ⟨fun h => (nomatch h), fun h => (nomatch h), fun _ _ => ⟨fun h => h.elim (fun h => (nomatch h)) (fun h => (nomatch h)), fun _ _ => ⟨fun h => (nomatch h), fun h => (nomatch h), fun _ _ => ⟨Nat.le_refl _, [.bool false], ?_, ?_, e1.trans e4⟩⟩⟩⟩⟩
      · simp +decide only [aResults, rget_rput, if_true, if_false]
      · rw [loose_arc hrm hym (okA_false.2 (.inr (.inr (.inl d3))))]; rfl
    · intro h; cases h
  have d3 : decide (y.2 < 0) = false := by simpa using c3
  by_cases c4 : decide (y.2 ≥ (L.length : Int)) = true
  · have d4 := c4
    repeat apply W_assoc
    apply W_reg
    · intro callf
      simp +decide only [aOps, aWanted, ↓bite_eq, ↓reduceIte, aStep_eq, aStepOld, aOp, opBin, opFieldAddr, opLoad, opPick, aev, ann, aPut, rget_rput, List.getElem?_toArray, List.getElem?_cons_zero, List.getElem?_cons_succ, Nat.zero_add, Option.bind_some, beq_self_eq_true, fld0, fld1, D.ev, D.to, h3, aBin, aInts, aInt_eq, d1, d2, d3, d4]
      rfl
    repeat apply W_assoc
    refine W_if (b := true) ?_ ?_ ?_
    · simp +decide only [aev, rget_rput, if_true, if_false]
    · intro _
      repeat apply W_assoc
      apply W_reg
      · intro callf
        simp +decide only [aOps, aWanted, ↓bite_eq, ↓reduceIte, aStep_eq, aStepOld, aOp, aev, ann, aPut]
        rfl
      refine W_retq ⟨fun h => (nomatch h), fun _ _ => ⟨fun h => (nomatch h), fun h => (nomatch h), fun _ _ => ⟨fun h => h.elim (fun h => (nomatch h)) (fun h => (nomatch h)), fun _ _ => ⟨fun h => (nomatch h), fun h => (nomatch h), fun _ _ => ⟨Nat.le_refl _, [.bool false], ?_, ?_, e1.trans e4⟩⟩⟩⟩⟩
      · simp +decide only [aResults, rget_rput, if_true, if_false]
      · rw [loose_arc hrm hym (okA_false.2 (.inr (.inr (.inr d4))))]; rfl
    · intro h; cases h
  have d4 : decide (y.2 ≥ (L.length : Int)) = false := by simpa using c4
  repeat apply W_assoc
  apply W_reg
  · intro callf
    simp +decide only [aOps, aWanted, ↓bite_eq, ↓reduceIte, aStep_eq, aStepOld, aOp, opBin, opFieldAddr, opLoad, opPick, aev, ann, aPut, rget_rput, List.getElem?_toArray, List.getElem?_cons_zero, List.getElem?_cons_succ, Nat.zero_add, Option.bind_some, beq_self_eq_true, fld0, fld1, D.ev, D.to, h3, aBin, aInts, aInt_eq, d1, d2, d3, d4]
    rfl
  repeat apply W_assoc
  refine W_if (b := false) ?_ ?_ ?_
  · simp +decide only [aev, rget_rput, if_true, if_false]
  · intro h; cases h
  intro _
  have hok : okA L.length y = true := by
    cases h : okA L.length y with
    | true => rfl
    | false =>
      rcases okA_false.1 h with h | h | h | h
      · rw [d1] at h; cases h
      · rw [d2] at h; cases h
      · rw [d3] at h; cases h
      · rw [d4] at h; cases h
  apply W_skipq
  refine W_skip ⟨fun _ => ?_, fun h => absurd rfl h⟩
  refine W_tail ?_
  repeat apply W_assoc
  apply W_reg
  · intro callf
    simp +decide only [aOps, aWanted, ↓bite_eq, ↓reduceIte, aStep_eq, aStepOld, aOp, opBin, aev, ann, aPut, rget_rput, h6, wrap_add hb (Nat.le_trans (hz.row row hrm) (by decide)), aBin, aInts, aInt_eq]
    rfl
  refine W_skip ⟨fun _ => ⟨j + 1, ?_, ?_⟩, fun h => (nomatch h), fun h => absurd rfl h⟩
  · omega
  · simp +decide only [rget_rput, if_true, if_false, h1, h3, h4, h5]
    refine ⟨by omega, e4, trivial, trivial, trivial, trivial, trivial, ?_⟩
    rw [List.take_add_one, hy]
    simp only [Option.toList_some, List.mem_append, List.mem_singleton]
    exact fun a ha => ha.elim (hokj a) (fun e => by rw [e]; exact hok)

set_option maxHeartbeats 4000000 in
theorem valid_ref {σ : AS} {s : Value} {L : Lts} (hs : RS 1 RRow σ s L) (hz : Small L) : C Try.prog Kn 0 32 [.agg #[s]] σ fun v σ' => v = .bool (validB L) ∧ Ext σ σ' := by
  refine C_of (kn (by decide)) Try.func32 rfl (Nat.le_of_ble_eq_true rfl) ?_
  show W _ _ _ 44 _ _ _ _
  unfold Try.f32
  dsimp only
  repeat apply W_assoc
  apply W_reg
  · intro callf
    simp +decide only [aOps, rinit, aWanted, ↓bite_eq, ↓reduceIte, aStep_eq, aStepOld, aOp, opBox, aRow, aev, ann, aPut, rget_rput]
    rfl
  have B := LtsAt.new hs
  have e1 := Ext.new σ ⟨1, 30, 0, (Value.agg #[s]).cells.toList, []⟩
  generalize σ.new ⟨1, 30, 0, (Value.agg #[s]).cells.toList, []⟩ = σ1 at B e1
  obtain ⟨sb, sc, rfl, -⟩ := id hs
  repeat apply W_assoc
  apply W_regL
  apply Ls_pre 1
  · intro callf
    simp +decide only [List.take, aOps, aWanted, ↓bite_eq, ↓reduceIte, aStep_eq, aStepOld, aOp, opLoad, aev, ann, aPut, rget_rput, B.load]
    rfl
  dsimp only [List.drop]
  refine Ls_fn (vs := [.agg #[.slice sb L.length sc]]) (by simp +decide only [aevs, aev, rget_rput, if_true, if_false]) (by decide) (C.mono (loose_ref (hs.ext RRow.keeps e1) hz) ?_)
  rintro v σ' ⟨rfl, e0⟩
  apply Ls_all
  · intro callf
    simp +decide only [aOps, aWanted, ↓bite_eq, ↓reduceIte, aStep_eq, aStepOld, aOp, opUn, aev, ann, aPut, rget_rput, flat, flat1, not_b]
    rfl
  have B := B.ext e0
  have e1 := e1.trans e0
  generalize σ' = σ1 at B e1
  repeat apply W_assoc
  refine W_if (b := (!looseB L)) ?_ ?_ ?_
  · simp +decide only [aev, rget_rput, if_true, if_false]
  · intro h
    have h : looseB L = false := by simpa using h
    repeat apply W_assoc
    apply W_reg
    · intro callf
      simp +decide only [aOps, aWanted, ↓bite_eq, ↓reduceIte, aStep_eq, aStepOld, aOp, aev, ann, aPut]
      rfl
    refine W_retq ⟨Nat.le_refl _, [.bool false], ?_, ?_, e1⟩
    · simp +decide only [aResults, rget_rput, if_true, if_false]
    · simp [aResult, validB, h]
  intro h
  have hlo : looseB L = true := by simpa using h
  apply W_skipq
  repeat apply W_assoc
  apply W_reg
  · intro callf
    simp +decide only [aOps, aWanted, ↓bite_eq, ↓reduceIte, aStep_eq, aStepOld, aOp, aev, ann, aPut]
    rfl
  repeat apply W_assoc
  refine W_for (fun (i : Nat) r σ' => i ≤ L.length ∧ Ext σ1 σ' ∧ rget r 1 = .pointer (some ⟨σ.next, 0, none⟩) ∧ rget r 3 = .int .i64 (i : Int) ∧ ∀ w ∈ L.take i, asc w = true)
    (fun i => L.length - i) ?_ 0 ?_
  rotate_left
  · simp +decide only [rget_rput, if_true, if_false]
    exact ⟨Nat.zero_le _, Ext.refl _, trivial, rfl, by simp⟩
  rintro i r σ2 ⟨hi, e2, h1, h3, hok⟩
  have B2 := B.ext e2
  repeat apply W_assoc
  apply W_reg
  · intro callf
    simp +decide only [aOps, aWanted, ↓bite_eq, ↓reduceIte, aStep_eq, aStepOld, aOp, opBin, opCall, opFieldAddr, opLoad, aev, aevs, ann, aPut, rget_rput, aBuiltin, aLen, List.getElem?_toArray, List.getElem?_cons_zero, h1, h3, fldL, B2.out, Try.underlying28, goInt, aBin, aInts, aInt_eq]
    rfl
  repeat apply W_assoc
  refine W_if (b := decide ((i : Int) < (L.length : Int))) ?_ ?_ ?_
  · simp +decide only [aev, rget_rput, if_true, if_false]
  rotate_left
  · intro hb
    have hb : i = L.length := by
      have := of_decide_eq_false hb
      omega
    refine W_exitq ⟨fun h => (nomatch h), fun _ => ?_, fun h1 h2 => absurd rfl h2⟩
    repeat apply W_assoc
    apply W_reg
    · intro callf
      simp +decide only [aOps, aWanted, ↓bite_eq, ↓reduceIte, aStep_eq, aStepOld, aOp, aev, ann, aPut]
      rfl
    refine W_ret ⟨Nat.le_refl _, [.bool true], ?_, ?_, e1.trans e2⟩
    · simp +decide only [aResults, rget_rput, if_true, if_false]
    · subst hb
      rw [List.take_length] at hok
      have : L.all asc = true := List.all_eq_true.2 hok
      unfold validB
      rw [hlo, this]; rfl
  intro hb
  have hb : i < L.length := by
    have := of_decide_eq_true hb
    omega
  apply W_skipq
  refine W_blk ?_
  obtain ⟨row, hrow⟩ : ∃ row, L[i]? = some row := ⟨L[i], by simp [hb]⟩
  have hrm : row ∈ L := List.mem_of_getElem? hrow
  obtain ⟨-, rb, roff, rv, rfl, hrb, hrl, hrs⟩ := rowOf B.rd hrow
  obtain ⟨vb, vc, rfl, -⟩ := id hrs
  repeat apply W_assoc
  apply W_reg
  · intro callf
    simp +decide only [aOps, aWanted, ↓bite_eq, ↓reduceIte, aStep_eq, aStepOld, aOp, aev, ann, aPut]
    rfl
  refine W_tail ?_
  refine W_for (fun (j : Nat) r σ' => Ext σ1 σ' ∧ rget r 1 = .pointer (some ⟨σ.next, 0, none⟩) ∧ rget r 3 = .int .i64 (i : Int) ∧ rget r 4 = .int .i64 ((j + 1 : Nat) : Int) ∧ asc (row.take (j + 1)) = true)
    (fun j => row.length - j) ?_ 0 ?_
  rotate_left
  · simp +decide only [rget_rput, if_true, if_false, h1, h3]
    refine ⟨e2, trivial, trivial, rfl, ?_⟩
    cases row with
    | nil => rfl
    | cons a l => rfl
  rintro j r σ3 ⟨e3, h1, h3, h4, hasc⟩
  have B3 := B.ext e3
  repeat apply W_assoc
  apply W_reg
  · intro callf
    simp +decide only [aOps, aWanted, ↓bite_eq, ↓reduceIte, aStep_eq, aStepOld, aOp, opBin, opCall, opIndexAddr, opFieldAddr, opLoad, aev, aevs, ann, aPut, rget_rput, aBuiltin, aLen, List.getElem?_toArray, List.getElem?_cons_zero, h1, h3, h4, fldL, B3.out, idx28 hb, hrl σ3 e3, Try.underlying22, goInt, aBin, aInts, aInt_eq]
    rfl
  repeat apply W_assoc
  refine W_if (b := decide (((j + 1 : Nat) : Int) < (row.length : Int))) ?_ ?_ ?_
  · simp +decide only [aev, rget_rput, if_true, if_false]
  rotate_left
  · intro hb2
    have hb2 : row.length ≤ j + 1 := by
      have := of_decide_eq_false hb2
      omega
    refine W_exitq ⟨fun h => (nomatch h), fun _ => ?_, fun h1 h2 => absurd rfl h2⟩
    refine W_skip ⟨fun _ => ?_, fun h => absurd rfl h⟩
    refine W_tail ?_
    repeat apply W_assoc
    apply W_reg
    · intro callf
      simp +decide only [aOps, aWanted, ↓bite_eq, ↓reduceIte, aStep_eq, aStepOld, aOp, opBin, aev, ann, aPut, rget_rput, h3, wrap_add hb hz.len, aBin, aInts, aInt_eq]
      rfl
    refine W_skip ⟨fun _ => ⟨i + 1, ?_, ?_⟩, fun h => (nomatch h), fun h => absurd rfl h⟩
    · omega
    · simp +decide only [rget_rput, if_true, if_false, h1]
      refine ⟨by omega, e3, trivial, trivial, ?_⟩
      rw [List.take_add_one, hrow]
      simp only [Option.toList_some, List.mem_append, List.mem_singleton]
      rintro w (hw | rfl)
      · exact hok w hw
      · rw [List.take_of_length_le hb2] at hasc; exact hasc
  intro hb2
  have hb2 : j + 1 < row.length := by
    have := of_decide_eq_true hb2
    omega
  apply W_skipq
  refine W_blk ?_
  obtain ⟨x, hx⟩ : ∃ x, row[j]? = some x := ⟨row[j], by simp [show j < row.length by omega]⟩
  obtain ⟨y, hy⟩ : ∃ y, row[j + 1]? = some y := ⟨row[j + 1], by simp [hb2]⟩
  obtain ⟨-, b, off, rfl, hbl, hat1⟩ := arcOf hrs hx
  obtain ⟨-, b2, off2, hbb, hbl2, hat2⟩ := arcOf hrs hy
  cases hbb
  have hj : IntKind.i64.wrap (((j + 1 : Nat) : Int) - 1) = (j : Int) := by
    have := hz.row row hrm
    rw [wrap64_id _ (by omega) (by omega)]; omega
  have B4 := B3.ext (Ext.reset _)
  repeat apply W_assoc
  refine W_drw [] [] (by kernel_rfl) (by kernel_rfl) ?_
  apply Lg_pre 17
  · intro callf
    simp +decide only [List.take, aQ, memb, List.any_nil, Bool.true_or, Bool.and_true, reset_merge, reset_reset, reset_next, reset_low, merge_next, merge_idem, ble_self, aWanted, ↓bite_eq, ↓reduceIte, aStep_eq, aStepOld, aOp, opBin, opIndexAddr, opFieldAddr, opLoad, aev, ann, aPut, rget_rput, Nat.zero_add, Bool.not_false, h1, h3, h4, hj, fldL, B4.out, idx28 hb, hrl _ (e3.trans (Ext.reset _)), idx22 (show j < row.length by omega), idx22 hb2, (hat1 _ (e3.trans (Ext.reset _))).1, (hat2 _ (e3.trans (Ext.reset _))).1, aBin, aInts, aInt_eq]
    rfl
  dsimp only [List.drop, List.take, List.length]
  have e4 := e3.trans ((Ext.refl _).merge (σ := σ3))
  generalize σ3.merge σ3.reset = σ4 at e4
  refine Lg_fn (vs := [vArc x, vArc y]) (by simp +decide only [aevs, aev, rget_rput, if_true, if_false]) (by decide) rfl (C.mono (less_arcs x y) ?_)
  rintro v s1 ⟨rfl, e5⟩
  refine ⟨e5.quiet, ?_⟩
  have e6 := e4.trans e5.merge
  generalize σ4.merge s1 = σ5 at e6
  apply Lg_all
  · intro callf
    simp +decide only [aQ, memb, List.any_nil, Bool.true_or, Bool.and_true, reset_low, ble_self, aWanted, ↓bite_eq, ↓reduceIte, aStep_eq, aStepOld, aOp, opUn, aev, ann, aPut, rget_rput, flat, flat1, Nat.zero_add, Bool.not_false, not_b]
    rfl
  have e7 := e6.trans ((Ext.refl _).merge (σ := σ5))
  generalize σ5.merge σ5.reset = σ6 at e7
  refine W_tail ?_
  repeat apply W_assoc
  refine W_if (b := (!lessA x y)) ?_ ?_ ?_
  · simp +decide only [aev, rget_rput, if_true, if_false]
  · intro h
    have h : lessA x y = false := by simpa using h
    repeat apply W_assoc
    apply W_reg
    · intro callf
      simp +decide only [aOps, aWanted, ↓bite_eq, ↓reduceIte, aStep_eq, aStepOld, aOp, aev, ann, aPut]
      rfl
    refine W_retq ⟨fun h => (nomatch h), fun _ _ => ⟨fun h => (nomatch h), fun h => (nomatch h), fun _ _ => ⟨fun h => h.elim (fun h => (nomatch h)) (fun h => (nomatch h)), fun _ _ => ⟨fun h => (nomatch h), fun h => (nomatch h), fun _ _ => ⟨Nat.le_refl _, [.bool false], ?_, ?_, e1.trans e7⟩⟩⟩⟩⟩
    · simp +decide only [aResults, rget_rput, if_true, if_false]
    · rw [valid_row hrm (asc_false (j + 2) (by rw [asc_take hasc hx hy]; exact h))]; rfl
  intro h
  have h : lessA x y = true := by simpa using h
  apply W_skipq
  refine W_skip ⟨fun _ => ?_, fun h => absurd rfl h⟩
  refine W_tail ?_
  repeat apply W_assoc
  apply W_reg
  · intro callf
    simp +decide only [aOps, aWanted, ↓bite_eq, ↓reduceIte, aStep_eq, aStepOld, aOp, opBin, aev, ann, aPut, rget_rput, h4, wrap_add hb2 (Nat.le_trans (hz.row row hrm) (by decide)), aBin, aInts, aInt_eq]
    rfl
  refine W_skip ⟨fun _ => ⟨j + 1, ?_, ?_⟩, fun h => (nomatch h), fun h => absurd rfl h⟩
  · omega
  · simp +decide only [rget_rput, if_true, if_false, h1, h3]
    exact ⟨e7, trivial, trivial, trivial, (asc_take hasc hx hy).trans h⟩

end Go.Proofs.Ytbknckiapcafdaa.Nest
