/- Contracts: which systems are valid, by the program and by the reference. -/
import Derived.Test.YtbknckiapcafdaaNestD
set_option linter.unusedSimpArgs false
set_option linter.unusedVariables false
namespace Go.Proofs.Ytbknckiapcafdaa.Nest
open Abs

def okA (n : Nat) (a : Arc) : Bool := decide (0 ≤ a.1) && decide (a.1 ≤ 1025) && decide (0 ≤ a.2) && decide (a.2 < (n : Int))
def total (L : Lts) : Nat := (L.map List.length).sum
def looseB (L : Lts) : Bool := decide (1 ≤ L.length) && decide (L.length ≤ 16384) && decide (total L ≤ 262144) && L.all fun r => r.all (okA L.length)

theorem total_take {L : Lts} {i : Nat} {row : List Arc} (h : L[i]? = some row) : total (L.take (i + 1)) = total (L.take i) + row.length := by
  unfold total
  rw [List.take_add_one, h, List.map_append, List.sum_append]; simp
theorem total_le {L : Lts} {i : Nat} : total (L.take i) ≤ total L := by
  unfold total
  have : L = L.take i ++ L.drop i := (List.take_append_drop i L).symm
  rw [congrArg (List.map List.length) this, List.map_append, List.sum_append]; omega

/-- Sizes of a machine's lists. -/
structure Small (L : Lts) : Prop where
  len : L.length ≤ 2 ^ 62
  row : ∀ r ∈ L, r.length ≤ 2 ^ 61

theorem wrap_sub {a b : Nat} (h : b ≤ a) (ha : a ≤ 2 ^ 62) : IntKind.i64.wrap ((a : Int) - (b : Int)) = ((a - b : Nat) : Int) := by
  rw [wrap64_id _ (by omega) (by omega)]; omega
theorem loose_len {L : Lts} (h : ¬ (1 ≤ L.length ∧ L.length ≤ 16384)) : looseB L = false := by
  unfold looseB
  by_cases h1 : 1 ≤ L.length
  · have h2 : ¬ L.length ≤ 16384 := fun h2 => h ⟨h1, h2⟩
    simp [h2]
  · simp [h1]
theorem loose_total {L : Lts} (h : ¬ total L ≤ 262144) : looseB L = false := by
  unfold looseB; simp [h]
theorem loose_arc {L : Lts} {row : List Arc} {a : Arc} (h1 : row ∈ L) (h2 : a ∈ row) (h3 : okA L.length a = false) : looseB L = false := by
  have : (L.all fun r => r.all (okA L.length)) = false := by
    rw [List.all_eq_false]
    refine ⟨row, h1, ?_⟩
    rw [Bool.not_eq_true, List.all_eq_false]
    exact ⟨a, h2, by rw [h3]; simp⟩
  unfold looseB; rw [this]; simp
theorem loose_true {L : Lts} (h1 : 1 ≤ L.length ∧ L.length ≤ 16384) (h2 : total L ≤ 262144) (h3 : ∀ r ∈ L, ∀ a ∈ r, okA L.length a = true) : looseB L = true := by
  unfold looseB
  simp only [h1.1, h1.2, h2, decide_true, Bool.true_and, List.all_eq_true]
  exact h3

/-- The test of an arc, by its parts. -/
theorem okA_false {n : Nat} {a : Arc} : okA n a = false ↔ (decide (a.1 < 0) = true ∨ decide (a.1 > 1025) = true ∨ decide (a.2 < 0) = true ∨ decide (a.2 ≥ (n : Int)) = true) := by
  unfold okA
  by_cases h1 : a.1 < 0 <;> by_cases h2 : a.1 > 1025 <;> by_cases h3 : a.2 < 0 <;> by_cases h4 : a.2 ≥ (n : Int) <;> simp [h1, h2, h3, h4] <;> omega

set_option maxHeartbeats 4000000 in
theorem loose_rows {σ : AS} {s : Value} {L : Lts} (hs : RS 1 RRow σ s L) (hz : Small L) : C Try.prog Kn 0 44 [.agg #[s]] σ fun v σ' => v = .bool (looseB L) ∧ Ext σ σ' := by
  refine C_of (kn (by decide)) Try.func44 rfl (Nat.le_of_ble_eq_true rfl) ?_
  show W _ _ _ 60 _ _ _ _
  unfold Try.f44
  dsimp only
  repeat apply W_assoc
  apply W_reg
  · intro callf
    simp +decide only [aOps, rinit, aWanted, ↓bite_eq, ↓reduceIte, aStep_eq, aStepOld, aOp, opBox, aRow, aev, ann, aPut, rget_rput]
    rfl
  have B := LtsAt.new hs
  have e1 := Ext.new σ ⟨1, 30, 0, (Value.agg #[s]).cells.toList, []⟩
  generalize σ.new ⟨1, 30, 0, (Value.agg #[s]).cells.toList, []⟩ = σ1 at B e1
  obtain ⟨sb, sc, rfl, -⟩ := id hs
  repeat apply W_assoc
  apply W_reg
  · intro callf
    simp +decide only [aOps, aWanted, ↓bite_eq, ↓reduceIte, aStep_eq, aStepOld, aOp, opCall, opFieldAddr, opLoad, aev, aevs, ann, aPut, rget_rput, aBuiltin, aLen, List.getElem?_toArray, List.getElem?_cons_zero, fldL, B.out, Try.underlying28, goInt]
    rfl
  by_cases hn : 1 ≤ L.length ∧ L.length ≤ 16384
  rotate_left
  · by_cases h1 : (L.length : Int) < 1
    · have d1 : decide ((L.length : Int) < 1) = true := decide_eq_true h1
      repeat apply W_assoc
      apply W_reg
      · intro callf
        simp +decide only [aOps, aWanted, ↓bite_eq, ↓reduceIte, aStep_eq, aStepOld, aOp, opBin, opPick, aev, ann, aPut, rget_rput, List.getElem?_toArray, List.getElem?_cons_zero, List.getElem?_cons_succ, Option.bind_some, Bool.true_beq, d1, aBin, aInts, aInt_eq]
        rfl
      repeat apply W_assoc
      refine W_if (b := true) ?_ ?_ ?_
      · simp +decide only [aev, rget_rput, if_true, if_false]
      · intro _
        repeat apply W_assoc
        apply W_reg
        · intro callf
          simp +decide only [aOps, aWanted, ↓bite_eq, ↓reduceIte, aStep_eq, aStepOld, aOp, aev, ann, aPut]
          rfl
        refine W_retq ⟨Nat.le_refl _, [.bool false], ?_, ?_, e1⟩
        · simp +decide only [aResults, rget_rput, if_true, if_false]
        · simp only [aResult, loose_len hn]
      · intro h; cases h
    · have d1 : decide ((L.length : Int) < 1) = false := decide_eq_false h1
      have d2 : decide ((L.length : Int) > 16384) = true := decide_eq_true (by omega)
      repeat apply W_assoc
      apply W_reg
      · intro callf
        simp +decide only [aOps, aWanted, ↓bite_eq, ↓reduceIte, aStep_eq, aStepOld, aOp, opBin, opPick, aev, ann, aPut, rget_rput, List.getElem?_toArray, List.getElem?_cons_zero, List.getElem?_cons_succ, Option.bind_some, beq_self_eq_true, d1, d2, aBin, aInts, aInt_eq]
        rfl
      repeat apply W_assoc
      refine W_if (b := true) ?_ ?_ ?_
      · simp +decide only [aev, rget_rput, if_true, if_false]
      · intro _
        repeat apply W_assoc
        apply W_reg
        · intro callf
          simp +decide only [aOps, aWanted, ↓bite_eq, ↓reduceIte, aStep_eq, aStepOld, aOp, aev, ann, aPut]
          rfl
        refine W_retq ⟨Nat.le_refl _, [.bool false], ?_, ?_, e1⟩
        · simp +decide only [aResults, rget_rput, if_true, if_false]
        · simp only [aResult, loose_len hn]
      · intro h; cases h
  have d1 : decide ((L.length : Int) < 1) = false := decide_eq_false (by omega)
  have d2 : decide ((L.length : Int) > 16384) = false := decide_eq_false (by omega)
  repeat apply W_assoc
  apply W_reg
  · intro callf
    simp +decide only [aOps, aWanted, ↓bite_eq, ↓reduceIte, aStep_eq, aStepOld, aOp, opBin, opPick, aev, ann, aPut, rget_rput, List.getElem?_toArray, List.getElem?_cons_zero, List.getElem?_cons_succ, Option.bind_some, beq_self_eq_true, d1, d2, aBin, aInts, aInt_eq]
    rfl
  repeat apply W_assoc
  refine W_if (b := false) ?_ ?_ ?_
  · simp +decide only [aev, rget_rput, if_true, if_false]
  · intro h; cases h
  intro _
  apply W_skipq
  repeat apply W_assoc
  apply W_reg
  · intro callf
    simp +decide only [aOps, aWanted, ↓bite_eq, ↓reduceIte, aStep_eq, aStepOld, aOp, aev, ann, aPut]
    rfl
  repeat apply W_assoc
  apply W_reg
  · intro callf
    simp +decide only [aOps, aWanted, ↓bite_eq, ↓reduceIte, aStep_eq, aStepOld, aOp, opCall, opFieldAddr, opLoad, aev, aevs, ann, aPut, rget_rput, aBuiltin, aLen, List.getElem?_toArray, List.getElem?_cons_zero, fldL, B.out, Try.underlying28, goInt]
    rfl
  repeat apply W_assoc
  refine W_for (fun (i : Nat) r σ' => i ≤ L.length ∧ Ext σ1 σ' ∧ rget r 3 = .int .i64 (L.length : Int) ∧ rget r 4 = .int .i64 ((262144 - total (L.take i) : Nat) : Int) ∧ rget r 19 = .slice sb L.length sc ∧ rget r 20 = .int .i64 (L.length : Int) ∧ rget r 21 = .int .i64 (i : Int) ∧
      total (L.take i) ≤ 262144 ∧ ∀ w ∈ L.take i, ∀ a ∈ w, okA L.length a = true)
    (fun i => L.length - i) ?_ 0 ?_
  rotate_left
  · simp +decide only [rget_rput, if_true, if_false]
    refine ⟨Nat.zero_le _, Ext.refl _, trivial, ?_, trivial, trivial, rfl, ?_, ?_⟩
    · simp [total]
    · simp [total]
    · intro w hw; simp at hw
  rintro i r σ2 ⟨hi, e2, h3, h4, h19, h20, h21, ht, hok⟩
  repeat apply W_assoc
  apply W_reg
  · intro callf
    simp +decide only [aOps, aWanted, ↓bite_eq, ↓reduceIte, aStep_eq, aStepOld, aOp, opBin, aev, ann, aPut, h20, h21, aBin, aInts, aInt_eq]
    rfl
  repeat apply W_assoc
  refine W_if (b := decide ((i : Int) < (L.length : Int))) ?_ ?_ ?_
  · simp +decide only [aev, rget_rput, if_true]
  rotate_left
  · intro hb
    have hb : i = L.length := by
      have := of_decide_eq_false hb
      omega
    refine W_exitq ⟨fun h => (nomatch h), fun _ => ?_, fun h1 h2 => absurd rfl h2⟩
    repeat apply W_assoc
    apply W_reg
    · intro callf
      simp +decide only [aOps, aWanted, ↓bite_eq, ↓reduceIte, aStep_eq, aStepOld, aOp, aev, ann, aPut]
      rfl
    refine W_ret ⟨Nat.le_refl _, [.bool true], ?_, ?_, e1.trans e2⟩
    · simp +decide only [aResults, rget_rput, if_true, if_false]
    · subst hb
      rw [List.take_length] at ht hok
      rw [loose_true hn ht hok]; rfl
  intro hb
  have hb : i < L.length := by
    have := of_decide_eq_true hb
    omega
  apply W_skipq
  refine W_blk ?_
  obtain ⟨row, hrow⟩ : ∃ row, L[i]? = some row := ⟨L[i], by simp [hb]⟩
  have hrm : row ∈ L := List.mem_of_getElem? hrow
  obtain ⟨-, rb, roff, rv, rfl, hrb, hrl, hrs⟩ := rowOf B.rd hrow
  obtain ⟨vb, vc, rfl, -⟩ := id hrs
  have htt := total_take hrow
  have htl := total_le (L := L) (i := i + 1)
  repeat apply W_assoc
  apply W_reg
  · intro callf
    simp +decide only [aOps, aWanted, ↓bite_eq, ↓reduceIte, aStep_eq, aStepOld, aOp, opIndexAddr, opLoad, aev, ann, aPut, rget_rput, h19, h21, idx28 hb, hrl σ2 e2]
    rfl
  repeat apply W_assoc
  apply W_reg
  · intro callf
    simp +decide only [aOps, aWanted, ↓bite_eq, ↓reduceIte, aStep_eq, aStepOld, aOp, opBin, opCall, aev, aevs, ann, aPut, rget_rput, aBuiltin, aLen, List.getElem?_toArray, List.getElem?_cons_zero, h4, Try.underlying22, goInt, aBin, aInts, aInt_eq]
    rfl
  repeat apply W_assoc
  refine W_if (b := decide ((row.length : Int) > ((262144 - total (L.take i) : Nat) : Int))) ?_ ?_ ?_
  · simp +decide only [aev, rget_rput, if_true, if_false]
  · intro hg
    have hg := of_decide_eq_true hg
    repeat apply W_assoc
    apply W_reg
    · intro callf
      simp +decide only [aOps, aWanted, ↓bite_eq, ↓reduceIte, aStep_eq, aStepOld, aOp, aev, ann, aPut]
      rfl
    refine W_retq ⟨fun h => h.elim (fun h => (nomatch h)) (fun h => (nomatch h)), fun _ _ => ⟨fun h => (nomatch h), fun h => (nomatch h), fun _ _ => ⟨Nat.le_refl _, [.bool false], ?_, ?_, e1.trans e2⟩⟩⟩
    · simp +decide only [aResults, rget_rput, if_true, if_false]
    · rw [loose_total (by omega)]; rfl
  intro hg
  have hg := of_decide_eq_false hg
  have hg : row.length ≤ 262144 - total (L.take i) := by omega
  apply W_skipq
  repeat apply W_assoc
  apply W_reg
  · intro callf
    simp +decide only [aOps, aWanted, ↓bite_eq, ↓reduceIte, aStep_eq, aStepOld, aOp, opBin, opCall, aev, aevs, ann, aPut, rget_rput, aBuiltin, aLen, List.getElem?_toArray, List.getElem?_cons_zero, h4, Try.underlying22, goInt, wrap_sub hg (by omega), aBin, aInts, aInt_eq]
    rfl
  repeat apply W_assoc
  apply W_reg
  · intro callf
    simp +decide only [aOps, aWanted, ↓bite_eq, ↓reduceIte, aStep_eq, aStepOld, aOp, opCall, aev, aevs, ann, aPut, rget_rput, aBuiltin, aLen, List.getElem?_toArray, List.getElem?_cons_zero, Try.underlying22, goInt]
    rfl
  refine W_tail ?_
  refine W_for (fun (j : Nat) r σ' => j ≤ row.length ∧ Ext σ1 σ' ∧ rget r 3 = .int .i64 (L.length : Int) ∧ rget r 4 = .int .i64 ((262144 - total (L.take i) - row.length : Nat) : Int) ∧ rget r 19 = .slice (some ⟨rb, roff, none⟩) L.length sc ∧ rget r 20 = .int .i64 (L.length : Int) ∧ rget r 21 = .int .i64 (i : Int) ∧
      rget r 33 = .slice vb row.length vc ∧ rget r 34 = .int .i64 (row.length : Int) ∧ rget r 35 = .int .i64 (j : Int) ∧ ∀ a ∈ row.take j, okA L.length a = true)
    (fun j => row.length - j) ?_ 0 ?_
  rotate_left
  · simp +decide only [rget_rput, if_true, if_false, h3, h19, h20, h21]
    exact ⟨Nat.zero_le _, e2, trivial, trivial, trivial, trivial, trivial, trivial, trivial, rfl, by simp⟩
  rintro j r σ3 ⟨hj, e3, h3, h4, h19, h20, h21, h33, h34, h35, hokj⟩
  repeat apply W_assoc
  apply W_reg
  · intro callf
    simp +decide only [aOps, aWanted, ↓bite_eq, ↓reduceIte, aStep_eq, aStepOld, aOp, opBin, aev, ann, aPut, h34, h35, aBin, aInts, aInt_eq]
    rfl
  repeat apply W_assoc
  refine W_if (b := decide ((j : Int) < (row.length : Int))) ?_ ?_ ?_
  · simp +decide only [aev, rget_rput, if_true]
  rotate_left
  · intro hb
    have hb : j = row.length := by
      have := of_decide_eq_false hb
      omega
    refine W_exitq ⟨fun h => (nomatch h), fun _ => ?_, fun h1 h2 => absurd rfl h2⟩
    refine W_skip ⟨fun _ => ?_, fun h => absurd rfl h⟩
    refine W_tail ?_
    repeat apply W_assoc
    apply W_reg
    · intro callf
      simp +decide only [aOps, aWanted, ↓bite_eq, ↓reduceIte, aStep_eq, aStepOld, aOp, opBin, aev, ann, aPut, rget_rput, h21, wrap_add ‹i < L.length› hz.len, aBin, aInts, aInt_eq]
      rfl
    refine W_skip ⟨fun _ => ⟨i + 1, ?_, ?_⟩, fun h => (nomatch h), fun h => absurd rfl h⟩
    · omega
    · simp +decide only [rget_rput, if_true, if_false, h3, h4, h19, h20]
      refine ⟨by omega, e3, trivial, ?_, trivial, trivial, trivial, by omega, ?_⟩
      · rw [htt]; congr 2; omega
      · rw [List.take_add_one, hrow]
        simp only [Option.toList_some, List.mem_append, List.mem_singleton]
        rintro w (hw | rfl)
        · exact hok w hw
        · subst hb; rw [List.take_length] at hokj; exact hokj
  intro hb
  have hb : j < row.length := by
    have := of_decide_eq_true hb
    omega
  apply W_skipq
  refine W_blk ?_
  obtain ⟨y, hy⟩ : ∃ y, row[j]? = some y := ⟨row[j], by simp [hb]⟩
  have hym : y ∈ row := List.mem_of_getElem? hy
  obtain ⟨-, b, off, rfl, hbl, hat⟩ := arcOf hrs hy
  repeat apply W_assoc
  apply W_reg
  · intro callf
    simp +decide only [aOps, aWanted, ↓bite_eq, ↓reduceIte, aStep_eq, aStepOld, aOp, opIndexAddr, opLoad, opStore, aev, ann, unn, aPut, rget_rput, h33, h35, idx22 hb, (hat σ3 e3).1, alloc27, store27]
    rfl
  have D := decl_at σ3 y
  have e4 := e3.trans (decl_ext σ3 y)
  generalize decl σ3 y = σ4 at D e4
  refine W_tail ?_
  by_cases c1 : decide (y.1 < 0) = true
  · have d1 := c1
    repeat apply W_assoc
    apply W_reg
    · intro callf
      simp +decide only [aOps, aWanted, ↓bite_eq, ↓reduceIte, aStep_eq, aStepOld, aOp, opBin, opFieldAddr, opLoad, opPick, aev, ann, aPut, rget_rput, List.getElem?_toArray, List.getElem?_cons_zero, List.getElem?_cons_succ, Option.bind_some, Bool.true_beq, fld0, D.ev, aBin, aInts, aInt_eq, d1]
      rfl
    repeat apply W_assoc
    refine W_if (b := true) ?_ ?_ ?_
    · simp +decide only [aev, rget_rput, if_true, if_false]
    · intro _
      repeat apply W_assoc
      apply W_reg
      · intro callf
        simp +decide only [aOps, aWanted, ↓bite_eq, ↓reduceIte, aStep_eq, aStepOld, aOp, aev, ann, aPut]
        rfl
      refine W_retq ⟨fun h => (nomatch h), fun _ _ => ⟨fun h => (nomatch h), fun h => (nomatch h), fun _ _ => ⟨fun h => h.elim (fun h => (nomatch h)) (fun h => (nomatch h)), fun _ _ => ⟨fun h => (nomatch h), fun h => (nomatch h), fun _ _ => ⟨Nat.le_refl _, [.bool false], ?_, ?_, e1.trans e4⟩⟩⟩⟩⟩
      · simp +decide only [aResults, rget_rput, if_true, if_false]
      · rw [loose_arc hrm hym (okA_false.2 (.inl d1))]; rfl
    · intro h; cases h
  have d1 : decide (y.1 < 0) = false := by simpa using c1
  by_cases c2 : decide (y.1 > 1025) = true
  · have d2 := c2
    repeat apply W_assoc
    apply W_reg
    · intro callf
      simp +decide only [aOps, aWanted, ↓bite_eq, ↓reduceIte, aStep_eq, aStepOld, aOp, opBin, opFieldAddr, opLoad, opPick, aev, ann, aPut, rget_rput, List.getElem?_toArray, List.getElem?_cons_zero, List.getElem?_cons_succ, Option.bind_some, beq_self_eq_true, Bool.true_beq, fld0, D.ev, aBin, aInts, aInt_eq, d1, d2]
      rfl
    repeat apply W_assoc
    refine W_if (b := true) ?_ ?_ ?_
    · simp +decide only [aev, rget_rput, if_true, if_false]
    · intro _
      repeat apply W_assoc
      apply W_reg
      · intro callf
        simp +decide only [aOps, aWanted, ↓bite_eq, ↓reduceIte, aStep_eq, aStepOld, aOp, aev, ann, aPut]
        rfl
      refine W_retq ⟨fun h => (nomatch h), fun _ _ => ⟨fun h => (nomatch h), fun h => (nomatch h), fun _ _ => ⟨fun h => h.elim (fun h => (nomatch h)) (fun h => (nomatch h)), fun _ _ => ⟨fun h => (nomatch h), fun h => (nomatch h), fun _ _ => ⟨Nat.le_refl _, [.bool false], ?_, ?_, e1.trans e4⟩⟩⟩⟩⟩
      · simp +decide only [aResults, rget_rput, if_true, if_false]
      · rw [loose_arc hrm hym (okA_false.2 (.inr (.inl d2)))]; rfl
    · intro h; cases h
  have d2 : decide (y.1 > 1025) = false := by simpa using c2
  by_cases c3 : decide (y.2 < 0) = true
  · have d3 := c3
    repeat apply W_assoc
    apply W_reg
    · intro callf
      simp +decide only [aOps, aWanted, ↓bite_eq, ↓reduceIte, aStep_eq, aStepOld, aOp, opBin, opFieldAddr, opLoad, opPick, aev, ann, aPut, rget_rput, List.getElem?_toArray, List.getElem?_cons_zero, List.getElem?_cons_succ, Nat.zero_add, Option.bind_some, beq_self_eq_true, Bool.true_beq, fld0, fld1, D.ev, D.to, aBin, aInts, aInt_eq, d1, d2, d3]
      rfl
    repeat apply W_assoc
    refine W_if (b := true) ?_ ?_ ?_
    · simp +decide only [aev, rget_rput, if_true, if_false]
    · intro _
      repeat apply W_assoc
      apply W_reg
      · intro callf
        simp +decide only [aOps, aWanted, ↓bite_eq, ↓reduceIte, aStep_eq, aStepOld, aOp, aev, ann, aPut]
        rfl
      refine W_retq ⟨fun h => (nomatch h), fun _ _ => ⟨fun h => (nomatch h), fun h => (nomatch h), fun _ _ => ⟨fun h => h.elim (fun h => (nomatch h)) (fun h => (nomatch h)), fun _ _ => ⟨fun h => (nomatch h), fun h => (nomatch h), fun _ _ => ⟨Nat.le_refl _, [.bool false], ?_, ?_, e1.trans e4⟩⟩⟩⟩⟩
      · simp +decide only [aResults, rget_rput, if_true, if_false]
      · rw [loose_arc hrm hym (okA_false.2 (.inr (.inr (.inl d3))))]; rfl
    · intro h; cases h
  have d3 : decide (y.2 < 0) = false := by simpa using c3
  by_cases c4 : decide (y.2 ≥ (L.length : Int)) = true
  · have d4 := c4
    repeat apply W_assoc
    apply W_reg
    · intro callf
      simp +decide only [aOps, aWanted, ↓bite_eq, ↓reduceIte, aStep_eq, aStepOld, aOp, opBin, opFieldAddr, opLoad, opPick, aev, ann, aPut, rget_rput, List.getElem?_toArray, List.getElem?_cons_zero, List.getElem?_cons_succ, Nat.zero_add, Option.bind_some, beq_self_eq_true, fld0, fld1, D.ev, D.to, h3, aBin, aInts, aInt_eq, d1, d2, d3, d4]
      rfl
    repeat apply W_assoc
    refine W_if (b := true) ?_ ?_ ?_
    · simp +decide only [aev, rget_rput, if_true, if_false]
    · intro _
      repeat apply W_assoc
      apply W_reg
      · intro callf
        simp +decide only [aOps, aWanted, ↓bite_eq, ↓reduceIte, aStep_eq, aStepOld, aOp, aev, ann, aPut]
        rfl
      refine W_retq ⟨fun h => (nomatch h), fun _ _ => ⟨fun h => (nomatch h), fun h => (nomatch h), fun _ _ => ⟨fun h => h.elim (fun h => (nomatch h)) (fun h => (nomatch h)), fun _ _ => ⟨fun h => (nomatch h), fun h => (nomatch h), fun _ _ => ⟨Nat.le_refl _, [.bool false], ?_, ?_, e1.trans e4⟩⟩⟩⟩⟩
      · simp +decide only [aResults, rget_rput, if_true, if_false]
      · rw [loose_arc hrm hym (okA_false.2 (.inr (.inr (.inr d4))))]; rfl
    · intro h; cases h
  have d4 : decide (y.2 ≥ (L.length : Int)) = false := by simpa using c4
  repeat apply W_assoc
  apply W_reg
  · intro callf
    simp +decide only [aOps, aWanted, ↓bite_eq, ↓reduceIte, aStep_eq, aStepOld, aOp, opBin, opFieldAddr, opLoad, opPick, aev, ann, aPut, rget_rput, List.getElem?_toArray, List.getElem?_cons_zero, List.getElem?_cons_succ, Nat.zero_add, Option.bind_some, beq_self_eq_true, fld0, fld1, D.ev, D.to, h3, aBin, aInts, aInt_eq, d1, d2, d3, d4]
    rfl
  repeat apply W_assoc
  refine W_if (b := false) ?_ ?_ ?_
  · simp +decide only [aev, rget_rput, if_true, if_false]
  · intro h; cases h
  intro _
  have hok : okA L.length y = true := by
    cases h : okA L.length y with
    | true => rfl
    | false =>
      rcases okA_false.1 h with h | h | h | h
      · rw [d1] at h; cases h
      · rw [d2] at h; cases h
      · rw [d3] at h; cases h
      · rw [d4] at h; cases h
  apply W_skipq
  refine W_skip ⟨fun _ => ?_, fun h => absurd rfl h⟩
  refine W_tail ?_
  repeat apply W_assoc
  apply W_reg
  · intro callf
    simp +decide only [aOps, aWanted, ↓bite_eq, ↓reduceIte, aStep_eq, aStepOld, aOp, opBin, aev, ann, aPut, rget_rput, h35, wrap_add hb (Nat.le_trans (hz.row row hrm) (by decide)), aBin, aInts, aInt_eq]
    rfl
  refine W_skip ⟨fun _ => ⟨j + 1, ?_, ?_⟩, fun h => (nomatch h), fun h => absurd rfl h⟩
  · omega
  · simp +decide only [rget_rput, if_true, if_false, h3, h4, h19, h20, h21, h33, h34]
    refine ⟨by omega, e4, trivial, trivial, trivial, trivial, trivial, trivial, trivial, trivial, ?_⟩
    rw [List.take_add_one, hy]
    simp only [Option.toList_some, List.mem_append, List.mem_singleton]
    exact fun a ha => ha.elim (hokj a) (fun e => by rw [e]; exact hok)

end Go.Proofs.Ytbknckiapcafdaa.Nest
