/- Contracts: valid systems, and the reference's loose ones. -/
import Derived.Test.YtbknckiapcafdaaNestE
set_option linter.unusedSimpArgs false
set_option linter.unusedVariables false
namespace Go.Proofs.Ytbknckiapcafdaa.Nest
open Abs

/-- Each arc but the first is greater than the one before it. -/
def asc : List Arc → Bool
  | [] => true
  | [_] => true
  | a :: b :: l => lessA a b && asc (b :: l)

theorem asc_take : ∀ {l : List Arc} {i : Nat} {a b : Arc}, asc (l.take (i + 1)) = true → l[i]? = some a → l[i + 1]? = some b → asc (l.take (i + 2)) = lessA a b
  | [], i, a, b, _, h, _ => by simp at h
  | [x], i, a, b, _, _, h => by simp at h
  | x :: y :: l, 0, a, b, _, h1, h2 => by
    simp at h1 h2
    subst h1; subst h2
    simp [asc]
  | x :: y :: l, i + 1, a, b, h, h1, h2 => by
    have e1 : (x :: y :: l).take (i + 1 + 1) = x :: y :: l.take i := by simp
    have e2 : (x :: y :: l).take (i + 1 + 2) = x :: y :: l.take (i + 1) := by simp
    rw [e1, asc, Bool.and_eq_true] at h
    rw [e2, asc, h.1, Bool.true_and]
    have e3 : (y :: l).take (i + 1) = y :: l.take i := by simp
    have e4 : (y :: l).take (i + 2) = y :: l.take (i + 1) := by simp
    rw [← e4]
    exact asc_take (by rw [e3]; exact h.2) (by simpa using h1) (by simpa using h2)

theorem asc_false : ∀ {l : List Arc} (i : Nat), asc (l.take i) = false → asc l = false
  | [], i, h => by simpa using h
  | [x], i, h => by cases i <;> simp [asc] at h
  | x :: y :: l, 0, h => by simp [asc] at h
  | x :: y :: l, 1, h => by simp [asc] at h
  | x :: y :: l, i + 2, h => by
    have e1 : (x :: y :: l).take (i + 2) = x :: y :: l.take i := by simp
    rw [e1, asc, Bool.and_eq_false_iff] at h
    rw [asc, Bool.and_eq_false_iff]
    rcases h with h | h
    · exact .inl h
    · refine .inr (asc_false (i + 1) ?_)
      simpa using h

def validB (L : Lts) : Bool := looseB L && L.all asc

theorem valid_row {L : Lts} {row : List Arc} (h : row ∈ L) (hr : asc row = false) : validB L = false := by
  have : L.all asc = false := by rw [List.all_eq_false]; exact ⟨row, h, by rw [hr]; simp⟩
  unfold validB; rw [this]; simp

theorem cmpA_ge (a b : Arc) : decide (cmpA a b ≥ 0) = !lessA a b := by
  have e : cmpA a b = if a.1 < b.1 then -1 else if b.1 < a.1 then 1 else if a.2 < b.2 then -1 else if b.2 < a.2 then 1 else 0 := by
    show (if cmpI a.1 b.1 = 0 then (if cmpI a.2 b.2 = 0 then 0 else cmpI a.2 b.2) else cmpI a.1 b.1) = _
    unfold cmpI
    (repeat' split) <;> first | rfl | omega
  rw [e, Bool.eq_iff_iff]
  unfold lessA
  simp only [decide_eq_true_eq, Bool.not_eq_true', Bool.or_eq_false_iff, Bool.and_eq_false_iff, decide_eq_false_iff_not]
  (repeat' split) <;> omega

set_option maxHeartbeats 4000000 in
theorem valid_prog {σ : AS} {s : Value} {L : Lts} (hs : RS 1 RRow σ s L) (hz : Small L) : C Try.prog Kn 0 23 [.agg #[s]] σ fun v σ' => v = .bool (validB L) ∧ Ext σ σ' := by
  refine C_of (kn (by decide)) Try.func23 rfl (Nat.le_of_ble_eq_true rfl) ?_
  show W _ _ _ 34 _ _ _ _
  unfold Try.f23
  dsimp only
  repeat apply W_assoc
  apply W_reg
  · intro callf
    simp +decide only [aOps, rinit, aWanted, ↓bite_eq, ↓reduceIte, aStep_eq, aStepOld, aOp, opBox, aRow, aev, ann, aPut, rget_rput]
    rfl
  have B := LtsAt.new hs
  have e1 := Ext.new σ ⟨1, 30, 0, (Value.agg #[s]).cells.toList, []⟩
  generalize σ.new ⟨1, 30, 0, (Value.agg #[s]).cells.toList, []⟩ = σ1 at B e1
  obtain ⟨sb, sc, rfl, -⟩ := id hs
  repeat apply W_assoc
  apply W_regL
  apply Ls_pre 1
  · intro callf
    simp +decide only [List.take, aOps, aWanted, ↓bite_eq, ↓reduceIte, aStep_eq, aStepOld, aOp, opLoad, aev, ann, aPut, rget_rput, B.load]
    rfl
  dsimp only [List.drop]
  refine Ls_fn (vs := [.agg #[.slice sb L.length sc]]) (by simp +decide only [aevs, aev, rget_rput, if_true, if_false]) (by decide) (C.mono (loose_rows (hs.ext RRow.keeps e1) hz) ?_)
  rintro v σ' ⟨rfl, e0⟩
  apply Ls_all
  · intro callf
    simp +decide only [aOps, aWanted, ↓bite_eq, ↓reduceIte, aStep_eq, aStepOld, aOp, opUn, aev, ann, aPut, rget_rput, flat, flat1, not_b]
    rfl
  have B := B.ext e0
  have e1 := e1.trans e0
  generalize σ' = σ1 at B e1
  repeat apply W_assoc
  refine W_if (b := (!looseB L)) ?_ ?_ ?_
  · simp +decide only [aev, rget_rput, if_true, if_false]
  · intro h
    have h : looseB L = false := by simpa using h
    repeat apply W_assoc
    apply W_reg
    · intro callf
      simp +decide only [aOps, aWanted, ↓bite_eq, ↓reduceIte, aStep_eq, aStepOld, aOp, aev, ann, aPut]
      rfl
    refine W_retq ⟨Nat.le_refl _, [.bool false], ?_, ?_, e1⟩
    · simp +decide only [aResults, rget_rput, if_true, if_false]
    · simp [aResult, validB, h]
  intro h
  have hlo : looseB L = true := by simpa using h
  apply W_skipq
  repeat apply W_assoc
  apply W_reg
  · intro callf
    simp +decide only [aOps, aWanted, ↓bite_eq, ↓reduceIte, aStep_eq, aStepOld, aOp, opCall, opFieldAddr, opLoad, aev, aevs, ann, aPut, rget_rput, aBuiltin, aLen, List.getElem?_toArray, List.getElem?_cons_zero, fldL, B.out, Try.underlying28, goInt]
    rfl
  repeat apply W_assoc
  refine W_for (fun (i : Nat) r σ' => i ≤ L.length ∧ Ext σ1 σ' ∧ rget r 10 = .slice sb L.length sc ∧ rget r 11 = .int .i64 (L.length : Int) ∧ rget r 12 = .int .i64 (i : Int) ∧ ∀ w ∈ L.take i, asc w = true)
    (fun i => L.length - i) ?_ 0 ?_
  rotate_left
  · simp +decide only [rget_rput, if_true, if_false]
    exact ⟨Nat.zero_le _, Ext.refl _, trivial, trivial, rfl, by simp⟩
  rintro i r σ2 ⟨hi, e2, h10, h11, h12, hok⟩
  repeat apply W_assoc
  apply W_reg
  · intro callf
    simp +decide only [aOps, aWanted, ↓bite_eq, ↓reduceIte, aStep_eq, aStepOld, aOp, opBin, aev, ann, aPut, h11, h12, aBin, aInts, aInt_eq]
    rfl
  repeat apply W_assoc
  refine W_if (b := decide ((i : Int) < (L.length : Int))) ?_ ?_ ?_
  · simp +decide only [aev, rget_rput, if_true]
  rotate_left
  · intro hb
    have hb : i = L.length := by
      have := of_decide_eq_false hb
      omega
    refine W_exitq ⟨fun h => (nomatch h), fun _ => ?_, fun h1 h2 => absurd rfl h2⟩
    repeat apply W_assoc
    apply W_reg
    · intro callf
      simp +decide only [aOps, aWanted, ↓bite_eq, ↓reduceIte, aStep_eq, aStepOld, aOp, aev, ann, aPut]
      rfl
    refine W_ret ⟨Nat.le_refl _, [.bool true], ?_, ?_, e1.trans e2⟩
    · simp +decide only [aResults, rget_rput, if_true, if_false]
    · subst hb
      rw [List.take_length] at hok
      have : L.all asc = true := List.all_eq_true.2 hok
      unfold validB
      rw [hlo, this]; rfl
  intro hb
  have hb : i < L.length := by
    have := of_decide_eq_true hb
    omega
  apply W_skipq
  refine W_blk ?_
  obtain ⟨row, hrow⟩ : ∃ row, L[i]? = some row := ⟨L[i], by simp [hb]⟩
  have hrm : row ∈ L := List.mem_of_getElem? hrow
  obtain ⟨-, rb, roff, rv, rfl, hrb, hrl, hrs⟩ := rowOf B.rd hrow
  obtain ⟨vb, vc, rfl, -⟩ := id hrs
  repeat apply W_assoc
  apply W_reg
  · intro callf
    simp +decide only [aOps, aWanted, ↓bite_eq, ↓reduceIte, aStep_eq, aStepOld, aOp, opIndexAddr, opLoad, aev, ann, aPut, rget_rput, h10, h12, idx28 hb, hrl σ2 e2]
    rfl
  repeat apply W_assoc
  apply W_reg
  · intro callf
    simp +decide only [aOps, aWanted, ↓bite_eq, ↓reduceIte, aStep_eq, aStepOld, aOp, aev, ann, aPut]
    rfl
  refine W_tail ?_
  refine W_for (fun (j : Nat) r σ' => Ext σ1 σ' ∧ rget r 4 = .slice vb row.length vc ∧ rget r 10 = .slice (some ⟨rb, roff, none⟩) L.length sc ∧ rget r 11 = .int .i64 (L.length : Int) ∧ rget r 12 = .int .i64 (i : Int) ∧ rget r 5 = .int .i64 ((j + 1 : Nat) : Int) ∧ asc (row.take (j + 1)) = true)
    (fun j => row.length - j) ?_ 0 ?_
  rotate_left
  · simp +decide only [rget_rput, if_true, if_false, h10, h11, h12]
    refine ⟨e2, trivial, trivial, trivial, trivial, rfl, ?_⟩
    cases row with
    | nil => rfl
    | cons a l => rfl
  rintro j r σ3 ⟨e3, h4, h10, h11, h12, h5, hasc⟩
  repeat apply W_assoc
  apply W_reg
  · intro callf
    simp +decide only [aOps, aWanted, ↓bite_eq, ↓reduceIte, aStep_eq, aStepOld, aOp, opBin, opCall, aev, aevs, ann, aPut, rget_rput, aBuiltin, aLen, List.getElem?_toArray, List.getElem?_cons_zero, h4, h5, Try.underlying22, goInt, aBin, aInts, aInt_eq]
    rfl
  repeat apply W_assoc
  refine W_if (b := decide (((j + 1 : Nat) : Int) < (row.length : Int))) ?_ ?_ ?_
  · simp +decide only [aev, rget_rput, if_true, if_false]
  rotate_left
  · intro hb2
    have hb2 : row.length ≤ j + 1 := by
      have := of_decide_eq_false hb2
      omega
    refine W_exitq ⟨fun h => (nomatch h), fun _ => ?_, fun h1 h2 => absurd rfl h2⟩
    refine W_skip ⟨fun _ => ?_, fun h => absurd rfl h⟩
    refine W_tail ?_
    repeat apply W_assoc
    apply W_reg
    · intro callf
      simp +decide only [aOps, aWanted, ↓bite_eq, ↓reduceIte, aStep_eq, aStepOld, aOp, opBin, aev, ann, aPut, rget_rput, h12, wrap_add hb hz.len, aBin, aInts, aInt_eq]
      rfl
    refine W_skip ⟨fun _ => ⟨i + 1, ?_, ?_⟩, fun h => (nomatch h), fun h => absurd rfl h⟩
    · omega
    · simp +decide only [rget_rput, if_true, if_false, h10, h11]
      refine ⟨by omega, e3, trivial, trivial, trivial, ?_⟩
      rw [List.take_add_one, hrow]
      simp only [Option.toList_some, List.mem_append, List.mem_singleton]
      rintro w (hw | rfl)
      · exact hok w hw
      · rw [List.take_of_length_le hb2] at hasc; exact hasc
  intro hb2
  have hb2 : j + 1 < row.length := by
    have := of_decide_eq_true hb2
    omega
  apply W_skipq
  refine W_blk ?_
  obtain ⟨x, hx⟩ : ∃ x, row[j]? = some x := ⟨row[j], by simp [show j < row.length by omega]⟩
  obtain ⟨y, hy⟩ : ∃ y, row[j + 1]? = some y := ⟨row[j + 1], by simp [hb2]⟩
  obtain ⟨-, b, off, rfl, hbl, hat1⟩ := arcOf hrs hx
  obtain ⟨-, b2, off2, hbb, hbl2, hat2⟩ := arcOf hrs hy
  cases hbb
  have hj : IntKind.i64.wrap (((j + 1 : Nat) : Int) - 1) = (j : Int) := by
    have := hz.row row hrm
    rw [wrap64_id _ (by omega) (by omega)]; omega
  repeat apply W_assoc
  refine W_drw [] [] (by kernel_rfl) (by kernel_rfl) ?_
  apply Lg_pre 9
  · intro callf
    simp +decide only [List.take, aQ, memb, List.any_nil, Bool.true_or, Bool.and_true, reset_merge, reset_reset, reset_next, reset_low, merge_next, merge_idem, ble_self, aWanted, ↓bite_eq, ↓reduceIte, aStep_eq, aStepOld, aOp, opBin, opIndexAddr, opLoad, aev, ann, aPut, rget_rput, Nat.zero_add, Bool.not_false, h4, h5, hj, idx22 (show j < row.length by omega), idx22 hb2, (hat1 _ (e3.trans (Ext.reset _))).1, (hat2 _ (e3.trans (Ext.reset _))).1, aBin, aInts, aInt_eq]
    rfl
  dsimp only [List.drop, List.take, List.length]
  have e4 := e3.trans ((Ext.refl _).merge (σ := σ3))
  generalize σ3.merge σ3.reset = σ4 at e4
  refine Lg_fn (vs := [vArc x, vArc y]) (by simp +decide only [aevs, aev, rget_rput, if_true, if_false]) (by decide) rfl (C.mono (compare_arcs x y) ?_)
  rintro v s1 ⟨rfl, e5⟩
  refine ⟨e5.quiet, ?_⟩
  have e6 := e4.trans e5.merge
  generalize σ4.merge s1 = σ5 at e6
  apply Lg_all
  · intro callf
    simp +decide only [aQ, memb, List.any_nil, Bool.true_or, Bool.and_true, reset_low, ble_self, aWanted, ↓bite_eq, ↓reduceIte, aStep_eq, aStepOld, aOp, opBin, aev, ann, aPut, rget_rput, Nat.zero_add, Bool.not_false, aBin, aInts, aInt_eq]
    rfl
  have e7 := e6.trans ((Ext.refl _).merge (σ := σ5))
  generalize σ5.merge σ5.reset = σ6 at e7
  refine W_tail ?_
  repeat apply W_assoc
  refine W_if (b := decide (cmpA x y ≥ 0)) ?_ ?_ ?_
  · simp +decide only [aev, rget_rput, if_true, if_false]
  · intro h
    rw [cmpA_ge] at h
    have h : lessA x y = false := by simpa using h
    repeat apply W_assoc
    apply W_reg
    · intro callf
      simp +decide only [aOps, aWanted, ↓bite_eq, ↓reduceIte, aStep_eq, aStepOld, aOp, aev, ann, aPut]
      rfl
    refine W_retq ⟨fun h => (nomatch h), fun _ _ => ⟨fun h => (nomatch h), fun h => (nomatch h), fun _ _ => ⟨fun h => h.elim (fun h => (nomatch h)) (fun h => (nomatch h)), fun _ _ => ⟨fun h => (nomatch h), fun h => (nomatch h), fun _ _ => ⟨Nat.le_refl _, [.bool false], ?_, ?_, e1.trans e7⟩⟩⟩⟩⟩
    · simp +decide only [aResults, rget_rput, if_true, if_false]
    · rw [valid_row hrm (asc_false (j + 2) (by rw [asc_take hasc hx hy]; exact h))]; rfl
  intro h
  rw [cmpA_ge] at h
  have h : lessA x y = true := by simpa using h
  apply W_skipq
  refine W_skip ⟨fun _ => ?_, fun h => absurd rfl h⟩
  refine W_tail ?_
  repeat apply W_assoc
  apply W_reg
  · intro callf
    simp +decide only [aOps, aWanted, ↓bite_eq, ↓reduceIte, aStep_eq, aStepOld, aOp, opBin, aev, ann, aPut, rget_rput, h5, wrap_add hb2 (Nat.le_trans (hz.row row hrm) (by decide)), aBin, aInts, aInt_eq]
    rfl
  refine W_skip ⟨fun _ => ⟨j + 1, ?_, ?_⟩, fun h => (nomatch h), fun h => absurd rfl h⟩
  · omega
  · simp +decide only [rget_rput, if_true, if_false, h4, h10, h11, h12]
    exact ⟨e7, trivial, trivial, trivial, trivial, trivial, (asc_take hasc hx hy).trans h⟩

end Go.Proofs.Ytbknckiapcafdaa.Nest
