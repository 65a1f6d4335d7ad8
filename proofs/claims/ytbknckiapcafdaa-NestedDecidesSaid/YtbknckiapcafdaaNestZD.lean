/- Contracts of functions 25 (arcs of a state), 72 Grow, 63 Concat, 64 Clone. -/
import Derived.Test.YtbknckiapcafdaaNestZC
set_option linter.unusedSimpArgs false
set_option linter.unusedVariables false
namespace Go.Proofs.Ytbknckiapcafdaa.Nest
open Abs Abs2

theorem arcs_c {σ : AS} {b1 b0 off0 len cap s : Nat} {rv : Value} (hb : BoxAt σ b1 (.slice (some ⟨b0, off0, none⟩) len cap)) (hs : s < len) (hrl : ∀ σ', Ext σ σ' → aLoad Try.prog σ' 22 (.pointer (some ⟨b0, off0 + s * 1, none⟩)) = some rv) :
    C Try.prog Kn 0 25 [.int .i64 (s : Int), .pointer (some ⟨b1, 0, none⟩)] σ fun v σ' => v = rv ∧ Ext σ σ' := by
  refine C_of (kn (by decide)) Try.func25 rfl (Nat.le_of_ble_eq_true rfl) ?_
  show W _ _ _ 9 _ _ _ _
  unfold Try.f25
  dsimp only
  repeat apply W_assoc
  apply W_reg
  · intro callf
    simp +decide only [aOps, rinit, aWanted, ↓bite_eq, ↓reduceIte, aStep_eq, aStepOld, aOp, aev, ann, aPut, Nat.zero_add]
    rfl
  repeat apply W_assoc
  apply W_reg
  · intro callf
    simp +decide only [aOps, aWanted, ↓bite_eq, ↓reduceIte, aStep_eq, aStepOld, aOp, opIndexAddr, opFieldAddr, opLoad, aev, ann, aPut, rget_rput, fldL, hb.out, idx28 hs, hrl _ (Ext.refl _)]
    rfl
  refine W_ret ⟨Nat.le_refl _, [rv], ?_, rfl, Ext.refl _⟩
  simp +decide only [aResults, rget_rput, if_true, if_false]

theorem zero53 : ∃ inf z, Try.prog.info? 53 = some inf ∧ inf.size = 2 ∧ inf.bytes = 16 ∧ inf.zero = some z ∧ z.cells.size = 2 ∧ flat z = true :=
  ⟨(Try.prog.info? 53).get!, (((Try.prog.info? 53).get!).zero).get!, by kernel_rfl, by kernel_rfl, by kernel_rfl, by kernel_rfl, by kernel_rfl, by kernel_rfl⟩

theorem append_zeros {σ : AS} {n : Nat} (h0 : 0 < n) (hn : n ≤ 100000) : ∃ vals, vals.length = n * 2 ∧ aAppend Try.prog σ #[51, 3] (.slice none 0 0) (.int .i64 (n : Int)) = some (.slice (some ⟨σ.next, 0, none⟩) n (OPENCAP + n), σ.new ⟨2, 53, 2, vals, []⟩) := by
  obtain ⟨inf, z, h1, h2, h3, h4, h5, h6⟩ := zero53
  have hl : (Builtin.zeroCells z.cells n).toList.length = n * 2 := by simp [Builtin.zeroCells, h5]
  refine ⟨[] ++ (Builtin.zeroCells z.cells n).toList, by rw [List.nil_append]; exact hl, ?_⟩
  have hs : aSource Try.prog σ true inf (.int .i64 (n : Int)) = some (n, (Builtin.zeroCells z.cells n).toList) := by
    unfold aSource
    simp only [if_true, h4]
    rw [if_pos ⟨by omega, by omega, h6⟩]
    simp
  have d1 : Nat.beq (2 : Nat) 0 = false := rfl
  have d2 : Nat.beq (2 : Nat) 2 = true := rfl
  have d3 : Nat.ble ((4 * n + 4000) * 16) 281474976710656 = true := ble_t (by omega)
  have d4 : Nat.ble n 1000000000000 = true := ble_t (by omega)
  have d5 : Nat.beq (Builtin.zeroCells z.cells n).toList.length (n * 2) = true := by rw [hl]; exact Nat.beq_refl _
  have d6 : Nat.ble n 0 = false := ble_f (by omega)
  unfold aAppend
  simp only [List.getElem?_toArray, List.getElem?_cons_zero, List.getElem?_cons_succ, Try.underlying51, Try.underlying3, h1, h2, h3, h4, h5, h6, hs, d1, d2, d3, d4, d5, d6, open_zero, aFirst, Nat.zero_mul, Bool.not_true, Bool.or_false, Bool.false_eq_true, if_false, List.length_nil, Nat.beq_refl, if_true, Nat.zero_add]

theorem slice_nil51 {σ : AS} : aSlice Try.prog σ 51 (.slice none 0 0) none (some (.int .i64 0)) none = some (.slice none 0 0) := by
  obtain ⟨inf, z, h1, h2, -⟩ := zero53
  unfold aSlice
  simp only [Try.underlying51, h1, h2, open_zero]
  rfl
theorem cap_nil51 : aCap Try.prog 51 (.slice none 0 0) = some (.int .i64 0) := by
  unfold aCap
  rw [Try.underlying51]
  rfl

set_option maxHeartbeats 4000000 in
theorem grow_c {σ : AS} {n : Nat} (hn : n ≤ 100000) : C Try.prog Kn 0 72 [.slice none 0 0, .int .i64 (n : Int)] σ fun v σ' => Stk σ.next 53 2 σ' v 0 [] ∧ Ext σ σ' := by
  have d1 : decide ((n : Int) < 0) = false := decide_eq_false (by omega)
  have w0 : IntKind.i64.wrap (0 - 0) = 0 := by rw [wrap64_id _ (by omega) (by omega)]; rfl
  have w1 : IntKind.i64.wrap ((n : Int) - 0) = (n : Int) := by rw [wrap64_id _ (by omega) (by omega)]; omega
  refine C_of (kn (by decide)) Try.func72 rfl (Nat.le_of_ble_eq_true rfl) ?_
  show W _ _ _ 27 _ _ _ _
  unfold Try.f72
  dsimp only
  repeat apply W_assoc
  apply W_reg
  · intro callf
    simp +decide only [aOps, rinit, aWanted, ↓bite_eq, ↓reduceIte, aStep_eq, aStepOld, aOp, aev, ann, aPut, Nat.zero_add]
    rfl
  repeat apply W_assoc
  apply W_reg
  · intro callf
    simp +decide only [aOps, aWanted, ↓bite_eq, ↓reduceIte, aStep_eq, aStepOld, aOp, opBin, aev, ann, aPut, rget_rput, d1, aBin, aInts, aInt_eq]
    rfl
  repeat apply W_assoc
  refine W_if (b := false) ?_ ?_ ?_
  · simp +decide only [aev, rget_rput, if_true, if_false]
  · intro h; cases h
  intro _
  apply W_skipq
  repeat apply W_assoc
  apply W_reg
  · intro callf
    simp +decide only [aOps, aWanted, ↓bite_eq, ↓reduceIte, aStep_eq, aStepOld, aOp, opBin, opCall, aev, aevs, ann, aPut, rget_rput, aBuiltin, aLen, List.getElem?_toArray, List.getElem?_cons_zero, cap_nil51, Try.underlying51, goInt, Int.natCast_zero, w0, w1, aBin, aInts, aInt_eq]
    rfl
  by_cases h0 : 0 < n
  rotate_left
  · have d2 : decide ((0 : Int) < (n : Int)) = false := decide_eq_false (by omega)
    repeat apply W_assoc
    apply W_reg
    · intro callf
      simp +decide only [aOps, aWanted, ↓bite_eq, ↓reduceIte, aStep_eq, aStepOld, aOp, opBin, aev, ann, aPut, rget_rput, d2, aBin, aInts, aInt_eq]
      rfl
    repeat apply W_assoc
    refine W_if (b := false) ?_ ?_ ?_
    · simp +decide only [aev, rget_rput, if_true, if_false]
    · intro h; cases h
    intro _
    apply W_skipq
    repeat apply W_assoc
    apply W_reg
    · intro callf
      simp +decide only [aOps, aWanted, ↓bite_eq, ↓reduceIte, aStep_eq, aStepOld, aOp, aev, ann, aPut, rget_rput]
      rfl
    refine W_ret ⟨Nat.le_refl _, [.slice none 0 0], ?_, ⟨rfl, rfl, .inl ⟨rfl, rfl⟩⟩, Ext.refl _⟩
    simp +decide only [aResults, rget_rput, if_true, if_false]
  have d2 : decide ((0 : Int) < (n : Int)) = true := decide_eq_true (by omega)
  repeat apply W_assoc
  apply W_reg
  · intro callf
    simp +decide only [aOps, aWanted, ↓bite_eq, ↓reduceIte, aStep_eq, aStepOld, aOp, opBin, aev, ann, aPut, rget_rput, d2, aBin, aInts, aInt_eq]
    rfl
  repeat apply W_assoc
  refine W_if (b := true) ?_ ?_ ?_
  · simp +decide only [aev, rget_rput, if_true, if_false]
  rotate_left
  · intro h; cases h
  intro _
  obtain ⟨vals, hv, ha⟩ := append_zeros (σ := σ) h0 hn
  have hB : (σ.new ⟨2, 53, 2, vals, []⟩).get σ.next = ⟨2, 53, 2, vals, []⟩ := by rw [AS.get_new, if_pos rfl]
  have hsl := open_slice (lo := none) (hi := some (.int .i64 0)) (k := n) (n := n) (y := .slice (some ⟨σ.next, 0, none⟩) 0 (OPENCAP + n)) el53 hB (by
    unfold aSliceAt
    simp only [aboundO, open_lb, open_cap, if_true, Nat.beq_refl, show abound (.int .i64 0) n = some 0 from abound_le 0 n (Nat.zero_le _)])
  repeat apply W_assoc
  apply W_reg
  · intro callf
    simp +decide only [aOps, aWanted, ↓bite_eq, ↓reduceIte, aStep_eq, aStepOld, aOp, opCall, opSlice, aev, aevs, ann, aPut, rget_rput, aBuiltin, aLen, List.getElem?_toArray, List.getElem?_cons_zero, cap_nil51, slice_nil51, aopt, ha, hsl, Try.underlying51, goInt, Int.natCast_zero]
    rfl
  repeat apply W_assoc
  apply W_reg
  · intro callf
    simp +decide only [aOps, aWanted, ↓bite_eq, ↓reduceIte, aStep_eq, aStepOld, aOp, aev, ann, aPut, rget_rput]
    rfl
  refine W_ret ⟨Nat.le_refl _, [.slice (some ⟨σ.next, 0, none⟩) 0 (OPENCAP + n)], ?_, ⟨rfl, rfl, .inr ⟨σ.next, n, vals, rfl, Nat.zero_le _, Nat.le_refl _, Nat.lt_succ_self _, hB, by omega, by simp⟩⟩, Ext.new _ _⟩
  simp +decide only [aResults, rget_rput, if_true, if_false]

theorem stk_src {lo : Nat} {σ : AS} {v : Value} {l : List Arc} (h : Stk lo 53 2 σ v l.length (cellsOf l)) : Src σ v l := by
  obtain ⟨x, h1, -, -, h4⟩ := h.cut el53 (Nat.le_refl _)
  intro inf hi
  obtain ⟨c1, c2, ⟨rfl, h0⟩ | ⟨b, n, vals, rfl, g4, g5, g6, g7, g8, g9⟩⟩ := h
  · have hl : l = [] := List.length_eq_zero_iff.1 h0
    subst hl; rfl
  · have hkz : l.length * 2 ≤ vals.length := Nat.le_trans (Nat.mul_le_mul_right 2 g4) g8
    have hc : aCells σ ⟨b, 0, none⟩ (l.length * 2) = some (cellsOf l) := by
      unfold aCells
      simp only [g7, hasLen_eq, Nat.zero_add]
      rw [ble_t hkz, List.drop_zero, g9]
      rfl
    unfold aSource
    simp only [Bool.false_eq_true, if_false, hi, aCellsS_none, hc]

theorem idx110 {b len cap i : Nat} (h : i < len) : aIndexAddr Try.prog 110 (.slice (some ⟨b, 0, none⟩) len cap) (.int .i64 (i : Int)) = some (.pointer (some ⟨b, 0 + i * 1, none⟩)) :=
  aIndexAddr_slice (inf := (Try.prog.info? 51).get!) Try.underlying110 (by kernel_rfl) (by kernel_rfl) h

/-- A value of two. -/
def pick2 {α : Type} (a b : α) (i : Nat) : α := if i = 0 then a else b

set_option maxHeartbeats 4000000 in
theorem concat_c {σ : AS} {lo b : Nat} {pv y : Value} {p q : List Arc} (hb : σ.get b = ⟨1, 51, 0, [pv, y], []⟩) (hbn : b < σ.next) (hp : Stk lo 53 2 σ pv p.length (cellsOf p)) (hq : Stk lo 53 2 σ y q.length (cellsOf q)) (hlen : p.length + q.length ≤ 10000) :
    C Try.prog Kn 0 63 [.slice (some ⟨b, 0, none⟩) 2 2] σ fun v σ' => Stk σ.next 53 2 σ' v (p ++ q).length (cellsOf (p ++ q)) ∧ Ext σ σ' := by
  obtain ⟨pa, pc, hpe⟩ := hp.len
  obtain ⟨qa, qc, hqe⟩ := hq.len
  have L0 : ∀ σ', Ext σ σ' → aLoad Try.prog σ' 51 (.pointer (some ⟨b, 0 + 0 * 1, none⟩)) = some pv := fun σ' e => load1 Try.underlying51 rfl (cells_at ((e.get b hbn).trans hb) rfl (by simp))
  have L1 : ∀ σ', Ext σ σ' → aLoad Try.prog σ' 51 (.pointer (some ⟨b, 0 + 1 * 1, none⟩)) = some y := fun σ' e => load1 Try.underlying51 rfl (cells_at ((e.get b hbn).trans hb) rfl (by simp))
  have LL : ∀ i, i < 2 → ∀ σ', Ext σ σ' → aLoad Try.prog σ' 51 (.pointer (some ⟨b, i * 1, none⟩)) = some (pick2 pv y i) := fun i hi σ' e => by
    match i, hi with
    | 0, _ => exact L0 σ' e
    | 1, _ => exact L1 σ' e
  have LN : ∀ i, i < 2 → ∃ a c, pick2 pv y i = .slice a (pick2 p q i).length c := fun i hi => by
    match i, hi with
    | 0, _ => exact ⟨pa, pc, hpe⟩
    | 1, _ => exact ⟨qa, qc, hqe⟩
  have LS : ∀ i, i < 2 → Stk lo 53 2 σ (pick2 pv y i) (pick2 p q i).length (cellsOf (pick2 p q i)) := fun i hi => by
    match i, hi with
    | 0, _ => exact hp
    | 1, _ => exact hq
  have SUM : ∀ i, i < 2 → pick2 0 p.length i + (pick2 p q i).length = pick2 0 (pick2 p.length (p.length + q.length) (i + 1 - 1)) (i + 1) := fun i hi => by
    match i, hi with
    | 0, _ => simp [pick2]
    | 1, _ => simp [pick2]
  refine C_of (kn (by decide)) Try.func63 rfl (Nat.le_of_ble_eq_true rfl) ?_
  show W _ _ _ 36 _ _ _ _
  unfold Try.f63
  dsimp only
  repeat apply W_assoc
  apply W_reg
  · intro callf
    simp +decide only [aOps, rinit, aWanted, ↓bite_eq, ↓reduceIte, aStep_eq, aStepOld, aOp, aev, ann, aPut]
    rfl
  repeat apply W_assoc
  apply W_reg
  · intro callf
    simp +decide only [aOps, aWanted, ↓bite_eq, ↓reduceIte, aStep_eq, aStepOld, aOp, aev, ann, aPut]
    rfl
  repeat apply W_assoc
  apply W_reg
  · intro callf
    simp +decide only [aOps, aWanted, ↓bite_eq, ↓reduceIte, aStep_eq, aStepOld, aOp, opCall, aev, aevs, ann, aPut, rget_rput, aBuiltin, aLen, List.getElem?_toArray, List.getElem?_cons_zero, Try.underlying110, goInt]
    rfl
  repeat apply W_assoc
  refine W_for (fun (x : Nat × Nat) r σ' => x.1 ≤ 2 ∧ σ = σ' ∧ x.2 = (if x.1 = 0 then 0 else if x.1 = 1 then p.length else p.length + q.length) ∧ rget r 0 = .slice (some ⟨b, 0, none⟩) 2 2 ∧ rget r 3 = .int .i64 (x.2 : Int) ∧ rget r 9 = .slice (some ⟨b, 0, none⟩) 2 2 ∧ rget r 10 = .int .i64 2 ∧ rget r 11 = .int .i64 (x.1 : Int))
    (fun x => 2 - x.1) ?_ (0, 0) ?_
  rotate_left
  · simp +decide only [rget_rput, if_true, if_false]
    refine ⟨?_, ?_, ?_, ?_, ?_, ?_, ?_, ?_⟩ <;> first | exact True.intro | rfl | omega
  rintro ⟨i, t⟩ r _ ⟨hi, rfl, ht, h0, h3, h9, h10, h11⟩
  dsimp only at hi ht h3 h11
  repeat apply W_assoc
  apply W_reg
  · intro callf
    simp +decide only [aOps, aWanted, ↓bite_eq, ↓reduceIte, aStep_eq, aStepOld, aOp, opBin, aev, ann, aPut, h10, h11, aBin, aInts, aInt_eq]
    rfl
  repeat apply W_assoc
  refine W_if (b := decide ((i : Int) < 2)) ?_ ?_ ?_
  · simp +decide only [aev, rget_rput, if_true]
  rotate_left
  · intro hx
    have hi2 : i = 2 := by
      have := of_decide_eq_false hx
      omega
    subst hi2
    refine W_exitq ⟨fun h => (nomatch h), fun _ => ?_, fun h1 h2 => absurd rfl h2⟩
    rw [if_neg (by decide), if_neg (by decide)] at ht
    subst ht
    repeat apply W_assoc
    apply W_regL
    apply Ls_pre 1
    · intro callf
      simp +decide only [List.take, aOps, aWanted, ↓bite_eq, ↓reduceIte, aStep_eq, aStepOld, aOp, aev, ann, aPut, rget_rput, h3]
      rfl
    dsimp only [List.drop]
    refine Ls_fn (vs := [.slice none 0 0, .int .i64 ((p.length + q.length : Nat) : Int)]) (by simp +decide only [aevs, aev, rget_rput, if_true, if_false]) (by decide) (C.mono (grow_c (n := p.length + q.length) (by omega)) ?_)
    rintro v σ' ⟨hS, eG⟩
    apply Ls_all
    · intro callf
      simp +decide only [aOps, aWanted, ↓bite_eq, ↓reduceIte, aStep_eq, aStepOld, aOp, aev, ann, aPut, rget_rput]
      rfl
    generalize σ' = σ1 at hS eG
    repeat apply W_assoc
    apply W_reg
    · intro callf
      simp +decide only [aOps, aWanted, ↓bite_eq, ↓reduceIte, aStep_eq, aStepOld, aOp, opCall, aev, aevs, ann, aPut, rget_rput, aBuiltin, aLen, List.getElem?_toArray, List.getElem?_cons_zero, h0, Try.underlying110, goInt]
      rfl
    repeat apply W_assoc
    refine W_for (fun (j : Nat) r σ' => j ≤ 2 ∧ Ext σ σ' ∧ (∃ w, rget r 6 = w ∧ Stk σ.next 53 2 σ' w (if j = 0 then [] else if j = 1 then p else p ++ q).length (cellsOf (if j = 0 then [] else if j = 1 then p else p ++ q))) ∧ rget r 25 = .slice (some ⟨b, 0, none⟩) 2 2 ∧ rget r 26 = .int .i64 2 ∧ rget r 27 = .int .i64 (j : Int))
      (fun j => 2 - j) ?_ 0 ?_
    rotate_left
    · simp +decide only [rget_rput, if_true, if_false]
      refine ⟨?_, eG, ⟨_, rfl, hS⟩, ?_, ?_, ?_⟩ <;> first | exact True.intro | rfl | omega
    rintro j r2 σ2 ⟨hj, e2, ⟨w, h6, hw⟩, h25, h26, h27⟩
    repeat apply W_assoc
    apply W_reg
    · intro callf
      simp +decide only [aOps, aWanted, ↓bite_eq, ↓reduceIte, aStep_eq, aStepOld, aOp, opBin, aev, ann, aPut, h26, h27, aBin, aInts, aInt_eq]
      rfl
    repeat apply W_assoc
    refine W_if (b := decide ((j : Int) < 2)) ?_ ?_ ?_
    · simp +decide only [aev, rget_rput, if_true]
    rotate_left
    · intro hx
      have hj2 : j = 2 := by
        have := of_decide_eq_false hx
        omega
      subst hj2
      refine W_exitq ⟨fun h => (nomatch h), fun _ => ?_, fun h1 h2 => absurd rfl h2⟩
      repeat apply W_assoc
      apply W_reg
      · intro callf
        simp +decide only [aOps, aWanted, ↓bite_eq, ↓reduceIte, aStep_eq, aStepOld, aOp, aev, ann, aPut, rget_rput, h6]
        rfl
      refine W_ret ⟨Nat.le_refl _, [w], ?_, ?_, e2⟩
      · simp +decide only [aResults, rget_rput, if_true, if_false]
      · rw [if_neg (by decide), if_neg (by decide)] at hw
        exact hw
    intro hx
    have hj2 : j < 2 := by
      have := of_decide_eq_true hx
      omega
    apply W_skipq
    refine W_blk ?_
    have Lj := LL j hj2 _ e2
    have hsrc := stk_src ((LS j hj2).keep e2.nxt fun i _ hi => e2.get i hi)
    have w1 : IntKind.i64.wrap ((j : Int) + 1) = ((j + 1 : Nat) : Int) := by rw [wrap64_id _ (by omega) (by omega)]; omega
    have hbl : (if j = 0 then [] else if j = 1 then p else p ++ q).length + (pick2 p q j).length ≤ 1000000 := by
      rcases (show j = 0 ∨ j = 1 by omega) with e01 | e01
      · subst e01; simp [pick2]; omega
      · subst e01; simp [pick2]; omega
    obtain ⟨w', s9, ha, hS9, hn9, hg9, hlow9, hown9⟩ := hw.push el53 e2.nxt hsrc (cellsOf_length _) (cellsOf_one _) hbl
    repeat apply W_assoc
    apply W_reg
    · intro callf
      simp +decide only [aOps, aWanted, ↓bite_eq, ↓reduceIte, aStep_eq, aStepOld, aOp, opIndexAddr, opLoad, aev, ann, aPut, rget_rput, Nat.zero_add, h25, h27, idx110 hj2, Lj]
      rfl
    refine W_tail ?_
    repeat apply W_assoc
    apply W_reg
    · intro callf
      simp +decide only [aOps, aWanted, ↓bite_eq, ↓reduceIte, aStep_eq, aStepOld, aOp, opCall, aev, aevs, ann, aPut, rget_rput, aBuiltin, h6, ha]
      rfl
    have e9 : Ext σ s9 := (Chg.mk (σ0 := σ) (v' := w') hn9 hg9 hlow9 hown9).ext e2 fun i hi => (hw.own hi).1
    refine W_skip ⟨fun _ => ?_, fun h => absurd rfl h⟩
    refine W_tail ?_
    repeat apply W_assoc
    apply W_reg
    · intro callf
      simp +decide only [aOps, aWanted, ↓bite_eq, ↓reduceIte, aStep_eq, aStepOld, aOp, opBin, aev, ann, aPut, rget_rput, h27, w1, aBin, aInts, aInt_eq]
      rfl
    refine W_skip ⟨fun _ => ⟨j + 1, ?_, ?_⟩, fun h => (nomatch h), fun h => absurd rfl h⟩
    · omega
    · refine ⟨by omega, e9, ⟨_, rfl, ?_⟩, ?_, ?_, ?_⟩
      · simp +decide only [rget_rput, if_true, if_false]
        have e : (if j + 1 = 0 then [] else if j + 1 = 1 then p else p ++ q) = (if j = 0 then [] else if j = 1 then p else p ++ q) ++ pick2 p q j := by
          rcases (show j = 0 ∨ j = 1 by omega) with e01 | e01
          · subst e01; simp [pick2]
          · subst e01; simp [pick2]
        rw [e, cellsOf_append, List.length_append]
        exact hS9
      all_goals simp +decide only [rget_rput, if_true, if_false, h25, h26]
  intro hx
  have hi2 : i < 2 := by
    have := of_decide_eq_true hx
    omega
  apply W_skipq
  refine W_blk ?_
  obtain ⟨sa, sc, hse⟩ := LN i hi2
  have Li := LL i hi2 _ (Ext.refl _)
  rw [hse] at Li
  have w1 : IntKind.i64.wrap ((i : Int) + 1) = ((i + 1 : Nat) : Int) := by rw [wrap64_id _ (by omega) (by omega)]; omega
  have ht1 : t + (pick2 p q i).length ≤ 10000 ∧ t + (pick2 p q i).length = (if i + 1 = 0 then 0 else if i + 1 = 1 then p.length else p.length + q.length) := by
    rcases (show i = 0 ∨ i = 1 by omega) with e01 | e01
    · subst e01; simp [pick2] at ht ⊢; omega
    · subst e01; simp [pick2] at ht ⊢; omega
  have w2 : IntKind.i64.wrap ((t : Int) + ((pick2 p q i).length : Int)) = ((t + (pick2 p q i).length : Nat) : Int) := by rw [wrap64_id _ (by omega) (by omega)]; omega
  have d0 : decide (((t + (pick2 p q i).length : Nat) : Int) < 0) = false := decide_eq_false (by omega)
  repeat apply W_assoc
  apply W_reg
  · intro callf
    simp +decide only [aOps, aWanted, ↓bite_eq, ↓reduceIte, aStep_eq, aStepOld, aOp, opIndexAddr, opLoad, aev, ann, aPut, rget_rput, Nat.zero_add, h9, h11, idx110 hi2, Li]
    rfl
  repeat apply W_assoc
  apply W_reg
  · intro callf
    simp +decide only [aOps, aWanted, ↓bite_eq, ↓reduceIte, aStep_eq, aStepOld, aOp, opBin, opCall, aev, aevs, ann, aPut, rget_rput, aBuiltin, aLen, List.getElem?_toArray, List.getElem?_cons_zero, h3, Try.underlying51, goInt, w2, aBin, aInts, aInt_eq]
    rfl
  repeat apply W_assoc
  apply W_reg
  · intro callf
    simp +decide only [aOps, aWanted, ↓bite_eq, ↓reduceIte, aStep_eq, aStepOld, aOp, opBin, aev, ann, aPut, rget_rput, d0, aBin, aInts, aInt_eq]
    rfl
  refine W_tail ?_
  repeat apply W_assoc
  refine W_if (b := false) ?_ ?_ ?_
  · simp +decide only [aev, rget_rput, if_true, if_false]
  · intro h; cases h
  intro _
  apply W_skipq
  refine W_skip ⟨fun _ => ?_, fun h => absurd rfl h⟩
  refine W_tail ?_
  repeat apply W_assoc
  apply W_reg
  · intro callf
    simp +decide only [aOps, aWanted, ↓bite_eq, ↓reduceIte, aStep_eq, aStepOld, aOp, opBin, aev, ann, aPut, rget_rput, h11, w1, aBin, aInts, aInt_eq]
    rfl
  refine W_skip ⟨fun _ => ⟨(i + 1, t + (pick2 p q i).length), ?_, ?_⟩, fun h => (nomatch h), fun h => absurd rfl h⟩
  · show 2 - (i + 1) < 2 - i
    omega
  · refine ⟨by show i + 1 ≤ 2; omega, rfl, ht1.2, ?_, ?_, ?_, ?_, ?_⟩ <;> simp +decide only [rget_rput, if_true, if_false, h0, h9, h10]

theorem append_empty53 {σ : AS} {x : Value} {m : List Arc} {b0 : Nat} (hx : Src σ x m) (hm : m ≠ []) (hn : m.length ≤ 1000000) (hb : σ.get b0 = ⟨1, 53, 0, [], []⟩) :
    aAppend Try.prog σ #[51, 51] (.slice (some ⟨b0, 0, none⟩) 0 0) x = some (.slice (some ⟨σ.next, 0, none⟩) m.length (OPENCAP + m.length), σ.new ⟨2, 53, 2, cellsOf m, []⟩) := by
  obtain ⟨inf, z, h1, h2, h3, h4, h5, h6⟩ := zero53
  have hs := hx.source h2
  have hp : 0 < m.length := List.length_pos_iff.2 hm
  have hc : aCells σ ⟨b0, 0, none⟩ 0 = some [] := cells_at hb rfl (Nat.le_refl _)
  have d1 : Nat.beq (2 : Nat) 0 = false := rfl
  have d2 : Nat.beq (2 : Nat) 2 = true := rfl
  have d3 : Nat.ble ((4 * m.length + 4000) * 16) 281474976710656 = true := ble_t (by omega)
  have d4 : Nat.ble m.length 1000000000000 = true := ble_t (by omega)
  have d5 : Nat.beq (cellsOf m).length (m.length * 2) = true := by rw [cellsOf_length]; exact Nat.beq_refl _
  have d6 : Nat.ble m.length 0 = false := ble_f hp
  unfold aAppend
  simp only [List.getElem?_toArray, List.getElem?_cons_zero, List.getElem?_cons_succ, Try.underlying51, h1, h2, h3, h4, h5, h6, hs, d1, d2, Nat.zero_add, d3, d4, d5, d6, open_zero, aFirst, Nat.zero_mul, aCellsS_none, hc, Bool.not_true, Bool.or_false, Bool.false_eq_true, if_false, List.length_nil, Nat.beq_refl, if_true, List.nil_append]

theorem slice51e {σ : AS} : aBuildSlice Try.prog σ 51 0 [] = some (.slice (some ⟨σ.next, 0, none⟩) 0 0, σ.new ⟨1, 53, 0, [], []⟩) := by kernel_rfl
theorem nil51 {P : Program} {a : Addr} {n c : Nat} {x y : Operand} (hu : P.underlying 51 = some (.slice 53)) : aBin P .eql 51 x y (.slice (some a) n c) (.slice none 0 0) = some (.bool false) := by
  unfold aBin
  have e1 : aInts .eql (.slice (some a) n c) (.slice none 0 0) = none := by simp only [aInts]
  rw [e1]
  dsimp only
  unfold aBinSlow
  rw [show (flat (.slice (some a) n c) && flat (.slice none 0 0)) = false from rfl, if_neg (by decide), hu]
  rfl

set_option maxHeartbeats 4000000 in
theorem clone_c {σ : AS} {a : Addr} {n c : Nat} {l : List Arc} (hs : ∀ σ', Ext σ σ' → Src σ' (.slice (some a) n c) l) (hl : l ≠ []) (hn : l.length ≤ 10000) : C Try.prog Kn 0 64 [.slice (some a) n c] σ fun v σ' => Stk σ.next 53 2 σ' v l.length (cellsOf l) ∧ Ext σ σ' := by
  refine C_of (kn (by decide)) Try.func64 rfl (Nat.le_of_ble_eq_true rfl) ?_
  show W _ _ _ 8 _ _ _ _
  unfold Try.f64
  dsimp only
  repeat apply W_assoc
  apply W_reg
  · intro callf
    simp +decide only [aOps, rinit, aWanted, ↓bite_eq, ↓reduceIte, aStep_eq, aStepOld, aOp, aev, ann, aPut]
    rfl
  repeat apply W_assoc
  apply W_reg
  · intro callf
    simp +decide only [aOps, aWanted, ↓bite_eq, ↓reduceIte, aStep_eq, aStepOld, aOp, opBin, aev, ann, aPut, rget_rput, nil51 Try.underlying51]
    rfl
  repeat apply W_assoc
  refine W_if (b := false) ?_ ?_ ?_
  · simp +decide only [aev, rget_rput, if_true, if_false]
  · intro h; cases h
  intro _
  apply W_skipq
  have ha := append_empty53 (σ := σ.new ⟨1, 53, 0, [], []⟩) (hs _ (Ext.new _ _)) hl (by omega) (b0 := σ.next) (by rw [AS.get_new, if_pos rfl])
  repeat apply W_assoc
  apply W_reg
  · intro callf
    simp +decide only [aOps, aWanted, ↓bite_eq, ↓reduceIte, aStep_eq, aStepOld, aOp, opCall, opBuildSlice, aev, aevs, aparts, ann, aPut, rget_rput, aBuiltin, slice51e, ha]
    rfl
  refine W_ret ⟨Nat.le_refl _, [_], rfl, ⟨cellsOf_length l, cellsOf_one l, .inr ⟨σ.next + 1, l.length, cellsOf l, ?_, Nat.le_refl _, Nat.le_succ _, Nat.lt_succ_self _, ?_, by rw [cellsOf_length]; exact Nat.le_refl _, by rw [List.take_of_length_le (by rw [cellsOf_length]; exact Nat.le_refl _)]⟩⟩, (Ext.new _ _).trans (Ext.new _ _)⟩
  · simp +decide only [rget_rput, if_true, if_false, aResult]
    rfl
  · rw [AS.get_new]; exact if_pos rfl

end Go.Proofs.Ytbknckiapcafdaa.Nest
