/- Sets of events. -/
import Derived.Test.YtacpdefmnijhnaaGreatSU
set_option linter.unusedSimpArgs false
set_option linter.unusedVariables false
namespace Go.Proofs.YtacpdefmnijhnaaGreat.U
open Abs

theorem evt_c {σ : AS} {tb : Nat} {lv : Value} {ints : List Int} (h : Tape tb σ lv ints) : C Tryz.prog KA 0 167 [.pointer (some ⟨tb, 0, none⟩)] σ fun u σ' => (∃ e : Nat, u = .int .i64 (e : Int) ∧ 2 ≤ e ∧ e ≤ 5) ∧ Tape tb σ' lv ints ∧ ExtX [tb] σ σ' := by
  refine C_of (ka rfl rfl) Tryz.func167 rfl (Nat.le_of_ble_eq_true rfl) ?_
  show W _ _ _ 6 _ _ _ _
  unfold Tryz.f167
  dsimp only
  repeat apply W_assoc
  apply W_reg
  · intro callf
    simp +decide only [aOps, rinit, aWanted, ↓bite_eq, ↓reduceIte, aStep_eq, aStepOld, aOp, opBox, opBin, opUn, opCall, opIndexAddr, opFieldAddr, opLoad, opStore, opPick, opExtract, opSlice, opBuildSlice, opBuild, aRow, aev, aevs, aparts, ann, unn, aPut, if_true, if_false, rget_rput, flat, flat1, Nat.blt_eq, aBuiltin, aLen, List.getElem?_toArray, List.getElem?_cons_zero, List.getElem?_cons_succ, Nat.zero_add, Option.bind_some, beq_self_eq_true, Bool.not_true, Bool.not_false, Bool.true_beq, Bool.false_beq]
    rfl
  repeat apply W_assoc
  apply W_regL
  apply Ls_pre 1
  · intro callf
    simp +decide only [List.take, aOps, rinit, aWanted, ↓bite_eq, ↓reduceIte, aStep_eq, aStepOld, aOp, opBox, opBin, opUn, opCall, opIndexAddr, opFieldAddr, opLoad, opStore, opPick, opExtract, opSlice, opBuildSlice, opBuild, aRow, aev, aevs, aparts, ann, unn, aPut, if_true, if_false, rget_rput, flat, flat1, Nat.blt_eq, aBuiltin, aLen, List.getElem?_toArray, List.getElem?_cons_zero, List.getElem?_cons_succ, Nat.zero_add, Option.bind_some, beq_self_eq_true, Bool.not_true, Bool.not_false, Bool.true_beq, Bool.false_beq]
    rfl
  dsimp only [List.drop]
  refine Ls_fn (vs := [.pointer (some ⟨tb, 0, none⟩), .int .i64 4]) (by simp +decide only [aevs, aev, aResults, rget_rput, if_true, if_false]) (by decide) (C.mono (next_c h (n := 4) (by omega) (by omega)) ?_)
  rintro v σ' ⟨⟨m, rfl, hm0, hm1⟩, TP, EX⟩
  obtain ⟨e, rfl⟩ : ∃ e : Nat, m = (e : Int) := ⟨m.toNat, by omega⟩
  have w : IntKind.i64.wrap (2 + (e : Int)) = ((2 + e : Nat) : Int) := by rw [wrap64_id _ (by omega) (by omega)]; omega
  apply Ls_all
  · intro callf
    simp +decide only [aOps, rinit, aWanted, ↓bite_eq, ↓reduceIte, aStep_eq, aStepOld, aOp, opBox, opBin, opUn, opCall, opIndexAddr, opFieldAddr, opLoad, opStore, opPick, opExtract, opSlice, opBuildSlice, opBuild, aRow, aev, aevs, aparts, ann, unn, aPut, if_true, if_false, rget_rput, flat, flat1, Nat.blt_eq, aBuiltin, aLen, List.getElem?_toArray, List.getElem?_cons_zero, List.getElem?_cons_succ, Nat.zero_add, Option.bind_some, beq_self_eq_true, Bool.not_true, Bool.not_false, Bool.true_beq, Bool.false_beq, w, aBin, aInts, aInt_eq]
    rfl
  refine W_ret ⟨Nat.le_refl _, [.int .i64 ((2 + e : Nat) : Int)], ?_, ⟨2 + e, rfl, by omega, by omega⟩, TP, EX⟩
  simp +decide only [aevs, aev, aResults, rget_rput, if_true, if_false]

theorem vis_c {σ : AS} {e : Nat} (h2 : 2 ≤ e) (h5 : e ≤ 5) : C Tryz.prog KA 0 48 [.int .i64 (e : Int)] σ fun u σ' => u = .bool true ∧ Ext σ σ' := by
  have d1 : decide ((e : Int) ≥ 2) = true := decide_eq_true (by omega)
  have d2 : decide ((e : Int) < 1026) = true := decide_eq_true (by omega)
  refine C_of (ka rfl rfl) Tryz.func48 rfl (Nat.le_of_ble_eq_true rfl) ?_
  show W _ _ _ 9 _ _ _ _
  unfold Tryz.f48
  dsimp only
  repeat apply W_assoc
  apply W_reg
  · intro callf
    simp +decide only [aOps, rinit, aWanted, ↓bite_eq, ↓reduceIte, aStep_eq, aStepOld, aOp, opBox, opBin, opUn, opCall, opIndexAddr, opFieldAddr, opLoad, opStore, opPick, opExtract, opSlice, opBuildSlice, opBuild, aRow, aev, aevs, aparts, ann, unn, aPut, if_true, if_false, rget_rput, flat, flat1, Nat.blt_eq, aBuiltin, aLen, List.getElem?_toArray, List.getElem?_cons_zero, List.getElem?_cons_succ, Nat.zero_add, Option.bind_some, beq_self_eq_true, Bool.not_true, Bool.not_false, Bool.true_beq, Bool.false_beq]
    rfl
  repeat apply W_assoc
  apply W_reg
  · intro callf
    simp +decide only [aOps, rinit, aWanted, ↓bite_eq, ↓reduceIte, aStep_eq, aStepOld, aOp, opBox, opBin, opUn, opCall, opIndexAddr, opFieldAddr, opLoad, opStore, opPick, opExtract, opSlice, opBuildSlice, opBuild, aRow, aev, aevs, aparts, ann, unn, aPut, if_true, if_false, rget_rput, flat, flat1, Nat.blt_eq, aBuiltin, aLen, List.getElem?_toArray, List.getElem?_cons_zero, List.getElem?_cons_succ, Nat.zero_add, Option.bind_some, beq_self_eq_true, Bool.not_true, Bool.not_false, Bool.true_beq, Bool.false_beq, d1, d2, opPick, aBin, aInts, aInt_eq]
    rfl
  refine W_ret ⟨Nat.le_refl _, [.bool true], ?_, rfl, Ext.refl _⟩
  simp +decide only [aevs, aev, aResults, rget_rput, if_true, if_false]

theorem allocM {σ : AS} : opAlloc Tryz.prog σ 173 = some (.pointer (some ⟨σ.next, 0, none⟩), σ.new ⟨1, 173, 0, List.replicate 1024 (.bool false), []⟩) := by kernel_rfl
theorem idxM {b i : Nat} (h : i < 1024) : aIndexAddr Tryz.prog 173 (.pointer (some ⟨b, 0, none⟩)) (.int .i64 (i : Int)) = some (.pointer (some ⟨b, i, none⟩)) := by
  unfold aIndexAddr
  obtain ⟨inf, hi, hs⟩ : ∃ inf, Tryz.prog.info? 4 = some inf ∧ inf.size = 1 := ⟨(Tryz.prog.info? 4).get!, by kernel_rfl, by kernel_rfl⟩
  simp only [Tryz.underlying173, hi, hs]
  rw [if_pos ⟨by omega, by omega⟩]
  simp [Addr.add]
  exact fun h => h.symm
theorem storeM {σ : AS} {b i : Nat} {vals : List Value} {x : Bool} (h : σ.get b = ⟨1, 173, 0, vals, []⟩) (hi : i < vals.length) : aStore Tryz.prog σ 4 (.bool x) (.pointer (some ⟨b, i, none⟩)) = some (σ.put b ⟨1, 173, 0, vals.set i (.bool x), []⟩) := by
  obtain ⟨inf, hi2, hs⟩ : ∃ inf, Tryz.prog.info? 4 = some inf ∧ inf.size = 1 := ⟨(Tryz.prog.info? 4).get!, by kernel_rfl, by kernel_rfl⟩
  have hz : Nat.beq (Value.bool x).cells.size 1 = true := rfl
  have hc : (Value.bool x).cells.toList = [.bool x] := rfl
  have ho : one (Value.bool x) = true := rfl
  unfold aStore
  simp only [hi2, hs, hz, if_true, hc]
  unfold aWrite
  simp only [h, hasLen_eq, List.length_cons, List.length_nil, Nat.zero_add, List.all_cons, List.all_nil, ho]
  rw [ble_t (show i + 1 ≤ vals.length by omega), lsplice_cons, lsplice_nil]
  rfl
theorem loadM {σ : AS} {b i : Nat} {vals : List Value} {x : Value} (h : σ.get b = ⟨1, 173, 0, vals, []⟩) (hi : vals[i]? = some x) : aLoad Tryz.prog σ 4 (.pointer (some ⟨b, i, none⟩)) = some x := by
  obtain ⟨h1, h2⟩ := List.getElem?_eq_some_iff.1 hi
  exact load1 Tryz.underlying4 rfl (cells_at h (by rw [List.drop_eq_getElem_cons h1, h2]; rfl) (by omega))

/-- A list of integers reads. -/
theorem stkI_at {lo : Nat} {σ : AS} {v : Value} {l : List Nat} (h : Stk lo 3 1 σ v l.length (cI l)) {i n : Nat} (hi : l[i]? = some n) : ∃ b c, v = .slice (some ⟨b, 0, none⟩) l.length c ∧ b < σ.next ∧
    aIndexAddr Tryz.prog 40 v (.int .i64 (i : Int)) = some (.pointer (some ⟨b, i * 1, none⟩)) ∧ ∀ σ' : AS, σ'.get b = σ.get b → aLoad Tryz.prog σ' 3 (.pointer (some ⟨b, i * 1, none⟩)) = some (.int .i64 (n : Int)) := by
  have hl := (List.getElem?_eq_some_iff.1 hi).1
  obtain ⟨b, c, rfl, hb, hc⟩ := StkC.at (.inr h) hl
  refine ⟨b, c, rfl, hb, by rw [idxI hl, Nat.zero_add], fun σ' hg => load1 Tryz.underlying3 rfl ?_⟩
  have h5 : aCells σ' ⟨b, i * 1, none⟩ 1 = aCells σ ⟨b, i * 1, none⟩ 1 := by unfold aCells; simp only [hg]
  rw [h5, hc, cI_at hi]
theorem Stk.ext' {lo E z k : Nat} {σ σ' : AS} {v : Value} {cs : List Value} (h : Stk lo E z σ v k cs) (e : Ext σ σ') : Stk lo E z σ' v k cs := h.keep e.nxt fun i _ hi => e.get i hi

set_option maxHeartbeats 16000000 in
theorem rset_c {lo : Nat} {σ : AS} {v : Value} {l : List Nat} (h : Stk lo 3 1 σ v l.length (cI l)) (hl : ∀ e ∈ l, 2 ≤ e ∧ e ≤ 5) (hn : l.length ≤ 100) : C Tryz.prog KA 0 66 [v] σ fun u σ' => (∃ m : List Nat, Stk σ.next 3 1 σ' u m.length (cI m) ∧ m.length ≤ 1024 ∧ ∀ e ∈ m, e ≤ 2000) ∧ Ext σ σ' := by
  obtain ⟨va, vc, hv⟩ := Stk.len h
  refine C_of (ka rfl rfl) Tryz.func66 rfl (Nat.le_of_ble_eq_true rfl) ?_
  show W _ _ _ 37 _ _ _ _
  unfold Tryz.f66
  dsimp only
  repeat apply W_assoc
  apply W_reg
  · intro callf
    simp +decide only [aOps, rinit, aWanted, ↓bite_eq, ↓reduceIte, aStep_eq, aStepOld, aOp, opBox, opBin, opUn, opCall, opIndexAddr, opFieldAddr, opLoad, opStore, opPick, opExtract, opSlice, opBuildSlice, opBuild, aRow, aev, aevs, aparts, ann, unn, aPut, if_true, if_false, rget_rput, flat, flat1, Nat.blt_eq, aBuiltin, aLen, List.getElem?_toArray, List.getElem?_cons_zero, List.getElem?_cons_succ, Nat.zero_add, Option.bind_some, beq_self_eq_true, Bool.not_true, Bool.not_false, Bool.true_beq, Bool.false_beq]
    rfl
  repeat apply W_assoc
  apply W_reg
  · intro callf
    simp +decide only [aOps, rinit, aWanted, ↓bite_eq, ↓reduceIte, aStep_eq, aStepOld, aOp, opBox, opBin, opUn, opCall, opIndexAddr, opFieldAddr, opLoad, opStore, opPick, opExtract, opSlice, opBuildSlice, opBuild, aRow, aev, aevs, aparts, ann, unn, aPut, if_true, if_false, rget_rput, flat, flat1, Nat.blt_eq, aBuiltin, aLen, List.getElem?_toArray, List.getElem?_cons_zero, List.getElem?_cons_succ, Nat.zero_add, Option.bind_some, beq_self_eq_true, Bool.not_true, Bool.not_false, Bool.true_beq, Bool.false_beq, allocM]
    rfl
  have e1 := Ext.new σ ⟨1, 173, 0, List.replicate 1024 (.bool false), []⟩
  have g1 : (σ.new ⟨1, 173, 0, List.replicate 1024 (.bool false), []⟩).get σ.next = ⟨1, 173, 0, List.replicate 1024 (.bool false), []⟩ := by rw [AS.get_new, if_pos rfl]
  have b1 : ∀ x ∈ List.replicate 1024 (Value.bool false), ∃ b, x = .bool b := fun x hx => ⟨false, List.eq_of_mem_replicate hx⟩
  have l1 : (List.replicate 1024 (Value.bool false)).length = 1024 := List.length_replicate
  have n1 : σ.next < (σ.new ⟨1, 173, 0, List.replicate 1024 (.bool false), []⟩).next := Nat.lt_succ_self _
  generalize σ.new ⟨1, 173, 0, List.replicate 1024 (.bool false), []⟩ = σ1 at e1 g1 n1
  generalize List.replicate 1024 (Value.bool false) = vals at g1 b1 l1
  repeat apply W_assoc
  apply W_reg
  · intro callf
    simp +decide only [aOps, rinit, aWanted, ↓bite_eq, ↓reduceIte, aStep_eq, aStepOld, aOp, opBox, opBin, opUn, opCall, opIndexAddr, opFieldAddr, opLoad, opStore, opPick, opExtract, opSlice, opBuildSlice, opBuild, aRow, aev, aevs, aparts, ann, unn, aPut, if_true, if_false, rget_rput, flat, flat1, Nat.blt_eq, aBuiltin, aLen, List.getElem?_toArray, List.getElem?_cons_zero, List.getElem?_cons_succ, Nat.zero_add, Option.bind_some, beq_self_eq_true, Bool.not_true, Bool.not_false, Bool.true_beq, Bool.false_beq]
    rfl
  repeat apply W_assoc
  refine W_for (fun (x : Nat × List Value) r s => x.1 ≤ l.length ∧ Ext σ s ∧ s.get σ.next = ⟨1, 173, 0, x.2, []⟩ ∧ σ.next < s.next ∧ x.2.length = 1024 ∧ (∀ y ∈ x.2, ∃ b, y = .bool b) ∧ rget r 0 = v ∧ rget r 3 = .pointer (some ⟨σ.next, 0, none⟩) ∧ rget r 4 = .int .i64 (x.1 : Int)) (fun x => l.length - x.1) ?_ (0, vals) ?_
  rotate_left
  · refine ⟨Nat.zero_le _, e1, g1, n1, l1, b1, ?_, ?_, ?_⟩ <;> simp +decide only [rget_rput, rinit, if_true, if_false, goInt] <;> first | exact True.intro | rfl
  clear e1 g1 n1 l1 b1
  rintro ⟨i, vals⟩ r s ⟨hi, E, g1, n1, l1, b1, h0, h3, h4⟩
  dsimp only at hi g1 l1 b1 h4
  by_cases hlt : i < l.length
  rotate_left
  · have d1 : decide ((i : Int) < (l.length : Int)) = false := decide_eq_false (by omega)
    repeat apply W_assoc
    apply W_reg
    · intro callf
      simp +decide only [aOps, rinit, aWanted, ↓bite_eq, ↓reduceIte, aStep_eq, aStepOld, aOp, opBox, opBin, opUn, opCall, opIndexAddr, opFieldAddr, opLoad, opStore, opPick, opExtract, opSlice, opBuildSlice, opBuild, aRow, aev, aevs, aparts, ann, unn, aPut, if_true, if_false, rget_rput, flat, flat1, Nat.blt_eq, aBuiltin, aLen, List.getElem?_toArray, List.getElem?_cons_zero, List.getElem?_cons_succ, Nat.zero_add, Option.bind_some, beq_self_eq_true, Bool.not_true, Bool.not_false, Bool.true_beq, Bool.false_beq, h0, h4, hv, Tryz.underlying40, goInt, lssI, d1]
      rfl
    repeat apply W_assoc
    refine W_if (b := false) ?_ ?_ ?_
    · simp +decide only [aevs, aev, aResults, rget_rput, if_true, if_false]
    · intro h; cases h
    intro _
    refine W_exitq ⟨fun h => (nomatch h), fun _ => ?_, fun h1 h2 => absurd rfl h2⟩
    repeat apply W_assoc
    apply W_reg
    · intro callf
      simp +decide only [aOps, rinit, aWanted, ↓bite_eq, ↓reduceIte, aStep_eq, aStepOld, aOp, opBox, opBin, opUn, opCall, opIndexAddr, opFieldAddr, opLoad, opStore, opPick, opExtract, opSlice, opBuildSlice, opBuild, aRow, aev, aevs, aparts, ann, unn, aPut, if_true, if_false, rget_rput, flat, flat1, Nat.blt_eq, aBuiltin, aLen, List.getElem?_toArray, List.getElem?_cons_zero, List.getElem?_cons_succ, Nat.zero_add, Option.bind_some, beq_self_eq_true, Bool.not_true, Bool.not_false, Bool.true_beq, Bool.false_beq]
      rfl
    repeat apply W_assoc
    apply W_reg
    · intro callf
      simp +decide only [aOps, rinit, aWanted, ↓bite_eq, ↓reduceIte, aStep_eq, aStepOld, aOp, opBox, opBin, opUn, opCall, opIndexAddr, opFieldAddr, opLoad, opStore, opPick, opExtract, opSlice, opBuildSlice, opBuild, aRow, aev, aevs, aparts, ann, unn, aPut, if_true, if_false, rget_rput, flat, flat1, Nat.blt_eq, aBuiltin, aLen, List.getElem?_toArray, List.getElem?_cons_zero, List.getElem?_cons_succ, Nat.zero_add, Option.bind_some, beq_self_eq_true, Bool.not_true, Bool.not_false, Bool.true_beq, Bool.false_beq]
      rfl
    repeat apply W_assoc
    refine W_for (fun (x : Nat × List Nat × Value) r s => x.1 ≤ 1024 ∧ Ext σ s ∧ s.get σ.next = ⟨1, 173, 0, vals, []⟩ ∧ σ.next < s.next ∧ Stk σ.next 3 1 s x.2.2 x.2.1.length (cI x.2.1) ∧ x.2.1.length ≤ x.1 ∧ (∀ e ∈ x.2.1, e ≤ 2000) ∧ rget r 3 = .pointer (some ⟨σ.next, 0, none⟩) ∧ rget r 5 = x.2.2 ∧ rget r 6 = .int .i64 (x.1 : Int)) (fun x => 1024 - x.1) ?_ (0, [], .slice none 0 0) ?_
    rotate_left
    · refine ⟨Nat.zero_le _, E, g1, n1, ⟨rfl, rfl, .inl ⟨rfl, rfl⟩⟩, Nat.le_refl _, by simp, ?_, ?_, ?_⟩ <;> simp +decide only [rget_rput, rinit, if_true, if_false, goInt, h3] <;> first | exact True.intro | rfl
    clear E g1 n1 h0 h3 h4
    rintro ⟨j, m, w⟩ r s ⟨hj, E, g1, n1, S, hm, hm2, h3, h5, h6⟩
    dsimp only at hj S hm hm2 h5 h6
    by_cases hjl : j < 1024
    rotate_left
    · have d2 : decide ((j : Int) < 1024) = false := decide_eq_false (by omega)
      repeat apply W_assoc
      apply W_reg
      · intro callf
        simp +decide only [aOps, rinit, aWanted, ↓bite_eq, ↓reduceIte, aStep_eq, aStepOld, aOp, opBox, opBin, opUn, opCall, opIndexAddr, opFieldAddr, opLoad, opStore, opPick, opExtract, opSlice, opBuildSlice, opBuild, aRow, aev, aevs, aparts, ann, unn, aPut, if_true, if_false, rget_rput, flat, flat1, Nat.blt_eq, aBuiltin, aLen, List.getElem?_toArray, List.getElem?_cons_zero, List.getElem?_cons_succ, Nat.zero_add, Option.bind_some, beq_self_eq_true, Bool.not_true, Bool.not_false, Bool.true_beq, Bool.false_beq, h6, lssI, d2]
        rfl
      repeat apply W_assoc
      refine W_if (b := false) ?_ ?_ ?_
      · simp +decide only [aevs, aev, aResults, rget_rput, if_true, if_false]
      · intro h; cases h
      intro _
      refine W_exitq ⟨fun h => (nomatch h), fun _ => ?_, fun h1 h2 => absurd rfl h2⟩
      repeat apply W_assoc
      apply W_reg
      · intro callf
        simp +decide only [aOps, rinit, aWanted, ↓bite_eq, ↓reduceIte, aStep_eq, aStepOld, aOp, opBox, opBin, opUn, opCall, opIndexAddr, opFieldAddr, opLoad, opStore, opPick, opExtract, opSlice, opBuildSlice, opBuild, aRow, aev, aevs, aparts, ann, unn, aPut, if_true, if_false, rget_rput, flat, flat1, Nat.blt_eq, aBuiltin, aLen, List.getElem?_toArray, List.getElem?_cons_zero, List.getElem?_cons_succ, Nat.zero_add, Option.bind_some, beq_self_eq_true, Bool.not_true, Bool.not_false, Bool.true_beq, Bool.false_beq, h5]
        rfl
      refine W_ret ⟨Nat.le_refl _, [w], ?_, ⟨m, S, by omega, hm2⟩, E⟩
      simp +decide only [aevs, aev, aResults, rget_rput, if_true, if_false]
    have d2 : decide ((j : Int) < 1024) = true := decide_eq_true (by omega)
    repeat apply W_assoc
    apply W_reg
    · intro callf
      simp +decide only [aOps, rinit, aWanted, ↓bite_eq, ↓reduceIte, aStep_eq, aStepOld, aOp, opBox, opBin, opUn, opCall, opIndexAddr, opFieldAddr, opLoad, opStore, opPick, opExtract, opSlice, opBuildSlice, opBuild, aRow, aev, aevs, aparts, ann, unn, aPut, if_true, if_false, rget_rput, flat, flat1, Nat.blt_eq, aBuiltin, aLen, List.getElem?_toArray, List.getElem?_cons_zero, List.getElem?_cons_succ, Nat.zero_add, Option.bind_some, beq_self_eq_true, Bool.not_true, Bool.not_false, Bool.true_beq, Bool.false_beq, h6, lssI, d2]
      rfl
    repeat apply W_assoc
    refine W_if (b := true) ?_ ?_ ?_
    · simp +decide only [aevs, aev, aResults, rget_rput, if_true, if_false]
    rotate_left
    · intro h; cases h
    intro _
    apply W_skipq
    refine W_blk ?_
    refine W_tail ?_
    obtain ⟨y, hy⟩ : ∃ y, vals[j]? = some y := ⟨vals[j]'(by omega), List.getElem?_eq_getElem _⟩
    obtain ⟨b, rfl⟩ := b1 y (List.mem_of_getElem? hy)
    have w6 : IntKind.i64.wrap ((j : Int) + 1) = ((j + 1 : Nat) : Int) := by rw [wrap64_id _ (by omega) (by omega)]; omega
    repeat apply W_assoc
    apply W_reg
    · intro callf
      simp +decide only [aOps, rinit, aWanted, ↓bite_eq, ↓reduceIte, aStep_eq, aStepOld, aOp, opBox, opBin, opUn, opCall, opIndexAddr, opFieldAddr, opLoad, opStore, opPick, opExtract, opSlice, opBuildSlice, opBuild, aRow, aev, aevs, aparts, ann, unn, aPut, if_true, if_false, rget_rput, flat, flat1, Nat.blt_eq, aBuiltin, aLen, List.getElem?_toArray, List.getElem?_cons_zero, List.getElem?_cons_succ, Nat.zero_add, Option.bind_some, beq_self_eq_true, Bool.not_true, Bool.not_false, Bool.true_beq, Bool.false_beq, h3, h6, idxM hjl, loadM g1 hy]
      rfl
    refine W_join (b := b) (fun r s => ∃ m w, Ext σ s ∧ s.get σ.next = ⟨1, 173, 0, vals, []⟩ ∧ σ.next < s.next ∧ Stk σ.next 3 1 s w m.length (cI m) ∧ m.length ≤ j + 1 ∧ (∀ e ∈ m, e ≤ 2000) ∧ rget r 3 = .pointer (some ⟨σ.next, 0, none⟩) ∧ rget r 5 = w ∧ rget r 6 = .int .i64 (j : Int)) (by simp +decide only [aevs, aev, aResults, rget_rput, if_true, if_false]) ?_ ?_ ?_
    · intro _
      refine W_tail ?_
      have w2 : IntKind.i64.wrap (2 + (j : Int)) = ((2 + j : Nat) : Int) := by rw [wrap64_id _ (by omega) (by omega)]; omega
      have e0 := Ext.new s ⟨1, 3, 0, [.int .i64 ((2 + j : Nat) : Int)], []⟩
      have hbb : (s.new ⟨1, 3, 0, [.int .i64 ((2 + j : Nat) : Int)], []⟩).get s.next = ⟨1, 3, 0, [.int .i64 ((2 + j : Nat) : Int)], []⟩ := by rw [AS.get_new, if_pos rfl]
      obtain ⟨w', s', a1, a2, a3, a4, a5, -⟩ := Stk.push1 elI (Stk.ext' S e0) (Nat.le_trans (Nat.le_of_lt n1) e0.nxt) hbb rfl rfl (by omega)
      repeat apply W_assoc
      apply W_reg
      · intro callf
        simp +decide only [aOps, rinit, aWanted, ↓bite_eq, ↓reduceIte, aStep_eq, aStepOld, aOp, opBox, opBin, opUn, opCall, opIndexAddr, opFieldAddr, opLoad, opStore, opPick, opExtract, opSlice, opBuildSlice, opBuild, aRow, aev, aevs, aparts, ann, unn, aPut, if_true, if_false, rget_rput, flat, flat1, Nat.blt_eq, aBuiltin, aLen, List.getElem?_toArray, List.getElem?_cons_zero, List.getElem?_cons_succ, Nat.zero_add, Option.bind_some, beq_self_eq_true, Bool.not_true, Bool.not_false, Bool.true_beq, Bool.false_beq, h5, h6, w2, sliceI1, a1, aBin, aInts, aInt_eq]
        rfl
      have E1 := E.trans e0
      have gm : s'.get σ.next = ⟨1, 173, 0, vals, []⟩ := by
        rw [a4 σ.next (Nat.lt_of_lt_of_le n1 e0.nxt) (fun ho => ?_), e0.get σ.next n1, g1]
        have := ((Stk.ext' S e0).own ho).2.2.1
        rw [e0.get σ.next n1, g1] at this
        cases this
      refine W_skip ⟨rfl, m ++ [2 + j], w', ⟨Nat.le_trans E1.nxt a3, fun i hi => (a4 i (Nat.lt_of_lt_of_le hi E1.nxt) fun ho => ?_).trans (E1.get i hi), fun q g1 g2 => a5 q g2 (E1.low q g1 g2)⟩, gm, Nat.lt_of_lt_of_le (Nat.lt_of_lt_of_le n1 e0.nxt) a3, ?_, by rw [List.length_append]; simp; omega, fun e he => ?_, ?_, ?_, ?_⟩
      · have := ((Stk.ext' S e0).own ho).1
        omega
      · rw [List.length_append, cI_append]
        exact a2
      · rcases List.mem_append.1 he with h1 | h1
        · exact hm2 e h1
        · have : e = 2 + j := by simpa using h1
          omega
      all_goals simp +decide only [rget_rput, if_true, if_false, h3, h6]
    · intro _
      refine W_skip ⟨rfl, m, w, E, g1, n1, S, by omega, hm2, ?_, ?_, ?_⟩ <;> simp +decide only [rget_rput, if_true, if_false, h3, h5, h6]
    clear E g1 n1 S hm hm2 h3 h5 h6
    rintro r s ⟨m, w, E, g1, n1, S, hm, hm2, h3, h5, h6⟩
    refine W_skip ⟨fun _ => ?_, fun h => absurd rfl h⟩
    refine W_tail ?_
    repeat apply W_assoc
    apply W_reg
    · intro callf
      simp +decide only [aOps, rinit, aWanted, ↓bite_eq, ↓reduceIte, aStep_eq, aStepOld, aOp, opBox, opBin, opUn, opCall, opIndexAddr, opFieldAddr, opLoad, opStore, opPick, opExtract, opSlice, opBuildSlice, opBuild, aRow, aev, aevs, aparts, ann, unn, aPut, if_true, if_false, rget_rput, flat, flat1, Nat.blt_eq, aBuiltin, aLen, List.getElem?_toArray, List.getElem?_cons_zero, List.getElem?_cons_succ, Nat.zero_add, Option.bind_some, beq_self_eq_true, Bool.not_true, Bool.not_false, Bool.true_beq, Bool.false_beq, h6, w6, aBin, aInts, aInt_eq]
      rfl
    refine W_skip ⟨fun _ => ⟨(j + 1, m, w), ?_, ?_⟩, fun h => (nomatch h), fun h => absurd rfl h⟩
    · show 1024 - (j + 1) < 1024 - j
      omega
    · refine ⟨by show j + 1 ≤ _; omega, E, g1, n1, S, hm, hm2, ?_, ?_, ?_⟩ <;> simp +decide only [rget_rput, if_true, if_false, h3, h5]
  have d1 : decide ((i : Int) < (l.length : Int)) = true := decide_eq_true (by omega)
  repeat apply W_assoc
  apply W_reg
  · intro callf
    simp +decide only [aOps, rinit, aWanted, ↓bite_eq, ↓reduceIte, aStep_eq, aStepOld, aOp, opBox, opBin, opUn, opCall, opIndexAddr, opFieldAddr, opLoad, opStore, opPick, opExtract, opSlice, opBuildSlice, opBuild, aRow, aev, aevs, aparts, ann, unn, aPut, if_true, if_false, rget_rput, flat, flat1, Nat.blt_eq, aBuiltin, aLen, List.getElem?_toArray, List.getElem?_cons_zero, List.getElem?_cons_succ, Nat.zero_add, Option.bind_some, beq_self_eq_true, Bool.not_true, Bool.not_false, Bool.true_beq, Bool.false_beq, h0, h4, hv, Tryz.underlying40, goInt, lssI, d1]
    rfl
  repeat apply W_assoc
  refine W_if (b := true) ?_ ?_ ?_
  · simp +decide only [aevs, aev, aResults, rget_rput, if_true, if_false]
  rotate_left
  · intro h; cases h
  intro _
  apply W_skipq
  refine W_blk ?_
  refine W_tail ?_
  obtain ⟨e, he⟩ : ∃ e, l[i]? = some e := ⟨l[i], List.getElem?_eq_getElem _⟩
  obtain ⟨he2, he5⟩ := hl e (List.mem_of_getElem? he)
  obtain ⟨vb, vc', hve, hvb, hvi, hvl⟩ := stkI_at h he
  have q1 := hvl s (E.get vb hvb)
  have w6 : IntKind.i64.wrap ((i : Int) + 1) = ((i + 1 : Nat) : Int) := by rw [wrap64_id _ (by omega) (by omega)]; omega
  repeat apply W_assoc
  apply W_regL
  apply Ls_pre 4
  · intro callf
    simp +decide only [List.take, aOps, rinit, aWanted, ↓bite_eq, ↓reduceIte, aStep_eq, aStepOld, aOp, opBox, opBin, opUn, opCall, opIndexAddr, opFieldAddr, opLoad, opStore, opPick, opExtract, opSlice, opBuildSlice, opBuild, aRow, aev, aevs, aparts, ann, unn, aPut, if_true, if_false, rget_rput, flat, flat1, Nat.blt_eq, aBuiltin, aLen, List.getElem?_toArray, List.getElem?_cons_zero, List.getElem?_cons_succ, Nat.zero_add, Option.bind_some, beq_self_eq_true, Bool.not_true, Bool.not_false, Bool.true_beq, Bool.false_beq, h0, h4, hvi, q1]
    rfl
  dsimp only [List.drop]
  refine Ls_fn (vs := [.int .i64 (e : Int)]) (by simp +decide only [aevs, aev, aResults, rget_rput, if_true, if_false]) (by decide) (C.mono (vis_c he2 he5) ?_)
  rintro v σ' ⟨rfl, E1⟩
  have g1 := (E1.get _ n1).trans g1
  have n1 := E1.lt n1
  have E := E.trans E1
  have q1 := hvl σ' (E.get vb hvb)
  clear E1
  apply Ls_all
  · intro callf
    simp +decide only [aOps, rinit, aWanted, ↓bite_eq, ↓reduceIte, aStep_eq, aStepOld, aOp, opBox, opBin, opUn, opCall, opIndexAddr, opFieldAddr, opLoad, opStore, opPick, opExtract, opSlice, opBuildSlice, opBuild, aRow, aev, aevs, aparts, ann, unn, aPut, if_true, if_false, rget_rput, flat, flat1, Nat.blt_eq, aBuiltin, aLen, List.getElem?_toArray, List.getElem?_cons_zero, List.getElem?_cons_succ, Nat.zero_add, Option.bind_some, beq_self_eq_true, Bool.not_true, Bool.not_false, Bool.true_beq, Bool.false_beq]
    rfl
  repeat apply W_assoc
  refine W_if (b := true) ?_ ?_ ?_
  · simp +decide only [aevs, aev, aResults, rget_rput, if_true, if_false]
  rotate_left
  · intro h; cases h
  intro _
  have w2 : IntKind.i64.wrap ((e : Int) - 2) = ((e - 2 : Nat) : Int) := by rw [wrap64_id _ (by omega) (by omega)]; omega
  repeat apply W_assoc
  apply W_reg
  · intro callf
    simp +decide only [aOps, rinit, aWanted, ↓bite_eq, ↓reduceIte, aStep_eq, aStepOld, aOp, opBox, opBin, opUn, opCall, opIndexAddr, opFieldAddr, opLoad, opStore, opPick, opExtract, opSlice, opBuildSlice, opBuild, aRow, aev, aevs, aparts, ann, unn, aPut, if_true, if_false, rget_rput, flat, flat1, Nat.blt_eq, aBuiltin, aLen, List.getElem?_toArray, List.getElem?_cons_zero, List.getElem?_cons_succ, Nat.zero_add, Option.bind_some, beq_self_eq_true, Bool.not_true, Bool.not_false, Bool.true_beq, Bool.false_beq, h0, h3, h4, hvi, q1, w2, idxM (show e - 2 < 1024 by omega), storeM g1 (show e - 2 < vals.length by omega), aBin, aInts, aInt_eq]
    rfl
  refine W_skip ⟨fun _ => ?_, fun h => absurd rfl h⟩
  refine W_tail ?_
  repeat apply W_assoc
  apply W_reg
  · intro callf
    simp +decide only [aOps, rinit, aWanted, ↓bite_eq, ↓reduceIte, aStep_eq, aStepOld, aOp, opBox, opBin, opUn, opCall, opIndexAddr, opFieldAddr, opLoad, opStore, opPick, opExtract, opSlice, opBuildSlice, opBuild, aRow, aev, aevs, aparts, ann, unn, aPut, if_true, if_false, rget_rput, flat, flat1, Nat.blt_eq, aBuiltin, aLen, List.getElem?_toArray, List.getElem?_cons_zero, List.getElem?_cons_succ, Nat.zero_add, Option.bind_some, beq_self_eq_true, Bool.not_true, Bool.not_false, Bool.true_beq, Bool.false_beq, h4, w6, aBin, aInts, aInt_eq]
    rfl
  refine W_skip ⟨fun _ => ⟨(i + 1, vals.set (e - 2) (.bool true)), ?_, ?_⟩, fun h => (nomatch h), fun h => absurd rfl h⟩
  · show l.length - (i + 1) < l.length - i
    omega
  · refine ⟨by show i + 1 ≤ _; omega, Ext.put E (Nat.le_refl _) _, by rw [AS.get_put, if_pos rfl], n1, by rw [List.length_set]; exact l1, fun y hy => ?_, ?_, ?_, ?_⟩
    · rcases List.mem_or_eq_of_mem_set hy with h1 | h1
      · exact b1 y h1
      · exact ⟨true, h1⟩
    all_goals simp +decide only [rget_rput, if_true, if_false, h0, h3]

set_option maxHeartbeats 8000000 in
theorem evs_c {σ : AS} {tb : Nat} {lv : Value} {ints : List Int} (h : Tape tb σ lv ints) : C Tryz.prog KA 0 117 [.pointer (some ⟨tb, 0, none⟩)] σ fun u σ' => (∃ m : List Nat, Stk σ.next 3 1 σ' u m.length (cI m) ∧ m.length ≤ 1024 ∧ ∀ e ∈ m, e ≤ 2000) ∧ Tape tb σ' lv ints ∧ ExtX [tb] σ σ' := by
  have htb := h.lt
  refine C_of (ka rfl rfl) Tryz.func117 rfl (Nat.le_of_ble_eq_true rfl) ?_
  show W _ _ _ 18 _ _ _ _
  unfold Tryz.f117
  dsimp only
  repeat apply W_assoc
  apply W_reg
  · intro callf
    simp +decide only [aOps, rinit, aWanted, ↓bite_eq, ↓reduceIte, aStep_eq, aStepOld, aOp, opBox, opBin, opUn, opCall, opIndexAddr, opFieldAddr, opLoad, opStore, opPick, opExtract, opSlice, opBuildSlice, opBuild, aRow, aev, aevs, aparts, ann, unn, aPut, if_true, if_false, rget_rput, flat, flat1, Nat.blt_eq, aBuiltin, aLen, List.getElem?_toArray, List.getElem?_cons_zero, List.getElem?_cons_succ, Nat.zero_add, Option.bind_some, beq_self_eq_true, Bool.not_true, Bool.not_false, Bool.true_beq, Bool.false_beq]
    rfl
  repeat apply W_assoc
  apply W_reg
  · intro callf
    simp +decide only [aOps, rinit, aWanted, ↓bite_eq, ↓reduceIte, aStep_eq, aStepOld, aOp, opBox, opBin, opUn, opCall, opIndexAddr, opFieldAddr, opLoad, opStore, opPick, opExtract, opSlice, opBuildSlice, opBuild, aRow, aev, aevs, aparts, ann, unn, aPut, if_true, if_false, rget_rput, flat, flat1, Nat.blt_eq, aBuiltin, aLen, List.getElem?_toArray, List.getElem?_cons_zero, List.getElem?_cons_succ, Nat.zero_add, Option.bind_some, beq_self_eq_true, Bool.not_true, Bool.not_false, Bool.true_beq, Bool.false_beq]
    rfl
  repeat apply W_assoc
  apply W_regL
  apply Ls_pre 1
  · intro callf
    simp +decide only [List.take, aOps, rinit, aWanted, ↓bite_eq, ↓reduceIte, aStep_eq, aStepOld, aOp, opBox, opBin, opUn, opCall, opIndexAddr, opFieldAddr, opLoad, opStore, opPick, opExtract, opSlice, opBuildSlice, opBuild, aRow, aev, aevs, aparts, ann, unn, aPut, if_true, if_false, rget_rput, flat, flat1, Nat.blt_eq, aBuiltin, aLen, List.getElem?_toArray, List.getElem?_cons_zero, List.getElem?_cons_succ, Nat.zero_add, Option.bind_some, beq_self_eq_true, Bool.not_true, Bool.not_false, Bool.true_beq, Bool.false_beq]
    rfl
  dsimp only [List.drop]
  refine Ls_fn (vs := [.pointer (some ⟨tb, 0, none⟩), .int .i64 4]) (by simp +decide only [aevs, aev, aResults, rget_rput, if_true, if_false]) (by decide) (C.mono (next_c h (n := 4) (by omega) (by omega)) ?_)
  rintro v σ' ⟨⟨m, rfl, hm0, hm1⟩, TP, EX⟩
  obtain ⟨M, rfl⟩ : ∃ M : Nat, m = (M : Int) := ⟨m.toNat, by omega⟩
  apply Ls_all
  · intro callf
    simp +decide only [aOps, rinit, aWanted, ↓bite_eq, ↓reduceIte, aStep_eq, aStepOld, aOp, opBox, opBin, opUn, opCall, opIndexAddr, opFieldAddr, opLoad, opStore, opPick, opExtract, opSlice, opBuildSlice, opBuild, aRow, aev, aevs, aparts, ann, unn, aPut, if_true, if_false, rget_rput, flat, flat1, Nat.blt_eq, aBuiltin, aLen, List.getElem?_toArray, List.getElem?_cons_zero, List.getElem?_cons_succ, Nat.zero_add, Option.bind_some, beq_self_eq_true, Bool.not_true, Bool.not_false, Bool.true_beq, Bool.false_beq]
    rfl
  generalize σ' = σ1 at TP EX
  repeat apply W_assoc
  refine W_for (fun (x : Nat × List Nat × Value) r s => x.1 + x.2.1.length ≤ 3 ∧ Tape tb s lv ints ∧ ExtX [tb] σ s ∧ Stk σ.next 3 1 s x.2.2 x.2.1.length (cI x.2.1) ∧ (∀ e ∈ x.2.1, 2 ≤ e ∧ e ≤ 5) ∧ rget r 0 = .pointer (some ⟨tb, 0, none⟩) ∧ rget r 3 = x.2.2 ∧ rget r 4 = .int .i64 (x.1 : Int)) (fun x => x.1) ?_ (M, [], .slice none 0 0) ?_
  rotate_left
  · refine ⟨by show M + 0 ≤ 3; omega, TP, EX, ⟨rfl, rfl, .inl ⟨rfl, rfl⟩⟩, by simp, ?_, ?_, ?_⟩ <;> simp +decide only [rget_rput, rinit, if_true, if_false, goInt] <;> first | exact True.intro | rfl
  clear TP EX hm0 hm1
  rintro ⟨n, l, w0⟩ r s ⟨hn, TP, EX, S, hl, h0, h3, h4⟩
  dsimp only at hn S hl h3 h4
  by_cases hn0 : 0 < n
  rotate_left
  · have d1 : decide ((n : Int) > 0) = false := decide_eq_false (by omega)
    repeat apply W_assoc
    apply W_reg
    · intro callf
      simp +decide only [aOps, rinit, aWanted, ↓bite_eq, ↓reduceIte, aStep_eq, aStepOld, aOp, opBox, opBin, opUn, opCall, opIndexAddr, opFieldAddr, opLoad, opStore, opPick, opExtract, opSlice, opBuildSlice, opBuild, aRow, aev, aevs, aparts, ann, unn, aPut, if_true, if_false, rget_rput, flat, flat1, Nat.blt_eq, aBuiltin, aLen, List.getElem?_toArray, List.getElem?_cons_zero, List.getElem?_cons_succ, Nat.zero_add, Option.bind_some, beq_self_eq_true, Bool.not_true, Bool.not_false, Bool.true_beq, Bool.false_beq, h4, gtrI, d1]
      rfl
    repeat apply W_assoc
    refine W_if (b := false) ?_ ?_ ?_
    · simp +decide only [aevs, aev, aResults, rget_rput, if_true, if_false]
    · intro h; cases h
    intro _
    refine W_exitq ⟨fun h => (nomatch h), fun _ => ?_, fun h1 h2 => absurd rfl h2⟩
    repeat apply W_assoc
    apply W_regL
    apply Ls_pre 1
    · intro callf
      simp +decide only [List.take, aOps, rinit, aWanted, ↓bite_eq, ↓reduceIte, aStep_eq, aStepOld, aOp, opBox, opBin, opUn, opCall, opIndexAddr, opFieldAddr, opLoad, opStore, opPick, opExtract, opSlice, opBuildSlice, opBuild, aRow, aev, aevs, aparts, ann, unn, aPut, if_true, if_false, rget_rput, flat, flat1, Nat.blt_eq, aBuiltin, aLen, List.getElem?_toArray, List.getElem?_cons_zero, List.getElem?_cons_succ, Nat.zero_add, Option.bind_some, beq_self_eq_true, Bool.not_true, Bool.not_false, Bool.true_beq, Bool.false_beq, h3]
      rfl
    dsimp only [List.drop]
    refine Ls_fn (vs := [w0]) (by simp +decide only [aevs, aev, aResults, rget_rput, if_true, if_false, h3]) (by decide) (C.mono (rset_c S hl (by omega)) ?_)
    rintro v σ' ⟨⟨m, S2, hm, hm2⟩, E1⟩
    apply Ls_all
    · intro callf
      simp +decide only [aOps, rinit, aWanted, ↓bite_eq, ↓reduceIte, aStep_eq, aStepOld, aOp, opBox, opBin, opUn, opCall, opIndexAddr, opFieldAddr, opLoad, opStore, opPick, opExtract, opSlice, opBuildSlice, opBuild, aRow, aev, aevs, aparts, ann, unn, aPut, if_true, if_false, rget_rput, flat, flat1, Nat.blt_eq, aBuiltin, aLen, List.getElem?_toArray, List.getElem?_cons_zero, List.getElem?_cons_succ, Nat.zero_add, Option.bind_some, beq_self_eq_true, Bool.not_true, Bool.not_false, Bool.true_beq, Bool.false_beq]
      rfl
    have TP := TP.ext E1
    have EX2 := EX.trans (ExtX.of E1)
    refine W_ret ⟨Nat.le_refl _, [v], ?_, ⟨m, ?_, hm, hm2⟩, TP, EX2⟩
    · simp +decide only [aevs, aev, aResults, rget_rput, if_true, if_false]
    · obtain ⟨c1, c2, c3 | ⟨b, n2, vals, c3, c4, c5, c6⟩⟩ := S2
      · exact ⟨c1, c2, .inl c3⟩
      · exact ⟨c1, c2, .inr ⟨b, n2, vals, c3, c4, Nat.le_trans EX.nxt c5, c6⟩⟩
  have d1 : decide ((n : Int) > 0) = true := decide_eq_true (by omega)
  repeat apply W_assoc
  apply W_reg
  · intro callf
    simp +decide only [aOps, rinit, aWanted, ↓bite_eq, ↓reduceIte, aStep_eq, aStepOld, aOp, opBox, opBin, opUn, opCall, opIndexAddr, opFieldAddr, opLoad, opStore, opPick, opExtract, opSlice, opBuildSlice, opBuild, aRow, aev, aevs, aparts, ann, unn, aPut, if_true, if_false, rget_rput, flat, flat1, Nat.blt_eq, aBuiltin, aLen, List.getElem?_toArray, List.getElem?_cons_zero, List.getElem?_cons_succ, Nat.zero_add, Option.bind_some, beq_self_eq_true, Bool.not_true, Bool.not_false, Bool.true_beq, Bool.false_beq, h4, gtrI, d1]
    rfl
  repeat apply W_assoc
  refine W_if (b := true) ?_ ?_ ?_
  · simp +decide only [aevs, aev, aResults, rget_rput, if_true, if_false]
  rotate_left
  · intro h; cases h
  intro _
  apply W_skipq
  refine W_blk ?_
  refine W_tail ?_
  have w6 : IntKind.i64.wrap ((n : Int) - 1) = ((n - 1 : Nat) : Int) := by rw [wrap64_id _ (by omega) (by omega)]; omega
  repeat apply W_assoc
  apply W_regL
  apply Ls_pre 2
  · intro callf
    simp +decide only [List.take, aOps, rinit, aWanted, ↓bite_eq, ↓reduceIte, aStep_eq, aStepOld, aOp, opBox, opBin, opUn, opCall, opIndexAddr, opFieldAddr, opLoad, opStore, opPick, opExtract, opSlice, opBuildSlice, opBuild, aRow, aev, aevs, aparts, ann, unn, aPut, if_true, if_false, rget_rput, flat, flat1, Nat.blt_eq, aBuiltin, aLen, List.getElem?_toArray, List.getElem?_cons_zero, List.getElem?_cons_succ, Nat.zero_add, Option.bind_some, beq_self_eq_true, Bool.not_true, Bool.not_false, Bool.true_beq, Bool.false_beq, h0, h3]
    rfl
  dsimp only [List.drop]
  refine Ls_fn (vs := [.pointer (some ⟨tb, 0, none⟩)]) (by simp +decide only [aevs, aev, aResults, rget_rput, if_true, if_false, h0]) (by decide) (C.mono (evt_c TP) ?_)
  rintro v σ' ⟨⟨e, rfl, he2, he5⟩, TP, E1⟩
  have EX := EX.trans E1
  have S : Stk σ.next 3 1 σ' w0 l.length (cI l) := S.keep E1.nxt fun i ho hi => E1.get i hi (by have := (S.own ho).1; simp; omega)
  have e0 := Ext.new σ' ⟨1, 3, 0, [.int .i64 (e : Int)], []⟩
  have hbb : (σ'.new ⟨1, 3, 0, [.int .i64 (e : Int)], []⟩).get σ'.next = ⟨1, 3, 0, [.int .i64 (e : Int)], []⟩ := by rw [AS.get_new, if_pos rfl]
  obtain ⟨w', s', a1, a2, a3, a4, a5, -⟩ := Stk.push1 elI (Stk.ext' S e0) (Nat.le_trans EX.nxt e0.nxt) hbb rfl rfl (by omega)
  apply Ls_all
  · intro callf
    simp +decide only [aOps, rinit, aWanted, ↓bite_eq, ↓reduceIte, aStep_eq, aStepOld, aOp, opBox, opBin, opUn, opCall, opIndexAddr, opFieldAddr, opLoad, opStore, opPick, opExtract, opSlice, opBuildSlice, opBuild, aRow, aev, aevs, aparts, ann, unn, aPut, if_true, if_false, rget_rput, flat, flat1, Nat.blt_eq, aBuiltin, aLen, List.getElem?_toArray, List.getElem?_cons_zero, List.getElem?_cons_succ, Nat.zero_add, Option.bind_some, beq_self_eq_true, Bool.not_true, Bool.not_false, Bool.true_beq, Bool.false_beq, sliceI1, a1]
    rfl
  have EX := EX.trans (ExtX.of e0)
  have hS := Stk.ext' S e0
  have hs : ExtX [tb] σ s' := ⟨Nat.le_trans EX.nxt a3, fun i hi hx => (a4 i (Nat.lt_of_lt_of_le hi EX.nxt) fun ho => by have := (hS.own ho).1; omega).trans (EX.get i hi hx), fun q g1 g2 g3 => a5 q g2 (EX.low q g1 g2 g3)⟩
  have TP2 : Tape tb s' lv ints := by
    obtain ⟨p, hp⟩ := (TP.ext e0).own
    refine h.keep hs (pos := p) ?_
    rw [a4 tb (TP.ext e0).lt fun ho => by have := (hS.own ho).1; omega]
    exact hp
  refine W_skip ⟨fun _ => ?_, fun h => absurd rfl h⟩
  refine W_tail ?_
  repeat apply W_assoc
  apply W_reg
  · intro callf
    simp +decide only [aOps, rinit, aWanted, ↓bite_eq, ↓reduceIte, aStep_eq, aStepOld, aOp, opBox, opBin, opUn, opCall, opIndexAddr, opFieldAddr, opLoad, opStore, opPick, opExtract, opSlice, opBuildSlice, opBuild, aRow, aev, aevs, aparts, ann, unn, aPut, if_true, if_false, rget_rput, flat, flat1, Nat.blt_eq, aBuiltin, aLen, List.getElem?_toArray, List.getElem?_cons_zero, List.getElem?_cons_succ, Nat.zero_add, Option.bind_some, beq_self_eq_true, Bool.not_true, Bool.not_false, Bool.true_beq, Bool.false_beq, h4, w6, aBin, aInts, aInt_eq]
    rfl
  refine W_skip ⟨fun _ => ⟨(n - 1, l ++ [e], w'), ?_, ?_⟩, fun h => (nomatch h), fun h => absurd rfl h⟩
  · show n - 1 < n
    omega
  · refine ⟨by show n - 1 + (l ++ [e]).length ≤ 3; rw [List.length_append]; simp; omega, TP2, hs, ?_, fun x hx => ?_, ?_, ?_, ?_⟩
    · show Stk σ.next 3 1 s' w' (l ++ [e]).length (cI (l ++ [e]))
      rw [List.length_append, cI_append]
      exact a2
    · rcases List.mem_append.1 hx with h1 | h1
      · exact hl x h1
      · obtain rfl : x = e := by simpa using h1
        exact ⟨he2, he5⟩
    all_goals simp +decide only [rget_rput, if_true, if_false, h0]

end Go.Proofs.YtacpdefmnijhnaaGreat.U
