/- Mod, New and Next of the choices. -/
import Derived.Test.YtacpdefmnijhnaaGreatUC
import Derived.Test.YtacpdefmnijhnaaGreatLib
set_option linter.unusedSimpArgs false
set_option linter.unusedVariables false
namespace Go.Proofs.YtacpdefmnijhnaaGreat.U
open Abs

theorem conv_iu (v : Int) : flatO (asPure Tryz.prog (convert 3 148 (.int .i64 v))) = some (.int .u64 (IntKind.u64.wrap v)) := by kernel_rfl
theorem conv_ui (v : Int) : flatO (asPure Tryz.prog (convert 148 3 (.int .u64 v))) = some (.int .i64 (IntKind.i64.wrap v)) := by kernel_rfl

theorem wrapu_nonneg (v : Int) : 0 ≤ IntKind.u64.wrap v := by
  have e : (2 : Int) ^ IntKind.u64.bits = 18446744073709551616 := by decide
  unfold IntKind.wrap
  simp only [e, show IntKind.u64.signed = false from rfl, Bool.false_and, Bool.false_eq_true, if_false]
  omega

set_option maxHeartbeats 1000000 in
theorem mod_c {σ : AS} (v n : Int) (hn : 1 ≤ n) (hn2 : n ≤ 2 ^ 62) : C Tryz.prog KA 0 68 [.int .i64 v, .int .i64 n] σ fun u σ' => (∃ m : Int, u = .int .i64 m ∧ 0 ≤ m ∧ m < n) ∧ σ' = σ := by
  have e1 : IntKind.u64.wrap n = n := by
    have e : (2 : Int) ^ IntKind.u64.bits = 18446744073709551616 := by decide
    unfold IntKind.wrap
    simp only [e, show IntKind.u64.signed = false from rfl, Bool.false_and, Bool.false_eq_true, if_false]
    omega
  have h1 := wrapu_nonneg v
  have h0 : n ≠ 0 := by omega
  have h2 : 0 ≤ (IntKind.u64.wrap v).tmod n := Int.tmod_nonneg _ h1
  have h3 : (IntKind.u64.wrap v).tmod n < n := Int.tmod_lt_of_pos _ (by omega)
  have e2 : IntKind.i64.wrap ((IntKind.u64.wrap v).tmod n) = (IntKind.u64.wrap v).tmod n := wrap64_id _ (by omega) (by omega)
  refine C_of (ka rfl rfl) Tryz.func68 rfl (Nat.le_of_ble_eq_true rfl) ?_
  show W _ _ _ 11 _ _ _ _
  unfold Tryz.f68
  dsimp only
  repeat apply W_assoc
  apply W_reg
  · intro callf
    simp +decide only [aOps, rinit, aWanted, ↓bite_eq, ↓reduceIte, aStep_eq, aStepOld, aOp, opBox, opBin, opUn, opCall, opIndexAddr, opFieldAddr, opLoad, opStore, opPick, opExtract, opSlice, opBuildSlice, opBuild, aRow, aev, aevs, aparts, ann, unn, aPut, if_true, if_false, rget_rput, flat, flat1, Nat.blt_eq, aBuiltin, aLen, List.getElem?_toArray, List.getElem?_cons_zero, List.getElem?_cons_succ, Nat.zero_add, Option.bind_some, beq_self_eq_true, Bool.not_true, Bool.not_false, Bool.true_beq, Bool.false_beq]
    rfl
  repeat apply W_assoc
  apply W_reg
  · intro callf
    simp +decide only [aOps, rinit, aWanted, ↓bite_eq, ↓reduceIte, aStep_eq, aStepOld, aOp, opBox, opBin, opUn, opCall, opIndexAddr, opFieldAddr, opLoad, opStore, opPick, opExtract, opSlice, opBuildSlice, opBuild, aRow, aev, aevs, aparts, ann, unn, aPut, if_true, if_false, rget_rput, flat, flat1, Nat.blt_eq, aBuiltin, aLen, List.getElem?_toArray, List.getElem?_cons_zero, List.getElem?_cons_succ, Nat.zero_add, Option.bind_some, beq_self_eq_true, Bool.not_true, Bool.not_false, Bool.true_beq, Bool.false_beq, opConvert, conv_iu, conv_ui, e1, e2, aRem _ _ h0]
    rfl
  refine W_ret ⟨Nat.le_refl _, [.int .i64 ((IntKind.u64.wrap v).tmod n)], ?_, ?_, rfl⟩
  · simp +decide only [aevs, aev, aResults, rget_rput, if_true, if_false]
  · exact ⟨_, rfl, h2, h3⟩

/-! ### Choices -/

def RInt (_ : AS) (cs : List Value) (x : Int) : Prop := cs = [.int .i64 x]
theorem RInt.keeps : Keeps RInt := fun _ _ _ _ _ h => h

theorem fldT0 {b off : Nat} : aField Tryz.prog 77 0 (.pointer (some ⟨b, off, none⟩)) = some (.pointer (some ⟨b, off, none⟩)) := by kernel_rfl
theorem fldT1 {b off : Nat} : aField Tryz.prog 77 1 (.pointer (some ⟨b, off, none⟩)) = some (.pointer (some ⟨b, off + 1, none⟩)) := by kernel_rfl

theorem idxI {b off len cap i : Nat} (h : i < len) : aIndexAddr Tryz.prog 40 (.slice (some ⟨b, off, none⟩) len cap) (.int .i64 (i : Int)) = some (.pointer (some ⟨b, off + i * 1, none⟩)) :=
  aIndexAddr_slice (inf := (Tryz.prog.info? 3).get!) Tryz.underlying40 (by kernel_rfl) (by kernel_rfl) h

/-- An integer of a list. -/
theorem intOf {σ : AS} {base : Option Addr} {len cap : Nat} {l : List Int} (h : RS 1 RInt σ (.slice base len cap) l) {i : Nat} {x : Int} (hi : l[i]? = some x) :
    len = l.length ∧ ∃ b off, base = some ⟨b, off, none⟩ ∧ b < σ.next ∧ aCells σ ⟨b, off + i * 1, none⟩ 1 = some [.int .i64 x] := by
  obtain ⟨base', cap', e, hb⟩ := h
  cases e
  obtain ⟨b, off, rfl, h2, h3⟩ := hb (fun h => by rw [h] at hi; simp at hi)
  obtain ⟨cs, h4, h5⟩ := h3 i x hi
  exact ⟨rfl, b, off, rfl, h2, by rw [h4]; exact congrArg some h5⟩

/-- The choices in block tb: the list ints, some of it read. -/
structure Tape (tb : Nat) (σ : AS) (lv : Value) (ints : List Int) : Prop where
  lt : tb < σ.next
  own : ∃ pos : Nat, σ.get tb = ⟨1, 77, 0, [lv, .int .i64 (pos : Int)], []⟩
  rs : RS 1 RInt (hid [tb] σ) lv ints
  len : ints.length ≤ 2 ^ 62

theorem Tape.keep {tb : Nat} {σ σ' : AS} {lv : Value} {ints : List Int} (h : Tape tb σ lv ints) (e : ExtX [tb] σ σ') {pos : Nat} (hg : σ'.get tb = ⟨1, 77, 0, [lv, .int .i64 (pos : Int)], []⟩) : Tape tb σ' lv ints :=
  ⟨e.lt h.lt, ⟨pos, hg⟩, h.rs.ext RInt.keeps e.hid, h.len⟩
theorem Tape.ext {tb : Nat} {σ σ' : AS} {lv : Value} {ints : List Int} (h : Tape tb σ lv ints) (e : Ext σ σ') : Tape tb σ' lv ints := by
  obtain ⟨pos, hg⟩ := h.own
  exact h.keep (ExtX.of e) ((e.get tb h.lt).trans hg)

theorem storeT {σ : AS} {tb : Nat} {lv : Value} {pos x : Int} (h : σ.get tb = ⟨1, 77, 0, [lv, .int .i64 pos], []⟩) :
    aStore Tryz.prog σ 3 (.int .i64 x) (.pointer (some ⟨tb, 1, none⟩)) = some (σ.put tb ⟨1, 77, 0, [lv, .int .i64 x], []⟩) := by
  obtain ⟨inf, hi, hs⟩ : ∃ inf, Tryz.prog.info? 3 = some inf ∧ inf.size = 1 := ⟨(Tryz.prog.info? 3).get!, by kernel_rfl, by kernel_rfl⟩
  have hz : Nat.beq (Value.int .i64 x).cells.size 1 = true := rfl
  unfold aStore
  simp only [hi, hs, hz, if_true]
  unfold aWrite
  simp only [h]
  rfl

set_option maxHeartbeats 4000000 in
theorem next_c {σ : AS} {tb : Nat} {n : Int} {lv : Value} {ints : List Int} (h : Tape tb σ lv ints) (hn : 1 ≤ n) (hn2 : n ≤ 2 ^ 62) : C Tryz.prog KA 0 35 [.pointer (some ⟨tb, 0, none⟩), .int .i64 n] σ fun v σ' => (∃ m : Int, v = .int .i64 m ∧ 0 ≤ m ∧ m < n) ∧ Tape tb σ' lv ints ∧ ExtX [tb] σ σ' := by
  have hT := h
  obtain ⟨hlt, ⟨p, hg⟩, hr, hl⟩ := h
  obtain ⟨base, cap, rfl, -⟩ := id hr
  have L1 : ∀ σ', Ext σ σ' → aLoad Tryz.prog σ' 3 (.pointer (some ⟨tb, 1, none⟩)) = some (.int .i64 (p : Int)) := fun σ' e => load1 Tryz.underlying3 rfl (cells_at ((e.get tb hlt).trans hg) rfl (Nat.le_refl _))
  have L0 : ∀ σ', Ext σ σ' → aLoad Tryz.prog σ' 40 (.pointer (some ⟨tb, 0, none⟩)) = some (.slice base ints.length cap) := fun σ' e => load1 Tryz.underlying40 rfl (cells_at ((e.get tb hlt).trans hg) rfl (by simp))
  refine C_of (ka rfl rfl) Tryz.func35 rfl (Nat.le_of_ble_eq_true rfl) ?_
  show W _ _ _ 35 _ _ _ _
  unfold Tryz.f35
  dsimp only
  repeat apply W_assoc
  apply W_reg
  · intro callf
    simp +decide only [aOps, rinit, aWanted, ↓bite_eq, ↓reduceIte, aStep_eq, aStepOld, aOp, opBox, opBin, opUn, opCall, opIndexAddr, opFieldAddr, opLoad, opStore, opPick, opExtract, opSlice, opBuildSlice, opBuild, aRow, aev, aevs, aparts, ann, unn, aPut, if_true, if_false, rget_rput, flat, flat1, Nat.blt_eq, aBuiltin, aLen, List.getElem?_toArray, List.getElem?_cons_zero, List.getElem?_cons_succ, Nat.zero_add, Option.bind_some, beq_self_eq_true, Bool.not_true, Bool.not_false, Bool.true_beq, Bool.false_beq]
    rfl
  repeat apply W_assoc
  refine W_drw [] [] (by kernel_rfl) (by kernel_rfl) ?_
  apply Lg_all
  · intro callf
    simp +decide only [aQ, memb, List.any_nil, List.any_cons, Bool.true_or, Bool.or_false, Bool.and_true, Bool.or_true, Bool.false_or, Bool.true_and, reset_merge, reset_reset, reset_next, reset_low, merge_next, merge_idem, new_low, ble_self, aOps, rinit, aWanted, ↓bite_eq, ↓reduceIte, aStep_eq, aStepOld, aOp, opBox, opBin, opUn, opCall, opIndexAddr, opFieldAddr, opLoad, opStore, opPick, opExtract, opSlice, opBuildSlice, opBuild, aRow, aev, aevs, aparts, ann, unn, aPut, if_true, if_false, rget_rput, flat, flat1, Nat.blt_eq, aBuiltin, aLen, List.getElem?_toArray, List.getElem?_cons_zero, List.getElem?_cons_succ, Nat.zero_add, Option.bind_some, beq_self_eq_true, Bool.not_true, Bool.not_false, Bool.true_beq, Bool.false_beq, opNil, fldT0, fldT1, L0 _ (Ext.reset _), L1 _ (Ext.reset _), Tryz.underlying40, goInt, aBin, aInts, aInt_eq]
    rfl
  have e1 : Ext σ (σ.merge σ.reset) := (Ext.refl _).merge
  generalize σ.merge σ.reset = σ1 at e1
  by_cases hp : (ints.length : Int) ≤ (p : Int)
  · have d1 : decide ((p : Int) ≥ (ints.length : Int)) = true := decide_eq_true hp
    simp only [d1]
    repeat apply W_assoc
    refine W_if (b := true) ?_ ?_ ?_
    · simp +decide only [aevs, aev, aResults, rget_rput, if_true, if_false]
    · intro _
      repeat apply W_assoc
      apply W_reg
      · intro callf
        simp +decide only [aOps, rinit, aWanted, ↓bite_eq, ↓reduceIte, aStep_eq, aStepOld, aOp, opBox, opBin, opUn, opCall, opIndexAddr, opFieldAddr, opLoad, opStore, opPick, opExtract, opSlice, opBuildSlice, opBuild, aRow, aev, aevs, aparts, ann, unn, aPut, if_true, if_false, rget_rput, flat, flat1, Nat.blt_eq, aBuiltin, aLen, List.getElem?_toArray, List.getElem?_cons_zero, List.getElem?_cons_succ, Nat.zero_add, Option.bind_some, beq_self_eq_true, Bool.not_true, Bool.not_false, Bool.true_beq, Bool.false_beq]
        rfl
      refine W_retq ⟨Nat.le_refl _, [.int .i64 0], ?_, ⟨0, rfl, by omega, by omega⟩, hT.ext e1, ExtX.of e1⟩
      simp +decide only [aevs, aev, aResults, rget_rput, if_true, if_false]
    · intro h; cases h
  have d1 : decide ((p : Int) ≥ (ints.length : Int)) = false := decide_eq_false hp
  simp only [d1]
  repeat apply W_assoc
  refine W_if (b := false) ?_ ?_ ?_
  · simp +decide only [aevs, aev, aResults, rget_rput, if_true, if_false]
  · intro h; cases h
  intro _
  apply W_skipq
  have hpl : p < ints.length := by omega
  have w1 : IntKind.i64.wrap ((p : Int) + 1) = ((p + 1 : Nat) : Int) := by rw [wrap64_id _ (by omega) (by omega)]; omega
  have w2 : IntKind.i64.wrap (((p + 1 : Nat) : Int) - 1) = (p : Int) := by rw [wrap64_id _ (by omega) (by omega)]; omega
  have hg1 := (e1.get tb hlt).trans hg
  repeat apply W_assoc
  apply W_reg
  · intro callf
    simp +decide only [aOps, rinit, aWanted, ↓bite_eq, ↓reduceIte, aStep_eq, aStepOld, aOp, opBox, opBin, opUn, opCall, opIndexAddr, opFieldAddr, opLoad, opStore, opPick, opExtract, opSlice, opBuildSlice, opBuild, aRow, aev, aevs, aparts, ann, unn, aPut, if_true, if_false, rget_rput, flat, flat1, Nat.blt_eq, aBuiltin, aLen, List.getElem?_toArray, List.getElem?_cons_zero, List.getElem?_cons_succ, Nat.zero_add, Option.bind_some, beq_self_eq_true, Bool.not_true, Bool.not_false, Bool.true_beq, Bool.false_beq, opNil, fldT1, L1 _ e1, storeT hg1, w1, aBin, aInts, aInt_eq]
    rfl
  have ef : ExtX [tb] σ (σ1.put tb ⟨1, 77, 0, [.slice base ints.length cap, .int .i64 ((p + 1 : Nat) : Int)], []⟩) := (ExtX.of e1).put List.mem_cons_self _
  have hg2 : (σ1.put tb ⟨1, 77, 0, [.slice base ints.length cap, .int .i64 ((p + 1 : Nat) : Int)], []⟩).get tb = ⟨1, 77, 0, [.slice base ints.length cap, .int .i64 ((p + 1 : Nat) : Int)], []⟩ := by rw [AS.get_put, if_pos rfl]
  have hT2 := hT.keep ef hg2
  generalize σ1.put tb ⟨1, 77, 0, [.slice base ints.length cap, .int .i64 ((p + 1 : Nat) : Int)], []⟩ = σ2 at ef hg2 hT2
  obtain ⟨x, hx⟩ : ∃ x, ints[p]? = some x := ⟨ints[p], by simp [hpl]⟩
  obtain ⟨-, b, off, rfl, hbl, hat⟩ := intOf hT2.rs hx
  rw [hid_next] at hbl
  have hlt2 := hT2.lt
  have M1 : ∀ σ', Ext σ2 σ' → aLoad Tryz.prog σ' 3 (.pointer (some ⟨tb, 1, none⟩)) = some (.int .i64 ((p + 1 : Nat) : Int)) := fun σ' e => load1 Tryz.underlying3 rfl (cells_at ((e.get tb hlt2).trans hg2) rfl (Nat.le_refl _))
  have M0 : ∀ σ', Ext σ2 σ' → aLoad Tryz.prog σ' 40 (.pointer (some ⟨tb, 0, none⟩)) = some (.slice (some ⟨b, off, none⟩) ints.length cap) := fun σ' e => load1 Tryz.underlying40 rfl (cells_at ((e.get tb hlt2).trans hg2) rfl (by simp))
  have L2 : ∀ σ', Ext σ2 σ' → aLoad Tryz.prog σ' 3 (.pointer (some ⟨b, off + p * 1, none⟩)) = some (.int .i64 x) := fun σ' e => load1 Tryz.underlying3 rfl (by rw [e.cells (a := ⟨b, off + p * 1, none⟩) hbl]; exact (hid_cells hat).2)
  repeat apply W_assoc
  refine W_drw [] [] (by kernel_rfl) (by kernel_rfl) ?_
  apply Lg_pre 12
  · intro callf
    simp +decide only [List.take, aQ, memb, List.any_nil, List.any_cons, Bool.true_or, Bool.or_false, Bool.and_true, Bool.or_true, Bool.false_or, Bool.true_and, reset_merge, reset_reset, reset_next, reset_low, merge_next, merge_idem, new_low, ble_self, aOps, rinit, aWanted, ↓bite_eq, ↓reduceIte, aStep_eq, aStepOld, aOp, opBox, opBin, opUn, opCall, opIndexAddr, opFieldAddr, opLoad, opStore, opPick, opExtract, opSlice, opBuildSlice, opBuild, aRow, aev, aevs, aparts, ann, unn, aPut, if_true, if_false, rget_rput, flat, flat1, Nat.blt_eq, aBuiltin, aLen, List.getElem?_toArray, List.getElem?_cons_zero, List.getElem?_cons_succ, Nat.zero_add, Option.bind_some, beq_self_eq_true, Bool.not_true, Bool.not_false, Bool.true_beq, Bool.false_beq, opNil, fldT0, fldT1, M0 _ (Ext.reset _), M1 _ (Ext.reset _), w2, idxI hpl, L2 _ (Ext.reset _), Tryz.underlying40, goInt, aBin, aInts, aInt_eq]
    rfl
  dsimp only [List.drop, List.take, List.length]
  have e3 : Ext σ2 (σ2.merge σ2.reset) := (Ext.refl _).merge
  generalize σ2.merge σ2.reset = σ3 at e3
  refine Lg_fn (vs := [.int .i64 x, .int .i64 n]) (by simp +decide only [aevs, aev, aResults, rget_rput, if_true, if_false]) (by decide) rfl (C.mono (mod_c x n hn hn2) ?_)
  rintro v s1 ⟨⟨m, rfl, m0, m1⟩, rfl⟩
  refine ⟨Nat.le_refl _, ?_⟩
  apply Lg_all
  · intro callf
    simp +decide only [aQ, memb, List.any_nil, List.any_cons, Bool.true_or, Bool.or_false, Bool.and_true, Bool.or_true, Bool.false_or, Bool.true_and, reset_merge, reset_reset, reset_next, reset_low, merge_next, merge_idem, new_low, ble_self, aOps, rinit, aWanted, ↓bite_eq, ↓reduceIte, aStep_eq, aStepOld, aOp, opBox, opBin, opUn, opCall, opIndexAddr, opFieldAddr, opLoad, opStore, opPick, opExtract, opSlice, opBuildSlice, opBuild, aRow, aev, aevs, aparts, ann, unn, aPut, if_true, if_false, rget_rput, flat, flat1, Nat.blt_eq, aBuiltin, aLen, List.getElem?_toArray, List.getElem?_cons_zero, List.getElem?_cons_succ, Nat.zero_add, Option.bind_some, beq_self_eq_true, Bool.not_true, Bool.not_false, Bool.true_beq, Bool.false_beq]
    rfl
  have e4 : Ext σ3 (σ3.merge σ3.reset) := (Ext.refl _).merge
  refine W_ret ⟨Nat.le_refl _, [.int .i64 m], ?_, ⟨m, rfl, m0, m1⟩, hT2.ext (e3.trans e4), ef.trans (ExtX.of (e3.trans e4))⟩
  simp +decide only [aevs, aev, aResults, rget_rput, if_true, if_false]

end Go.Proofs.YtacpdefmnijhnaaGreat.U
