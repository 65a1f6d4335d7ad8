/- Law 18: the reader of code, and the check of a core, at a chain. -/
import Derived.Test.YtacpdefmnijhnaaGreatVI
set_option linter.unusedSimpArgs false
set_option linter.unusedVariables false
namespace Go.Proofs.YtacpdefmnijhnaaGreat.U18
open Abs U

theorem idxC0 {b : Nat} : aIndexAddr Tryz.prog 24 (.slice (some ⟨b, 0, none⟩) 1 1) (.int .i64 0) = some (.pointer (some ⟨b, 0, none⟩)) := by kernel_rfl
theorem fldC2 {b : Nat} : aField Tryz.prog 23 2 (.pointer (some ⟨b, 0, none⟩)) = some (.pointer (some ⟨b, 2, none⟩)) := by kernel_rfl
theorem fldCo0 {b : Nat} : aField Tryz.prog 23 0 (.pointer (some ⟨b, 0, none⟩)) = some (.pointer (some ⟨b, 0, none⟩)) := by kernel_rfl
theorem fldP0 {b : Nat} : aField Tryz.prog 190 0 (.pointer (some ⟨b, 0, none⟩)) = some (.pointer (some ⟨b, 0, none⟩)) := by kernel_rfl
theorem fldP2 {b : Nat} : aField Tryz.prog 190 2 (.pointer (some ⟨b, 0, none⟩)) = some (.pointer (some ⟨b, 4, none⟩)) := by kernel_rfl
theorem loadC {σ : AS} {b : Nat} {op ar : Int} (h : σ.get b = codeB op ar) : aLoad Tryz.prog σ 23 (.pointer (some ⟨b, 0, none⟩)) = some (.agg #[.int .i64 op, .int .i64 ar, .int .i64 0]) :=
  loadN Tryz.underlying23 rfl (i := (Tryz.prog.info? 23).get!) (by kernel_rfl) (by rw [show ((Tryz.prog.info? 23).get!).size = 3 by kernel_rfl]; exact cellsK h (.inl rfl) rfl (Nat.le_refl _))
theorem buildP {a b c : Int} : aBuild Tryz.prog 190 [(0, .agg #[.int .i64 a, .int .i64 b, .int .i64 c]), (1, .int .i64 0), (2, .int .i64 1)] = some (.agg #[.int .i64 a, .int .i64 b, .int .i64 c, .int .i64 0, .int .i64 1, .slice none 0 0]) := by kernel_rfl
theorem und3 : Tryz.prog.underlying 3 = some (.int .i64) := Tryz.underlying3
theorem loadI {σ : AS} {b i E k : Nat} {vals : List Value} {x : Int} (h : σ.get b = ⟨k, E, 0, vals, []⟩) (hk : k = 1 ∨ k = 2) (hi : vals[i]? = some (.int .i64 x)) : aLoad Tryz.prog σ 3 (.pointer (some ⟨b, i, none⟩)) = some (.int .i64 x) := cellAt Tryz.underlying3 rfl h hk hi
theorem wrapNat {n : Nat} (h : n ≤ 2 ^ 62) : IntKind.i64.wrap ((n : Int) + 1) = ((n + 1 : Nat) : Int) := by
  rw [wrap64_id _ (by omega) (by omega)]; omega
theorem w01 : IntKind.i64.wrap (0 + 1) = 1 := by decide
set_option maxRecDepth 20000 in
set_option maxHeartbeats 64000000 in
theorem read_c {σ : AS} {b : Nat} {op ar : Int} (hb : b < σ.next) (hc : σ.get b = codeB op ar) :
    C Tryz.prog K1 0 143 [sl1 b, .int .i64 0, .int .i64 1] σ fun u s => u = .pointer (some ⟨σ.next, 0, none⟩) ∧ s.next = σ.next + 1 ∧ s.get σ.next = placeB op ar ∧ Ext σ s := by
  unfold sl1
  refine C_of (k1_none rfl) Tryz.func143 rfl (Nat.le_of_ble_eq_true rfl) ?_
  show W _ _ _ 80 _ _ _ _
  unfold Tryz.f143
  dsimp only
  repeat apply W_assoc
  apply W_reg
  · intro callf
    simp +decide only [aOps, rinit, aWanted, ↓bite_eq, ↓reduceIte, aStep_eq, aStepOld, aOp, opBox, opBin, opUn, opCall, opIndexAddr, opFieldAddr, opLoad, opStore, opPick, opExtract, opSlice, opBuildSlice, opBuild, aRow, aev, aevs, aparts, ann, unn, aPut, if_true, if_false, rget_rput, flat, flat1, Nat.blt_eq, aBuiltin, List.getElem?_toArray, List.getElem?_cons_zero, List.getElem?_cons_succ, Nat.zero_add, Option.bind_some, beq_self_eq_true, Bool.not_true, Bool.not_false, Bool.true_beq, Bool.false_beq, opNil]
    rfl
  have l2 : aLoad Tryz.prog σ 3 (.pointer (some ⟨b, 2, none⟩)) = some (.int .i64 0) := loadI hc (.inl rfl) rfl
  have lC := loadC hc
  repeat apply W_assoc
  apply W_reg
  · intro callf
    simp +decide only [aOps, rinit, aWanted, ↓bite_eq, ↓reduceIte, aStep_eq, aStepOld, aOp, opBox, opBin, opUn, opCall, opIndexAddr, opFieldAddr, opLoad, opStore, opPick, opExtract, opSlice, opBuildSlice, opBuild, aRow, aev, aevs, aparts, ann, unn, aPut, if_true, if_false, rget_rput, flat, flat1, Nat.blt_eq, aBuiltin, List.getElem?_toArray, List.getElem?_cons_zero, List.getElem?_cons_succ, Nat.zero_add, Option.bind_some, beq_self_eq_true, Bool.not_true, Bool.not_false, Bool.true_beq, Bool.false_beq, opNil, idxC0, fldC2, l2, Tryz.underlying24, goInt, aLen, aBin, aInts, aInt_eq]
    rfl
  repeat apply W_assoc
  refine W_if (b := false) ?_ ?_ ?_
  · simp +decide only [aevs, aev, aResults, rget_rput, if_true, if_false, decide_true, decide_false, Bool.not_true, Bool.not_false]
  · intro h; cases h
  intro _
  apply W_skipq
  repeat apply W_assoc
  apply W_regL
  apply Ls_pre 8
  · intro callf
    simp +decide only [List.take, aOps, rinit, aWanted, ↓bite_eq, ↓reduceIte, aStep_eq, aStepOld, aOp, opBox, opBin, opUn, opCall, opIndexAddr, opFieldAddr, opLoad, opStore, opPick, opExtract, opSlice, opBuildSlice, opBuild, aRow, aev, aevs, aparts, ann, unn, aPut, if_true, if_false, rget_rput, flat, flat1, Nat.blt_eq, aBuiltin, List.getElem?_toArray, List.getElem?_cons_zero, List.getElem?_cons_succ, Nat.zero_add, Option.bind_some, beq_self_eq_true, Bool.not_true, Bool.not_false, Bool.true_beq, Bool.false_beq, opNil, idxC0, lC, buildP, w01, aBin, aInts, aInt_eq]
    rfl
  dsimp only [List.drop]
  apply Ls_pre 1
  · intro callf
    simp +decide only [List.take, aOps, rinit, aWanted, ↓bite_eq, ↓reduceIte, aStep_eq, aStepOld, aOp, opBox, opBin, opUn, opCall, opIndexAddr, opFieldAddr, opLoad, opStore, opPick, opExtract, opSlice, opBuildSlice, opBuild, aRow, aev, aevs, aparts, ann, unn, aPut, if_true, if_false, rget_rput, flat, flat1, Nat.blt_eq, aBuiltin, List.getElem?_toArray, List.getElem?_cons_zero, List.getElem?_cons_succ, Nat.zero_add, Option.bind_some, beq_self_eq_true, Bool.not_true, Bool.not_false, Bool.true_beq, Bool.false_beq, opNil]
    rfl
  dsimp only [List.drop]
  show Ls _ _ _ _ _ _ _ (σ.new (placeB op ar)) _
  have e1 := Ext.new σ (placeB op ar)
  have g1 : (σ.new (placeB op ar)).get σ.next = placeB op ar := by rw [AS.get_new, if_pos rfl]
  have n1 : (σ.new (placeB op ar)).next = σ.next + 1 := rfl
  generalize σ.new (placeB op ar) = s1 at e1 g1 n1 ⊢
  have k2 : aLoad Tryz.prog s1 3 (.pointer (some ⟨σ.next, 2, none⟩)) = some (.int .i64 0) := loadI g1 (.inl rfl) rfl
  apply Ls_all
  · intro callf
    simp +decide only [aOps, rinit, aWanted, ↓bite_eq, ↓reduceIte, aStep_eq, aStepOld, aOp, opBox, opBin, opUn, opCall, opIndexAddr, opFieldAddr, opLoad, opStore, opPick, opExtract, opSlice, opBuildSlice, opBuild, aRow, aev, aevs, aparts, ann, unn, aPut, if_true, if_false, rget_rput, flat, flat1, Nat.blt_eq, aBuiltin, List.getElem?_toArray, List.getElem?_cons_zero, List.getElem?_cons_succ, Nat.zero_add, Option.bind_some, beq_self_eq_true, Bool.not_true, Bool.not_false, Bool.true_beq, Bool.false_beq, opNil]
    rfl
  repeat apply W_assoc
  apply W_reg
  · intro callf
    simp +decide only [aOps, rinit, aWanted, ↓bite_eq, ↓reduceIte, aStep_eq, aStepOld, aOp, opBox, opBin, opUn, opCall, opIndexAddr, opFieldAddr, opLoad, opStore, opPick, opExtract, opSlice, opBuildSlice, opBuild, aRow, aev, aevs, aparts, ann, unn, aPut, if_true, if_false, rget_rput, flat, flat1, Nat.blt_eq, aBuiltin, List.getElem?_toArray, List.getElem?_cons_zero, List.getElem?_cons_succ, Nat.zero_add, Option.bind_some, beq_self_eq_true, Bool.not_true, Bool.not_false, Bool.true_beq, Bool.false_beq, opNil, fldP0, fldC2, k2]
    rfl
  repeat apply W_assoc
  refine W_for (fun (_ : Unit) r s => s = s1 ∧ rget r 7 = .pointer (some ⟨σ.next, 0, none⟩) ∧ rget r 48 = .int .i64 0 ∧ rget r 49 = .int .i64 0) (fun _ => 0) ?_ () ?_
  rotate_left
  · refine ⟨rfl, ?_, ?_, ?_⟩ <;> simp +decide only [rget_rput, if_true, if_false]
  rintro _ r s ⟨rfl, h7, h48, h49⟩
  repeat apply W_assoc
  apply W_reg
  · intro callf
    simp +decide only [aOps, rinit, aWanted, ↓bite_eq, ↓reduceIte, aStep_eq, aStepOld, aOp, opBox, opBin, opUn, opCall, opIndexAddr, opFieldAddr, opLoad, opStore, opPick, opExtract, opSlice, opBuildSlice, opBuild, aRow, aev, aevs, aparts, ann, unn, aPut, if_true, if_false, rget_rput, flat, flat1, Nat.blt_eq, aBuiltin, List.getElem?_toArray, List.getElem?_cons_zero, List.getElem?_cons_succ, Nat.zero_add, Option.bind_some, beq_self_eq_true, Bool.not_true, Bool.not_false, Bool.true_beq, Bool.false_beq, opNil, h48, h49, aBin, aInts, aInt_eq]
    rfl
  repeat apply W_assoc
  refine W_if (b := false) ?_ ?_ ?_
  · simp +decide only [aevs, aev, aResults, rget_rput, if_true, if_false, decide_true, decide_false, Bool.not_true, Bool.not_false]
  · intro h; cases h
  intro _
  refine W_exitq ⟨fun h => (nomatch h), fun _ => ?_, fun h1 h2 => absurd rfl h2⟩
  repeat apply W_assoc
  apply W_reg
  · intro callf
    simp +decide only [aOps, rinit, aWanted, ↓bite_eq, ↓reduceIte, aStep_eq, aStepOld, aOp, opBox, opBin, opUn, opCall, opIndexAddr, opFieldAddr, opLoad, opStore, opPick, opExtract, opSlice, opBuildSlice, opBuild, aRow, aev, aevs, aparts, ann, unn, aPut, if_true, if_false, rget_rput, flat, flat1, Nat.blt_eq, aBuiltin, List.getElem?_toArray, List.getElem?_cons_zero, List.getElem?_cons_succ, Nat.zero_add, Option.bind_some, beq_self_eq_true, Bool.not_true, Bool.not_false, Bool.true_beq, Bool.false_beq, opNil, h7]
    rfl
  refine W_ret ⟨Nat.le_refl _, [.pointer (some ⟨σ.next, 0, none⟩)], ?_, rfl, n1, g1, e1⟩
  simp +decide only [aevs, aev, aResults, rget_rput, if_true, if_false, h7]


theorem loadCo {σ : AS} {b : Nat} {bf bn be k : Nat} (h : σ.get b = ⟨1, 34, 0, [slo bf (k + 1), slo bn 4, .slice none 0 0, slo be 4], []⟩) : aLoad Tryz.prog σ 34 (.pointer (some ⟨b, 0, none⟩)) = some (coreV bf bn be k) :=
  loadN Tryz.underlying34 rfl (i := (Tryz.prog.info? 34).get!) (by kernel_rfl) (by rw [show ((Tryz.prog.info? 34).get!).size = 4 by kernel_rfl]; exact cellsK h (.inl rfl) rfl (Nat.le_refl _))
theorem loadCo0 {σ : AS} {b : Nat} {bf bn be k : Nat} (h : σ.get b = ⟨1, 34, 0, [slo bf (k + 1), slo bn 4, .slice none 0 0, slo be 4], []⟩) : aLoad Tryz.prog σ 29 (.pointer (some ⟨b, 0, none⟩)) = some (slo bf (k + 1)) := cellAt Tryz.underlying29 rfl h (.inl rfl) rfl
theorem idxFs {b k i : Nat} (h : i < k) : aIndexAddr Tryz.prog 29 (slo b k) (.int .i64 (i : Int)) = some (.pointer (some ⟨b, i * 6, none⟩)) := idxF h
theorem lenFs {σ : AS} {b k : Nat} : aLen Tryz.prog σ 29 (slo b k) = some (goInt (k : Int)) := by
  unfold aLen slo
  rw [Tryz.underlying29]
theorem lenC1 {σ : AS} {b : Nat} : aLen Tryz.prog σ 24 (sl1 b) = some (goInt 1) := by
  unfold aLen sl1
  rw [Tryz.underlying24]
  rfl
theorem Chn.fn {σ : AS} {bf bn be k : Nat} {bl : Nat → Nat} {op ar : Nat → Int} (h : Chn σ bf bn be k bl op ar) {i : Nat} (hi : i ≤ k) : aLoad Tryz.prog σ 47 (.pointer (some ⟨bf, i * 6, none⟩)) = some (.agg (fcl (sl1 (bl i))).toArray) :=
  loadFn (cellsK h.fs (.inr rfl) (fcs_at hi) (by rw [fcs_len]; omega))
theorem fldF1 {b o : Nat} : aField Tryz.prog 47 1 (.pointer (some ⟨b, o, none⟩)) = some (.pointer (some ⟨b, o + 1, none⟩)) := by kernel_rfl
theorem fldF4 {b o : Nat} : aField Tryz.prog 47 4 (.pointer (some ⟨b, o, none⟩)) = some (.pointer (some ⟨b, o + 5, none⟩)) := by kernel_rfl
theorem buildX {bf bn be k b : Nat} : aBuild Tryz.prog 192 [(0, coreV bf bn be k), (1, sl1 b)] = some (.agg #[slo bf (k + 1), slo bn 4, .slice none 0 0, slo be 4, sl1 b]) := by kernel_rfl
theorem ptrNil {xo yo : Operand} {b o : Nat} : aBin Tryz.prog .eql 186 xo yo (.pointer (some ⟨b, o, none⟩)) (.pointer none) = some (.bool false) := by kernel_rfl
theorem neq11 {xo yo : Operand} {t : TypeId} : aBin Tryz.prog .neq t xo yo (.int .i64 1) (.int .i64 1) = some (.bool false) := by kernel_rfl
def CHKB (bf bn be k b : Nat) : Blk := ⟨1, 192, 0, [slo bf (k + 1), slo bn 4, .slice none 0 0, slo be 4, sl1 b], []⟩
theorem allocX {σ : AS} : opAlloc Tryz.prog σ 192 = some (.pointer (some ⟨σ.next, 0, none⟩), σ.new ⟨1, 192, 0, List.replicate 5 (.slice none 0 0), []⟩) := by kernel_rfl
theorem storeX {σ : AS} {b bf bn be k c : Nat} (h : σ.get b = ⟨1, 192, 0, List.replicate 5 (.slice none 0 0), []⟩) :
    aStore Tryz.prog σ 192 (.agg #[slo bf (k + 1), slo bn 4, .slice none 0 0, slo be 4, sl1 c]) (.pointer (some ⟨b, 0, none⟩)) = some (σ.put b (CHKB bf bn be k c)) := by
  obtain ⟨inf, hi, hs⟩ : ∃ inf, Tryz.prog.info? 192 = some inf ∧ inf.size = 5 := ⟨(Tryz.prog.info? 192).get!, by kernel_rfl, by kernel_rfl⟩
  have hz : Nat.beq (Value.agg #[slo bf (k + 1), slo bn 4, .slice none 0 0, slo be 4, sl1 c]).cells.size 5 = true := rfl
  unfold aStore
  simp only [hi, hs, hz, if_true]
  unfold aWrite
  simp only [h]
  rfl
theorem loadX {σ : AS} {b bf bn be k c : Nat} (h : σ.get b = CHKB bf bn be k c) : aLoad Tryz.prog σ 192 (.pointer (some ⟨b, 0, none⟩)) = some (.agg #[slo bf (k + 1), slo bn 4, .slice none 0 0, slo be 4, sl1 c]) :=
  loadN Tryz.underlying192 rfl (i := (Tryz.prog.info? 192).get!) (by kernel_rfl) (by rw [show ((Tryz.prog.info? 192).get!).size = 5 by kernel_rfl]; exact cellsK h (.inl rfl) rfl (Nat.le_refl _))
set_option maxRecDepth 20000 in
set_option maxHeartbeats 64000000 in
theorem valid_c {σ : AS} {bf bn be k : Nat} {bl : Nat → Nat} {op ar : Nat → Int} (h : Chn σ bf bn be k bl op ar) (hg : ∀ i, i ≤ k → good k (op i) (ar i)) :
    C Tryz.prog K1 0 88 [coreV bf bn be k] σ fun u s => u = .bool true ∧ Ext σ s := by
  refine C_of (k1_none rfl) Tryz.func88 rfl (Nat.le_of_ble_eq_true rfl) ?_
  show W _ _ _ 87 _ _ _ _
  unfold Tryz.f88
  dsimp only
  repeat apply W_assoc
  apply W_regL
  apply Ls_pre 1
  · intro callf
    simp +decide only [List.take, aOps, rinit, aWanted, ↓bite_eq, ↓reduceIte, aStep_eq, aStepOld, aOp, opBox, opBin, opUn, opCall, opIndexAddr, opFieldAddr, opLoad, opStore, opPick, opExtract, opSlice, opBuildSlice, opBuild, aRow, aev, aevs, aparts, ann, unn, aPut, if_true, if_false, rget_rput, flat, flat1, Nat.blt_eq, aBuiltin, List.getElem?_toArray, List.getElem?_cons_zero, List.getElem?_cons_succ, Nat.zero_add, Option.bind_some, beq_self_eq_true, Bool.not_true, Bool.not_false, Bool.true_beq, Bool.false_beq, opNil]
    rfl
  dsimp only [List.drop]
  show Ls _ _ _ _ _ _ _ (σ.new ⟨1, 34, 0, [slo bf (k + 1), slo bn 4, .slice none 0 0, slo be 4], []⟩) _
  have e1 := Ext.new σ ⟨1, 34, 0, [slo bf (k + 1), slo bn 4, .slice none 0 0, slo be 4], []⟩
  have g1 : (σ.new ⟨1, 34, 0, [slo bf (k + 1), slo bn 4, .slice none 0 0, slo be 4], []⟩).get σ.next = ⟨1, 34, 0, [slo bf (k + 1), slo bn 4, .slice none 0 0, slo be 4], []⟩ := by rw [AS.get_new, if_pos rfl]
  have n1 : (σ.new ⟨1, 34, 0, [slo bf (k + 1), slo bn 4, .slice none 0 0, slo be 4], []⟩).next = σ.next + 1 := rfl
  generalize σ.new ⟨1, 34, 0, [slo bf (k + 1), slo bn 4, .slice none 0 0, slo be 4], []⟩ = s1 at e1 g1 n1 ⊢
  have hk := h.hk
  have H1 := h.ext e1
  apply Ls_all
  · intro callf
    simp +decide only [aOps, rinit, aWanted, ↓bite_eq, ↓reduceIte, aStep_eq, aStepOld, aOp, opBox, opBin, opUn, opCall, opIndexAddr, opFieldAddr, opLoad, opStore, opPick, opExtract, opSlice, opBuildSlice, opBuild, aRow, aev, aevs, aparts, ann, unn, aPut, if_true, if_false, rget_rput, flat, flat1, Nat.blt_eq, aBuiltin, List.getElem?_toArray, List.getElem?_cons_zero, List.getElem?_cons_succ, Nat.zero_add, Option.bind_some, beq_self_eq_true, Bool.not_true, Bool.not_false, Bool.true_beq, Bool.false_beq, opNil]
    rfl
  have d1 : decide (((k + 1 : Nat) : Int) > 65536) = false := decide_eq_false (by omega)
  have lc := loadCo g1
  have lf := loadCo0 g1
  repeat apply W_assoc
  apply W_regL
  apply Ls_pre 6
  · intro callf
    simp +decide only [List.take, aOps, rinit, aWanted, ↓bite_eq, ↓reduceIte, aStep_eq, aStepOld, aOp, opBox, opBin, opUn, opCall, opIndexAddr, opFieldAddr, opLoad, opStore, opPick, opExtract, opSlice, opBuildSlice, opBuild, aRow, aev, aevs, aparts, ann, unn, aPut, if_true, if_false, rget_rput, flat, flat1, Nat.blt_eq, aBuiltin, List.getElem?_toArray, List.getElem?_cons_zero, List.getElem?_cons_succ, Nat.zero_add, Option.bind_some, beq_self_eq_true, Bool.not_true, Bool.not_false, Bool.true_beq, Bool.false_beq, opNil, fldC0, lf, lenFs, goInt, d1, lc, aBin, aInts, aInt_eq]
    rfl
  dsimp only [List.drop]
  refine Ls_fnG (vs := [coreV bf bn be k]) (by simp +decide only [aWanted, List.getElem?_toArray, List.getElem?_cons_zero, List.getElem?_cons_succ, Option.bind_some, rget_rput, if_true, if_false, Bool.not_true, Bool.not_false, Bool.true_beq, Bool.false_beq, beq_self_eq_true, bite_eq]) (by simp +decide only [aevs, aev, aResults, rget_rput, if_true, if_false]) (by decide) (C_known (k1_142 ⟨_, _, _, _, _, _, _, H1, rfl⟩) ?_)
  apply Ls_all
  · intro callf
    simp +decide only [aOps, rinit, aWanted, ↓bite_eq, ↓reduceIte, aStep_eq, aStepOld, aOp, opBox, opBin, opUn, opCall, opIndexAddr, opFieldAddr, opLoad, opStore, opPick, opExtract, opSlice, opBuildSlice, opBuild, aRow, aev, aevs, aparts, ann, unn, aPut, if_true, if_false, rget_rput, flat, flat1, Nat.blt_eq, aBuiltin, List.getElem?_toArray, List.getElem?_cons_zero, List.getElem?_cons_succ, Nat.zero_add, Option.bind_some, beq_self_eq_true, Bool.not_true, Bool.not_false, Bool.true_beq, Bool.false_beq, opNil, opPick]
    rfl
  repeat apply W_assoc
  refine W_if (b := false) ?_ ?_ ?_
  · simp +decide only [aevs, aev, aResults, rget_rput, if_true, if_false, decide_true, decide_false, Bool.not_true, Bool.not_false]
  · intro h; cases h
  intro _
  apply W_skipq
  repeat apply W_assoc
  apply W_reg
  · intro callf
    simp +decide only [aOps, rinit, aWanted, ↓bite_eq, ↓reduceIte, aStep_eq, aStepOld, aOp, opBox, opBin, opUn, opCall, opIndexAddr, opFieldAddr, opLoad, opStore, opPick, opExtract, opSlice, opBuildSlice, opBuild, aRow, aev, aevs, aparts, ann, unn, aPut, if_true, if_false, rget_rput, flat, flat1, Nat.blt_eq, aBuiltin, List.getElem?_toArray, List.getElem?_cons_zero, List.getElem?_cons_succ, Nat.zero_add, Option.bind_some, beq_self_eq_true, Bool.not_true, Bool.not_false, Bool.true_beq, Bool.false_beq, opNil, fldC0, lf, lenFs, goInt, aBin, aInts, aInt_eq]
    rfl
  repeat apply W_assoc
  refine W_for (fun (n : Nat) r s => n ≤ k + 1 ∧ Ext σ s ∧ s.get σ.next = ⟨1, 34, 0, [slo bf (k + 1), slo bn 4, .slice none 0 0, slo be 4], []⟩ ∧ σ.next < s.next ∧ rget r 1 = .pointer (some ⟨σ.next, 0, none⟩) ∧ rget r 17 = slo bf (k + 1) ∧ rget r 18 = .int .i64 ((k + 1 : Nat) : Int) ∧ rget r 19 = .int .i64 (n : Int)) (fun n => k + 1 - n) ?_ 0 ?_
  rotate_left
  · refine ⟨Nat.zero_le _, e1, g1, by omega, ?_, ?_, ?_, ?_⟩ <;> simp +decide only [rget_rput, rinit, if_true, if_false] <;> rfl
  clear lc lf d1 H1 e1 g1 n1
  rintro n r s ⟨hn, e1, g1, n1, h1, h17, h18, h19⟩
  by_cases hlt : n < k + 1
  rotate_left
  · have d1 : decide ((n : Int) < ((k + 1 : Nat) : Int)) = false := decide_eq_false (by omega)
    repeat apply W_assoc
    apply W_reg
    · intro callf
      simp +decide only [aOps, rinit, aWanted, ↓bite_eq, ↓reduceIte, aStep_eq, aStepOld, aOp, opBox, opBin, opUn, opCall, opIndexAddr, opFieldAddr, opLoad, opStore, opPick, opExtract, opSlice, opBuildSlice, opBuild, aRow, aev, aevs, aparts, ann, unn, aPut, if_true, if_false, rget_rput, flat, flat1, Nat.blt_eq, aBuiltin, List.getElem?_toArray, List.getElem?_cons_zero, List.getElem?_cons_succ, Nat.zero_add, Option.bind_some, beq_self_eq_true, Bool.not_true, Bool.not_false, Bool.true_beq, Bool.false_beq, opNil, h18, h19, d1, aBin, aInts, aInt_eq]
      rfl
    repeat apply W_assoc
    refine W_if (b := false) ?_ ?_ ?_
    · simp +decide only [aevs, aev, aResults, rget_rput, if_true, if_false, decide_true, decide_false, Bool.not_true, Bool.not_false]
    · intro h; cases h
    intro _
    refine W_exitq ⟨fun h => (nomatch h), fun _ => ?_, fun h1 h2 => absurd rfl h2⟩
    repeat apply W_assoc
    apply W_reg
    · intro callf
      simp +decide only [aOps, rinit, aWanted, ↓bite_eq, ↓reduceIte, aStep_eq, aStepOld, aOp, opBox, opBin, opUn, opCall, opIndexAddr, opFieldAddr, opLoad, opStore, opPick, opExtract, opSlice, opBuildSlice, opBuild, aRow, aev, aevs, aparts, ann, unn, aPut, if_true, if_false, rget_rput, flat, flat1, Nat.blt_eq, aBuiltin, List.getElem?_toArray, List.getElem?_cons_zero, List.getElem?_cons_succ, Nat.zero_add, Option.bind_some, beq_self_eq_true, Bool.not_true, Bool.not_false, Bool.true_beq, Bool.false_beq, opNil]
      rfl
    refine W_ret ⟨Nat.le_refl _, [.bool true], ?_, rfl, e1⟩
    simp +decide only [aevs, aev, aResults, rget_rput, if_true, if_false]
  have d1 : decide ((n : Int) < ((k + 1 : Nat) : Int)) = true := decide_eq_true (by omega)
  repeat apply W_assoc
  apply W_reg
  · intro callf
    simp +decide only [aOps, rinit, aWanted, ↓bite_eq, ↓reduceIte, aStep_eq, aStepOld, aOp, opBox, opBin, opUn, opCall, opIndexAddr, opFieldAddr, opLoad, opStore, opPick, opExtract, opSlice, opBuildSlice, opBuild, aRow, aev, aevs, aparts, ann, unn, aPut, if_true, if_false, rget_rput, flat, flat1, Nat.blt_eq, aBuiltin, List.getElem?_toArray, List.getElem?_cons_zero, List.getElem?_cons_succ, Nat.zero_add, Option.bind_some, beq_self_eq_true, Bool.not_true, Bool.not_false, Bool.true_beq, Bool.false_beq, opNil, h18, h19, d1, aBin, aInts, aInt_eq]
    rfl
  repeat apply W_assoc
  refine W_if (b := true) ?_ ?_ ?_
  · simp +decide only [aevs, aev, aResults, rget_rput, if_true, if_false, decide_true, decide_false, Bool.not_true, Bool.not_false]
  rotate_left
  · intro h; cases h
  intro _
  apply W_skipq
  refine W_blk ?_
  refine W_tail ?_
  have H := h.ext e1
  have lfn := H.fn (i := n) (by omega)
  have ix := idxFs (b := bf) hlt
  repeat apply W_assoc
  apply W_regL
  apply Ls_pre 2
  · intro callf
    simp +decide only [List.take, aOps, rinit, aWanted, ↓bite_eq, ↓reduceIte, aStep_eq, aStepOld, aOp, opBox, opBin, opUn, opCall, opIndexAddr, opFieldAddr, opLoad, opStore, opPick, opExtract, opSlice, opBuildSlice, opBuild, aRow, aev, aevs, aparts, ann, unn, aPut, if_true, if_false, rget_rput, flat, flat1, Nat.blt_eq, aBuiltin, List.getElem?_toArray, List.getElem?_cons_zero, List.getElem?_cons_succ, Nat.zero_add, Option.bind_some, beq_self_eq_true, Bool.not_true, Bool.not_false, Bool.true_beq, Bool.false_beq, opNil, h17, h19, ix, lfn]
    rfl
  dsimp only [List.drop]
  apply Ls_pre 1
  · intro callf
    simp +decide only [List.take, aOps, rinit, aWanted, ↓bite_eq, ↓reduceIte, aStep_eq, aStepOld, aOp, opBox, opBin, opUn, opCall, opIndexAddr, opFieldAddr, opLoad, opStore, opPick, opExtract, opSlice, opBuildSlice, opBuild, aRow, aev, aevs, aparts, ann, unn, aPut, if_true, if_false, rget_rput, flat, flat1, Nat.blt_eq, aBuiltin, List.getElem?_toArray, List.getElem?_cons_zero, List.getElem?_cons_succ, Nat.zero_add, Option.bind_some, beq_self_eq_true, Bool.not_true, Bool.not_false, Bool.true_beq, Bool.false_beq, opNil, allocFn]
    rfl
  dsimp only [List.drop]
  have e2 := Ext.new s ⟨1, 47, 0, fnZ, []⟩
  have g2 : (s.new ⟨1, 47, 0, fnZ, []⟩).get s.next = ⟨1, 47, 0, fnZ, []⟩ := by rw [AS.get_new, if_pos rfl]
  have n2 : (s.new ⟨1, 47, 0, fnZ, []⟩).next = s.next + 1 := rfl
  generalize s.new ⟨1, 47, 0, fnZ, []⟩ = s2 at e2 g2 n2 ⊢
  have sto : aStore Tryz.prog s2 47 (.agg (fcl (sl1 (bl n))).toArray) (.pointer (some ⟨s.next, 0, none⟩)) = some (s2.put s.next ⟨1, 47, 0, fcl (sl1 (bl n)), []⟩) := storeFn g2 rfl
  apply Ls_all
  · intro callf
    simp +decide only [aOps, rinit, aWanted, ↓bite_eq, ↓reduceIte, aStep_eq, aStepOld, aOp, opBox, opBin, opUn, opCall, opIndexAddr, opFieldAddr, opLoad, opStore, opPick, opExtract, opSlice, opBuildSlice, opBuild, aRow, aev, aevs, aparts, ann, unn, aPut, if_true, if_false, rget_rput, flat, flat1, Nat.blt_eq, aBuiltin, List.getElem?_toArray, List.getElem?_cons_zero, List.getElem?_cons_succ, Nat.zero_add, Option.bind_some, beq_self_eq_true, Bool.not_true, Bool.not_false, Bool.true_beq, Bool.false_beq, opNil, sto]
    rfl
  have e3 : Ext s (s2.put s.next ⟨1, 47, 0, fcl (sl1 (bl n)), []⟩) := Ext.put e2 (Nat.le_refl _) _
  have g3 : (s2.put s.next ⟨1, 47, 0, fcl (sl1 (bl n)), []⟩).get s.next = ⟨1, 47, 0, fcl (sl1 (bl n)), []⟩ := by rw [AS.get_put, if_pos rfl]
  have n3 : (s2.put s.next ⟨1, 47, 0, fcl (sl1 (bl n)), []⟩).next = s.next + 1 := n2
  generalize s2.put s.next ⟨1, 47, 0, fcl (sl1 (bl n)), []⟩ = s3 at e3 g3 n3 ⊢
  clear sto e2 g2 n2 lfn ix d1
  have f1 : aLoad Tryz.prog s3 3 (.pointer (some ⟨s.next, 0 + 1, none⟩)) = some (.int .i64 0) := loadI g3 (.inl rfl) rfl
  have f4 : aLoad Tryz.prog s3 24 (.pointer (some ⟨s.next, 0 + 5, none⟩)) = some (sl1 (bl n)) := cellAt Tryz.underlying24 rfl g3 (.inl rfl) rfl
  repeat apply W_assoc
  apply W_reg
  · intro callf
    simp +decide only [aOps, rinit, aWanted, ↓bite_eq, ↓reduceIte, aStep_eq, aStepOld, aOp, opBox, opBin, opUn, opCall, opIndexAddr, opFieldAddr, opLoad, opStore, opPick, opExtract, opSlice, opBuildSlice, opBuild, aRow, aev, aevs, aparts, ann, unn, aPut, if_true, if_false, rget_rput, flat, flat1, Nat.blt_eq, aBuiltin, List.getElem?_toArray, List.getElem?_cons_zero, List.getElem?_cons_succ, Nat.zero_add, Option.bind_some, beq_self_eq_true, Bool.not_true, Bool.not_false, Bool.true_beq, Bool.false_beq, opNil, fldF1, fldF4, f1, f4, lenC1, goInt, opPick, aBin, aInts, aInt_eq]
    rfl
  repeat apply W_assoc
  refine W_if (b := false) ?_ ?_ ?_
  · simp +decide only [aevs, aev, aResults, rget_rput, if_true, if_false, decide_true, decide_false, Bool.not_true, Bool.not_false]
  · intro h; cases h
  intro _
  apply W_skipq
  have H3 := H.ext e3
  repeat apply W_assoc
  apply W_regL
  apply Ls_pre 2
  · intro callf
    simp +decide only [List.take, aOps, rinit, aWanted, ↓bite_eq, ↓reduceIte, aStep_eq, aStepOld, aOp, opBox, opBin, opUn, opCall, opIndexAddr, opFieldAddr, opLoad, opStore, opPick, opExtract, opSlice, opBuildSlice, opBuild, aRow, aev, aevs, aparts, ann, unn, aPut, if_true, if_false, rget_rput, flat, flat1, Nat.blt_eq, aBuiltin, List.getElem?_toArray, List.getElem?_cons_zero, List.getElem?_cons_succ, Nat.zero_add, Option.bind_some, beq_self_eq_true, Bool.not_true, Bool.not_false, Bool.true_beq, Bool.false_beq, opNil, fldF4, f4]
    rfl
  dsimp only [List.drop]
  refine Ls_fn (vs := [sl1 (bl n), .int .i64 0, .int .i64 1]) (by simp +decide only [aevs, aev, aResults, rget_rput, if_true, if_false]) (by decide) (C.mono (read_c (H3.lb n (by omega)) (H3.bs n (by omega))) ?_)
  rintro u s4 ⟨rfl, n4, g4, e4⟩
  apply Ls_all
  · intro callf
    simp +decide only [aOps, rinit, aWanted, ↓bite_eq, ↓reduceIte, aStep_eq, aStepOld, aOp, opBox, opBin, opUn, opCall, opIndexAddr, opFieldAddr, opLoad, opStore, opPick, opExtract, opSlice, opBuildSlice, opBuild, aRow, aev, aevs, aparts, ann, unn, aPut, if_true, if_false, rget_rput, flat, flat1, Nat.blt_eq, aBuiltin, List.getElem?_toArray, List.getElem?_cons_zero, List.getElem?_cons_succ, Nat.zero_add, Option.bind_some, beq_self_eq_true, Bool.not_true, Bool.not_false, Bool.true_beq, Bool.false_beq, opNil]
    rfl
  have e34 := e3.trans e4
  have g3 := (e4.get _ (by omega : s.next < s3.next)).trans g3
  have e5 : Ext s4 (s4.merge s4.reset) := (Ext.refl _).merge (σ := s4)
  have L5 : ∀ t : AS, (∀ i, t.get i = s4.get i) → aLoad Tryz.prog t 3 (.pointer (some ⟨s3.next, 4, none⟩)) = some (.int .i64 1) ∧ aLoad Tryz.prog t 24 (.pointer (some ⟨s.next, 0 + 5, none⟩)) = some (sl1 (bl n)) := fun t ht =>
    ⟨loadI ((ht _).trans g4) (.inl rfl) rfl, cellAt Tryz.underlying24 rfl ((ht _).trans g3) (.inl rfl) rfl⟩
  have m1 := (L5 s4.reset fun _ => rfl).1
  have m2 := (L5 s4.reset fun _ => rfl).2
  repeat apply W_assoc
  refine W_drw [] [] (by kernel_rfl) (by kernel_rfl) ?_
  apply Lg_pre 6
  · intro callf
    simp +decide only [List.take, aQ, memb, List.any_nil, List.any_cons, Bool.true_or, Bool.or_false, Bool.and_true, Bool.or_true, Bool.false_or, Bool.true_and, reset_merge, reset_reset, reset_next, reset_low, merge_next, merge_idem, new_low, ble_self, aOps, rinit, aWanted, ↓bite_eq, ↓reduceIte, aStep_eq, aStepOld, aOp, opBox, opBin, opUn, opCall, opIndexAddr, opFieldAddr, opLoad, opStore, opPick, opExtract, opSlice, opBuildSlice, opBuild, aRow, aev, aevs, aparts, ann, unn, aPut, if_true, if_false, rget_rput, flat, flat1, Nat.blt_eq, aBuiltin, List.getElem?_toArray, List.getElem?_cons_zero, List.getElem?_cons_succ, Nat.zero_add, Option.bind_some, beq_self_eq_true, Bool.not_true, Bool.not_false, Bool.true_beq, Bool.false_beq, opNil, fldP2, ptrNil]
    rfl
  dsimp only [List.drop, List.take, List.length]
  apply Lg_all
  · intro callf
    simp +decide only [aQ, memb, List.any_nil, List.any_cons, Bool.true_or, Bool.or_false, Bool.and_true, Bool.or_true, Bool.false_or, Bool.true_and, reset_merge, reset_reset, reset_next, reset_low, merge_next, merge_idem, new_low, ble_self, aOps, rinit, aWanted, ↓bite_eq, ↓reduceIte, aStep_eq, aStepOld, aOp, opBox, opBin, opUn, opCall, opIndexAddr, opFieldAddr, opLoad, opStore, opPick, opExtract, opSlice, opBuildSlice, opBuild, aRow, aev, aevs, aparts, ann, unn, aPut, if_true, if_false, rget_rput, flat, flat1, Nat.blt_eq, aBuiltin, List.getElem?_toArray, List.getElem?_cons_zero, List.getElem?_cons_succ, Nat.zero_add, Option.bind_some, beq_self_eq_true, Bool.not_true, Bool.not_false, Bool.true_beq, Bool.false_beq, opNil, fldP2, fldF4, m1, m2, lenC1, goInt, neq11, opPick]
    rfl
  show W _ _ _ _ _ _ (s4.merge s4.reset) _
  have g3 := (e5.get s.next (by omega)).trans g3
  have g4 := (e5.get s3.next (by omega)).trans g4
  have n4 : (s4.merge s4.reset).next = s3.next + 1 := n4
  have e35 := e34.trans e5
  generalize s4.merge s4.reset = s5 at e5 g3 g4 n4 e35 ⊢
  repeat apply W_assoc
  refine W_if (b := false) ?_ ?_ ?_
  · simp +decide only [aevs, aev, aResults, rget_rput, if_true, if_false, decide_true, decide_false, Bool.not_true, Bool.not_false]
  · intro h; cases h
  intro _
  apply W_skipq
  clear m1 m2 L5 f1 f4 e4 e34 e5
  have g1 := (e35.get σ.next n1).trans g1
  have lc5 := loadCo g1
  have f4 : aLoad Tryz.prog s5 24 (.pointer (some ⟨s.next, 0 + 5, none⟩)) = some (sl1 (bl n)) := cellAt Tryz.underlying24 rfl g3 (.inl rfl) rfl
  repeat apply W_assoc
  apply W_regL
  apply Ls_pre 4
  · intro callf
    simp +decide only [List.take, aOps, rinit, aWanted, ↓bite_eq, ↓reduceIte, aStep_eq, aStepOld, aOp, opBox, opBin, opUn, opCall, opIndexAddr, opFieldAddr, opLoad, opStore, opPick, opExtract, opSlice, opBuildSlice, opBuild, aRow, aev, aevs, aparts, ann, unn, aPut, if_true, if_false, rget_rput, flat, flat1, Nat.blt_eq, aBuiltin, List.getElem?_toArray, List.getElem?_cons_zero, List.getElem?_cons_succ, Nat.zero_add, Option.bind_some, beq_self_eq_true, Bool.not_true, Bool.not_false, Bool.true_beq, Bool.false_beq, opNil, h1, lc5, fldF4, f4, buildX]
    rfl
  dsimp only [List.drop]
  apply Ls_pre 1
  · intro callf
    simp +decide only [List.take, aOps, rinit, aWanted, ↓bite_eq, ↓reduceIte, aStep_eq, aStepOld, aOp, opBox, opBin, opUn, opCall, opIndexAddr, opFieldAddr, opLoad, opStore, opPick, opExtract, opSlice, opBuildSlice, opBuild, aRow, aev, aevs, aparts, ann, unn, aPut, if_true, if_false, rget_rput, flat, flat1, Nat.blt_eq, aBuiltin, List.getElem?_toArray, List.getElem?_cons_zero, List.getElem?_cons_succ, Nat.zero_add, Option.bind_some, beq_self_eq_true, Bool.not_true, Bool.not_false, Bool.true_beq, Bool.false_beq, opNil, allocX]
    rfl
  dsimp only [List.drop]
  have e6 := Ext.new s5 ⟨1, 192, 0, List.replicate 5 (.slice none 0 0), []⟩
  have g6 : (s5.new ⟨1, 192, 0, List.replicate 5 (.slice none 0 0), []⟩).get s5.next = ⟨1, 192, 0, List.replicate 5 (.slice none 0 0), []⟩ := by rw [AS.get_new, if_pos rfl]
  have n6 : (s5.new ⟨1, 192, 0, List.replicate 5 (.slice none 0 0), []⟩).next = s5.next + 1 := rfl
  generalize s5.new ⟨1, 192, 0, List.replicate 5 (.slice none 0 0), []⟩ = s6 at e6 g6 n6 ⊢
  have sto := storeX (bf := bf) (bn := bn) (be := be) (k := k) (c := bl n) g6
  apply Ls_all
  · intro callf
    simp +decide only [aOps, rinit, aWanted, ↓bite_eq, ↓reduceIte, aStep_eq, aStepOld, aOp, opBox, opBin, opUn, opCall, opIndexAddr, opFieldAddr, opLoad, opStore, opPick, opExtract, opSlice, opBuildSlice, opBuild, aRow, aev, aevs, aparts, ann, unn, aPut, if_true, if_false, rget_rput, flat, flat1, Nat.blt_eq, aBuiltin, List.getElem?_toArray, List.getElem?_cons_zero, List.getElem?_cons_succ, Nat.zero_add, Option.bind_some, beq_self_eq_true, Bool.not_true, Bool.not_false, Bool.true_beq, Bool.false_beq, opNil, sto]
    rfl
  have e7 : Ext s5 (s6.put s5.next (CHKB bf bn be k (bl n))) := Ext.put e6 (Nat.le_refl _) _
  have g7 : (s6.put s5.next (CHKB bf bn be k (bl n))).get s5.next = CHKB bf bn be k (bl n) := by rw [AS.get_put, if_pos rfl]
  have n7 : (s6.put s5.next (CHKB bf bn be k (bl n))).next = s5.next + 1 := n6
  generalize s6.put s5.next (CHKB bf bn be k (bl n)) = s7 at e7 g7 n7 ⊢
  clear sto e6 g6 n6 lc5 f4
  have g3 := (e7.get s.next (by omega)).trans g3
  have g4 := (e7.get s3.next (by omega)).trans g4
  have g1 := (e7.get σ.next (by omega)).trans g1
  have e37 := e35.trans e7
  have H7 := H.ext e37
  have lx := loadX g7
  have lo : aLoad Tryz.prog s7 3 (.pointer (some ⟨s3.next, 0, none⟩)) = some (.int .i64 (op n)) := loadI g4 (.inl rfl) rfl
  have la : aLoad Tryz.prog s7 3 (.pointer (some ⟨s.next, 0 + 1, none⟩)) = some (.int .i64 0) := loadI g3 (.inl rfl) rfl
  have gn := hg n (by omega)
  have dA : (op n == 20) = false := by
    rcases gn with ⟨h, _⟩ | ⟨h, _⟩ <;> rw [h] <;> rfl
  have dB : (op n != 20) = true := by
    rcases gn with ⟨h, _⟩ | ⟨h, _⟩ <;> rw [h] <;> rfl
  repeat apply W_assoc
  apply W_regL
  apply Ls_pre 14
  · intro callf
    simp +decide only [List.take, aOps, rinit, aWanted, ↓bite_eq, ↓reduceIte, aStep_eq, aStepOld, aOp, opBox, opBin, opUn, opCall, opIndexAddr, opFieldAddr, opLoad, opStore, opPick, opExtract, opSlice, opBuildSlice, opBuild, aRow, aev, aevs, aparts, ann, unn, aPut, if_true, if_false, rget_rput, flat, flat1, Nat.blt_eq, aBuiltin, List.getElem?_toArray, List.getElem?_cons_zero, List.getElem?_cons_succ, Nat.zero_add, Option.bind_some, beq_self_eq_true, Bool.not_true, Bool.not_false, Bool.true_beq, Bool.false_beq, opNil, fldP0, fldCo0, lo, dA, opPick, aBin, aInts, aInt_eq]
    rfl
  dsimp only [List.drop]
  apply Ls_pre 12
  · intro callf
    simp +decide only [List.take, aOps, rinit, aWanted, ↓bite_eq, ↓reduceIte, aStep_eq, aStepOld, aOp, opBox, opBin, opUn, opCall, opIndexAddr, opFieldAddr, opLoad, opStore, opPick, opExtract, opSlice, opBuildSlice, opBuild, aRow, aev, aevs, aparts, ann, unn, aPut, if_true, if_false, rget_rput, flat, flat1, Nat.blt_eq, aBuiltin, List.getElem?_toArray, List.getElem?_cons_zero, List.getElem?_cons_succ, Nat.zero_add, Option.bind_some, beq_self_eq_true, Bool.not_true, Bool.not_false, Bool.true_beq, Bool.false_beq, opNil, fldP0, fldCo0, fldF1, lo, la, lx, dB, opPick, aBin, aInts, aInt_eq]
    rfl
  dsimp only [List.drop]
  refine Ls_fnG (vs := [.agg #[slo bf (k + 1), slo bn 4, .slice none 0 0, slo be 4, sl1 (bl n)], .pointer (some ⟨s3.next, 0, none⟩), .int .i64 0]) (by simp +decide only [aWanted, List.getElem?_toArray, List.getElem?_cons_zero, List.getElem?_cons_succ, Option.bind_some, rget_rput, if_true, if_false, Bool.not_true, Bool.not_false, Bool.true_beq, Bool.false_beq, beq_self_eq_true, bite_eq]) (by simp +decide only [aevs, aev, aResults, rget_rput, if_true, if_false]) (by decide) (C_known (k1_145 ⟨_, _, _, _, _, _, _, n, s3.next, H7, by omega, by omega, gn, g4, rfl⟩) ?_)
  apply Ls_all
  · intro callf
    simp +decide only [aOps, rinit, aWanted, ↓bite_eq, ↓reduceIte, aStep_eq, aStepOld, aOp, opBox, opBin, opUn, opCall, opIndexAddr, opFieldAddr, opLoad, opStore, opPick, opExtract, opSlice, opBuildSlice, opBuild, aRow, aev, aevs, aparts, ann, unn, aPut, if_true, if_false, rget_rput, flat, flat1, Nat.blt_eq, aBuiltin, List.getElem?_toArray, List.getElem?_cons_zero, List.getElem?_cons_succ, Nat.zero_add, Option.bind_some, beq_self_eq_true, Bool.not_true, Bool.not_false, Bool.true_beq, Bool.false_beq, opNil, opPick]
    rfl
  repeat apply W_assoc
  refine W_if (b := false) ?_ ?_ ?_
  · simp +decide only [aevs, aev, aResults, rget_rput, if_true, if_false, decide_true, decide_false, Bool.not_true, Bool.not_false]
  · intro h; cases h
  intro _
  apply W_skipq
  refine W_skip ⟨fun _ => ?_, fun h => absurd rfl h⟩
  refine W_tail ?_
  have hw : IntKind.i64.wrap ((n : Int) + 1) = ((n + 1 : Nat) : Int) := wrapNat (by omega)
  repeat apply W_assoc
  apply W_reg
  · intro callf
    simp +decide only [aOps, rinit, aWanted, ↓bite_eq, ↓reduceIte, aStep_eq, aStepOld, aOp, opBox, opBin, opUn, opCall, opIndexAddr, opFieldAddr, opLoad, opStore, opPick, opExtract, opSlice, opBuildSlice, opBuild, aRow, aev, aevs, aparts, ann, unn, aPut, if_true, if_false, rget_rput, flat, flat1, Nat.blt_eq, aBuiltin, List.getElem?_toArray, List.getElem?_cons_zero, List.getElem?_cons_succ, Nat.zero_add, Option.bind_some, beq_self_eq_true, Bool.not_true, Bool.not_false, Bool.true_beq, Bool.false_beq, opNil, h19, hw, aBin, aInts, aInt_eq]
    rfl
  refine W_skip ⟨fun _ => ⟨n + 1, ?_, ?_⟩, fun h => (nomatch h), fun h => absurd rfl h⟩
  · show k + 1 - (n + 1) < k + 1 - n
    omega
  · refine ⟨by omega, e1.trans e37, g1, by omega, ?_, ?_, ?_, ?_⟩ <;> simp +decide only [rget_rput, if_true, if_false, h1, h17, h18]


end Go.Proofs.YtacpdefmnijhnaaGreat.U18
