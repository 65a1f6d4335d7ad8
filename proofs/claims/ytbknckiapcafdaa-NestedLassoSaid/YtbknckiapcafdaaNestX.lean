/- The law (function 5). -/
import Derived.Test.YtbknckiapcafdaaNestW
set_option linter.unusedSimpArgs false
set_option linter.unusedVariables false
namespace Go.Proofs.Ytbknckiapcafdaa.Nest
open Abs Abs2

theorem bneqSelf (xo yo : Operand) (c : Bool) : aBin Try.prog .neq 4 xo yo (.bool c) (.bool c) = some (.bool false) := by cases c <;> kernel_rfl
theorem beqSelf (xo yo : Operand) (c : Bool) : aBin Try.prog .eql 4 xo yo (.bool c) (.bool c) = some (.bool true) := by cases c <;> kernel_rfl

section
variable {P : Program} {K : Tbl} {G n : Nat} {ops : Array Oper} {sj X : List Nat} {r : Regs} {σ s1 : AS} {l : List Oper} {Q : Regs → AS → Prop}
/-- A reader under a guard. -/
theorem Lg_loadG {k0 d b off : Nat} {t : TypeId} {a : Operand} {ty : TypeId} {pos : String} {aft : Array Edge} {v : Value} {gd : Option (Nat × Bool)} (hw : aWanted ops r ⟨some d, .load t a, ty, pos, aft, gd⟩ = true) (ha : aev G r a = some (.pointer (some ⟨b, off, none⟩)))
    (hl : aLoad P σ.reset t (.pointer (some ⟨b, off, none⟩)) = some v) (hsv : (vsc σ.next 9 v && veq 9 v v) = true) (hb : b < σ.next) (hX : memb X b = true) (hd : d < n)
    (h : Lg P K G n ops sj X (k0 + 1) l (rput r d v) (σ.merge σ.reset) Q) : Lg P K G n ops sj X k0 (⟨some d, .load t a, ty, pos, aft, gd⟩ :: l) r σ Q := by
  refine ⟨fun _ => ⟨v, σ.reset, 0, fun fuel _ => ?_, ⟨.inl (Nat.le_refl _), fun _ => ?_⟩, _, ?_, h⟩, fun h => by rw [hw] at h; cases h⟩
  · simp only [aStep_eq, aStepOld, aOp, opLoad, ha, hl, ann]
  · unfold readOk
    rw [hsv]
    simp only [fpOf, ha, fpO, fpV, hX, Bool.and_true, Bool.true_and]
    rw [Nat.blt_eq]; exact hb
  · simp only [aPut, bite_eq]; rw [if_pos (by rw [Nat.blt_eq]; exact hd)]
end

theorem sv_agg {n lb l c : Nat} (h : lb < n) : (vsc n 9 (.agg #[.slice (some ⟨lb, 0, none⟩) l c]) && veq 9 (.agg #[.slice (some ⟨lb, 0, none⟩) l c]) (.agg #[.slice (some ⟨lb, 0, none⟩) l c])) = true := by
  simp [vsc, veq, veqL, h]

/-- What is not the tape can be read where the tape is hidden. -/
theorem RS.hide {tb k : Nat} {σ : AS} {v : Value} {l : List Arc} (hT : Tape tb σ k) (h : RS 2 RArc σ v l) : RS 2 RArc (hid [tb] σ) v l := by
  obtain ⟨base, cap, e, hb⟩ := h
  refine ⟨base, cap, e, fun hl => ?_⟩
  obtain ⟨b, off, e1, e2, e3⟩ := hb hl
  refine ⟨b, off, e1, by rw [hid_next]; exact e2, fun i x hx => ?_⟩
  obtain ⟨cs, h5, h6⟩ := e3 i x hx
  refine ⟨cs, ?_, h6⟩
  have hne : b ∉ [tb] := by
    intro hm
    obtain rfl : b = tb := by simpa using hm
    obtain ⟨lv, ints, pos, g2, ⟨bb, cc, elv, _⟩, _⟩ := hT.own
    unfold RArc at h6
    subst h6
    unfold aCells at h5
    simp only [g2, hasLen_eq] at h5
    split at h5
    · rename_i hc
      simp only [Bool.and_eq_true, Nat.ble_eq, List.length_cons, List.length_nil] at hc
      have h0 : off + i * 2 = 0 := by omega
      rw [h0] at h5
      have h7 := (List.cons.inj (Option.some.inj h5)).1
      rw [elv] at h7
      cases h7
    · split at h5
      · rename_i hc
        simp only [Bool.and_eq_true] at hc
        have := hc.1.1
        cases this
      · cases h5
  unfold aCells at h5 ⊢
  rw [hid_out _ hne]; exact h5

/-- What lay before the tape is not touched where the tape is hidden. -/
theorem ext_hide {tb : Nat} {σ σT σ' : AS} (h : Ext σ σT) (ht : σ.next ≤ tb) (k : ExtX [tb] σT σ') : Ext σ (hid [tb] σ') := by
  have e : Ext σ (hid [tb] σT) := by
    refine ⟨by rw [hid_next]; exact h.nxt, fun i hi => ?_, fun m h1 h2 => ?_⟩
    · rw [hid_out _ (by simp; omega)]; exact h.get i hi
    · rw [hid_low]
      exact ⟨h.low m h1 h2, fun x hx => by simp at hx; omega⟩
  exact e.trans k.hid

theorem kn9 : Kn 9 [] = some (.bool true) := rfl

set_option maxHeartbeats 32000000 in
theorem law {σ : AS} {tv sv av bv : Value} {ints : List Int} {LL : Lts} {la lb0 : List Arc} (ht : RS 1 RInt σ tv ints) (htl : ints.length ≤ 2 ^ 62) (hs : RS 1 RRow σ sv LL) (hz : Small LL)
    (hsv : ∀ n, σ.next ≤ n → (vsc n 9 (.agg #[sv]) && veq 9 (.agg #[sv]) (.agg #[sv])) = true) (ha : RS 2 RArc σ av la) (hal : la.length ≤ 2 ^ 62) (hb : RS 2 RArc σ bv lb0) (hbl : lb0.length ≤ 2 ^ 62) :
    C Try.prog Kn 0 5 [tv, .agg #[sv], av, bv] σ fun v _ => v = .bool true := by
  obtain ⟨sb, sc, rfl, -⟩ := id hs
  obtain ⟨ab, ac, rfl, -⟩ := id ha
  obtain ⟨bb, bc, rfl, -⟩ := id hb
  refine C_of (kn (by decide)) Try.func5 rfl (Nat.le_of_ble_eq_true rfl) ?_
  show W _ _ _ 127 _ _ _ _
  unfold Try.f5
  dsimp only
  repeat apply W_assoc
  apply W_reg
  · intro callf
    simp +decide only [aOps, rinit, aWanted, ↓bite_eq, ↓reduceIte, aStep_eq, aStepOld, aOp, opBox, opBin, opUn, opCall, opIndexAddr, opFieldAddr, opLoad, opStore, opPick, opExtract, opSlice, opBuildSlice, opBuild, aRow, aev, aevs, aparts, ann, unn, aPut, if_true, if_false, rget_rput, flat, flat1, Nat.blt_eq, aBuiltin, aLen, List.getElem?_toArray, List.getElem?_cons_zero, List.getElem?_cons_succ, Nat.zero_add, Option.bind_some, beq_self_eq_true, Bool.not_true, Bool.not_false, Bool.true_beq, Bool.false_beq]
    rfl
  have E0 := Ext.new σ ⟨1, 30, 0, (Value.agg #[.slice sb LL.length sc]).cells.toList, []⟩
  have BA : BoxAt (σ.new ⟨1, 30, 0, (Value.agg #[.slice sb LL.length sc]).cells.toList, []⟩) σ.next (.slice sb LL.length sc) := ⟨Nat.lt_succ_self _, by rw [AS.get_new, if_pos rfl]; rfl⟩
  generalize hb5 : σ.next = b5 at BA hsv
  generalize σ.new ⟨1, 30, 0, (Value.agg #[.slice sb LL.length sc]).cells.toList, []⟩ = σ1 at E0 BA
  have hb51 : b5 < σ1.next := BA.lt
  repeat apply W_assoc
  apply W_regL
  apply Ls_pre 1
  · intro callf
    simp +decide only [List.take, aOps, rinit, aWanted, ↓bite_eq, ↓reduceIte, aStep_eq, aStepOld, aOp, opBox, opBin, opUn, opCall, opIndexAddr, opFieldAddr, opLoad, opStore, opPick, opExtract, opSlice, opBuildSlice, opBuild, aRow, aev, aevs, aparts, ann, unn, aPut, if_true, if_false, rget_rput, flat, flat1, Nat.blt_eq, aBuiltin, aLen, List.getElem?_toArray, List.getElem?_cons_zero, List.getElem?_cons_succ, Nat.zero_add, Option.bind_some, beq_self_eq_true, Bool.not_true, Bool.not_false, Bool.true_beq, Bool.false_beq]
    rfl
  dsimp only [List.drop]
  refine Ls_fn (vs := [tv]) (by simp +decide only [aevs, aev, aResults, rget_rput, if_true, if_false]) (by decide) (C.mono (new_tape (ht.ext RInt.keeps E0) htl) ?_)
  rintro v σ' ⟨rfl, TP, ET⟩
  apply Ls_all
  · intro callf
    simp +decide only [aOps, rinit, aWanted, ↓bite_eq, ↓reduceIte, aStep_eq, aStepOld, aOp, opBox, opBin, opUn, opCall, opIndexAddr, opFieldAddr, opLoad, opStore, opPick, opExtract, opSlice, opBuildSlice, opBuild, aRow, aev, aevs, aparts, ann, unn, aPut, if_true, if_false, rget_rput, flat, flat1, Nat.blt_eq, aBuiltin, aLen, List.getElem?_toArray, List.getElem?_cons_zero, List.getElem?_cons_succ, Nat.zero_add, Option.bind_some, beq_self_eq_true, Bool.not_true, Bool.not_false, Bool.true_beq, Bool.false_beq]
    rfl
  generalize htb : σ1.next = tb at TP hb51
  have E0n : σ.next ≤ tb := by rw [← htb]; exact E0.nxt
  have BA := BA.ext ET
  generalize σ' = σT at TP ET BA
  repeat apply W_assoc
  apply W_reg
  · intro callf
    simp +decide only [aOps, rinit, aWanted, ↓bite_eq, ↓reduceIte, aStep_eq, aStepOld, aOp, opBox, opBin, opUn, opCall, opIndexAddr, opFieldAddr, opLoad, opStore, opPick, opExtract, opSlice, opBuildSlice, opBuild, aRow, aev, aevs, aparts, ann, unn, aPut, if_true, if_false, rget_rput, flat, flat1, Nat.blt_eq, aBuiltin, aLen, List.getElem?_toArray, List.getElem?_cons_zero, List.getElem?_cons_succ, Nat.zero_add, Option.bind_some, beq_self_eq_true, Bool.not_true, Bool.not_false, Bool.true_beq, Bool.false_beq]
    rfl
  repeat apply W_assoc
  refine W_for (fun (i : Nat) r σ' => i ≤ 5 ∧ rget r 2 = .slice ab la.length ac ∧ rget r 3 = .slice bb lb0.length bc ∧ rget r 5 = .pointer (some ⟨b5, 0, none⟩) ∧ rget r 9 = .pointer (some ⟨tb, 0, none⟩) ∧ rget r 10 = .int .i64 (i : Int) ∧
      Tape tb σ' (2020 * i) ∧ ExtX [tb] σT σ')
    (fun i => 5 - i) ?_ 0 ?_
  rotate_left
  · simp +decide only [rget_rput, rinit, if_true, if_false, goInt]
    refine ⟨?_, ?_, ?_, ?_, ?_, ?_, TP, ExtX.refl _ _⟩ <;> first | exact True.intro | rfl | omega
  have TP0 := TP
  clear TP
  rintro i r σ2 ⟨hi, h2, h3, h5, h9, h10, TP, EX⟩
  have BA := BA.extX EX (by simp; omega)
  repeat apply W_assoc
  apply W_reg
  · intro callf
    simp +decide only [aOps, rinit, aWanted, ↓bite_eq, ↓reduceIte, aStep_eq, aStepOld, aOp, opBox, opBin, opUn, opCall, opIndexAddr, opFieldAddr, opLoad, opStore, opPick, opExtract, opSlice, opBuildSlice, opBuild, aRow, aev, aevs, aparts, ann, unn, aPut, if_true, if_false, rget_rput, flat, flat1, Nat.blt_eq, aBuiltin, aLen, List.getElem?_toArray, List.getElem?_cons_zero, List.getElem?_cons_succ, Nat.zero_add, Option.bind_some, beq_self_eq_true, Bool.not_true, Bool.not_false, Bool.true_beq, Bool.false_beq, h10, aBin, aInts, aInt_eq]
    rfl
  repeat apply W_assoc
  refine W_if (b := decide ((i : Int) < 5)) ?_ ?_ ?_
  · simp +decide only [aevs, aev, aResults, rget_rput, if_true, if_false]
  rotate_left
  · intro hx5
    refine W_exitq ⟨fun h => (nomatch h), fun _ => ?_, fun h1 h2 => absurd rfl h2⟩
    have eA := ext_hide (E0.trans ET) E0n EX
    have HA := ha.ext RArc.keeps eA
    have HB := hb.ext RArc.keeps eA
    have HS := hs.ext RRow.keeps eA
    have hb52 : b5 < σ2.next := BA.lt
    repeat apply W_assoc
    refine W_drw [17] [b5] (by kernel_rfl) (by kernel_rfl) ?_
    have BQ := BA.ext ((Ext.refl σ2).trans (Ext.reset σ2))
    apply Lg_pre 1
    · intro callf
      simp +decide only [List.take, aQ, memb, List.any_nil, List.any_cons, Bool.true_or, Bool.or_false, Bool.and_true, Bool.or_true, Bool.false_or, Bool.true_and, reset_merge, reset_reset, reset_next, reset_low, merge_next, merge_idem, new_low, ble_self, aOps, rinit, aWanted, ↓bite_eq, ↓reduceIte, aStep_eq, aStepOld, aOp, opBox, opBin, opUn, opCall, opIndexAddr, opFieldAddr, opLoad, opStore, opPick, opExtract, opSlice, opBuildSlice, opBuild, aRow, aev, aevs, aparts, ann, unn, aPut, if_true, if_false, rget_rput, flat, flat1, Nat.blt_eq, aBuiltin, aLen, List.getElem?_toArray, List.getElem?_cons_zero, List.getElem?_cons_succ, Nat.zero_add, Option.bind_some, beq_self_eq_true, Bool.not_true, Bool.not_false, Bool.true_beq, Bool.false_beq, h5, BQ.load]
      rfl
    dsimp only [List.drop, List.take, List.length]
    have eσ2x1 : Ext σ2 (σ2.merge σ2.reset) := (Ext.refl σ2).trans (Ext.refl _).merge
    generalize σ2.merge σ2.reset = σ2x1 at eσ2x1
    refine Lg_fn (vs := [.agg #[.slice sb LL.length sc]]) (by simp +decide only [aevs, aev, aResults, rget_rput, if_true, if_false]) (by decide) rfl (C.mono (huge (RS.shown RRow.shown (HS.ext RRow.keeps (Ext.hid (eσ2x1.trans (Ext.reset σ2x1))))) hz) ?_)
    rintro v s1 ⟨⟨hg, rfl⟩, eC⟩
    refine ⟨eC.quiet, ?_⟩
    have eσ2x2 : Ext σ2 (σ2x1.merge s1) := eσ2x1.trans eC.merge
    generalize σ2x1.merge s1 = σ2x2 at eσ2x2
    cases hg with
    | true =>
      apply Lg_all
      · intro callf
        simp +decide only [aQ, memb, List.any_nil, List.any_cons, Bool.true_or, Bool.or_false, Bool.and_true, Bool.or_true, Bool.false_or, Bool.true_and, reset_merge, reset_reset, reset_next, reset_low, merge_next, merge_idem, new_low, ble_self, aOps, rinit, aWanted, ↓bite_eq, ↓reduceIte, aStep_eq, aStepOld, aOp, opBox, opBin, opUn, opCall, opIndexAddr, opFieldAddr, opLoad, opStore, opPick, opExtract, opSlice, opBuildSlice, opBuild, aRow, aev, aevs, aparts, ann, unn, aPut, if_true, if_false, rget_rput, flat, flat1, Nat.blt_eq, aBuiltin, aLen, List.getElem?_toArray, List.getElem?_cons_zero, List.getElem?_cons_succ, Nat.zero_add, Option.bind_some, beq_self_eq_true, Bool.not_true, Bool.not_false, Bool.true_beq, Bool.false_beq, h2, h3, Try.underlying22, goInt, aBin, aInts, aInt_eq]
        rfl
      have eσ2x3 : Ext σ2 (σ2x2.merge σ2x2.reset) := eσ2x2.trans (Ext.refl _).merge
      generalize σ2x2.merge σ2x2.reset = σ2x3 at eσ2x3
      refine W_ret ⟨Nat.le_refl _, [.bool true], ?_, rfl⟩
      simp +decide only [aevs, aev, aResults, rget_rput, if_true, if_false]
    | false =>
      by_cases hA20 : 20 < la.length
      · have dA : decide ((20 : Int) < (la.length : Int)) = true := decide_eq_true (by omega)
        apply Lg_all
        · intro callf
          simp +decide only [aQ, memb, List.any_nil, List.any_cons, Bool.true_or, Bool.or_false, Bool.and_true, Bool.or_true, Bool.false_or, Bool.true_and, reset_merge, reset_reset, reset_next, reset_low, merge_next, merge_idem, new_low, ble_self, aOps, rinit, aWanted, ↓bite_eq, ↓reduceIte, aStep_eq, aStepOld, aOp, opBox, opBin, opUn, opCall, opIndexAddr, opFieldAddr, opLoad, opStore, opPick, opExtract, opSlice, opBuildSlice, opBuild, aRow, aev, aevs, aparts, ann, unn, aPut, if_true, if_false, rget_rput, flat, flat1, Nat.blt_eq, aBuiltin, aLen, List.getElem?_toArray, List.getElem?_cons_zero, List.getElem?_cons_succ, Nat.zero_add, Option.bind_some, beq_self_eq_true, Bool.not_true, Bool.not_false, Bool.true_beq, Bool.false_beq, h2, h3, Try.underlying22, goInt, aBin, aInts, aInt_eq, dA]
          rfl
        have eσ2x3 : Ext σ2 (σ2x2.merge σ2x2.reset) := eσ2x2.trans (Ext.refl _).merge
        generalize σ2x2.merge σ2x2.reset = σ2x3 at eσ2x3
        refine W_ret ⟨Nat.le_refl _, [.bool true], ?_, rfl⟩
        simp +decide only [aevs, aev, aResults, rget_rput, if_true, if_false]
      have dA : decide ((20 : Int) < (la.length : Int)) = false := decide_eq_false (by omega)
      by_cases hB20 : 20 < lb0.length
      · have dB : decide ((20 : Int) < (lb0.length : Int)) = true := decide_eq_true (by omega)
        apply Lg_all
        · intro callf
          simp +decide only [aQ, memb, List.any_nil, List.any_cons, Bool.true_or, Bool.or_false, Bool.and_true, Bool.or_true, Bool.false_or, Bool.true_and, reset_merge, reset_reset, reset_next, reset_low, merge_next, merge_idem, new_low, ble_self, aOps, rinit, aWanted, ↓bite_eq, ↓reduceIte, aStep_eq, aStepOld, aOp, opBox, opBin, opUn, opCall, opIndexAddr, opFieldAddr, opLoad, opStore, opPick, opExtract, opSlice, opBuildSlice, opBuild, aRow, aev, aevs, aparts, ann, unn, aPut, if_true, if_false, rget_rput, flat, flat1, Nat.blt_eq, aBuiltin, aLen, List.getElem?_toArray, List.getElem?_cons_zero, List.getElem?_cons_succ, Nat.zero_add, Option.bind_some, beq_self_eq_true, Bool.not_true, Bool.not_false, Bool.true_beq, Bool.false_beq, h2, h3, Try.underlying22, goInt, aBin, aInts, aInt_eq, dA, dB]
          rfl
        have eσ2x3 : Ext σ2 (σ2x2.merge σ2x2.reset) := eσ2x2.trans (Ext.refl _).merge
        generalize σ2x2.merge σ2x2.reset = σ2x3 at eσ2x3
        refine W_ret ⟨Nat.le_refl _, [.bool true], ?_, rfl⟩
        simp +decide only [aevs, aev, aResults, rget_rput, if_true, if_false]
      have dB : decide ((20 : Int) < (lb0.length : Int)) = false := decide_eq_false (by omega)
      have BQ := BA.ext (eσ2x2.trans (Ext.reset σ2x2))
      apply Lg_pre 14
      · intro callf
        simp +decide only [List.take, aQ, memb, List.any_nil, List.any_cons, Bool.true_or, Bool.or_false, Bool.and_true, Bool.or_true, Bool.false_or, Bool.true_and, reset_merge, reset_reset, reset_next, reset_low, merge_next, merge_idem, new_low, ble_self, aOps, rinit, aWanted, ↓bite_eq, ↓reduceIte, aStep_eq, aStepOld, aOp, opBox, opBin, opUn, opCall, opIndexAddr, opFieldAddr, opLoad, opStore, opPick, opExtract, opSlice, opBuildSlice, opBuild, aRow, aev, aevs, aparts, ann, unn, aPut, if_true, if_false, rget_rput, flat, flat1, Nat.blt_eq, aBuiltin, aLen, List.getElem?_toArray, List.getElem?_cons_zero, List.getElem?_cons_succ, Nat.zero_add, Option.bind_some, beq_self_eq_true, Bool.not_true, Bool.not_false, Bool.true_beq, Bool.false_beq, h2, h3, Try.underlying22, goInt, aBin, aInts, aInt_eq, dA, dB, h5, BQ.load]
        rfl
      dsimp only [List.drop, List.take, List.length]
      have eσ2x3 : Ext σ2 (σ2x2.merge σ2x2.reset) := eσ2x2.trans (Ext.refl _).merge
      generalize σ2x2.merge σ2x2.reset = σ2x3 at eσ2x3
      refine Lg_fnG (vs := [.agg #[.slice sb LL.length sc], .slice ab la.length ac, .slice bb lb0.length bc]) (by simp +decide only [aWanted, List.getElem?_toArray, List.getElem?_cons_zero, List.getElem?_cons_succ, Option.bind_some, rget_rput, if_true, if_false]) (by simp +decide only [aevs, aev, aResults, rget_rput, if_true, if_false]) (by decide) (by kernel_rfl) (C.mono (lasso_prog (RS.shown RRow.shown (HS.ext RRow.keeps (Ext.hid (eσ2x3.trans (Ext.reset σ2x3))))) hz (RS.shown RArc.shown (HA.ext RArc.keeps (Ext.hid (eσ2x3.trans (Ext.reset σ2x3))))) hal (RS.shown RArc.shown (HB.ext RArc.keeps (Ext.hid (eσ2x3.trans (Ext.reset σ2x3))))) hbl) ?_)
      rintro v s1 ⟨rfl, eC⟩
      refine ⟨eC.quiet, ?_⟩
      have eσ2x4 : Ext σ2 (σ2x3.merge s1) := eσ2x3.trans eC.merge
      generalize σ2x3.merge s1 = σ2x4 at eσ2x4
      refine Lg_loadG (b := b5) (off := 0) (v := .agg #[.slice sb LL.length sc]) (by simp +decide only [aWanted, List.getElem?_toArray, List.getElem?_cons_zero, List.getElem?_cons_succ, Option.bind_some, rget_rput, if_true, if_false]) (by simp +decide only [aevs, aev, aResults, rget_rput, if_true, if_false, h5]) (BA.ext (eσ2x4.trans (Ext.reset σ2x4))).load (hsv _ (Nat.le_of_lt (eσ2x4.lt hb52))) (eσ2x4.lt BA.lt) (by simp [memb]) (by decide) ?_
      have eσ2x5 : Ext σ2 (σ2x4.merge σ2x4.reset) := eσ2x4.trans (Ext.refl _).merge
      generalize σ2x4.merge σ2x4.reset = σ2x5 at eσ2x5
      apply Lg_pre 2
      · intro callf
        simp +decide only [List.take, aQ, memb, List.any_nil, List.any_cons, Bool.true_or, Bool.or_false, Bool.and_true, Bool.or_true, Bool.false_or, Bool.true_and, reset_merge, reset_reset, reset_next, reset_low, merge_next, merge_idem, new_low, ble_self, aOps, rinit, aWanted, ↓bite_eq, ↓reduceIte, aStep_eq, aStepOld, aOp, opBox, opBin, opUn, opCall, opIndexAddr, opFieldAddr, opLoad, opStore, opPick, opExtract, opSlice, opBuildSlice, opBuild, aRow, aev, aevs, aparts, ann, unn, aPut, if_true, if_false, rget_rput, flat, flat1, Nat.blt_eq, aBuiltin, aLen, List.getElem?_toArray, List.getElem?_cons_zero, List.getElem?_cons_succ, Nat.zero_add, Option.bind_some, beq_self_eq_true, Bool.not_true, Bool.not_false, Bool.true_beq, Bool.false_beq, h2, h3]
        rfl
      dsimp only [List.drop, List.take, List.length]
      have eσ2x6 : Ext σ2 (σ2x5.merge σ2x5.reset) := eσ2x5.trans (Ext.refl _).merge
      generalize σ2x5.merge σ2x5.reset = σ2x6 at eσ2x6
      refine Lg_fnG (vs := [.agg #[.slice sb LL.length sc], .slice ab la.length ac, .slice bb lb0.length bc]) (by simp +decide only [aWanted, List.getElem?_toArray, List.getElem?_cons_zero, List.getElem?_cons_succ, Option.bind_some, rget_rput, if_true, if_false]) (by simp +decide only [aevs, aev, aResults, rget_rput, if_true, if_false]) (by decide) (by kernel_rfl) (C.mono (lasso_ref (RS.shown RRow.shown (HS.ext RRow.keeps (Ext.hid (eσ2x6.trans (Ext.reset σ2x6))))) hz (RS.shown RArc.shown (HA.ext RArc.keeps (Ext.hid (eσ2x6.trans (Ext.reset σ2x6))))) hal (RS.shown RArc.shown (HB.ext RArc.keeps (Ext.hid (eσ2x6.trans (Ext.reset σ2x6))))) hbl) ?_)
      rintro v s1 ⟨rfl, eC⟩
      refine ⟨eC.quiet, ?_⟩
      have eσ2x7 : Ext σ2 (σ2x6.merge s1) := eσ2x6.trans eC.merge
      generalize σ2x6.merge s1 = σ2x7 at eσ2x7
      apply Lg_pre 2
      · intro callf
        simp +decide only [List.take, aQ, memb, List.any_nil, List.any_cons, Bool.true_or, Bool.or_false, Bool.and_true, Bool.or_true, Bool.false_or, Bool.true_and, reset_merge, reset_reset, reset_next, reset_low, merge_next, merge_idem, new_low, ble_self, aOps, rinit, aWanted, ↓bite_eq, ↓reduceIte, aStep_eq, aStepOld, aOp, opBox, opBin, opUn, opCall, opIndexAddr, opFieldAddr, opLoad, opStore, opPick, opExtract, opSlice, opBuildSlice, opBuild, aRow, aev, aevs, aparts, ann, unn, aPut, if_true, if_false, rget_rput, flat, flat1, Nat.blt_eq, aBuiltin, aLen, List.getElem?_toArray, List.getElem?_cons_zero, List.getElem?_cons_succ, Nat.zero_add, Option.bind_some, beq_self_eq_true, Bool.not_true, Bool.not_false, Bool.true_beq, Bool.false_beq, beqSelf]
        rfl
      dsimp only [List.drop, List.take, List.length]
      have eσ2x8 : Ext σ2 (σ2x7.merge σ2x7.reset) := eσ2x7.trans (Ext.refl _).merge
      generalize σ2x7.merge σ2x7.reset = σ2x8 at eσ2x8
      refine Lg_fnG (vs := []) (by simp +decide only [aWanted, List.getElem?_toArray, List.getElem?_cons_zero, List.getElem?_cons_succ, Option.bind_some, rget_rput, if_true, if_false]) (by simp +decide only [aevs, aev, aResults, rget_rput, if_true, if_false]) (by decide) (by kernel_rfl) (C.mono (C_known (v := .bool true) (Q := fun v s1 => v = .bool true ∧ Ext σ2x8.reset s1) kn9 ⟨rfl, Ext.refl _⟩) ?_)
      rintro v s1 ⟨rfl, eC⟩
      refine ⟨eC.quiet, ?_⟩
      have eσ2x9 : Ext σ2 (σ2x8.merge s1) := eσ2x8.trans eC.merge
      generalize σ2x8.merge s1 = σ2x9 at eσ2x9
      apply Lg_all
      · intro callf
        simp +decide only [aQ, memb, List.any_nil, List.any_cons, Bool.true_or, Bool.or_false, Bool.and_true, Bool.or_true, Bool.false_or, Bool.true_and, reset_merge, reset_reset, reset_next, reset_low, merge_next, merge_idem, new_low, ble_self, aOps, rinit, aWanted, ↓bite_eq, ↓reduceIte, aStep_eq, aStepOld, aOp, opBox, opBin, opUn, opCall, opIndexAddr, opFieldAddr, opLoad, opStore, opPick, opExtract, opSlice, opBuildSlice, opBuild, aRow, aev, aevs, aparts, ann, unn, aPut, if_true, if_false, rget_rput, flat, flat1, Nat.blt_eq, aBuiltin, aLen, List.getElem?_toArray, List.getElem?_cons_zero, List.getElem?_cons_succ, Nat.zero_add, Option.bind_some, beq_self_eq_true, Bool.not_true, Bool.not_false, Bool.true_beq, Bool.false_beq]
        rfl
      have eσ2x10 : Ext σ2 (σ2x9.merge σ2x9.reset) := eσ2x9.trans (Ext.refl _).merge
      generalize σ2x9.merge σ2x9.reset = σ2x10 at eσ2x10
      refine W_ret ⟨Nat.le_refl _, [.bool true], ?_, rfl⟩
      simp +decide only [aevs, aev, aResults, rget_rput, if_true, if_false]
  intro hx5
  have hi5 : i < 5 := by
    have := of_decide_eq_true hx5
    omega
  apply W_skipq
  refine W_blk ?_
  repeat apply W_assoc
  apply W_regL
  apply Ls_pre 1
  · intro callf
    simp +decide only [List.take, aOps, rinit, aWanted, ↓bite_eq, ↓reduceIte, aStep_eq, aStepOld, aOp, opBox, opBin, opUn, opCall, opIndexAddr, opFieldAddr, opLoad, opStore, opPick, opExtract, opSlice, opBuildSlice, opBuild, aRow, aev, aevs, aparts, ann, unn, aPut, if_true, if_false, rget_rput, flat, flat1, Nat.blt_eq, aBuiltin, aLen, List.getElem?_toArray, List.getElem?_cons_zero, List.getElem?_cons_succ, Nat.zero_add, Option.bind_some, beq_self_eq_true, Bool.not_true, Bool.not_false, Bool.true_beq, Bool.false_beq, h9]
    rfl
  dsimp only [List.drop]
  refine Ls_fn (vs := [.pointer (some ⟨tb, 0, none⟩), .int .i64 4]) (by simp +decide only [aevs, aev, aResults, rget_rput, if_true, if_false, h9]) (by decide) (C.mono (chain insert lts TP (by omega) (n := 4) (by omega) (by omega)) ?_)
  rintro v σ' ⟨lb, L, cap, rfl, hlb, TP, E1, GN, hL1, hL2⟩
  have hlt2 : tb < σ2.next := Nat.lt_of_lt_of_le TP0.lt EX.nxt
  have BA := BA.extX E1 (by simp; omega)
  have EX := EX.trans E1
  generalize hb11 : σ'.next = b11
  have hl11 : lb < b11 := hb11 ▸ GN.lt
  apply Ls_all
  · intro callf
    simp +decide only [aOps, rinit, aWanted, ↓bite_eq, ↓reduceIte, aStep_eq, aStepOld, aOp, opBox, opBin, opUn, opCall, opIndexAddr, opFieldAddr, opLoad, opStore, opPick, opExtract, opSlice, opBuildSlice, opBuild, aRow, aev, aevs, aparts, ann, unn, aPut, if_true, if_false, rget_rput, flat, flat1, Nat.blt_eq, aBuiltin, aLen, List.getElem?_toArray, List.getElem?_cons_zero, List.getElem?_cons_succ, Nat.zero_add, Option.bind_some, beq_self_eq_true, Bool.not_true, Bool.not_false, Bool.true_beq, Bool.false_beq, alloc30, hb11, store30 (σ := σ'.new ⟨1, 30, 0, [.slice none 0 0], []⟩) (b := b11) (x := .slice none 0 0) (by rw [AS.get_new, if_pos hb11])]
    rfl
  have e1 : Ext σ' ((σ'.new ⟨1, 30, 0, [.slice none 0 0], []⟩).put b11 ⟨1, 30, 0, [.slice (some ⟨lb, 0, none⟩) L.length cap], []⟩) := Ext.put (Ext.new _ _) (by omega) _
  have BX : BoxAt ((σ'.new ⟨1, 30, 0, [.slice none 0 0], []⟩).put b11 ⟨1, 30, 0, [.slice (some ⟨lb, 0, none⟩) L.length cap], []⟩) b11 (.slice (some ⟨lb, 0, none⟩) L.length cap) := ⟨by rw [← hb11]; exact Nat.lt_succ_self _, by rw [AS.get_put, if_pos rfl]⟩
  have BA := BA.ext e1
  have TP := TP.ext e1
  have GN := GN.ext e1
  have EX := EX.trans (ExtX.of e1)
  generalize (σ'.new ⟨1, 30, 0, [.slice none 0 0], []⟩).put b11 ⟨1, 30, 0, [.slice (some ⟨lb, 0, none⟩) L.length cap], []⟩ = σ3 at e1 BX BA TP GN EX
  have hzG : Small L := ⟨by omega, fun r hr => Nat.le_trans (GN.row r hr).1 (by decide)⟩
  have LS := GN.rs (cap := cap)
  have hlt3 : tb < σ3.next := TP.lt
  repeat apply W_assoc
  apply W_regL
  apply Ls_pre 1
  · intro callf
    simp +decide only [List.take, aOps, rinit, aWanted, ↓bite_eq, ↓reduceIte, aStep_eq, aStepOld, aOp, opBox, opBin, opUn, opCall, opIndexAddr, opFieldAddr, opLoad, opStore, opPick, opExtract, opSlice, opBuildSlice, opBuild, aRow, aev, aevs, aparts, ann, unn, aPut, if_true, if_false, rget_rput, flat, flat1, Nat.blt_eq, aBuiltin, aLen, List.getElem?_toArray, List.getElem?_cons_zero, List.getElem?_cons_succ, Nat.zero_add, Option.bind_some, beq_self_eq_true, Bool.not_true, Bool.not_false, Bool.true_beq, Bool.false_beq, BX.load]
    rfl
  dsimp only [List.drop]
  refine Ls_fn (vs := [.agg #[.slice (some ⟨lb, 0, none⟩) L.length cap]]) (by simp +decide only [aevs, aev, aResults, rget_rput, if_true, if_false]) (by decide) (C.mono (find_ref (RS.shown RRow.shown LS) hzG (by omega)) ?_)
  rintro v σ' ⟨⟨pv, qv, rfl, hp, hq, hpl, hql⟩, e2⟩
  apply Ls_all
  · intro callf
    simp +decide only [aOps, rinit, aWanted, ↓bite_eq, ↓reduceIte, aStep_eq, aStepOld, aOp, opBox, opBin, opUn, opCall, opIndexAddr, opFieldAddr, opLoad, opStore, opPick, opExtract, opSlice, opBuildSlice, opBuild, aRow, aev, aevs, aparts, ann, unn, aPut, if_true, if_false, rget_rput, flat, flat1, Nat.blt_eq, aBuiltin, aLen, List.getElem?_toArray, List.getElem?_cons_zero, List.getElem?_cons_succ, Nat.zero_add, Option.bind_some, beq_self_eq_true, Bool.not_true, Bool.not_false, Bool.true_beq, Bool.false_beq]
    rfl
  have TP := TP.ext e2
  have HP := RS.hide TP hp
  have HQ := RS.hide TP hq
  have GN := GN.ext e2
  have EX := EX.trans (ExtX.of e2)
  have LS := LS.ext RRow.keeps (ExtX.of (X := [tb]) e2).hid
  have BX := BX.extX (ExtX.of (X := [tb]) e2) (by simp; omega)
  have BA := BA.extX (ExtX.of (X := [tb]) e2) (by simp; omega)
  obtain ⟨pb, pc, hpv, -⟩ := id hp
  obtain ⟨qb, qc, hqv, -⟩ := id hq
  generalize (findF L).1 = fp at hp hpl HP hpv
  generalize (findF L).2.1 = fq at hq hql HQ hqv
  generalize (findF L).2.2.1 = fok
  generalize (findF L).2.2.2 = fer
  subst hpv
  subst hqv
  clear hp hq
  generalize σ' = σ4 at TP HP HQ GN EX LS BX BA
  repeat apply W_assoc
  apply W_regL
  apply Ls_pre 2
  · intro callf
    simp +decide only [List.take, aOps, rinit, aWanted, ↓bite_eq, ↓reduceIte, aStep_eq, aStepOld, aOp, opBox, opBin, opUn, opCall, opIndexAddr, opFieldAddr, opLoad, opStore, opPick, opExtract, opSlice, opBuildSlice, opBuild, aRow, aev, aevs, aparts, ann, unn, aPut, if_true, if_false, rget_rput, flat, flat1, Nat.blt_eq, aBuiltin, aLen, List.getElem?_toArray, List.getElem?_cons_zero, List.getElem?_cons_succ, Nat.zero_add, Option.bind_some, beq_self_eq_true, Bool.not_true, Bool.not_false, Bool.true_beq, Bool.false_beq, h9, BX.load]
    rfl
  dsimp only [List.drop]
  refine Ls_fn (vs := [.pointer (some ⟨tb, 0, none⟩), .agg #[.slice (some ⟨lb, 0, none⟩) L.length cap], .int .i64 0, .int .i64 3]) (by simp +decide only [aevs, aev, aResults, rget_rput, if_true, if_false, h9]) (by decide) (C.mono (drawn (s := 0) TP (by omega) GN (by omega) (by omega) hL2) ?_)
  rintro v σ' ⟨u, HU, hul, hut, TP, E5⟩
  apply Ls_all
  · intro callf
    simp +decide only [aOps, rinit, aWanted, ↓bite_eq, ↓reduceIte, aStep_eq, aStepOld, aOp, opBox, opBin, opUn, opCall, opIndexAddr, opFieldAddr, opLoad, opStore, opPick, opExtract, opSlice, opBuildSlice, opBuild, aRow, aev, aevs, aparts, ann, unn, aPut, if_true, if_false, rget_rput, flat, flat1, Nat.blt_eq, aBuiltin, aLen, List.getElem?_toArray, List.getElem?_cons_zero, List.getElem?_cons_succ, Nat.zero_add, Option.bind_some, beq_self_eq_true, Bool.not_true, Bool.not_false, Bool.true_beq, Bool.false_beq]
    rfl
  have GN := GN.extX E5
  have EX := EX.trans E5
  have LS := LS.ext RRow.keeps (E5).hid
  have BX := BX.extX (E5) (by simp; omega)
  have BA := BA.extX (E5) (by simp; omega)
  have HP := HP.ext RArc.keeps (E5).hid
  have HQ := HQ.ext RArc.keeps (E5).hid
  generalize σ' = σ5 at TP HP HQ GN EX LS BX BA HU
  obtain ⟨ub, uc, hgu⟩ := HU.slice
  subst hgu
  repeat apply W_assoc
  apply W_reg
  · intro callf
    simp +decide only [aOps, rinit, aWanted, ↓bite_eq, ↓reduceIte, aStep_eq, aStepOld, aOp, opBox, opBin, opUn, opCall, opIndexAddr, opFieldAddr, opLoad, opStore, opPick, opExtract, opSlice, opBuildSlice, opBuild, aRow, aev, aevs, aparts, ann, unn, aPut, if_true, if_false, rget_rput, flat, flat1, Nat.blt_eq, aBuiltin, aLen, List.getElem?_toArray, List.getElem?_cons_zero, List.getElem?_cons_succ, Nat.zero_add, Option.bind_some, beq_self_eq_true, Bool.not_true, Bool.not_false, Bool.true_beq, Bool.false_beq]
    rfl
  repeat apply W_assoc
  apply W_reg
  · intro callf
    simp +decide only [aOps, rinit, aWanted, ↓bite_eq, ↓reduceIte, aStep_eq, aStepOld, aOp, opBox, opBin, opUn, opCall, opIndexAddr, opFieldAddr, opLoad, opStore, opPick, opExtract, opSlice, opBuildSlice, opBuild, aRow, aev, aevs, aparts, ann, unn, aPut, if_true, if_false, rget_rput, flat, flat1, Nat.blt_eq, aBuiltin, aLen, List.getElem?_toArray, List.getElem?_cons_zero, List.getElem?_cons_succ, Nat.zero_add, Option.bind_some, beq_self_eq_true, Bool.not_true, Bool.not_false, Bool.true_beq, Bool.false_beq, Try.underlying22, goInt, aBin, aInts, aInt_eq]
    rfl
  repeat apply W_assoc
  refine W_join (b := decide ((0 : Int) < (u.length : Int))) (fun r' σ' => σ' = σ5 ∧ (∃ at_ : Nat, at_ < L.length ∧ rget r' 17 = .int .i64 (at_ : Int)) ∧ rget r' 2 = .slice ab la.length ac ∧ rget r' 3 = .slice bb lb0.length bc ∧ rget r' 5 = .pointer (some ⟨b5, 0, none⟩) ∧ rget r' 9 = .pointer (some ⟨tb, 0, none⟩) ∧ rget r' 10 = .int .i64 (i : Int) ∧
      rget r' 11 = .pointer (some ⟨b11, 0, none⟩) ∧ rget r' 12 = .slice pb fp.length pc ∧ rget r' 13 = .slice qb fq.length qc ∧ rget r' 16 = .slice ub u.length uc) ?_ ?_ ?_ ?_
  · simp +decide only [aevs, aev, aResults, rget_rput, if_true, if_false]
  · intro hu
    have hu0 : 0 < u.length := by
      have := of_decide_eq_true hu
      omega
    obtain ⟨y, hy⟩ : ∃ y, u[u.length - 1]? = some y := ⟨u[u.length - 1], by simp [hu0]⟩
    obtain ⟨-, b6, off6, rfl, -, hat⟩ := arcOf HU.shown.rs hy
    have hyt := hut y (List.mem_of_getElem? hy)
    have wu : IntKind.i64.wrap ((u.length : Int) - 1) = ((u.length - 1 : Nat) : Int) := by rw [wrap64_id _ (by omega) (by omega)]; omega
    refine W_tail ?_
    repeat apply W_assoc
    apply W_reg
    · intro callf
      simp +decide only [aOps, rinit, aWanted, ↓bite_eq, ↓reduceIte, aStep_eq, aStepOld, aOp, opBox, opBin, opUn, opCall, opIndexAddr, opFieldAddr, opLoad, opStore, opPick, opExtract, opSlice, opBuildSlice, opBuild, aRow, aev, aevs, aparts, ann, unn, aPut, if_true, if_false, rget_rput, flat, flat1, Nat.blt_eq, aBuiltin, aLen, List.getElem?_toArray, List.getElem?_cons_zero, List.getElem?_cons_succ, Nat.zero_add, Option.bind_some, beq_self_eq_true, Bool.not_true, Bool.not_false, Bool.true_beq, Bool.false_beq, Try.underlying22, goInt, wu, idx22 (show u.length - 1 < u.length by omega), fld1, (hat _ (Ext.refl _)).2.2, aBin, aInts, aInt_eq]
      rfl
    refine W_skip ⟨rfl, rfl, ⟨y.2.toNat, by omega, ?_⟩, ?_⟩
    · simp +decide only [rget_rput, if_true, if_false]
      rw [show ((y.2.toNat : Nat) : Int) = y.2 by omega]
    · simp +decide only [rget_rput, if_true, if_false, h2, h3, h5, h9, h10]
  · intro _
    refine W_skip ⟨rfl, rfl, ⟨0, by omega, ?_⟩, ?_⟩
    · simp +decide only [rget_rput, if_true, if_false]
      rfl
    · simp +decide only [rget_rput, if_true, if_false, h2, h3, h5, h9, h10]
  clear h2 h3 h5 h9 h10
  rintro r _ ⟨rfl, ⟨at_, hat, h17⟩, h2, h3, h5, h9, h10, h11, h12, h13, h16⟩
  repeat apply W_assoc
  apply W_regL
  apply Ls_pre 3
  · intro callf
    simp +decide only [List.take, aOps, rinit, aWanted, ↓bite_eq, ↓reduceIte, aStep_eq, aStepOld, aOp, opBox, opBin, opUn, opCall, opIndexAddr, opFieldAddr, opLoad, opStore, opPick, opExtract, opSlice, opBuildSlice, opBuild, aRow, aev, aevs, aparts, ann, unn, aPut, if_true, if_false, rget_rput, flat, flat1, Nat.blt_eq, aBuiltin, aLen, List.getElem?_toArray, List.getElem?_cons_zero, List.getElem?_cons_succ, Nat.zero_add, Option.bind_some, beq_self_eq_true, Bool.not_true, Bool.not_false, Bool.true_beq, Bool.false_beq, h9, h11, h17, BX.load]
    rfl
  dsimp only [List.drop]
  refine Ls_fn (vs := [.pointer (some ⟨tb, 0, none⟩), .agg #[.slice (some ⟨lb, 0, none⟩) L.length cap], .int .i64 (at_ : Int), .int .i64 3]) (by simp +decide only [aevs, aev, aResults, rget_rput, if_true, if_false, h9, h17]) (by decide) (C.mono (drawn (s := at_) TP (by omega) GN (by omega) hat hL2) ?_)
  rintro v σ' ⟨w, HW, hwl, hwt, TP, E6⟩
  apply Ls_all
  · intro callf
    simp +decide only [aOps, rinit, aWanted, ↓bite_eq, ↓reduceIte, aStep_eq, aStepOld, aOp, opBox, opBin, opUn, opCall, opIndexAddr, opFieldAddr, opLoad, opStore, opPick, opExtract, opSlice, opBuildSlice, opBuild, aRow, aev, aevs, aparts, ann, unn, aPut, if_true, if_false, rget_rput, flat, flat1, Nat.blt_eq, aBuiltin, aLen, List.getElem?_toArray, List.getElem?_cons_zero, List.getElem?_cons_succ, Nat.zero_add, Option.bind_some, beq_self_eq_true, Bool.not_true, Bool.not_false, Bool.true_beq, Bool.false_beq]
    rfl
  have GN := GN.extX E6
  have EX := EX.trans E6
  have HU := HU.rs
  have HW := HW.rs
  have LS := LS.ext RRow.keeps (E6).hid
  have BX := BX.extX (E6) (by simp; omega)
  have BA := BA.extX (E6) (by simp; omega)
  have HP := HP.ext RArc.keeps (E6).hid
  have HQ := HQ.ext RArc.keeps (E6).hid
  have HU := HU.ext RArc.keeps (E6).hid
  generalize σ' = σ6 at TP HP HQ GN EX LS BX BA HU HW
  obtain ⟨wb, wc, hgw, -⟩ := id HW
  subst hgw
  have hlb6 := GN.lt
  repeat apply W_assoc
  refine W_drw [4, 14, 25] [b11] (by kernel_rfl) (by kernel_rfl) ?_
  have BQ := BX.ext ((Ext.refl σ6).trans (Ext.reset σ6))
  apply Lg_pre 3
  · intro callf
    simp +decide only [List.take, aQ, memb, List.any_nil, List.any_cons, Bool.true_or, Bool.or_false, Bool.and_true, Bool.or_true, Bool.false_or, Bool.true_and, reset_merge, reset_reset, reset_next, reset_low, merge_next, merge_idem, new_low, ble_self, aOps, rinit, aWanted, ↓bite_eq, ↓reduceIte, aStep_eq, aStepOld, aOp, opBox, opBin, opUn, opCall, opIndexAddr, opFieldAddr, opLoad, opStore, opPick, opExtract, opSlice, opBuildSlice, opBuild, aRow, aev, aevs, aparts, ann, unn, aPut, if_true, if_false, rget_rput, flat, flat1, Nat.blt_eq, aBuiltin, aLen, List.getElem?_toArray, List.getElem?_cons_zero, List.getElem?_cons_succ, Nat.zero_add, Option.bind_some, beq_self_eq_true, Bool.not_true, Bool.not_false, Bool.true_beq, Bool.false_beq, h11, h12, h13, BQ.load]
    rfl
  dsimp only [List.drop, List.take, List.length]
  have eσ6x1 : Ext σ6 (σ6.merge σ6.reset) := (Ext.refl σ6).trans (Ext.refl _).merge
  generalize σ6.merge σ6.reset = σ6x1 at eσ6x1
  refine Lg_fn (vs := [.agg #[.slice (some ⟨lb, 0, none⟩) L.length cap], .slice pb fp.length pc, .slice qb fq.length qc]) (by simp +decide only [aevs, aev, aResults, rget_rput, if_true, if_false]) (by decide) rfl (C.mono (lasso_prog (RS.shown RRow.shown (LS.ext RRow.keeps (Ext.hid (eσ6x1.trans (Ext.reset σ6x1))))) hzG (RS.shown RArc.shown (HP.ext RArc.keeps (Ext.hid (eσ6x1.trans (Ext.reset σ6x1))))) (by omega) (RS.shown RArc.shown (HQ.ext RArc.keeps (Ext.hid (eσ6x1.trans (Ext.reset σ6x1))))) (by omega)) ?_)
  rintro v s1 ⟨rfl, eC⟩
  refine ⟨eC.quiet, ?_⟩
  have eσ6x2 : Ext σ6 (σ6x1.merge s1) := eσ6x1.trans eC.merge
  generalize σ6x1.merge s1 = σ6x2 at eσ6x2
  refine Lg_load (b := b11) (off := 0) (v := .agg #[.slice (some ⟨lb, 0, none⟩) L.length cap]) (by simp +decide only [aevs, aev, aResults, rget_rput, if_true, if_false, h11]) (BX.ext (eσ6x2.trans (Ext.reset σ6x2))).load (sv_agg (eσ6x2.lt GN.lt)) (eσ6x2.lt BX.lt) (by simp [memb]) (by decide) ?_
  have eσ6x3 : Ext σ6 (σ6x2.merge σ6x2.reset) := eσ6x2.trans (Ext.refl _).merge
  generalize σ6x2.merge σ6x2.reset = σ6x3 at eσ6x3
  apply Lg_pre 2
  · intro callf
    simp +decide only [List.take, aQ, memb, List.any_nil, List.any_cons, Bool.true_or, Bool.or_false, Bool.and_true, Bool.or_true, Bool.false_or, Bool.true_and, reset_merge, reset_reset, reset_next, reset_low, merge_next, merge_idem, new_low, ble_self, aOps, rinit, aWanted, ↓bite_eq, ↓reduceIte, aStep_eq, aStepOld, aOp, opBox, opBin, opUn, opCall, opIndexAddr, opFieldAddr, opLoad, opStore, opPick, opExtract, opSlice, opBuildSlice, opBuild, aRow, aev, aevs, aparts, ann, unn, aPut, if_true, if_false, rget_rput, flat, flat1, Nat.blt_eq, aBuiltin, aLen, List.getElem?_toArray, List.getElem?_cons_zero, List.getElem?_cons_succ, Nat.zero_add, Option.bind_some, beq_self_eq_true, Bool.not_true, Bool.not_false, Bool.true_beq, Bool.false_beq, h12, h13]
    rfl
  dsimp only [List.drop, List.take, List.length]
  have eσ6x4 : Ext σ6 (σ6x3.merge σ6x3.reset) := eσ6x3.trans (Ext.refl _).merge
  generalize σ6x3.merge σ6x3.reset = σ6x4 at eσ6x4
  refine Lg_fn (vs := [.agg #[.slice (some ⟨lb, 0, none⟩) L.length cap], .slice pb fp.length pc, .slice qb fq.length qc]) (by simp +decide only [aevs, aev, aResults, rget_rput, if_true, if_false]) (by decide) rfl (C.mono (lasso_ref (RS.shown RRow.shown (LS.ext RRow.keeps (Ext.hid (eσ6x4.trans (Ext.reset σ6x4))))) hzG (RS.shown RArc.shown (HP.ext RArc.keeps (Ext.hid (eσ6x4.trans (Ext.reset σ6x4))))) (by omega) (RS.shown RArc.shown (HQ.ext RArc.keeps (Ext.hid (eσ6x4.trans (Ext.reset σ6x4))))) (by omega)) ?_)
  rintro v s1 ⟨rfl, eC⟩
  refine ⟨eC.quiet, ?_⟩
  have eσ6x5 : Ext σ6 (σ6x4.merge s1) := eσ6x4.trans eC.merge
  generalize σ6x4.merge s1 = σ6x5 at eσ6x5
  have BQ := BX.ext (eσ6x5.trans (Ext.reset σ6x5))
  apply Lg_pre 5
  · intro callf
    simp +decide only [List.take, aQ, memb, List.any_nil, List.any_cons, Bool.true_or, Bool.or_false, Bool.and_true, Bool.or_true, Bool.false_or, Bool.true_and, reset_merge, reset_reset, reset_next, reset_low, merge_next, merge_idem, new_low, ble_self, aOps, rinit, aWanted, ↓bite_eq, ↓reduceIte, aStep_eq, aStepOld, aOp, opBox, opBin, opUn, opCall, opIndexAddr, opFieldAddr, opLoad, opStore, opPick, opExtract, opSlice, opBuildSlice, opBuild, aRow, aev, aevs, aparts, ann, unn, aPut, if_true, if_false, rget_rput, flat, flat1, Nat.blt_eq, aBuiltin, aLen, List.getElem?_toArray, List.getElem?_cons_zero, List.getElem?_cons_succ, Nat.zero_add, Option.bind_some, beq_self_eq_true, Bool.not_true, Bool.not_false, Bool.true_beq, Bool.false_beq, bneqSelf, h11, h16, BQ.load]
    rfl
  dsimp only [List.drop, List.take, List.length]
  have eσ6x6 : Ext σ6 (σ6x5.merge σ6x5.reset) := eσ6x5.trans (Ext.refl _).merge
  generalize σ6x5.merge σ6x5.reset = σ6x6 at eσ6x6
  refine Lg_fnG (vs := [.agg #[.slice (some ⟨lb, 0, none⟩) L.length cap], .slice ub u.length uc, .slice wb w.length wc]) (by simp +decide only [aWanted, List.getElem?_toArray, List.getElem?_cons_zero, List.getElem?_cons_succ, Option.bind_some, rget_rput, if_true, if_false]) (by simp +decide only [aevs, aev, aResults, rget_rput, if_true, if_false]) (by decide) (by kernel_rfl) (C.mono (lasso_prog (RS.shown RRow.shown (LS.ext RRow.keeps (Ext.hid (eσ6x6.trans (Ext.reset σ6x6))))) hzG (RS.shown RArc.shown (HU.ext RArc.keeps (Ext.hid (eσ6x6.trans (Ext.reset σ6x6))))) (by omega) (RS.shown RArc.shown (HW.ext RArc.keeps (Ext.hid (eσ6x6.trans (Ext.reset σ6x6))))) (by omega)) ?_)
  rintro v s1 ⟨rfl, eC⟩
  refine ⟨eC.quiet, ?_⟩
  have eσ6x7 : Ext σ6 (σ6x6.merge s1) := eσ6x6.trans eC.merge
  generalize σ6x6.merge s1 = σ6x7 at eσ6x7
  refine Lg_loadG (b := b11) (off := 0) (v := .agg #[.slice (some ⟨lb, 0, none⟩) L.length cap]) (by simp +decide only [aWanted, List.getElem?_toArray, List.getElem?_cons_zero, List.getElem?_cons_succ, Option.bind_some, rget_rput, if_true, if_false]) (by simp +decide only [aevs, aev, aResults, rget_rput, if_true, if_false, h11]) (BX.ext (eσ6x7.trans (Ext.reset σ6x7))).load (sv_agg (eσ6x7.lt GN.lt)) (eσ6x7.lt BX.lt) (by simp [memb]) (by decide) ?_
  have eσ6x8 : Ext σ6 (σ6x7.merge σ6x7.reset) := eσ6x7.trans (Ext.refl _).merge
  generalize σ6x7.merge σ6x7.reset = σ6x8 at eσ6x8
  apply Lg_pre 2
  · intro callf
    simp +decide only [List.take, aQ, memb, List.any_nil, List.any_cons, Bool.true_or, Bool.or_false, Bool.and_true, Bool.or_true, Bool.false_or, Bool.true_and, reset_merge, reset_reset, reset_next, reset_low, merge_next, merge_idem, new_low, ble_self, aOps, rinit, aWanted, ↓bite_eq, ↓reduceIte, aStep_eq, aStepOld, aOp, opBox, opBin, opUn, opCall, opIndexAddr, opFieldAddr, opLoad, opStore, opPick, opExtract, opSlice, opBuildSlice, opBuild, aRow, aev, aevs, aparts, ann, unn, aPut, if_true, if_false, rget_rput, flat, flat1, Nat.blt_eq, aBuiltin, aLen, List.getElem?_toArray, List.getElem?_cons_zero, List.getElem?_cons_succ, Nat.zero_add, Option.bind_some, beq_self_eq_true, Bool.not_true, Bool.not_false, Bool.true_beq, Bool.false_beq, h16]
    rfl
  dsimp only [List.drop, List.take, List.length]
  have eσ6x9 : Ext σ6 (σ6x8.merge σ6x8.reset) := eσ6x8.trans (Ext.refl _).merge
  generalize σ6x8.merge σ6x8.reset = σ6x9 at eσ6x9
  refine Lg_fnG (vs := [.agg #[.slice (some ⟨lb, 0, none⟩) L.length cap], .slice ub u.length uc, .slice wb w.length wc]) (by simp +decide only [aWanted, List.getElem?_toArray, List.getElem?_cons_zero, List.getElem?_cons_succ, Option.bind_some, rget_rput, if_true, if_false]) (by simp +decide only [aevs, aev, aResults, rget_rput, if_true, if_false]) (by decide) (by kernel_rfl) (C.mono (lasso_ref (RS.shown RRow.shown (LS.ext RRow.keeps (Ext.hid (eσ6x9.trans (Ext.reset σ6x9))))) hzG (RS.shown RArc.shown (HU.ext RArc.keeps (Ext.hid (eσ6x9.trans (Ext.reset σ6x9))))) (by omega) (RS.shown RArc.shown (HW.ext RArc.keeps (Ext.hid (eσ6x9.trans (Ext.reset σ6x9))))) (by omega)) ?_)
  rintro v s1 ⟨rfl, eC⟩
  refine ⟨eC.quiet, ?_⟩
  have eσ6x10 : Ext σ6 (σ6x9.merge s1) := eσ6x9.trans eC.merge
  generalize σ6x9.merge s1 = σ6x10 at eσ6x10
  have BQ := BX.ext (eσ6x10.trans (Ext.reset σ6x10))
  apply Lg_pre 6
  · intro callf
    simp +decide only [List.take, aQ, memb, List.any_nil, List.any_cons, Bool.true_or, Bool.or_false, Bool.and_true, Bool.or_true, Bool.false_or, Bool.true_and, reset_merge, reset_reset, reset_next, reset_low, merge_next, merge_idem, new_low, ble_self, aOps, rinit, aWanted, ↓bite_eq, ↓reduceIte, aStep_eq, aStepOld, aOp, opBox, opBin, opUn, opCall, opIndexAddr, opFieldAddr, opLoad, opStore, opPick, opExtract, opSlice, opBuildSlice, opBuild, aRow, aev, aevs, aparts, ann, unn, aPut, if_true, if_false, rget_rput, flat, flat1, Nat.blt_eq, aBuiltin, aLen, List.getElem?_toArray, List.getElem?_cons_zero, List.getElem?_cons_succ, Nat.zero_add, Option.bind_some, beq_self_eq_true, Bool.not_true, Bool.not_false, Bool.true_beq, Bool.false_beq, bneqSelf, h11, h13, h16, BQ.load]
    rfl
  dsimp only [List.drop, List.take, List.length]
  have eσ6x11 : Ext σ6 (σ6x10.merge σ6x10.reset) := eσ6x10.trans (Ext.refl _).merge
  generalize σ6x10.merge σ6x10.reset = σ6x11 at eσ6x11
  refine Lg_fnG (vs := [.agg #[.slice (some ⟨lb, 0, none⟩) L.length cap], .slice ub u.length uc, .slice qb fq.length qc]) (by simp +decide only [aWanted, List.getElem?_toArray, List.getElem?_cons_zero, List.getElem?_cons_succ, Option.bind_some, rget_rput, if_true, if_false]) (by simp +decide only [aevs, aev, aResults, rget_rput, if_true, if_false]) (by decide) (by kernel_rfl) (C.mono (lasso_prog (RS.shown RRow.shown (LS.ext RRow.keeps (Ext.hid (eσ6x11.trans (Ext.reset σ6x11))))) hzG (RS.shown RArc.shown (HU.ext RArc.keeps (Ext.hid (eσ6x11.trans (Ext.reset σ6x11))))) (by omega) (RS.shown RArc.shown (HQ.ext RArc.keeps (Ext.hid (eσ6x11.trans (Ext.reset σ6x11))))) (by omega)) ?_)
  rintro v s1 ⟨rfl, eC⟩
  refine ⟨eC.quiet, ?_⟩
  have eσ6x12 : Ext σ6 (σ6x11.merge s1) := eσ6x11.trans eC.merge
  generalize σ6x11.merge s1 = σ6x12 at eσ6x12
  refine Lg_loadG (b := b11) (off := 0) (v := .agg #[.slice (some ⟨lb, 0, none⟩) L.length cap]) (by simp +decide only [aWanted, List.getElem?_toArray, List.getElem?_cons_zero, List.getElem?_cons_succ, Option.bind_some, rget_rput, if_true, if_false]) (by simp +decide only [aevs, aev, aResults, rget_rput, if_true, if_false, h11]) (BX.ext (eσ6x12.trans (Ext.reset σ6x12))).load (sv_agg (eσ6x12.lt GN.lt)) (eσ6x12.lt BX.lt) (by simp [memb]) (by decide) ?_
  have eσ6x13 : Ext σ6 (σ6x12.merge σ6x12.reset) := eσ6x12.trans (Ext.refl _).merge
  generalize σ6x12.merge σ6x12.reset = σ6x13 at eσ6x13
  apply Lg_pre 2
  · intro callf
    simp +decide only [List.take, aQ, memb, List.any_nil, List.any_cons, Bool.true_or, Bool.or_false, Bool.and_true, Bool.or_true, Bool.false_or, Bool.true_and, reset_merge, reset_reset, reset_next, reset_low, merge_next, merge_idem, new_low, ble_self, aOps, rinit, aWanted, ↓bite_eq, ↓reduceIte, aStep_eq, aStepOld, aOp, opBox, opBin, opUn, opCall, opIndexAddr, opFieldAddr, opLoad, opStore, opPick, opExtract, opSlice, opBuildSlice, opBuild, aRow, aev, aevs, aparts, ann, unn, aPut, if_true, if_false, rget_rput, flat, flat1, Nat.blt_eq, aBuiltin, aLen, List.getElem?_toArray, List.getElem?_cons_zero, List.getElem?_cons_succ, Nat.zero_add, Option.bind_some, beq_self_eq_true, Bool.not_true, Bool.not_false, Bool.true_beq, Bool.false_beq, h13, h16]
    rfl
  dsimp only [List.drop, List.take, List.length]
  have eσ6x14 : Ext σ6 (σ6x13.merge σ6x13.reset) := eσ6x13.trans (Ext.refl _).merge
  generalize σ6x13.merge σ6x13.reset = σ6x14 at eσ6x14
  refine Lg_fnG (vs := [.agg #[.slice (some ⟨lb, 0, none⟩) L.length cap], .slice ub u.length uc, .slice qb fq.length qc]) (by simp +decide only [aWanted, List.getElem?_toArray, List.getElem?_cons_zero, List.getElem?_cons_succ, Option.bind_some, rget_rput, if_true, if_false]) (by simp +decide only [aevs, aev, aResults, rget_rput, if_true, if_false]) (by decide) (by kernel_rfl) (C.mono (lasso_ref (RS.shown RRow.shown (LS.ext RRow.keeps (Ext.hid (eσ6x14.trans (Ext.reset σ6x14))))) hzG (RS.shown RArc.shown (HU.ext RArc.keeps (Ext.hid (eσ6x14.trans (Ext.reset σ6x14))))) (by omega) (RS.shown RArc.shown (HQ.ext RArc.keeps (Ext.hid (eσ6x14.trans (Ext.reset σ6x14))))) (by omega)) ?_)
  rintro v s1 ⟨rfl, eC⟩
  refine ⟨eC.quiet, ?_⟩
  have eσ6x15 : Ext σ6 (σ6x14.merge s1) := eσ6x14.trans eC.merge
  generalize σ6x14.merge s1 = σ6x15 at eσ6x15
  apply Lg_all
  · intro callf
    simp +decide only [aQ, memb, List.any_nil, List.any_cons, Bool.true_or, Bool.or_false, Bool.and_true, Bool.or_true, Bool.false_or, Bool.true_and, reset_merge, reset_reset, reset_next, reset_low, merge_next, merge_idem, new_low, ble_self, aOps, rinit, aWanted, ↓bite_eq, ↓reduceIte, aStep_eq, aStepOld, aOp, opBox, opBin, opUn, opCall, opIndexAddr, opFieldAddr, opLoad, opStore, opPick, opExtract, opSlice, opBuildSlice, opBuild, aRow, aev, aevs, aparts, ann, unn, aPut, if_true, if_false, rget_rput, flat, flat1, Nat.blt_eq, aBuiltin, aLen, List.getElem?_toArray, List.getElem?_cons_zero, List.getElem?_cons_succ, Nat.zero_add, Option.bind_some, beq_self_eq_true, Bool.not_true, Bool.not_false, Bool.true_beq, Bool.false_beq, bneqSelf]
    rfl
  have eσ6x16 : Ext σ6 (σ6x15.merge σ6x15.reset) := eσ6x15.trans (Ext.refl _).merge
  generalize σ6x15.merge σ6x15.reset = σ6x16 at eσ6x16
  have TP := TP.ext eσ6x16
  have EX := EX.trans (ExtX.of eσ6x16)
  have LS := LS.ext RRow.keeps (ExtX.of (X := [tb]) eσ6x16).hid
  have BX := BX.extX (ExtX.of (X := [tb]) eσ6x16) (by simp; omega)
  have BA := BA.extX (ExtX.of (X := [tb]) eσ6x16) (by simp; omega)
  have hlb6 := eσ6x16.lt hlb6
  clear HP HQ HU HW
  generalize σ6x16 = σ7 at TP EX LS BX BA hlb6
  repeat apply W_assoc
  refine W_if (b := false) ?_ ?_ ?_
  · simp +decide only [aevs, aev, aResults, rget_rput, if_true, if_false]
  · intro h; cases h
  intro _
  apply W_skipq
  have eA := ext_hide (E0.trans ET) E0n EX
  have HA := ha.ext RArc.keeps eA
  have HB := hb.ext RArc.keeps eA
  by_cases hA20 : la.length < 20
  rotate_left
  · have dA : decide ((la.length : Int) < 20) = false := decide_eq_false (by omega)
    repeat apply W_assoc
    refine W_drw [13] [b11] (by kernel_rfl) (by kernel_rfl) ?_
    apply Lg_all
    · intro callf
      simp +decide only [aQ, memb, List.any_nil, List.any_cons, Bool.true_or, Bool.or_false, Bool.and_true, Bool.or_true, Bool.false_or, Bool.true_and, reset_merge, reset_reset, reset_next, reset_low, merge_next, merge_idem, new_low, ble_self, aOps, rinit, aWanted, ↓bite_eq, ↓reduceIte, aStep_eq, aStepOld, aOp, opBox, opBin, opUn, opCall, opIndexAddr, opFieldAddr, opLoad, opStore, opPick, opExtract, opSlice, opBuildSlice, opBuild, aRow, aev, aevs, aparts, ann, unn, aPut, if_true, if_false, rget_rput, flat, flat1, Nat.blt_eq, aBuiltin, aLen, List.getElem?_toArray, List.getElem?_cons_zero, List.getElem?_cons_succ, Nat.zero_add, Option.bind_some, beq_self_eq_true, Bool.not_true, Bool.not_false, Bool.true_beq, Bool.false_beq, h2, h3, dA, Try.underlying22, goInt, aBin, aInts, aInt_eq]
      rfl
    have eσ7x1 : Ext σ7 (σ7.merge σ7.reset) := (Ext.refl σ7).trans (Ext.refl _).merge
    generalize σ7.merge σ7.reset = σ7x1 at eσ7x1
    have TP := TP.ext eσ7x1
    have EX := EX.trans (ExtX.of eσ7x1)
    generalize σ7x1 = σ8 at TP EX
    refine W_tail ?_
    repeat apply W_assoc
    refine W_if (b := false) ?_ ?_ ?_
    · simp +decide only [aevs, aev, aResults, rget_rput, if_true, if_false]
    · intro h; cases h
    intro _
    apply W_skipq
    refine W_skip ⟨fun _ => ?_, fun h => absurd rfl h⟩
    refine W_tail ?_
    have w1 : IntKind.i64.wrap ((i : Int) + 1) = ((i + 1 : Nat) : Int) := by rw [wrap64_id _ (by omega) (by omega)]; omega
    repeat apply W_assoc
    apply W_reg
    · intro callf
      simp +decide only [aOps, rinit, aWanted, ↓bite_eq, ↓reduceIte, aStep_eq, aStepOld, aOp, opBox, opBin, opUn, opCall, opIndexAddr, opFieldAddr, opLoad, opStore, opPick, opExtract, opSlice, opBuildSlice, opBuild, aRow, aev, aevs, aparts, ann, unn, aPut, if_true, if_false, rget_rput, flat, flat1, Nat.blt_eq, aBuiltin, aLen, List.getElem?_toArray, List.getElem?_cons_zero, List.getElem?_cons_succ, Nat.zero_add, Option.bind_some, beq_self_eq_true, Bool.not_true, Bool.not_false, Bool.true_beq, Bool.false_beq, h10, w1, aBin, aInts, aInt_eq]
      rfl
    refine W_skip ⟨fun _ => ⟨i + 1, ?_, ?_⟩, fun h => (nomatch h), fun h => absurd rfl h⟩
    · omega
    · refine ⟨by omega, ?_, ?_, ?_, ?_, ?_, TP.up (by omega), EX⟩ <;> simp +decide only [rget_rput, if_true, if_false, h2, h3, h5, h9, h10]
  have dA : decide ((la.length : Int) < 20) = true := decide_eq_true (by omega)
  by_cases hB20 : lb0.length < 20
  rotate_left
  · have dB : decide ((lb0.length : Int) < 20) = false := decide_eq_false (by omega)
    repeat apply W_assoc
    refine W_drw [13] [b11] (by kernel_rfl) (by kernel_rfl) ?_
    apply Lg_all
    · intro callf
      simp +decide only [aQ, memb, List.any_nil, List.any_cons, Bool.true_or, Bool.or_false, Bool.and_true, Bool.or_true, Bool.false_or, Bool.true_and, reset_merge, reset_reset, reset_next, reset_low, merge_next, merge_idem, new_low, ble_self, aOps, rinit, aWanted, ↓bite_eq, ↓reduceIte, aStep_eq, aStepOld, aOp, opBox, opBin, opUn, opCall, opIndexAddr, opFieldAddr, opLoad, opStore, opPick, opExtract, opSlice, opBuildSlice, opBuild, aRow, aev, aevs, aparts, ann, unn, aPut, if_true, if_false, rget_rput, flat, flat1, Nat.blt_eq, aBuiltin, aLen, List.getElem?_toArray, List.getElem?_cons_zero, List.getElem?_cons_succ, Nat.zero_add, Option.bind_some, beq_self_eq_true, Bool.not_true, Bool.not_false, Bool.true_beq, Bool.false_beq, h2, h3, dA, Try.underlying22, goInt, aBin, aInts, aInt_eq, dB]
      rfl
    have eσ7x1 : Ext σ7 (σ7.merge σ7.reset) := (Ext.refl σ7).trans (Ext.refl _).merge
    generalize σ7.merge σ7.reset = σ7x1 at eσ7x1
    have TP := TP.ext eσ7x1
    have EX := EX.trans (ExtX.of eσ7x1)
    generalize σ7x1 = σ8 at TP EX
    refine W_tail ?_
    repeat apply W_assoc
    refine W_if (b := false) ?_ ?_ ?_
    · simp +decide only [aevs, aev, aResults, rget_rput, if_true, if_false]
    · intro h; cases h
    intro _
    apply W_skipq
    refine W_skip ⟨fun _ => ?_, fun h => absurd rfl h⟩
    refine W_tail ?_
    have w1 : IntKind.i64.wrap ((i : Int) + 1) = ((i + 1 : Nat) : Int) := by rw [wrap64_id _ (by omega) (by omega)]; omega
    repeat apply W_assoc
    apply W_reg
    · intro callf
      simp +decide only [aOps, rinit, aWanted, ↓bite_eq, ↓reduceIte, aStep_eq, aStepOld, aOp, opBox, opBin, opUn, opCall, opIndexAddr, opFieldAddr, opLoad, opStore, opPick, opExtract, opSlice, opBuildSlice, opBuild, aRow, aev, aevs, aparts, ann, unn, aPut, if_true, if_false, rget_rput, flat, flat1, Nat.blt_eq, aBuiltin, aLen, List.getElem?_toArray, List.getElem?_cons_zero, List.getElem?_cons_succ, Nat.zero_add, Option.bind_some, beq_self_eq_true, Bool.not_true, Bool.not_false, Bool.true_beq, Bool.false_beq, h10, w1, aBin, aInts, aInt_eq]
      rfl
    refine W_skip ⟨fun _ => ⟨i + 1, ?_, ?_⟩, fun h => (nomatch h), fun h => absurd rfl h⟩
    · omega
    · refine ⟨by omega, ?_, ?_, ?_, ?_, ?_, TP.up (by omega), EX⟩ <;> simp +decide only [rget_rput, if_true, if_false, h2, h3, h5, h9, h10]
  have dB : decide ((lb0.length : Int) < 20) = true := decide_eq_true (by omega)
  repeat apply W_assoc
  refine W_drw [13] [b11] (by kernel_rfl) (by kernel_rfl) ?_
  have BQ := BX.ext ((Ext.refl σ7).trans (Ext.reset σ7))
  apply Lg_pre 12
  · intro callf
    simp +decide only [List.take, aQ, memb, List.any_nil, List.any_cons, Bool.true_or, Bool.or_false, Bool.and_true, Bool.or_true, Bool.false_or, Bool.true_and, reset_merge, reset_reset, reset_next, reset_low, merge_next, merge_idem, new_low, ble_self, aOps, rinit, aWanted, ↓bite_eq, ↓reduceIte, aStep_eq, aStepOld, aOp, opBox, opBin, opUn, opCall, opIndexAddr, opFieldAddr, opLoad, opStore, opPick, opExtract, opSlice, opBuildSlice, opBuild, aRow, aev, aevs, aparts, ann, unn, aPut, if_true, if_false, rget_rput, flat, flat1, Nat.blt_eq, aBuiltin, aLen, List.getElem?_toArray, List.getElem?_cons_zero, List.getElem?_cons_succ, Nat.zero_add, Option.bind_some, beq_self_eq_true, Bool.not_true, Bool.not_false, Bool.true_beq, Bool.false_beq, h2, h3, dA, Try.underlying22, goInt, aBin, aInts, aInt_eq, dB, h11, BQ.load]
    rfl
  dsimp only [List.drop, List.take, List.length]
  have eσ7x1 : Ext σ7 (σ7.merge σ7.reset) := (Ext.refl σ7).trans (Ext.refl _).merge
  generalize σ7.merge σ7.reset = σ7x1 at eσ7x1
  refine Lg_fnG (vs := [.agg #[.slice (some ⟨lb, 0, none⟩) L.length cap], .slice ab la.length ac, .slice bb lb0.length bc]) (by simp +decide only [aWanted, List.getElem?_toArray, List.getElem?_cons_zero, List.getElem?_cons_succ, Option.bind_some, rget_rput, if_true, if_false]) (by simp +decide only [aevs, aev, aResults, rget_rput, if_true, if_false]) (by decide) (by kernel_rfl) (C.mono (lasso_prog (RS.shown RRow.shown (LS.ext RRow.keeps (Ext.hid (eσ7x1.trans (Ext.reset σ7x1))))) hzG (RS.shown RArc.shown (HA.ext RArc.keeps (Ext.hid (eσ7x1.trans (Ext.reset σ7x1))))) hal (RS.shown RArc.shown (HB.ext RArc.keeps (Ext.hid (eσ7x1.trans (Ext.reset σ7x1))))) hbl) ?_)
  rintro v s1 ⟨rfl, eC⟩
  refine ⟨eC.quiet, ?_⟩
  have eσ7x2 : Ext σ7 (σ7x1.merge s1) := eσ7x1.trans eC.merge
  generalize σ7x1.merge s1 = σ7x2 at eσ7x2
  refine Lg_loadG (b := b11) (off := 0) (v := .agg #[.slice (some ⟨lb, 0, none⟩) L.length cap]) (by simp +decide only [aWanted, List.getElem?_toArray, List.getElem?_cons_zero, List.getElem?_cons_succ, Option.bind_some, rget_rput, if_true, if_false]) (by simp +decide only [aevs, aev, aResults, rget_rput, if_true, if_false, h11]) (BX.ext (eσ7x2.trans (Ext.reset σ7x2))).load (sv_agg (eσ7x2.lt hlb6)) (eσ7x2.lt BX.lt) (by simp [memb]) (by decide) ?_
  have eσ7x3 : Ext σ7 (σ7x2.merge σ7x2.reset) := eσ7x2.trans (Ext.refl _).merge
  generalize σ7x2.merge σ7x2.reset = σ7x3 at eσ7x3
  apply Lg_pre 2
  · intro callf
    simp +decide only [List.take, aQ, memb, List.any_nil, List.any_cons, Bool.true_or, Bool.or_false, Bool.and_true, Bool.or_true, Bool.false_or, Bool.true_and, reset_merge, reset_reset, reset_next, reset_low, merge_next, merge_idem, new_low, ble_self, aOps, rinit, aWanted, ↓bite_eq, ↓reduceIte, aStep_eq, aStepOld, aOp, opBox, opBin, opUn, opCall, opIndexAddr, opFieldAddr, opLoad, opStore, opPick, opExtract, opSlice, opBuildSlice, opBuild, aRow, aev, aevs, aparts, ann, unn, aPut, if_true, if_false, rget_rput, flat, flat1, Nat.blt_eq, aBuiltin, aLen, List.getElem?_toArray, List.getElem?_cons_zero, List.getElem?_cons_succ, Nat.zero_add, Option.bind_some, beq_self_eq_true, Bool.not_true, Bool.not_false, Bool.true_beq, Bool.false_beq, h2, h3]
    rfl
  dsimp only [List.drop, List.take, List.length]
  have eσ7x4 : Ext σ7 (σ7x3.merge σ7x3.reset) := eσ7x3.trans (Ext.refl _).merge
  generalize σ7x3.merge σ7x3.reset = σ7x4 at eσ7x4
  refine Lg_fnG (vs := [.agg #[.slice (some ⟨lb, 0, none⟩) L.length cap], .slice ab la.length ac, .slice bb lb0.length bc]) (by simp +decide only [aWanted, List.getElem?_toArray, List.getElem?_cons_zero, List.getElem?_cons_succ, Option.bind_some, rget_rput, if_true, if_false]) (by simp +decide only [aevs, aev, aResults, rget_rput, if_true, if_false]) (by decide) (by kernel_rfl) (C.mono (lasso_ref (RS.shown RRow.shown (LS.ext RRow.keeps (Ext.hid (eσ7x4.trans (Ext.reset σ7x4))))) hzG (RS.shown RArc.shown (HA.ext RArc.keeps (Ext.hid (eσ7x4.trans (Ext.reset σ7x4))))) hal (RS.shown RArc.shown (HB.ext RArc.keeps (Ext.hid (eσ7x4.trans (Ext.reset σ7x4))))) hbl) ?_)
  rintro v s1 ⟨rfl, eC⟩
  refine ⟨eC.quiet, ?_⟩
  have eσ7x5 : Ext σ7 (σ7x4.merge s1) := eσ7x4.trans eC.merge
  generalize σ7x4.merge s1 = σ7x5 at eσ7x5
  apply Lg_all
  · intro callf
    simp +decide only [aQ, memb, List.any_nil, List.any_cons, Bool.true_or, Bool.or_false, Bool.and_true, Bool.or_true, Bool.false_or, Bool.true_and, reset_merge, reset_reset, reset_next, reset_low, merge_next, merge_idem, new_low, ble_self, aOps, rinit, aWanted, ↓bite_eq, ↓reduceIte, aStep_eq, aStepOld, aOp, opBox, opBin, opUn, opCall, opIndexAddr, opFieldAddr, opLoad, opStore, opPick, opExtract, opSlice, opBuildSlice, opBuild, aRow, aev, aevs, aparts, ann, unn, aPut, if_true, if_false, rget_rput, flat, flat1, Nat.blt_eq, aBuiltin, aLen, List.getElem?_toArray, List.getElem?_cons_zero, List.getElem?_cons_succ, Nat.zero_add, Option.bind_some, beq_self_eq_true, Bool.not_true, Bool.not_false, Bool.true_beq, Bool.false_beq, bneqSelf]
    rfl
  have eσ7x6 : Ext σ7 (σ7x5.merge σ7x5.reset) := eσ7x5.trans (Ext.refl _).merge
  generalize σ7x5.merge σ7x5.reset = σ7x6 at eσ7x6
  have TP := TP.ext eσ7x6
  have EX := EX.trans (ExtX.of eσ7x6)
  generalize σ7x6 = σ8 at TP EX
  refine W_tail ?_
  repeat apply W_assoc
  refine W_if (b := false) ?_ ?_ ?_
  · simp +decide only [aevs, aev, aResults, rget_rput, if_true, if_false]
  · intro h; cases h
  intro _
  apply W_skipq
  refine W_skip ⟨fun _ => ?_, fun h => absurd rfl h⟩
  refine W_tail ?_
  have w1 : IntKind.i64.wrap ((i : Int) + 1) = ((i + 1 : Nat) : Int) := by rw [wrap64_id _ (by omega) (by omega)]; omega
  repeat apply W_assoc
  apply W_reg
  · intro callf
    simp +decide only [aOps, rinit, aWanted, ↓bite_eq, ↓reduceIte, aStep_eq, aStepOld, aOp, opBox, opBin, opUn, opCall, opIndexAddr, opFieldAddr, opLoad, opStore, opPick, opExtract, opSlice, opBuildSlice, opBuild, aRow, aev, aevs, aparts, ann, unn, aPut, if_true, if_false, rget_rput, flat, flat1, Nat.blt_eq, aBuiltin, aLen, List.getElem?_toArray, List.getElem?_cons_zero, List.getElem?_cons_succ, Nat.zero_add, Option.bind_some, beq_self_eq_true, Bool.not_true, Bool.not_false, Bool.true_beq, Bool.false_beq, h10, w1, aBin, aInts, aInt_eq]
    rfl
  refine W_skip ⟨fun _ => ⟨i + 1, ?_, ?_⟩, fun h => (nomatch h), fun h => absurd rfl h⟩
  · omega
  · refine ⟨by omega, ?_, ?_, ?_, ?_, ?_, TP.up (by omega), EX⟩ <;> simp +decide only [rget_rput, if_true, if_false, h2, h3, h5, h9, h10]

end Go.Proofs.Ytbknckiapcafdaa.Nest
