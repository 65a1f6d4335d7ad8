/- The program's Find (function 7). -/
import Derived.Test.YtbknckiapcafdaaNestZG
set_option linter.unusedSimpArgs false
set_option linter.unusedVariables false
namespace Go.Proofs.Ytbknckiapcafdaa.Nest
open Abs Abs2

theorem Stk.sv {lo k : Nat} {σ : AS} {v : Value} {cs : List Value} (h : Stk lo 53 2 σ v k cs) {n : Nat} (hn : σ.next ≤ n) : (vsc n 9 v && veq 9 v v) = true := by
  obtain ⟨_, _, ⟨rfl, _⟩ | ⟨b, m, vals, rfl, _, _, hb, _⟩⟩ := h
  · exact sv_nil
  · exact sv_slice (by omega)

theorem valid_asc {L : Lts} (h : validB L = true) : ∀ row ∈ L, asc row = true := by
  unfold validB at h
  rw [Bool.and_eq_true] at h
  exact List.all_eq_true.1 h.2
theorem loose_ev {L : Lts} (h : looseB L = true) : ∀ row ∈ L, ∀ a ∈ row, 0 ≤ a.1 := fun row hr a ha => by
  unfold looseB at h
  simp only [Bool.and_eq_true] at h
  have h1 := List.all_eq_true.1 (List.all_eq_true.1 h.2 row hr) a ha
  unfold okA at h1
  simp only [Bool.and_eq_true, decide_eq_true_eq] at h1
  exact h1.1.1.1

theorem rs_last {σ σ' : AS} {v : Value} {l m : List Arc} (h : RS 2 RArc σ v l) (e : Ext σ σ') (hl : l = m) : RS 2 RArc σ' v m := by
  subst hl; exact h.ext RArc.keeps e

set_option maxHeartbeats 16000000 in
theorem find_prog {σ : AS} {s : Value} {L : Lts} (hs : RS 1 RRow σ s L) (hz : Small L) (hN : L.length ≤ 400) : C Try.prog Kn 0 7 [.agg #[s]] σ fun v σ' =>
    (∃ pv qv, v = .tuple #[pv, qv, .bool (findF L).2.2.1, .int .i64 (findF L).2.2.2] ∧ RS 2 RArc σ' pv (findF L).1 ∧ RS 2 RArc σ' qv (findF L).2.1 ∧ (findF L).1.length ≤ 2000 ∧ (findF L).2.1.length ≤ 1001) ∧ Ext σ σ' := by
  obtain ⟨sb, sc, rfl, -⟩ := id hs
  refine C_of (kn (by decide)) Try.func7 rfl (Nat.le_of_ble_eq_true rfl) ?_
  show W _ _ _ 33 _ _ _ _
  unfold Try.f7
  dsimp only
  have AT := LtsAt.new hs
  have e0 := Ext.new σ ⟨1, 30, 0, (Value.agg #[.slice sb L.length sc]).cells.toList, []⟩
  repeat apply W_assoc
  apply W_reg
  · intro callf
    simp +decide only [aOps, rinit, aWanted, ↓bite_eq, ↓reduceIte, aStep_eq, aStepOld, aOp, opBox, aRow, aev, ann, aPut, rget_rput]
    rfl
  generalize hb1 : σ.next = b1 at AT
  generalize σ.new ⟨1, 30, 0, (Value.agg #[.slice sb L.length sc]).cells.toList, []⟩ = σ1 at AT e0
  repeat apply W_assoc
  apply W_regL
  apply Ls_pre 1
  · intro callf
    simp +decide only [List.take, aOps, aWanted, ↓bite_eq, ↓reduceIte, aStep_eq, aStepOld, aOp, opLoad, aev, ann, aPut, rget_rput, AT.load]
    rfl
  dsimp only [List.drop]
  refine Ls_fn (vs := [.agg #[.slice sb L.length sc]]) (by simp +decide only [aevs, aev, rget_rput, if_true, if_false]) (by decide) (C.mono (valid_prog AT.rd hz) ?_)
  rintro v σ' ⟨rfl, e1⟩
  apply Ls_all
  · intro callf
    simp +decide only [aOps, aWanted, ↓bite_eq, ↓reduceIte, aStep_eq, aStepOld, aOp, opUn, aev, ann, aPut, rget_rput, flat, flat1, not_b]
    rfl
  have AT := AT.ext e1
  have e0 := e0.trans e1
  generalize σ' = σ2 at AT e0
  cases hv : validB L with
  | false =>
    repeat apply W_assoc
    refine W_if (b := true) ?_ ?_ ?_
    · simp +decide only [aev, rget_rput, Bool.not_false, if_true, if_false]
    rotate_left
    · intro h; cases h
    intro _
    repeat apply W_assoc
    apply W_reg
    · intro callf
      simp +decide only [aOps, aWanted, ↓bite_eq, ↓reduceIte, aStep_eq, aStepOld, aOp, aev, ann, aPut, Bool.not_false]
      rfl
    refine W_retq ⟨Nat.le_refl _, [.slice none 0 0, .slice none 0 0, .bool false, .int .i64 1], ?_, ?_, e0⟩
    simp +decide only [aResults, rget_rput, if_true, if_false]
    have hf : findF L = ([], [], false, 1) := by unfold findF; rw [if_neg (by rw [hv]; decide)]
    rw [hf]
    exact ⟨_, _, rfl, ⟨none, 0, rfl, fun h => absurd rfl h⟩, ⟨none, 0, rfl, fun h => absurd rfl h⟩, Nat.zero_le _, Nat.zero_le _⟩
  | true =>
    repeat apply W_assoc
    refine W_if (b := false) ?_ ?_ ?_
    · simp +decide only [aev, rget_rput, Bool.not_true, if_true, if_false]
    · intro h; cases h
    intro _
    apply W_skipq
    have hlo := valid_loose hv
    have hpos := loose_pos hlo
    have hw := loose_wf hlo hz
    have hasc := valid_asc hv
    have hev := loose_ev hlo
    have BX : BoxAt σ2 b1 (.slice sb L.length sc) := ⟨AT.lt, AT.get⟩
    repeat apply W_assoc
    apply W_regL
    apply Ls_pre 4
    · intro callf
      simp +decide only [List.take, aOps, aWanted, ↓bite_eq, ↓reduceIte, aStep_eq, aStepOld, aOp, opCall, opFieldAddr, opLoad, aev, aevs, ann, aPut, rget_rput, aBuiltin, aLen, List.getElem?_toArray, List.getElem?_cons_zero, Bool.not_true, opFunc, fldL, AT.out, Try.underlying28, goInt]
      rfl
    dsimp only [List.drop]
    refine Ls_fn (vs := [(.func (.func 25) #[] #[.pointer (some ⟨b1, 0, none⟩)]), .int .i64 (L.length : Int)]) (by simp +decide only [aevs, aev, rget_rput, if_true, if_false]) (by decide) (C.mono (newSearch_c (σ := σ2) (b1 := b1) (N := L.length)) ?_)
    rintro v σ' ⟨xb, d, rfl, R3, hnil⟩
    apply Ls_all
    · intro callf
      simp +decide only [aOps, aWanted, ↓bite_eq, ↓reduceIte, aStep_eq, aStepOld, aOp, aev, ann, aPut, rget_rput]
      rfl
    generalize σ' = σ3 at R3
    have CC := @out_c σ2 xb b1 sc sb L AT.rd BX hw hN hasc hev L.length σ3 (initS L.length) 0 ⟨d, [], [], R3, hnil, rfl, rfl, fun e he => (nomatch he)⟩ hpos rfl rfl (by simp [initS]; exact Nat.le_trans (cnt_le _) (by simp)) (by simp [initS, hpos]) (by show 0 + L.length ≤ 900; omega)
    have hop := outerF_spec L hN L.length (initS L.length) 0 rfl (by show 0 + L.length ≤ 1000; omega)
    generalize hy : outerF L L.length (initS L.length) 0 = y at CC hop
    repeat apply W_assoc
    apply W_regL
    apply Ls_pre 1
    · intro callf
      simp +decide only [List.take, aOps, aWanted, ↓bite_eq, ↓reduceIte, aStep_eq, aStepOld, aOp, aev, ann, aPut, rget_rput]
      rfl
    dsimp only [List.drop]
    refine Ls_fn (vs := [.pointer (some ⟨xb, 0, none⟩), .int .i64 0]) (by simp +decide only [aevs, aev, rget_rput, if_true, if_false]) (by decide) (C.mono (CC) ?_)
    rintro v σ' ⟨rfl, hno, hyes⟩
    apply Ls_all
    · intro callf
      simp +decide only [aOps, aWanted, ↓bite_eq, ↓reduceIte, aStep_eq, aStepOld, aOp, aev, ann, aPut, rget_rput]
      rfl
    generalize σ' = σ4 at hno hyes
    have key : ∃ d z c, PMid σ2 σ4 xb L.length (.func (.func 25) #[] #[.pointer (some ⟨b1, 0, none⟩)]) c z d d ∧ z.stem.map (arcAt L) = (findF L).1 ∧ z.loop.map (arcAt L) = (findF L).2.1 ∧ (∀ e ∈ z.stem ++ z.loop, EOk L e) ∧ (findF L).1.length ≤ 2000 ∧ (findF L).2.1.length ≤ 1001 ∧ (findF L).2.2.1 = y.found ∧ (findF L).2.2.2 = 0 := by
      cases hyf : y.found with
      | false =>
        obtain ⟨d4, ei, ep, R4, hn4, -⟩ := hno hyf
        have hf : findF L = ([], [], false, 0) := by unfold findF; rw [if_pos hv, hy, if_neg (by rw [hyf]; decide)]
        rw [hf]
        exact ⟨d4, _, _, R4, rfl, rfl, fun e he => (nomatch he), Nat.zero_le _, Nat.zero_le _, rfl, rfl⟩
      | true =>
        obtain ⟨d4, z, c, R4, h1, h2, h3⟩ := hyes hyf
        have hf : findF L = (y.stem, y.loop, true, 0) := by unfold findF; rw [if_pos hv, hy, if_pos hyf]
        rw [hf]
        exact ⟨d4, z, c, R4, h1, h2, h3, (hop.yes hyf).1, (hop.yes hyf).2, rfl, rfl⟩
    obtain ⟨d4, z, c, R4, hz1, hz2, hz3, hl1, hl2, hfd, he0⟩ := key
    rw [← hfd]
    clear hno hyes R3
    repeat apply W_assoc
    apply W_reg
    · intro callf
      simp +decide only [aOps, aWanted, ↓bite_eq, ↓reduceIte, aStep_eq, aStepOld, aOp, aev, aevs, ann, aPut, rget_rput, opFunc]
      rfl
    have hzs : z.stem.length ≤ 10000 := by have := congrArg List.length hz1; rw [List.length_map] at this; omega
    have hzl : z.loop.length ≤ 10000 := by have := congrArg List.length hz2; rw [List.length_map] at this; omega
    have RQ := R4.ext (Ext.reset σ4)
    repeat apply W_assoc
    refine W_drw [10] [xb] (by kernel_rfl) (by kernel_rfl) ?_
    apply Lg_pre 5
    · intro callf
      simp +decide only [List.take, aQ, memb, List.any_nil, List.any_cons, Bool.or_false, Bool.true_and, reset_merge, reset_reset, reset_next, reset_low, merge_next, merge_idem, ble_self, aWanted, ↓bite_eq, ↓reduceIte, aStep_eq, aStepOld, aOp, opFieldAddr, opLoad, aev, ann, aPut, rget_rput, Nat.zero_add, opNil, fld58_8, RQ.ld8]
      rfl
    dsimp only [List.drop, List.take, List.length]
    have e5 : Ext σ4 (σ4.merge σ4.reset) := (Ext.refl _).merge
    generalize σ4.merge σ4.reset = σ5 at e5
    have R5 := R4.ext e5
    have R5Q := R5.ext (Ext.reset σ5)
    refine Lg_call (first := #[]) (captured := #[.pointer (some ⟨b1, 0, none⟩)]) (fid := 27) (vs := [d4.sv]) (by simp +decide only [aev, rget_rput, if_true, if_false]) (by simp +decide only [aevs, aev, rget_rput, if_true, if_false]) (by decide) rfl (C.mono (edges_c (BX.ext R5Q.c.ext) (AT.rd.ext RRow.keeps R5Q.c.ext) hw R5Q.c.stem hzs (fun e he => hz3 e (List.mem_append.2 (.inl he)))) ?_)
    rintro v s1 ⟨⟨RS1, -⟩, eC⟩
    refine ⟨.inl eC.quiet, ?_⟩
    have e6 := eC.merge
    have RS1 : RS 2 RArc (σ5.merge s1) v (z.stem.map (arcAt L)) := RS1
    generalize σ5.merge s1 = σ6 at e6 RS1
    have R6 := R5.ext e6
    apply Lg_pre 4
    · intro callf
      simp +decide only [List.take, aQ, memb, List.any_nil, List.any_cons, Bool.or_false, Bool.true_and, reset_merge, reset_reset, reset_next, reset_low, merge_next, merge_idem, ble_self, aWanted, ↓bite_eq, ↓reduceIte, aStep_eq, aStepOld, aOp, opFieldAddr, aev, ann, aPut, rget_rput, Nat.zero_add, opNil, fld58_9]
      rfl
    dsimp only [List.drop, List.take, List.length]
    have e7 : Ext σ6 (σ6.merge σ6.reset) := (Ext.refl _).merge
    generalize σ6.merge σ6.reset = σ7 at e7
    have R7 := R6.ext e7
    refine Lg_load (b := xb) (off := 9) (v := d4.lv) (by simp +decide only [aev, rget_rput, if_true, if_false]) (R7.ext (Ext.reset σ7)).ld9 (R7.c.loop.sv (Nat.le_refl _)) R7.c.lt (by simp [memb]) (by decide) ?_
    have e8 : Ext σ7 (σ7.merge σ7.reset) := (Ext.refl _).merge
    generalize σ7.merge σ7.reset = σ8 at e8
    have R8 := R7.ext e8
    have R8Q := R8.ext (Ext.reset σ8)
    refine Lg_call (first := #[]) (captured := #[.pointer (some ⟨b1, 0, none⟩)]) (fid := 27) (vs := [d4.lv]) (by simp +decide only [aev, rget_rput, if_true, if_false]) (by simp +decide only [aevs, aev, rget_rput, if_true, if_false]) (by decide) rfl (C.mono (edges_c (BX.ext R8Q.c.ext) (AT.rd.ext RRow.keeps R8Q.c.ext) hw R8Q.c.loop hzl (fun e he => hz3 e (List.mem_append.2 (.inr he)))) ?_)
    rintro v2 s1 ⟨⟨RS2, -⟩, eC⟩
    refine ⟨.inl eC.quiet, ?_⟩
    have e9 := eC.merge
    have RS2 : RS 2 RArc (σ8.merge s1) v2 (z.loop.map (arcAt L)) := RS2
    generalize σ8.merge s1 = σ9 at e9 RS2
    have R9 := R8.ext e9
    apply Lg_all
    · intro callf
      simp +decide only [aQ, memb, List.any_nil, List.any_cons, Bool.or_false, Bool.true_and, reset_merge, reset_reset, reset_next, reset_low, merge_next, merge_idem, ble_self, aWanted, ↓bite_eq, ↓reduceIte, aStep_eq, aStepOld, aOp, aev, ann, aPut, rget_rput, Nat.zero_add]
      rfl
    have e10 : Ext σ9 (σ9.merge σ9.reset) := (Ext.refl _).merge
    generalize σ9.merge σ9.reset = σ10 at e10
    refine W_ret ⟨Nat.le_refl _, [v, v2, .bool (findF L).2.2.1, .int .i64 0], ?_, ⟨v, v2, by rw [he0]; rfl, rs_last RS1 (((e7.trans e8).trans e9).trans e10) hz1, rs_last RS2 e10 hz2, hl1, hl2⟩, e0.trans (R9.ext e10).c.ext⟩
    simp +decide only [aResults, rget_rput, if_true, if_false]

end Go.Proofs.Ytbknckiapcafdaa.Nest
