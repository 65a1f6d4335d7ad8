/- The reference's Find (function 17). -/
import Derived.Test.YtbknckiapcafdaaNestV
set_option linter.unusedSimpArgs false
set_option linter.unusedVariables false
namespace Go.Proofs.Ytbknckiapcafdaa.Nest
open Abs Abs2

theorem info4 : ∃ inf, Try.prog.info? 4 = some inf ∧ inf.size = 1 ∧ inf.bytes = 1 ∧ inf.zero = some (.bool false) :=
  ⟨(Try.prog.info? 4).get!, by kernel_rfl, by kernel_rfl, by kernel_rfl, by kernel_rfl⟩

theorem make43 {σ : AS} {N : Nat} (h : N ≤ 1000000) : aMakeSlice Try.prog σ 43 (.int .i64 (N : Int)) (.int .i64 (N : Int)) = some (.slice (some ⟨σ.next, 0, none⟩) N N, σ.new ⟨1, 4, 0, List.replicate N (.bool false), []⟩) := by
  obtain ⟨inf, h1, h2, h3, h4⟩ := info4
  unfold aMakeSlice
  simp only [Try.underlying43, h1, h2, h3, h4]
  rw [if_pos ⟨by omega, by omega, by omega, by omega, rfl, by decide⟩]
  have e : ((Array.range ((N : Int).toNat * 1)).map fun i => (Value.bool false).cells[i % (Value.bool false).cells.size]!).toList = List.replicate N (.bool false) := by
    rw [Nat.mul_one]
    exact map_range_const (fun v : Value => v) (.bool false) (fun i => (Value.bool false).cells[i % (Value.bool false).cells.size]!) (fun i => by
      have : i % (Value.bool false).cells.size = 0 := Nat.mod_one i
      rw [this]; rfl) N
  rw [e]
  rfl

theorem build66 {s : Value} {a b : Option Addr} {n m c e : Nat} : aBuild Try.prog 66 [(0, .agg #[s]), (1, .slice a n c), (2, .slice b m e)] = some (.agg #[s, .slice a n c, .slice b m e, .slice none 0 0, .slice none 0 0, .slice none 0 0, .slice none 0 0, .bool false]) := by kernel_rfl

def initS (N : Nat) : SS := ⟨List.replicate N false, List.replicate N false, [], [], [], [], false⟩

/-- What the reference finds. -/
def findF (L : Lts) : List Arc × List Arc × Bool × Int :=
  if validB L = true then if (outerF L L.length (initS L.length) 0).found = true then ((outerF L L.length (initS L.length) 0).stem, (outerF L L.length (initS L.length) 0).loop, true, 0) else ([], [], false, 0)
  else ([], [], false, 1)

set_option maxHeartbeats 16000000 in
theorem find_ref {σ : AS} {s : Value} {L : Lts} (hs : RS 1 RRow σ s L) (hz : Small L) (hN : L.length ≤ 400) : C Try.prog Kn 0 17 [.agg #[s]] σ fun v σ' =>
    (∃ pv qv, v = .tuple #[pv, qv, .bool (findF L).2.2.1, .int .i64 (findF L).2.2.2] ∧ RS 2 RArc σ' pv (findF L).1 ∧ RS 2 RArc σ' qv (findF L).2.1 ∧ (findF L).1.length ≤ 2000 ∧ (findF L).2.1.length ≤ 1001) ∧ Ext σ σ' := by
  obtain ⟨sb, sc, rfl, -⟩ := id hs
  refine C_of (kn (by decide)) Try.func17 rfl (Nat.le_of_ble_eq_true rfl) ?_
  show W _ _ _ 36 _ _ _ _
  unfold Try.f17
  dsimp only
  have AT := LtsAt.new hs
  have e0 := Ext.new σ ⟨1, 30, 0, (Value.agg #[.slice sb L.length sc]).cells.toList, []⟩
  repeat apply W_assoc
  apply W_reg
  · intro callf
    simp +decide only [aOps, rinit, aWanted, ↓bite_eq, ↓reduceIte, aStep_eq, aStepOld, aOp, opBox, aRow, aev, ann, aPut, rget_rput]
    rfl
  generalize hb1 : σ.next = b1 at AT
  generalize σ.new ⟨1, 30, 0, (Value.agg #[.slice sb L.length sc]).cells.toList, []⟩ = σ1 at AT e0
  repeat apply W_assoc
  apply W_regL
  apply Ls_pre 1
  · intro callf
    simp +decide only [List.take, aOps, aWanted, ↓bite_eq, ↓reduceIte, aStep_eq, aStepOld, aOp, opLoad, aev, ann, aPut, rget_rput, AT.load]
    rfl
  dsimp only [List.drop]
  refine Ls_fn (vs := [.agg #[.slice sb L.length sc]]) (by simp +decide only [aevs, aev, rget_rput, if_true, if_false]) (by decide) (C.mono (valid_ref AT.rd hz) ?_)
  rintro v σ' ⟨rfl, e1⟩
  apply Ls_all
  · intro callf
    simp +decide only [aOps, aWanted, ↓bite_eq, ↓reduceIte, aStep_eq, aStepOld, aOp, opUn, aev, ann, aPut, rget_rput, flat, flat1, not_b]
    rfl
  have AT := AT.ext e1
  have e0 := e0.trans e1
  generalize σ' = σ2 at AT e0
  cases hv : validB L with
  | false =>
    repeat apply W_assoc
    refine W_if (b := true) ?_ ?_ ?_
    · simp +decide only [aev, rget_rput, if_true, if_false, Bool.not_false]
    rotate_left
    · intro h; cases h
    intro _
    repeat apply W_assoc
    apply W_reg
    · intro callf
      simp +decide only [aOps, aWanted, ↓bite_eq, ↓reduceIte, aStep_eq, aStepOld, aOp, aev, ann, aPut, Bool.not_false]
      rfl
    refine W_retq ⟨Nat.le_refl _, [.slice none 0 0, .slice none 0 0, .bool false, .int .i64 1], ?_, ?_, e0⟩
    simp +decide only [aResults, rget_rput, if_true, if_false]
    have hf : findF L = ([], [], false, 1) := by unfold findF; rw [if_neg (by rw [hv]; decide)]
    rw [hf]
    exact ⟨_, _, rfl, ⟨none, 0, rfl, fun h => absurd rfl h⟩, ⟨none, 0, rfl, fun h => absurd rfl h⟩, Nat.zero_le _, Nat.zero_le _⟩
  | true =>
    repeat apply W_assoc
    refine W_if (b := false) ?_ ?_ ?_
    · simp +decide only [aev, rget_rput, if_true, if_false, Bool.not_true]
    · intro h; cases h
    intro _
    apply W_skipq
    have hlo := valid_loose hv
    have hpos := loose_pos hlo
    have hw := loose_wf hlo hz
    have AQ := AT.ext (Ext.reset σ2)
    repeat apply W_assoc
    refine W_drw [] [] (by kernel_rfl) (by kernel_rfl) ?_
    apply Lg_pre 4
    · intro callf
      simp +decide only [List.take, aQ, memb, List.any_nil, Bool.true_or, Bool.and_true, reset_merge, reset_reset, reset_next, reset_low, merge_next, merge_idem, ble_self, aWanted, ↓bite_eq, ↓reduceIte, aStep_eq, aStepOld, aOp, opCall, opFieldAddr, opLoad, aev, aevs, ann, aPut, rget_rput, aBuiltin, aLen, List.getElem?_toArray, List.getElem?_cons_zero, Nat.zero_add, Bool.not_true, Bool.not_false, AQ.load, AQ.out, fldL, Try.underlying28, goInt]
      rfl
    dsimp only [List.drop, List.take, List.length]
    have e3 : Ext σ2 (σ2.merge σ2.reset) := (Ext.refl _).merge
    generalize σ2.merge σ2.reset = σ3 at e3
    have e0 := e0.trans e3
    have AT := AT.ext e3
    have AT0 := AT
    generalize hov : σ3.next = ov
    apply Lg_pre 1
    · intro callf
      simp +decide only [List.take, aQ, memb, List.any_nil, Bool.true_or, Bool.and_true, reset_next, reset_low, new_low, ble_self, aWanted, ↓bite_eq, ↓reduceIte, aStep_eq, aStepOld, aOp, aev, aPut, rget_rput, Nat.zero_add, Bool.not_false, opMakeSlice, make43 (show L.length ≤ 1000000 by omega), hov]
      rfl
    dsimp only [List.drop, List.take, List.length]
    have e4 : Ext σ3 (σ3.merge (σ3.reset.new ⟨1, 4, 0, List.replicate L.length (.bool false), []⟩)) := Ext.merge (Ext.new _ _)
    have hB4 : (σ3.merge (σ3.reset.new ⟨1, 4, 0, List.replicate L.length (.bool false), []⟩)).get ov = ⟨1, 4, 0, List.replicate L.length (.bool false), []⟩ := by
      rw [get_merge, ← hov]
      exact (AS.get_new σ3.reset _ σ3.reset.next).trans (if_pos rfl)
    have hn4 : ov < (σ3.merge (σ3.reset.new ⟨1, 4, 0, List.replicate L.length (.bool false), []⟩)).next := by rw [← hov]; exact Nat.lt_succ_self _
    generalize σ3.merge (σ3.reset.new ⟨1, 4, 0, List.replicate L.length (.bool false), []⟩) = σ4 at e4 hB4 hn4
    have AT := AT.ext e4
    have AQ := AT.ext (Ext.reset σ4)
    apply Lg_pre 3
    · intro callf
      simp +decide only [List.take, aQ, memb, List.any_nil, Bool.true_or, Bool.and_true, reset_merge, reset_reset, reset_next, reset_low, merge_next, merge_idem, ble_self, aWanted, ↓bite_eq, ↓reduceIte, aStep_eq, aStepOld, aOp, opCall, opFieldAddr, opLoad, aev, aevs, ann, aPut, rget_rput, aBuiltin, aLen, List.getElem?_toArray, List.getElem?_cons_zero, Nat.zero_add, Bool.not_false, AQ.out, fldL, Try.underlying28, goInt]
      rfl
    dsimp only [List.drop, List.take, List.length]
    have e5 : Ext σ4 (σ4.merge σ4.reset) := (Ext.refl _).merge
    generalize σ4.merge σ4.reset = σ5 at e5
    have AT := AT.ext e5
    have hB5 := (e5.get ov hn4).trans hB4
    have hn5 := e5.lt hn4
    have e4 := e4.trans e5
    generalize hiv : σ5.next = iv
    have hle := e4.nxt
    apply Lg_pre 1
    · intro callf
      simp +decide only [List.take, aQ, memb, List.any_nil, Bool.true_or, Bool.and_true, reset_next, reset_low, new_low, ble_self, aWanted, ↓bite_eq, ↓reduceIte, aStep_eq, aStepOld, aOp, aev, aPut, rget_rput, Nat.zero_add, Bool.not_false, opMakeSlice, make43 (show L.length ≤ 1000000 by omega), hiv]
      rfl
    dsimp only [List.drop, List.take, List.length]
    have e6 : Ext σ5 (σ5.merge (σ5.reset.new ⟨1, 4, 0, List.replicate L.length (.bool false), []⟩)) := Ext.merge (Ext.new _ _)
    have hB6 : (σ5.merge (σ5.reset.new ⟨1, 4, 0, List.replicate L.length (.bool false), []⟩)).get iv = ⟨1, 4, 0, List.replicate L.length (.bool false), []⟩ := by
      rw [get_merge, ← hiv]
      exact (AS.get_new σ5.reset _ σ5.reset.next).trans (if_pos rfl)
    have hn6 : iv < (σ5.merge (σ5.reset.new ⟨1, 4, 0, List.replicate L.length (.bool false), []⟩)).next := by rw [← hiv]; exact Nat.lt_succ_self _
    have hO6 := (e6.get ov hn5).trans hB5
    have hon6 := e6.lt hn5
    generalize σ5.merge (σ5.reset.new ⟨1, 4, 0, List.replicate L.length (.bool false), []⟩) = σ6 at e6 hB6 hn6 hO6 hon6
    have AT := AT.ext e6
    have e4 := e4.trans e6
    apply Lg_pre 1
    · intro callf
      simp +decide only [List.take, aQ, memb, List.any_nil, Bool.true_or, Bool.and_true, reset_low, ble_self, aWanted, ↓bite_eq, ↓reduceIte, aStep_eq, aStepOld, aOp, opBuild, aev, aparts, ann, aPut, rget_rput, Nat.zero_add, Bool.not_false, build66]
      rfl
    dsimp only [List.drop, List.take, List.length]
    have e7 : Ext σ6 (σ6.merge σ6.reset) := (Ext.refl _).merge
    generalize σ6.merge σ6.reset = σ7 at e7
    have e4 := e4.trans e7
    have hO7 := (e7.get ov hon6).trans hO6
    have hI7 := (e7.get iv hn6).trans hB6
    have hon7 := e7.lt hon6
    have hin7 := e7.lt hn6
    generalize hxb : σ7.next = xb
    apply Lg_pre 1
    · intro callf
      simp +decide only [List.take, aQ, memb, List.any_nil, Bool.true_or, Bool.and_true, reset_next, reset_low, new_low, ble_self, aWanted, ↓bite_eq, ↓reduceIte, aStep_eq, aStepOld, aOp, opBox, aRow, aev, aPut, rget_rput, Nat.zero_add, Bool.not_false, hxb]
      rfl
    dsimp only [List.drop, List.take, List.length]
    have e8 : Ext σ7 (σ7.merge (σ7.reset.new (fblk (.slice sb L.length sc) false ⟨.slice (some ⟨ov, 0, none⟩) L.length L.length, .slice (some ⟨iv, 0, none⟩) L.length L.length, .slice none 0 0, .slice none 0 0, .slice none 0 0, .slice none 0 0⟩))) := Ext.merge (Ext.new _ _)
    have hX : (σ7.merge (σ7.reset.new (fblk (.slice sb L.length sc) false ⟨.slice (some ⟨ov, 0, none⟩) L.length L.length, .slice (some ⟨iv, 0, none⟩) L.length L.length, .slice none 0 0, .slice none 0 0, .slice none 0 0, .slice none 0 0⟩))).get xb = fblk (.slice sb L.length sc) false ⟨.slice (some ⟨ov, 0, none⟩) L.length L.length, .slice (some ⟨iv, 0, none⟩) L.length L.length, .slice none 0 0, .slice none 0 0, .slice none 0 0, .slice none 0 0⟩ := by
      rw [get_merge, ← hxb]
      exact (AS.get_new σ7.reset _ σ7.reset.next).trans (if_pos rfl)
    have hxn : xb < (σ7.merge (σ7.reset.new (fblk (.slice sb L.length sc) false ⟨.slice (some ⟨ov, 0, none⟩) L.length L.length, .slice (some ⟨iv, 0, none⟩) L.length L.length, .slice none 0 0, .slice none 0 0, .slice none 0 0, .slice none 0 0⟩))).next := by rw [← hxb]; exact Nat.lt_succ_self _
    show Lg _ _ _ _ _ _ _ _ _ _ (σ7.merge (σ7.reset.new (fblk (.slice sb L.length sc) false ⟨.slice (some ⟨ov, 0, none⟩) L.length L.length, .slice (some ⟨iv, 0, none⟩) L.length L.length, .slice none 0 0, .slice none 0 0, .slice none 0 0, .slice none 0 0⟩))) _
    generalize σ7.merge (σ7.reset.new (fblk (.slice sb L.length sc) false ⟨.slice (some ⟨ov, 0, none⟩) L.length L.length, .slice (some ⟨iv, 0, none⟩) L.length L.length, .slice none 0 0, .slice none 0 0, .slice none 0 0, .slice none 0 0⟩)) = σ8 at e8 hX hxn
    have hle7 := e4.nxt
    have e4 := e4.trans e8
    have R8 : RepV σ3 σ8 xb (.slice sb L.length sc) L.length (initS L.length) ⟨.slice (some ⟨ov, 0, none⟩) L.length L.length, .slice (some ⟨iv, 0, none⟩) L.length L.length, .slice none 0 0, .slice none 0 0, .slice none 0 0, .slice none 0 0⟩ := by
      refine ⟨⟨e4, by omega, hxn, by rw [hX]; rfl, by simp [initS], by simp [initS], ⟨ov, by simp [initS], by omega, e8.lt hon7, ?_⟩, ⟨iv, by simp [initS], by omega, e8.lt hin7, ?_⟩, fun i h1 h2 => ?_, ⟨rfl, rfl, .inl ⟨rfl, rfl⟩⟩, .inr ⟨rfl, rfl, .inl ⟨rfl, rfl⟩⟩, ⟨rfl, rfl, .inl ⟨rfl, rfl⟩⟩, fun i h1 => absurd h1 not_own_nil, .inl ⟨rfl, rfl⟩⟩, hX⟩
      · rw [e8.get _ hon7, hO7]; simp [initS]
      · rw [e8.get _ hin7, hI7]; simp [initS]
      · obtain ⟨_, _, e⟩ := h1
        obtain ⟨_, _, e'⟩ := h2
        cases e; cases e'
        omega
    apply Lg_all
    · intro callf
      simp +decide only [aQ, memb, List.any_nil, Bool.true_or, Bool.and_true, reset_low, ble_self, aWanted, ↓bite_eq, ↓reduceIte, aStep_eq, aStepOld, aOp, aev, ann, aPut, rget_rput, Nat.zero_add, Bool.not_false]
      rfl
    have e9 : Ext σ8 (σ8.merge σ8.reset) := (Ext.refl _).merge
    generalize σ8.merge σ8.reset = σ9 at e9
    have R9 := R8.ext e9
    have CC := outer_c (AT0.rd) hw hN L.length ⟨_, R9⟩ hpos rfl rfl (by simp [initS]; exact Nat.le_trans (cnt_le _) (by simp)) (by simp [initS, hpos]) (by show 0 + L.length ≤ 900; omega)
    have hop := outerF_spec L hN L.length (initS L.length) 0 rfl (by show 0 + L.length ≤ 1000; omega)
    have e30 : Ext σ σ3 := e0
    generalize hy : outerF L L.length (initS L.length) 0 = y at CC hop
    show W _ _ _ 36 _ _ _ _
    repeat apply W_assoc
    apply W_regL
    apply Ls_pre 1
    · intro callf
      simp +decide only [List.take, aOps, aWanted, ↓bite_eq, ↓reduceIte, aStep_eq, aStepOld, aOp, aev, ann, aPut, rget_rput]
      rfl
    dsimp only [List.drop]
    refine Ls_fn (vs := [.pointer (some ⟨xb, 0, none⟩), .int .i64 0]) (by simp +decide only [aevs, aev, rget_rput, if_true, if_false]) (by decide) (C.mono (CC) ?_)
    rintro v σ' ⟨dz, RZ⟩
    apply Ls_all
    · intro callf
      simp +decide only [aOps]
      rfl
    generalize σ' = σ10 at RZ
    cases hyf : y.found with
    | false =>
      repeat apply W_assoc
      apply W_reg
      · intro callf
        simp +decide only [aOps, aWanted, ↓bite_eq, ↓reduceIte, aStep_eq, aStepOld, aOp, opUn, opFieldAddr, opLoad, aev, ann, aPut, rget_rput, Bool.not_false, opNil, fld66_7, RZ.ld7, hyf, not_b]
        rfl
      repeat apply W_assoc
      refine W_if (b := true) ?_ ?_ ?_
      · simp +decide only [aev, rget_rput, if_true, if_false]
      rotate_left
      · intro h; cases h
      intro _
      repeat apply W_assoc
      apply W_reg
      · intro callf
        simp +decide only [aOps, aWanted, ↓bite_eq, ↓reduceIte, aStep_eq, aStepOld, aOp, aev, ann, aPut]
        rfl
      refine W_retq ⟨Nat.le_refl _, [.slice none 0 0, .slice none 0 0, .bool false, .int .i64 0], ?_, ?_, e30.trans RZ.c.ext⟩
      simp +decide only [aResults, rget_rput, if_true, if_false]
      have hf : findF L = ([], [], false, 0) := by unfold findF; rw [if_pos hv, hy, if_neg (by rw [hyf]; decide)]
      rw [hf]
      exact ⟨_, _, rfl, ⟨none, 0, rfl, fun h => absurd rfl h⟩, ⟨none, 0, rfl, fun h => absurd rfl h⟩, Nat.zero_le _, Nat.zero_le _⟩
    | true =>
      repeat apply W_assoc
      apply W_reg
      · intro callf
        simp +decide only [aOps, aWanted, ↓bite_eq, ↓reduceIte, aStep_eq, aStepOld, aOp, opUn, opFieldAddr, opLoad, aev, ann, aPut, rget_rput, Bool.not_true, opNil, fld66_7, RZ.ld7, hyf, not_b]
        rfl
      repeat apply W_assoc
      refine W_if (b := false) ?_ ?_ ?_
      · simp +decide only [aev, rget_rput, if_true, if_false]
      · intro h; cases h
      intro _
      apply W_skipq
      have RQ := RZ.ext (Ext.reset σ10)
      repeat apply W_assoc
      refine W_drw [] [] (by kernel_rfl) (by kernel_rfl) ?_
      apply Lg_all
      · intro callf
        simp +decide only [aQ, memb, List.any_nil, Bool.true_or, Bool.and_true, reset_merge, reset_reset, reset_next, reset_low, merge_next, merge_idem, ble_self, aWanted, ↓bite_eq, ↓reduceIte, aStep_eq, aStepOld, aOp, opFieldAddr, opLoad, aev, ann, aPut, rget_rput, Nat.zero_add, Bool.not_false, opNil, fld66_5, fld66_6, RQ.ld5, RQ.ld6]
        rfl
      have e11 : Ext σ10 (σ10.merge σ10.reset) := (Ext.refl _).merge
      generalize σ10.merge σ10.reset = σ11 at e11
      have RF := RZ.ext e11
      refine W_ret ⟨Nat.le_refl _, [dz.sv, dz.lv, .bool true, .int .i64 0], ?_, ?_, e30.trans RF.c.ext⟩
      · simp +decide only [aResults, rget_rput, if_true, if_false]
      have hf : findF L = (y.stem, y.loop, true, 0) := by unfold findF; rw [if_pos hv, hy, if_pos hyf]
      rw [hf]
      exact ⟨_, _, rfl, RF.c.stem.rs, RF.c.loop.rs, (hop.yes hyf).1, (hop.yes hyf).2⟩

end Go.Proofs.Ytbknckiapcafdaa.Nest
