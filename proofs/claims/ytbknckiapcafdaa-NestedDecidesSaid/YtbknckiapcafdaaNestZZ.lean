/- Divergent (21), the law NestedDecides (6). -/
import Derived.Test.YtbknckiapcafdaaNestZY
import Derived.Test.YtbknckiapcafdaaNestZU
set_option linter.unusedSimpArgs false
set_option linter.unusedVariables false
namespace Go.Proofs.Ytbknckiapcafdaa.Nest
open Abs Abs2

theorem sv_aggD {n lb l c : Nat} (h : lb < n) : (vsc n 9 (.agg #[.slice (some ⟨lb, 0, none⟩) l c]) && veq 9 (.agg #[.slice (some ⟨lb, 0, none⟩) l c]) (.agg #[.slice (some ⟨lb, 0, none⟩) l c])) = true := by
  simp [vsc, veq, veqL, h]
theorem beqSelf3 (xo yo : Operand) (c : Bool) : aBin Try.prog .eql 4 xo yo (.bool c) (.bool c) = some (.bool true) := by cases c <;> kernel_rfl
theorem eq23z (xo yo : Operand) : aBin Try.prog .eql 23 xo yo (.int .i64 0) (.int .i64 0) = some (.bool true) := by kernel_rfl
theorem kn9d : Kn 9 [] = some (.bool true) := rfl
theorem BL.st {lo : Nat} {σ : AS} {v : Value} {l : List Bool} (h : BL lo σ v l) {i : Nat} (hi : i < l.length) (x : Bool) : ∃ b, v = .slice (some ⟨b, 0, none⟩) l.length l.length ∧ lo ≤ b ∧ b < σ.next ∧
    aIndexAddr Try.prog 43 v (.int .i64 (i : Int)) = some (.pointer (some ⟨b, i, none⟩)) ∧ aStore Try.prog σ 4 (.bool x) (.pointer (some ⟨b, i, none⟩)) = some (σ.put b ⟨1, 4, 0, (l.set i x).map Value.bool, []⟩) := by
  obtain ⟨b, e, h1, h2, h3, h4, -⟩ := h.at hi
  refine ⟨b, e, h1, h2, h4, ?_⟩
  obtain ⟨inf, hi2, hs⟩ : ∃ inf, Try.prog.info? 4 = some inf ∧ inf.size = 1 := ⟨(Try.prog.info? 4).get!, by kernel_rfl, by kernel_rfl⟩
  have hz : Nat.beq (Value.bool x).cells.size 1 = true := rfl
  have hc : (Value.bool x).cells.toList = [.bool x] := rfl
  unfold aStore
  simp only [hi2, hs, hz, if_true, hc]
  unfold aWrite
  simp only [h3, hasLen_eq, List.length_map, List.length_cons, List.length_nil, Nat.zero_add]
  rw [ble_t (show i + 1 ≤ l.length by omega), lsplice_cons, lsplice_nil, ← List.map_set]
  rfl

set_option maxHeartbeats 32000000 in
theorem divergent_c {σ : AS} {tb lb cap m : Nat} {L : Lts} (hG : Gen tb lb σ L m) (hm : m ≤ 1000) (hn : L.length ≤ 12) (hv : validB L = true) :
    C Try.prog Kn 0 21 [.agg #[.slice (some ⟨lb, 0, none⟩) L.length cap]] σ fun v σ' => ∃ bs, BL σ.next σ' v bs ∧ Ext σ σ' ∧ bs.length = L.length ∧ ((∃ s : Nat, bs[s]? = some true) ↔ Cyc L) := by
  have hpos := loose_pos (valid_loose hv)
  refine C_of (kn (by decide)) Try.func21 rfl (Nat.le_of_ble_eq_true rfl) ?_
  show W _ _ _ 34 _ _ _ _
  unfold Try.f21
  dsimp only
  repeat apply W_assoc
  apply W_reg
  · intro callf
    simp +decide only [aOps, rinit, aWanted, ↓bite_eq, ↓reduceIte, aStep_eq, aStepOld, aOp, opBox, aRow, aev, ann, aPut, rget_rput]
    rfl
  have E0 := Ext.new σ ⟨1, 30, 0, (Value.agg #[.slice (some ⟨lb, 0, none⟩) L.length cap]).cells.toList, []⟩
  have BX : BoxAt (σ.new ⟨1, 30, 0, (Value.agg #[.slice (some ⟨lb, 0, none⟩) L.length cap]).cells.toList, []⟩) σ.next (.slice (some ⟨lb, 0, none⟩) L.length cap) := ⟨Nat.lt_succ_self _, by rw [AS.get_new, if_pos rfl]; rfl⟩
  generalize hb1 : σ.next = b1 at BX
  generalize σ.new ⟨1, 30, 0, (Value.agg #[.slice (some ⟨lb, 0, none⟩) L.length cap]).cells.toList, []⟩ = σ1 at E0 BX
  have G1 := hG.ext E0
  repeat apply W_assoc
  apply W_regL
  apply Ls_pre 1
  · intro callf
    simp +decide only [List.take, aOps, aWanted, ↓bite_eq, ↓reduceIte, aStep_eq, aStepOld, aOp, opLoad, aev, ann, aPut, rget_rput, BX.load]
    rfl
  dsimp only [List.drop]
  refine Ls_fn (vs := [.agg #[.slice (some ⟨lb, 0, none⟩) L.length cap]]) (by simp +decide only [aevs, aev, rget_rput, if_true, if_false]) (by decide) (C.mono (valid_prog (RS.shown RRow.shown G1.rs) (hG.small hm (by omega))) ?_)
  rintro v σ' ⟨rfl, e1⟩
  apply Ls_all
  · intro callf
    simp +decide only [aOps, aWanted, ↓bite_eq, ↓reduceIte, aStep_eq, aStepOld, aOp, opUn, aev, ann, aPut, rget_rput, Bool.not_true, hv, not_b]
    rfl
  repeat apply W_assoc
  refine W_if (b := false) ?_ ?_ ?_
  · simp +decide only [aev, rget_rput, if_true, if_false]
  · intro h; cases h
  intro _
  apply W_skipq
  have BX := BX.ext e1
  have E1 := E0.trans e1
  have G1 := G1.ext e1
  generalize σ' = σ2 at BX E1 G1
  repeat apply W_assoc
  refine W_drw [0, 1] [b1] (by kernel_rfl) (by kernel_rfl) ?_
  refine Lg_load (b := b1) (off := 0) (v := .agg #[.slice (some ⟨lb, 0, none⟩) L.length cap]) (by simp +decide only [aev, rget_rput, if_true, if_false]) BX.reset.load (sv_aggD G1.lt) BX.lt (by simp [memb]) (by decide) ?_
  have e3 : Ext σ2 (σ2.merge σ2.reset) := (Ext.refl _).merge
  generalize σ2.merge σ2.reset = σ3 at e3
  have BX3 := BX.ext e3
  have G3 := G1.ext e3
  refine Lg_load (b := b1) (off := 0) (v := .agg #[.slice (some ⟨lb, 0, none⟩) L.length cap]) (by simp +decide only [aev, rget_rput, if_true, if_false]) BX3.reset.load (sv_aggD G3.lt) BX3.lt (by simp [memb]) (by decide) ?_
  have e4 : Ext σ3 (σ3.merge σ3.reset) := (Ext.refl _).merge
  generalize σ3.merge σ3.reset = σ4 at e4
  have BX4 := BX3.ext e4
  have G4 := G3.ext e4
  have BQ := BX4.reset
  apply Lg_pre 1
  · intro callf
    simp +decide only [List.take, aQ, memb, List.any_nil, List.any_cons, Bool.or_false, Bool.true_and, reset_low, ble_self, aWanted, ↓bite_eq, ↓reduceIte, aStep_eq, aStepOld, aOp, opLoad, aev, ann, aPut, rget_rput, Nat.zero_add, BQ.load]
    rfl
  dsimp only [List.drop, List.take, List.length]
  have e5 : Ext σ4 (σ4.merge σ4.reset) := (Ext.refl _).merge
  generalize σ4.merge σ4.reset = σ5 at e5
  have BX5 := BX4.ext e5
  have G5 := G4.ext e5
  refine Lg_fn (vs := [.agg #[.slice (some ⟨lb, 0, none⟩) L.length cap], .bool true]) (by simp +decide only [aevs, aev, rget_rput, if_true, if_false]) (by decide) rfl (C.mono (components_c (G5.ext (Ext.reset σ5)) hm hn hv) ?_)
  rintro v s1 ⟨comp, hI, eC, hcl, hcyc⟩
  refine ⟨eC.quiet, ?_⟩
  have e6 : Ext σ5 (σ5.merge s1) := eC.merge
  have hI6 : IL σ5.next (σ5.merge s1) v comp := hI.keep (Nat.le_refl _) fun _ _ _ => rfl
  generalize σ5.merge s1 = σ6 at e6 hI6
  have BX6 := BX5.ext e6
  have G6 := G5.ext e6
  refine Lg_fn (vs := [.agg #[.slice (some ⟨lb, 0, none⟩) L.length cap], v]) (by simp +decide only [aevs, aev, rget_rput, if_true, if_false]) (by decide) rfl (C.mono (looping_c (G6.ext (Ext.reset σ6)) hm hn (hI6.ext (Ext.reset σ6)).rs hcl) ?_)
  rintro v2 s2 ⟨bs, hB, eD, hbl, hbs⟩
  refine ⟨eD.quiet, ?_⟩
  have e7 : Ext σ6 (σ6.merge s2) := eD.merge
  have hB7 : BL σ6.next (σ6.merge s2) v2 bs := hB.keep (Nat.le_refl _) fun _ _ _ => rfl
  generalize σ6.merge s2 = σ7 at e7 hB7
  have BX7 := BX6.ext e7
  have G7 := G6.ext e7
  refine Lg_fn (vs := [.agg #[.slice (some ⟨lb, 0, none⟩) L.length cap], v2]) (by simp +decide only [aevs, aev, rget_rput, if_true, if_false]) (by decide) rfl (C.mono (distances_c (G7.ext (Ext.reset σ7)) hm hpos hn (hB7.ext (Ext.reset σ7)) hbl) ?_)
  rintro v3 s3 ⟨d, hD, eF, hdl, hds⟩
  refine ⟨eF.quiet, ?_⟩
  have e8 : Ext σ7 (σ7.merge s3) := eF.merge
  have hD8 : IL σ7.next (σ7.merge s3) v3 d := hD.keep (Nat.le_refl _) fun _ _ _ => rfl
  generalize σ7.merge s3 = σ8 at e8 hD8
  have BX8 := BX7.ext e8
  apply Lg_all
  · intro callf
    simp +decide only [aQ, memb, List.any_nil, List.any_cons, Bool.or_false, Bool.true_and, reset_low, ble_self, aWanted, ↓bite_eq, ↓reduceIte, aStep_eq, aStepOld, aOp, aev, ann, aPut, rget_rput, Nat.zero_add]
    rfl
  have e9 : Ext σ8 (σ8.merge σ8.reset) := (Ext.refl _).merge
  generalize σ8.merge σ8.reset = σ9 at e9
  have BX9 := BX8.ext e9
  have hD9 := hD8.ext e9
  have E9 := (((((((E1.trans e3).trans e4).trans e5).trans e6).trans e7).trans e8).trans e9)
  have hfin : (∃ (s : Nat), ∃ x, d[s]? = some x ∧ 0 ≤ x) ↔ Cyc L := hds.trans (hbs.trans hcyc)
  clear hI hI6 hB hB7 hD hD8 eC eD eF e3 e4 e5 e6 e7 e8 e9 BX BX3 BX4 BX5 BX6 BX7 BX8 BQ G1 G3 G4 G5 G6 G7 hbs hds hcyc E1 e1
  have e10 := Ext.new σ9 ⟨1, 4, 0, List.replicate L.length (.bool false), []⟩
  have hM := make43_bl (σ := σ9) (N := L.length) (lo := σ.next) E9.nxt
  generalize hob : σ9.next = ob at hM
  repeat apply W_assoc
  apply W_reg
  · intro callf
    simp +decide only [aOps, aWanted, ↓bite_eq, ↓reduceIte, aStep_eq, aStepOld, aOp, opCall, opFieldAddr, opLoad, aev, aevs, ann, aPut, rget_rput, aBuiltin, aLen, List.getElem?_toArray, List.getElem?_cons_zero, fldL, BX9.out, Try.underlying28, goInt, opMakeSlice, make43 (show L.length ≤ 1000000 by omega), hob]
    rfl
  generalize σ9.new ⟨1, 4, 0, List.replicate L.length (.bool false), []⟩ = σ10 at e10 hM
  repeat apply W_assoc
  apply W_reg
  · intro callf
    simp +decide only [aOps, aWanted, ↓bite_eq, ↓reduceIte, aStep_eq, aStepOld, aOp, opCall, aev, aevs, ann, aPut, rget_rput, aBuiltin, aLen, List.getElem?_toArray, List.getElem?_cons_zero, Try.underlying43, goInt]
    rfl
  repeat apply W_assoc
  refine W_forM (fun (i : Nat) r s => i ≤ L.length ∧ (∃ bs, BL σ.next s (.slice (some ⟨ob, 0, none⟩) L.length L.length) bs ∧ Ext σ9 s ∧ bs.length = L.length ∧ (∀ j : Nat, i ≤ j → bs[j]? ≠ some true) ∧ ((∃ s : Nat, bs[s]? = some true) ↔ ∃ s : Nat, s < i ∧ ∃ x, d[s]? = some x ∧ 0 ≤ x)) ∧ rget r 3 = v3 ∧ rget r 4 = .slice (some ⟨ob, 0, none⟩) L.length L.length ∧ rget r 20 = .int .i64 (L.length : Int) ∧ rget r 21 = .int .i64 (i : Int))
    (fun i => L.length - i) (fun r s => (∃ bs, BL σ.next s (.slice (some ⟨ob, 0, none⟩) L.length L.length) bs ∧ Ext σ9 s ∧ bs.length = L.length ∧ ((∃ s : Nat, bs[s]? = some true) ↔ Cyc L)) ∧ rget r 4 = .slice (some ⟨ob, 0, none⟩) L.length L.length) ?_ ?_ 0 ?_
  rotate_left 2
  · refine ⟨Nat.zero_le _, ⟨_, hM, e10, by simp, fun j _ h => ?_, ?_⟩, ?_, ?_, ?_, ?_⟩
    · rw [List.getElem?_replicate] at h; split at h <;> cases h
    · constructor
      · rintro ⟨s, hs⟩
        rw [List.getElem?_replicate] at hs
        split at hs <;> cases hs
      · rintro ⟨s, h, -⟩; omega
    all_goals simp +decide only [rget_rput, if_true, if_false]
    all_goals first | exact True.intro | rfl
  rotate_left
  · clear hM e10
    rintro r s ⟨⟨bs, B3, e3, hl3, hiff⟩, h4⟩
    repeat apply W_assoc
    apply W_reg
    · intro callf
      simp +decide only [aOps, aWanted, ↓bite_eq, ↓reduceIte, aStep_eq, aStepOld, aOp, aev, ann, aPut, rget_rput, h4]
      rfl
    refine W_ret ⟨Nat.le_refl _, [.slice (some ⟨ob, 0, none⟩) L.length L.length], ?_, bs, (by rw [← hb1]; exact B3), E9.trans e3, hl3, hiff⟩
    simp +decide only [aResults, rget_rput, if_true, if_false]
  clear hM e10
  rintro i r s ⟨hi, ⟨bs, B3, e3, hl3, hno, hiff⟩, h3, h4, h20, h21⟩
  by_cases hlt : i < L.length
  rotate_left
  · have d1 : decide ((i : Int) < (L.length : Int)) = false := decide_eq_false (by omega)
    repeat apply W_assoc
    apply W_reg
    · intro callf
      simp +decide only [aOps, aWanted, ↓bite_eq, ↓reduceIte, aStep_eq, aStepOld, aOp, opBin, aev, ann, aPut, h20, h21, d1, aBin, aInts, aInt_eq]
      rfl
    repeat apply W_assoc
    refine W_if (b := false) ?_ ?_ ?_
    · simp +decide only [aev, rget_rput, if_true]
    · intro h; cases h
    intro _
    refine W_exitq ⟨fun h => (nomatch h), fun _ => ⟨⟨bs, B3, e3, hl3, hiff.trans (Iff.trans ⟨fun ⟨s, _, h⟩ => ⟨s, h⟩, fun ⟨s, x, h, h0⟩ => ⟨s, by have := (List.getElem?_eq_some_iff.1 h).1; omega, x, h, h0⟩⟩ hfin)⟩, ?_⟩, fun h1 h2 => absurd rfl h2⟩
    simp +decide only [rget_rput, if_false, h4]
  have d1 : decide ((i : Int) < (L.length : Int)) = true := decide_eq_true (by omega)
  repeat apply W_assoc
  apply W_reg
  · intro callf
    simp +decide only [aOps, aWanted, ↓bite_eq, ↓reduceIte, aStep_eq, aStepOld, aOp, opBin, aev, ann, aPut, h20, h21, d1, aBin, aInts, aInt_eq]
    rfl
  repeat apply W_assoc
  refine W_if (b := true) ?_ ?_ ?_
  · simp +decide only [aev, rget_rput, if_true]
  rotate_left
  · intro h; cases h
  intro _
  apply W_skipq
  refine W_blk ?_
  have w3 : IntKind.i64.wrap ((i : Int) + 1) = ((i + 1 : Nat) : Int) := by rw [wrap64_id _ (by omega) (by omega)]; omega
  obtain ⟨x, hx⟩ : ∃ x, d[i]? = some x := ⟨d[i]'(by omega), by simp [show i < d.length by omega]⟩
  obtain ⟨db, hdv, -, -, -, hdx, hdl2, -⟩ := (hD9.ext e3).at
  have ldx := hdl2 i x hx s rfl
  unfold vInt at ldx
  obtain ⟨ob2, hov, hob1, hob2, hox, hst⟩ := B3.st (i := i) (by omega) (decide (x ≥ 0))
  obtain rfl : ob = ob2 := by rw [hl3] at hov; cases hov; rfl
  repeat apply W_assoc
  apply W_reg
  · intro callf
    simp +decide only [aOps, aWanted, ↓bite_eq, ↓reduceIte, aStep_eq, aStepOld, aOp, aev, ann, aPut, rget_rput, h21]
    rfl
  refine W_tail ?_
  repeat apply W_assoc
  apply W_reg
  · intro callf
    simp +decide only [aOps, aWanted, ↓bite_eq, ↓reduceIte, aStep_eq, aStepOld, aOp, opBin, opIndexAddr, opLoad, opStore, aev, ann, unn, aPut, rget_rput, h3, h4, hdx i (by omega), ldx, hox, hst, aBin, aInts, aInt_eq]
    rfl
  refine W_skip ⟨fun _ => ?_, fun h => absurd rfl h⟩
  refine W_tail ?_
  repeat apply W_assoc
  apply W_reg
  · intro callf
    simp +decide only [aOps, aWanted, ↓bite_eq, ↓reduceIte, aStep_eq, aStepOld, aOp, opBin, aev, ann, aPut, rget_rput, h21, w3, aBin, aInts, aInt_eq]
    rfl
  refine W_skip ⟨fun _ => ⟨i + 1, ?_, ?_⟩, fun h => (nomatch h), fun h => absurd rfl h⟩
  · show L.length - (i + 1) < L.length - i
    omega
  · refine ⟨by omega, ⟨bs.set i (decide (x ≥ 0)), ⟨ob, by rw [List.length_set, hl3], hob1, hob2, by rw [AS.get_put, if_pos rfl]⟩, e3.put (by omega) _, by rw [List.length_set]; exact hl3, fun j hj h => ?_, ?_⟩, ?_, ?_, ?_, ?_⟩
    · rw [List.getElem?_set_ne (by omega)] at h; exact hno j (by omega) h
    · by_cases h0 : 0 ≤ x
      · have e0 : decide (x ≥ 0) = true := decide_eq_true h0
        rw [e0]
        exact ⟨fun _ => ⟨i, by omega, x, hx, h0⟩, fun _ => ⟨i, by rw [List.getElem?_set_self (by omega)]⟩⟩
      · have e0 : decide (x ≥ 0) = false := decide_eq_false h0
        rw [e0]
        constructor
        · rintro ⟨j, hj⟩
          by_cases e : i = j
          · subst e; rw [List.getElem?_set_self (by omega)] at hj; cases hj
          · rw [List.getElem?_set_ne e] at hj
            obtain ⟨j2, h1, h2⟩ := hiff.1 ⟨j, hj⟩
            exact ⟨j2, by omega, h2⟩
        · rintro ⟨j, h1, y, h2, h3⟩
          have : j ≠ i := fun e => by rw [e, hx] at h2; cases h2; exact h0 h3
          obtain ⟨j2, h4⟩ := hiff.2 ⟨j, by omega, y, h2, h3⟩
          have e : i ≠ j2 := fun e => hno j2 (by omega) h4
          exact ⟨j2, by rw [List.getElem?_set_ne e]; exact h4⟩
    all_goals simp +decide only [rget_rput, if_true, if_false, h3, h4, h20]

theorem good_valid {tb lb m : Nat} {σ : AS} {L : Lts} (hG : Gen tb lb σ L m) (hm : m ≤ 1000) (h1 : 1 ≤ L.length) (hn : L.length ≤ 12) (hg : GoodL L) : validB L = true := by
  have htot : ∀ (l : List (List Arc)), (∀ r ∈ l, r.length ≤ 1000) → (l.map List.length).sum ≤ 1000 * l.length := by
    intro l
    induction l with
    | nil => intro _; exact Nat.le_refl _
    | cons a l ih =>
      intro h
      have h2 := h a (List.mem_cons_self ..)
      have h3 := ih fun r hr => h r (List.mem_cons_of_mem _ hr)
      simp only [List.map_cons, List.sum_cons, List.length_cons]
      omega
  have ht := htot L fun r hr => Nat.le_trans (hG.row r hr).1 hm
  unfold validB looseB total
  rw [Bool.and_eq_true]
  refine ⟨?_, List.all_eq_true.2 fun r hr => (hg r hr).1⟩
  simp only [Bool.and_eq_true, decide_eq_true_eq]
  refine ⟨⟨⟨h1, by omega⟩, by omega⟩, List.all_eq_true.2 fun r hr => List.all_eq_true.2 fun a ha => ?_⟩
  have h2 := (hg r hr).2 a ha
  have h3 := (hG.row r hr).2 a ha
  unfold okA
  simp only [Bool.and_eq_true, decide_eq_true_eq]
  exact ⟨⟨⟨h2.1, h2.2⟩, h3.1⟩, h3.2⟩

set_option maxHeartbeats 32000000 in
theorem decides_law {σ : AS} {tv : Value} {ints : List Int} (ht : RS 1 RInt σ tv ints) (htl : ints.length ≤ 2 ^ 62) : C Try.prog Kn 0 6 [tv] σ fun v _ => v = .bool true := by
  refine C_of (kn (by decide)) Try.func6 rfl (Nat.le_of_ble_eq_true rfl) ?_
  show W _ _ _ 66 _ _ _ _
  unfold Try.f6
  dsimp only
  repeat apply W_assoc
  apply W_reg
  · intro callf
    simp +decide only [aOps, rinit, aWanted, ↓bite_eq, ↓reduceIte, aStep_eq, aStepOld, aOp, aev, ann, aPut]
    rfl
  repeat apply W_assoc
  apply W_regL
  apply Ls_pre 1
  · intro callf
    simp +decide only [List.take, aOps, aWanted, ↓bite_eq, ↓reduceIte, aStep_eq, aStepOld, aOp, aev, ann, aPut, rget_rput]
    rfl
  dsimp only [List.drop]
  refine Ls_fn (vs := [tv]) (by simp +decide only [aevs, aev, rget_rput, if_true, if_false]) (by decide) (C.mono (new_tape ht htl) ?_)
  rintro v σ' ⟨rfl, TP, ET⟩
  generalize htb : σ.next = tb at TP
  refine Ls_fn (vs := [.pointer (some ⟨tb, 0, none⟩), .int .i64 9]) (by simp +decide only [aevs, aev, rget_rput, if_true, if_false]) (by decide) (C.mono (chain insert lts TP (by omega) (n := 9) (by omega) (by omega)) ?_)
  rintro v σ2 ⟨lb, L, cap, rfl, hlb, -, E1, GN, hL1, hL2, hch, hL9⟩
  have hL : L.length ≤ 12 := by omega
  have hv := good_valid GN (by omega) hL1 hL hch.1
  generalize hb7 : σ2.next = b7
  apply Ls_all
  · intro callf
    simp +decide only [aOps, aWanted, ↓bite_eq, ↓reduceIte, aStep_eq, aStepOld, aOp, opStore, aev, unn, aPut, rget_rput, alloc30, hb7, store30 (σ := σ2.new ⟨1, 30, 0, [.slice none 0 0], []⟩) (b := b7) (x := .slice none 0 0) (by rw [AS.get_new, if_pos hb7])]
    rfl
  have e2 : Ext σ2 ((σ2.new ⟨1, 30, 0, [.slice none 0 0], []⟩).put b7 ⟨1, 30, 0, [.slice (some ⟨lb, 0, none⟩) L.length cap], []⟩) := Ext.put (Ext.new _ _) (by omega) _
  have BX : BoxAt ((σ2.new ⟨1, 30, 0, [.slice none 0 0], []⟩).put b7 ⟨1, 30, 0, [.slice (some ⟨lb, 0, none⟩) L.length cap], []⟩) b7 (.slice (some ⟨lb, 0, none⟩) L.length cap) := ⟨by rw [← hb7]; exact Nat.lt_succ_self _, by rw [AS.get_put, if_pos rfl]⟩
  have GN := GN.ext e2
  generalize (σ2.new ⟨1, 30, 0, [.slice none 0 0], []⟩).put b7 ⟨1, 30, 0, [.slice (some ⟨lb, 0, none⟩) L.length cap], []⟩ = σ3 at GN BX
  have hsm := GN.small (by omega) (by omega)
  have hw := loose_wf (valid_loose hv) hsm
  have hfc := find_cyc hv hw (by omega) (by omega) hch.2
  have hfl := (find_lasso hv hw (by omega)).1
  have hf0 : (findF L).2.2.2 = 0 := by unfold findF; rw [if_pos hv]; split <;> rfl
  repeat apply W_assoc
  apply W_regL
  apply Ls_pre 1
  · intro callf
    simp +decide only [List.take, aOps, aWanted, ↓bite_eq, ↓reduceIte, aStep_eq, aStepOld, aOp, opLoad, aev, ann, aPut, rget_rput, BX.load]
    rfl
  dsimp only [List.drop]
  refine Ls_fn (vs := [.agg #[.slice (some ⟨lb, 0, none⟩) L.length cap]]) (by simp +decide only [aevs, aev, rget_rput, if_true, if_false]) (by decide) (C.mono (find_prog (RS.shown RRow.shown GN.rs) hsm (by omega)) ?_)
  rintro v σ' ⟨⟨pv, qv, rfl, hp, hq, hpl, hql⟩, e3⟩
  apply Ls_all
  · intro callf
    simp +decide only [aOps, aWanted, ↓bite_eq, ↓reduceIte, aStep_eq, aStepOld, aOp, opExtract, aev, ann, aPut, rget_rput, List.getElem?_toArray, List.getElem?_cons_zero, List.getElem?_cons_succ]
    rfl
  have BX := BX.ext e3
  have GN := GN.ext e3
  rw [hf0]
  generalize σ' = σ4 at BX GN hp hq
  repeat apply W_assoc
  apply W_regL
  apply Ls_pre 1
  · intro callf
    simp +decide only [List.take, aOps, aWanted, ↓bite_eq, ↓reduceIte, aStep_eq, aStepOld, aOp, opLoad, aev, ann, aPut, rget_rput, BX.load]
    rfl
  dsimp only [List.drop]
  refine Ls_fn (vs := [.agg #[.slice (some ⟨lb, 0, none⟩) L.length cap]]) (by simp +decide only [aevs, aev, rget_rput, if_true, if_false]) (by decide) (C.mono (divergent_c GN (by omega) hL hv) ?_)
  rintro v σ' ⟨bs, hB, e4, hbl, hbs⟩
  apply Ls_all
  · intro callf
    simp +decide only [aOps, aWanted, ↓bite_eq, ↓reduceIte, aStep_eq, aStepOld, aOp, aev, ann, aPut, rget_rput]
    rfl
  have BX := BX.ext e4
  have GN := GN.ext e4
  have hp := hp.ext RArc.keeps e4
  have hq := hq.ext RArc.keeps e4
  generalize σ4.next = blo at hB
  generalize σ' = σ5 at BX GN hp hq hB
  clear e3 e4 e2 E1 ET TP
  repeat apply W_assoc
  apply W_regL
  apply Ls_pre 2
  · intro callf
    simp +decide only [List.take, aOps, aWanted, ↓bite_eq, ↓reduceIte, aStep_eq, aStepOld, aOp, opLoad, opBuildSlice, aev, aparts, ann, aPut, rget_rput, BX.load, slice33a]
    rfl
  dsimp only [List.drop]
  refine Ls_fn (vs := [.agg #[.slice (some ⟨lb, 0, none⟩) L.length cap], .slice (some ⟨σ5.next, 0, none⟩) 1 1, .bool false]) (by simp +decide only [aevs, aev, rget_rput, if_true, if_false]) (by decide) (C.mono (graphReach_c (σ := σ5.new ⟨1, 3, 0, [.int .i64 0], []⟩) (fb := σ5.next) (GN.ext (Ext.new _ _)) (by omega) hL hv hch.2 (Nat.lt_succ_self _) (by rw [AS.get_new, if_pos rfl])) ?_)
  rintro v σ' ⟨out, R1, e6, ⟨oa, oc, rfl⟩, hor, hol, hop, hos⟩
  apply Ls_all
  · intro callf
    simp +decide only [aOps, aWanted, ↓bite_eq, ↓reduceIte, aStep_eq, aStepOld, aOp, aev, ann, aPut, rget_rput]
    rfl
  have e6 := (Ext.new σ5 ⟨1, 3, 0, [.int .i64 0], []⟩).trans e6
  have BX := BX.ext e6
  have GN := GN.ext e6
  have hp := hp.ext RArc.keeps e6
  have hq := hq.ext RArc.keeps e6
  have hB := hB.ext e6
  generalize σ' = σ6 at BX GN hp hq hB R1
  clear e6
  have hout : (∃ j : Nat, ∃ y, out[j]? = some y ∧ bs[y.toNat]? = some true) ↔ Cyc L := by
    rw [← hbs]
    constructor
    · rintro ⟨j, y, h1, h2⟩; exact ⟨_, h2⟩
    · rintro ⟨s, hs⟩
      have hsl := (List.getElem?_eq_some_iff.1 hs).1
      obtain ⟨j, hj⟩ := List.mem_iff_getElem?.1 (hos s (by omega))
      exact ⟨j, (s : Int), hj, hs⟩
  obtain ⟨bb, hbv, -⟩ := id hB
  rw [hbl] at hbv
  repeat apply W_assoc
  apply W_reg
  · intro callf
    simp +decide only [aOps, aWanted, ↓bite_eq, ↓reduceIte, aStep_eq, aStepOld, aOp, aev, ann, aPut]
    rfl
  repeat apply W_assoc
  apply W_reg
  · intro callf
    simp +decide only [aOps, aWanted, ↓bite_eq, ↓reduceIte, aStep_eq, aStepOld, aOp, aev, ann, aPut]
    rfl
  repeat apply W_assoc
  refine W_forM (fun (i : Nat) r s => i ≤ out.length ∧ s = σ6 ∧ rget r 3 = .pointer (some ⟨b7, 0, none⟩) ∧ rget r 4 = pv ∧ rget r 5 = qv ∧ rget r 6 = .bool (findF L).2.2.1 ∧ rget r 7 = .int .i64 0 ∧ rget r 8 = .slice (some ⟨bb, 0, none⟩) L.length L.length ∧ rget r 9 = .slice oa out.length oc ∧ rget r 11 = .int .i64 (i : Int) ∧ ∃ fl, rget r 10 = .bool fl ∧ (fl = true ↔ ∃ j, j < i ∧ ∃ y, out[j]? = some y ∧ bs[y.toNat]? = some true))
    (fun i => out.length - i) (fun r s => s = σ6 ∧ rget r 3 = .pointer (some ⟨b7, 0, none⟩) ∧ rget r 4 = pv ∧ rget r 5 = qv ∧ rget r 6 = .bool (findF L).2.2.1 ∧ rget r 7 = .int .i64 0 ∧ rget r 9 = .slice oa out.length oc ∧ rget r 10 = .bool (findF L).2.2.1) ?_ ?_ 0 ?_
  rotate_left 2
  · refine ⟨Nat.zero_le _, rfl, ?_, ?_, ?_, ?_, ?_, ?_, ?_, ?_, false, ?_, fun h => (nomatch h), fun ⟨j, h, _⟩ => absurd h (Nat.not_lt_zero _)⟩ <;> simp +decide only [rget_rput, if_true, if_false, hbv] <;> first | exact True.intro | rfl
  rotate_left
  · rintro r s ⟨rfl, h3, h4, h5, h6, h7, h9, h10⟩
    have d1 : ∀ xo yo, aBin Try.prog .gtr 3 xo yo (.int .i64 (out.length : Int)) (.int .i64 0) = some (.bool true) := fun _ _ => by
      have h : decide ((out.length : Int) > 0) = true := decide_eq_true (by omega)
      simp +decide only [aBin, aInts, aInt_eq, h, if_true]
    repeat apply W_assoc
    apply W_regL
    apply Ls_pre 16
    · intro callf
      simp +decide only [List.take, aOps, aWanted, ↓bite_eq, ↓reduceIte, aStep_eq, aStepOld, aOp, opBin, opCall, opLoad, opPick, aev, aevs, ann, aPut, rget_rput, aBuiltin, aLen, List.getElem?_toArray, List.getElem?_cons_zero, List.getElem?_cons_succ, Option.bind_some, beq_self_eq_true, h3, h4, h5, h6, h7, h9, h10, eq23z, d1, beqSelf3, BX.load, opPick, Try.underlying33, goInt]
      rfl
    dsimp only [List.drop]
    refine Ls_fnG (vs := [.agg #[.slice (some ⟨lb, 0, none⟩) L.length cap], pv, qv]) (by simp +decide only [aWanted, List.getElem?_toArray, List.getElem?_cons_zero, List.getElem?_cons_succ, Option.bind_some, rget_rput, if_true, if_false]) (by simp +decide only [aevs, aev, rget_rput, if_true, if_false]) (by decide) (C.mono (lasso_prog (RS.shown RRow.shown GN.rs) hsm hp (by omega) hq (by omega)) ?_)
    rintro v σ' ⟨rfl, e7⟩
    rw [hfl]
    apply Ls_pre 4
    · intro callf
      simp +decide only [List.take, aOps, aWanted, ↓bite_eq, ↓reduceIte, aStep_eq, aStepOld, aOp, opBin, opPick, aev, ann, aPut, rget_rput, List.getElem?_toArray, List.getElem?_cons_zero, List.getElem?_cons_succ, Option.bind_some, beq_self_eq_true, h6, opPick, beqSelf3]
      rfl
    dsimp only [List.drop]
    refine Ls_fnG (vs := []) (by simp +decide only [aWanted, List.getElem?_toArray, List.getElem?_cons_zero, List.getElem?_cons_succ, Option.bind_some, rget_rput, if_true, if_false]) (by simp +decide only [aevs]) (by decide) (C.mono (C_known (v := .bool true) (Q := fun v s1 => v = .bool true) kn9d rfl) ?_)
    rintro v σ' rfl
    apply Ls_all
    · intro callf
      simp +decide only [aOps, aWanted, ↓bite_eq, ↓reduceIte, aStep_eq, aStepOld, aOp, opPick, aev, ann, aPut, rget_rput, opPick]
      rfl
    refine W_ret ⟨Nat.le_refl _, [.bool true], ?_, rfl⟩
    simp +decide only [aResults, rget_rput, if_true, if_false]
  rintro i r s ⟨hi, rfl, h3, h4, h5, h6, h7, h8, h9, h11, fl, h10, hfl2⟩
  by_cases hlt : i < out.length
  rotate_left
  · have d1 : decide ((i : Int) < (out.length : Int)) = false := decide_eq_false (by omega)
    have hff : fl = (findF L).2.2.1 := by
      have h : fl = true ↔ (findF L).2.2.1 = true := hfl2.trans (Iff.trans ⟨fun ⟨j, _, y, h1, h2⟩ => ⟨j, y, h1, h2⟩, fun ⟨j, y, h1, h2⟩ => ⟨j, by have := (List.getElem?_eq_some_iff.1 h1).1; omega, y, h1, h2⟩⟩ (hout.trans hfc.symm))
      cases fl <;> cases h9 : (findF L).2.2.1 <;> simp_all
    repeat apply W_assoc
    apply W_reg
    · intro callf
      simp +decide only [aOps, aWanted, ↓bite_eq, ↓reduceIte, aStep_eq, aStepOld, aOp, opBin, opCall, aev, aevs, ann, aPut, rget_rput, aBuiltin, aLen, List.getElem?_toArray, List.getElem?_cons_zero, h9, h11, d1, Try.underlying33, goInt, aBin, aInts, aInt_eq]
      rfl
    repeat apply W_assoc
    refine W_if (b := false) ?_ ?_ ?_
    · simp +decide only [aev, rget_rput, if_true, if_false]
    · intro h; cases h
    intro _
    refine W_exitq ⟨fun h => (nomatch h), fun _ => ⟨rfl, ?_, ?_, ?_, ?_, ?_, ?_, ?_⟩, fun h1 h2 => absurd rfl h2⟩ <;> simp +decide only [rget_rput, if_false, h3, h4, h5, h6, h7, h9, h10, hff]
  have d1 : decide ((i : Int) < (out.length : Int)) = true := decide_eq_true (by omega)
  repeat apply W_assoc
  apply W_reg
  · intro callf
    simp +decide only [aOps, aWanted, ↓bite_eq, ↓reduceIte, aStep_eq, aStepOld, aOp, opBin, opCall, aev, aevs, ann, aPut, rget_rput, aBuiltin, aLen, List.getElem?_toArray, List.getElem?_cons_zero, h9, h11, d1, Try.underlying33, goInt, aBin, aInts, aInt_eq]
    rfl
  repeat apply W_assoc
  refine W_if (b := true) ?_ ?_ ?_
  · simp +decide only [aev, rget_rput, if_true, if_false]
  rotate_left
  · intro h; cases h
  intro _
  apply W_skipq
  have w3 : IntKind.i64.wrap ((i : Int) + 1) = ((i + 1 : Nat) : Int) := by rw [wrap64_id _ (by omega) (by omega)]; omega
  refine W_blk ?_
  refine W_tail ?_
  obtain ⟨y, hy⟩ : ∃ y, out[i]? = some y := ⟨out[i], by simp [hlt]⟩
  obtain ⟨hy0, hy1⟩ := hor y (List.mem_of_getElem? hy)
  obtain ⟨Y, rfl⟩ : ∃ Y : Nat, y = (Y : Int) := ⟨y.toNat, by omega⟩
  obtain ⟨-, ab, aoff, rfl, -, hcy⟩ := intOf R1 hy
  have ly := load1 (P := Try.prog) Try.underlying3 rfl hcy
  obtain ⟨bb2, hbv2, -, -, -, hbx, hbl2, -⟩ := hB.at (i := Y) (by omega)
  obtain rfl : bb = bb2 := by rw [hbv, hbl] at hbv2; cases hbv2; rfl
  rw [hbv] at hbx
  have hbl2 := hbl2 s (Ext.refl _)
  have next : ∀ (r' : Regs) fl', rget r' 3 = .pointer (some ⟨b7, 0, none⟩) → rget r' 4 = pv → rget r' 5 = qv → rget r' 6 = .bool (findF L).2.2.1 → rget r' 7 = .int .i64 0 → rget r' 8 = .slice (some ⟨bb, 0, none⟩) L.length L.length → rget r' 9 = .slice (some ⟨ab, aoff, none⟩) out.length oc → rget r' 11 = .int .i64 ((i + 1 : Nat) : Int) → rget r' 10 = .bool fl' → (fl' = true ↔ fl = true ∨ bs[Y]? = some true) →
      (i + 1 ≤ out.length ∧ s = s ∧ rget r' 3 = .pointer (some ⟨b7, 0, none⟩) ∧ rget r' 4 = pv ∧ rget r' 5 = qv ∧ rget r' 6 = .bool (findF L).2.2.1 ∧ rget r' 7 = .int .i64 0 ∧ rget r' 8 = .slice (some ⟨bb, 0, none⟩) L.length L.length ∧ rget r' 9 = .slice (some ⟨ab, aoff, none⟩) out.length oc ∧ rget r' 11 = .int .i64 ((i + 1 : Nat) : Int) ∧ ∃ fl, rget r' 10 = .bool fl ∧ (fl = true ↔ ∃ j, j < i + 1 ∧ ∃ y, out[j]? = some y ∧ bs[y.toNat]? = some true)) :=
    fun r' fl' g3 g4 g5 g6 g7 g8 g9 g11 g10 hf' => by
      refine ⟨hlt, rfl, g3, g4, g5, g6, g7, g8, g9, g11, fl', g10, hf'.trans ⟨?_, ?_⟩⟩
      · rintro (h | h)
        · obtain ⟨j, h1, h2⟩ := hfl2.1 h
          exact ⟨j, by omega, h2⟩
        · exact ⟨i, by omega, (Y : Int), hy, h⟩
      · rintro ⟨j, h1, y', h2, h3⟩
        by_cases e : j = i
        · subst e
          rw [hy] at h2
          cases h2
          exact .inr h3
        · exact .inl (hfl2.2 ⟨j, by omega, y', h2, h3⟩)
  cases fl with
  | true =>
    repeat apply W_assoc
    apply W_reg
    · intro callf
      simp +decide only [aOps, aWanted, ↓bite_eq, ↓reduceIte, aStep_eq, aStepOld, aOp, opPick, aev, ann, aPut, rget_rput, List.getElem?_toArray, List.getElem?_cons_zero, List.getElem?_cons_succ, Option.bind_some, Bool.true_beq, h10, opPick]
      rfl
    refine W_skip ⟨fun _ => ?_, fun h => absurd rfl h⟩
    refine W_tail ?_
    repeat apply W_assoc
    apply W_reg
    · intro callf
      simp +decide only [aOps, aWanted, ↓bite_eq, ↓reduceIte, aStep_eq, aStepOld, aOp, opBin, aev, ann, aPut, rget_rput, h11, w3, aBin, aInts, aInt_eq]
      rfl
    refine W_skip ⟨fun _ => ⟨i + 1, ?_, next _ true ?_ ?_ ?_ ?_ ?_ ?_ ?_ ?_ ?_ ⟨fun _ => .inl rfl, fun _ => rfl⟩⟩, fun h => (nomatch h), fun h => absurd rfl h⟩
    · show out.length - (i + 1) < out.length - i
      omega
    all_goals simp +decide only [rget_rput, if_true, if_false, h3, h4, h5, h6, h7, h8, h9]
  | false =>
    repeat apply W_assoc
    apply W_reg
    · intro callf
      simp +decide only [aOps, aWanted, ↓bite_eq, ↓reduceIte, aStep_eq, aStepOld, aOp, opIndexAddr, opLoad, opPick, aev, ann, aPut, rget_rput, List.getElem?_toArray, List.getElem?_cons_zero, List.getElem?_cons_succ, Option.bind_some, beq_self_eq_true, h8, h9, h10, h11, opPick, idx33 hlt, ly, hbx, hbl2]
      rfl
    refine W_skip ⟨fun _ => ?_, fun h => absurd rfl h⟩
    refine W_tail ?_
    repeat apply W_assoc
    apply W_reg
    · intro callf
      simp +decide only [aOps, aWanted, ↓bite_eq, ↓reduceIte, aStep_eq, aStepOld, aOp, opBin, aev, ann, aPut, rget_rput, h11, w3, aBin, aInts, aInt_eq]
      rfl
    refine W_skip ⟨fun _ => ⟨i + 1, ?_, next _ (bs.getD Y true) ?_ ?_ ?_ ?_ ?_ ?_ ?_ ?_ ?_ ⟨fun h => .inr ?_, fun h => ?_⟩⟩, fun h => (nomatch h), fun h => absurd rfl h⟩
    · show out.length - (i + 1) < out.length - i
      omega
    rotate_left 9
    · have hYl : Y < bs.length := by omega
      rw [List.getD_eq_getElem?_getD, List.getElem?_eq_getElem hYl] at h
      rw [List.getElem?_eq_getElem hYl]
      exact congrArg some h
    · rcases h with h | h
      · cases h
      · rw [List.getD_eq_getElem?_getD, h]; rfl
    all_goals simp +decide only [rget_rput, if_true, if_false, h3, h4, h5, h6, h7, h8, h9]

end Go.Proofs.Ytbknckiapcafdaa.Nest
