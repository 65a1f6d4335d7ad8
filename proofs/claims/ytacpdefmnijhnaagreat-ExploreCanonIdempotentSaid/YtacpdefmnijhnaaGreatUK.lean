/- Arcs are sorted, each once; rows are copied. -/
import Derived.Test.YtacpdefmnijhnaaGreatUJ
import Derived.Test.YtacpdefmnijhnaaGreatCanLaw2
set_option linter.unusedSimpArgs false
set_option linter.unusedVariables false
namespace Go.Proofs.YtacpdefmnijhnaaGreat.U
open Abs

/-- Only the block of v changes. -/
structure Chg (lo : Nat) (σ σ' : AS) (v : Value) : Prop where
  nxt : σ.next ≤ σ'.next
  get : ∀ i, i < σ.next → ¬ Own v i → σ'.get i = σ.get i
  low : ∀ q, q ≤ lo → q ≤ σ.low → q ≤ σ'.low
theorem Chg.of {lo : Nat} {σ σ' : AS} {v : Value} (hlo : lo ≤ σ.next) (e : Ext σ σ') : Chg lo σ σ' v := ⟨e.nxt, fun i hi _ => e.get i hi, fun q h1 h2 => e.low q h2 (Nat.le_trans h1 hlo)⟩
theorem Chg.trans {lo : Nat} {σ σ1 σ2 : AS} {v : Value} (h : Chg lo σ σ1 v) (k : Chg lo σ1 σ2 v) : Chg lo σ σ2 v :=
  ⟨Nat.le_trans h.nxt k.nxt, fun i hi ho => (k.get i (Nat.lt_of_lt_of_le hi h.nxt) ho).trans (h.get i hi ho), fun q h1 h2 => k.low q h1 (h.low q h1 h2)⟩
theorem Chg.ext {lo : Nat} {σ σ1 σ2 : AS} {v : Value} (h : Chg lo σ σ1 v) (hlo : lo ≤ σ.next) (e : Ext σ1 σ2) : Chg lo σ σ2 v := h.trans (Chg.of (Nat.le_trans hlo h.nxt) e)
theorem Chg.put {lo : Nat} {σ : AS} {v : Value} {b : Nat} (hv : Own v b) (hb : lo ≤ b) (hn : b < σ.next) (B : Blk) : Chg lo σ (σ.put b B) v :=
  ⟨Nat.le_refl _, fun i hi ho => by rw [AS.get_put, if_neg (fun e => ho (by rw [← e]; exact hv))], fun q h1 h2 => Nat.le_min.2 ⟨h2, Nat.le_trans h1 hb⟩⟩
theorem Srt.chg {lo : Nat} {σ σ' : AS} {v : Value} {l l' : List Arc} (h : Srt lo σ σ' v l l') : Chg lo σ σ' v := ⟨h.nxt, h.get, h.low⟩

theorem srt_one (x : Arc) : Can.srt [x] = [x] := rfl

set_option maxHeartbeats 16000000 in
theorem compact_c {lo : Nat} {σ : AS} {v : Value} {l : List Arc} (h : AL lo σ v l) (hlo : lo ≤ σ.next) (hl : l ≠ []) (hn : l.length ≤ 1000) (ho : Ord l l.length) : C Tryz.prog KA 0 72 [v] σ fun u σ' => AL lo σ' u (Can.srt l) ∧ (∀ i, Own u i → Own v i) ∧ Chg lo σ σ' v := by
  have hpos := List.length_pos_iff.2 hl
  have hA := h
  obtain ⟨b, c, rfl, hb1, hb2, hbk, hbe, hix, hld, hst⟩ := h.at hl
  generalize hv : Value.slice (some ⟨b, 0, none⟩) l.length c = v at *
  refine C_of (ka rfl rfl) Tryz.func72 rfl (Nat.le_of_ble_eq_true rfl) ?_
  show W _ _ _ 61 _ _ _ _
  unfold Tryz.f72
  dsimp only
  repeat apply W_assoc
  apply W_reg
  · intro callf
    simp +decide only [aOps, rinit, aWanted, ↓bite_eq, ↓reduceIte, aStep_eq, aStepOld, aOp, opBox, opBin, opUn, opCall, opIndexAddr, opFieldAddr, opLoad, opStore, opPick, opExtract, opSlice, opBuildSlice, opBuild, aRow, aev, aevs, aparts, ann, unn, aPut, if_true, if_false, rget_rput, flat, flat1, Nat.blt_eq, aBuiltin, aLen, List.getElem?_toArray, List.getElem?_cons_zero, List.getElem?_cons_succ, Nat.zero_add, Option.bind_some, beq_self_eq_true, Bool.not_true, Bool.not_false, Bool.true_beq, Bool.false_beq]
    rfl
  by_cases hl2 : l.length < 2
  · have d1 : decide ((l.length : Int) < 2) = true := decide_eq_true (by omega)
    repeat apply W_assoc
    apply W_reg
    · intro callf
      simp +decide only [aOps, rinit, aWanted, ↓bite_eq, ↓reduceIte, aStep_eq, aStepOld, aOp, opBox, opBin, opUn, opCall, opIndexAddr, opFieldAddr, opLoad, opStore, opPick, opExtract, opSlice, opBuildSlice, opBuild, aRow, aev, aevs, aparts, ann, unn, aPut, if_true, if_false, rget_rput, flat, flat1, Nat.blt_eq, aBuiltin, aLen, List.getElem?_toArray, List.getElem?_cons_zero, List.getElem?_cons_succ, Nat.zero_add, Option.bind_some, beq_self_eq_true, Bool.not_true, Bool.not_false, Bool.true_beq, Bool.false_beq, ← hv, Tryz.underlying60, goInt, d1, aBin, aInts, aInt_eq]
      rfl
    repeat apply W_assoc
    refine W_if (b := true) ?_ ?_ ?_
    · simp +decide only [aevs, aev, aResults, rget_rput, if_true, if_false]
    rotate_left
    · intro h; cases h
    intro _
    repeat apply W_assoc
    apply W_reg
    · intro callf
      simp +decide only [aOps, rinit, aWanted, ↓bite_eq, ↓reduceIte, aStep_eq, aStepOld, aOp, opBox, opBin, opUn, opCall, opIndexAddr, opFieldAddr, opLoad, opStore, opPick, opExtract, opSlice, opBuildSlice, opBuild, aRow, aev, aevs, aparts, ann, unn, aPut, if_true, if_false, rget_rput, flat, flat1, Nat.blt_eq, aBuiltin, aLen, List.getElem?_toArray, List.getElem?_cons_zero, List.getElem?_cons_succ, Nat.zero_add, Option.bind_some, beq_self_eq_true, Bool.not_true, Bool.not_false, Bool.true_beq, Bool.false_beq, ← hv]
      rfl
    refine W_retq ⟨Nat.le_refl _, [v], ?_, ?_, fun i hi => hi, Chg.of hlo (Ext.refl _)⟩
    · simp +decide only [aevs, aev, aResults, rget_rput, if_true, if_false, hv]
    · obtain ⟨x, rfl⟩ : ∃ x, l = [x] := by
        cases l with
        | nil => exact absurd rfl hl
        | cons x l => cases l with
          | nil => exact ⟨x, rfl⟩
          | cons y l => simp only [List.length_cons] at hl2; omega
      rw [srt_one]
      exact hA
  have d1 : decide ((l.length : Int) < 2) = false := decide_eq_false (by omega)
  repeat apply W_assoc
  apply W_reg
  · intro callf
    simp +decide only [aOps, rinit, aWanted, ↓bite_eq, ↓reduceIte, aStep_eq, aStepOld, aOp, opBox, opBin, opUn, opCall, opIndexAddr, opFieldAddr, opLoad, opStore, opPick, opExtract, opSlice, opBuildSlice, opBuild, aRow, aev, aevs, aparts, ann, unn, aPut, if_true, if_false, rget_rput, flat, flat1, Nat.blt_eq, aBuiltin, aLen, List.getElem?_toArray, List.getElem?_cons_zero, List.getElem?_cons_succ, Nat.zero_add, Option.bind_some, beq_self_eq_true, Bool.not_true, Bool.not_false, Bool.true_beq, Bool.false_beq, ← hv, Tryz.underlying60, goInt, d1, aBin, aInts, aInt_eq]
    rfl
  repeat apply W_assoc
  refine W_if (b := false) ?_ ?_ ?_
  · simp +decide only [aevs, aev, aResults, rget_rput, if_true, if_false]
  · intro h; cases h
  intro _
  apply W_skipq
  repeat apply W_assoc
  apply W_reg
  · intro callf
    simp +decide only [aOps, rinit, aWanted, ↓bite_eq, ↓reduceIte, aStep_eq, aStepOld, aOp, opBox, opBin, opUn, opCall, opIndexAddr, opFieldAddr, opLoad, opStore, opPick, opExtract, opSlice, opBuildSlice, opBuild, aRow, aev, aevs, aparts, ann, unn, aPut, if_true, if_false, rget_rput, flat, flat1, Nat.blt_eq, aBuiltin, aLen, List.getElem?_toArray, List.getElem?_cons_zero, List.getElem?_cons_succ, Nat.zero_add, Option.bind_some, beq_self_eq_true, Bool.not_true, Bool.not_false, Bool.true_beq, Bool.false_beq]
    rfl
  repeat apply W_assoc
  refine W_for (fun (k : Nat) r s => 1 ≤ k ∧ k ≤ l.length ∧ Ext σ s ∧ Can.Asc (l.take k) ∧ rget r 0 = v ∧ rget r 3 = .int .i64 (k : Int)) (fun k => l.length - k) ?_ 1 ?_
  rotate_left
  · refine ⟨Nat.le_refl _, hpos, Ext.refl _, ?_, ?_, ?_⟩
    · cases l with
      | nil => exact absurd rfl hl
      | cons x l => simp [Can.Asc]
    all_goals simp +decide only [rget_rput, rinit, if_true, if_false, goInt, hv]
    all_goals first | exact True.intro | rfl
  rintro k r σ1 ⟨hk1, hk, E1, A1, h0, h3⟩
  try dsimp only at hk1 hk A1 h3
  by_cases hlt : k < l.length
  rotate_left
  · have d2 : decide ((k : Int) < (l.length : Int)) = false := decide_eq_false (by omega)
    repeat apply W_assoc
    apply W_reg
    · intro callf
      simp +decide only [aOps, rinit, aWanted, ↓bite_eq, ↓reduceIte, aStep_eq, aStepOld, aOp, opBox, opBin, opUn, opCall, opIndexAddr, opFieldAddr, opLoad, opStore, opPick, opExtract, opSlice, opBuildSlice, opBuild, aRow, aev, aevs, aparts, ann, unn, aPut, if_true, if_false, rget_rput, flat, flat1, Nat.blt_eq, aBuiltin, aLen, List.getElem?_toArray, List.getElem?_cons_zero, List.getElem?_cons_succ, Nat.zero_add, Option.bind_some, beq_self_eq_true, Bool.not_true, Bool.not_false, Bool.true_beq, Bool.false_beq, h0, h3, ← hv, Tryz.underlying60, goInt, d2, aBin, aInts, aInt_eq]
      rfl
    repeat apply W_assoc
    refine W_if (b := false) ?_ ?_ ?_
    · simp +decide only [aevs, aev, aResults, rget_rput, if_true, if_false]
    · intro h; cases h
    intro _
    refine W_exitq ⟨fun h => (nomatch h), fun _ => ?_, fun h1 h2 => absurd rfl h2⟩
    repeat apply W_assoc
    apply W_reg
    · intro callf
      simp +decide only [aOps, rinit, aWanted, ↓bite_eq, ↓reduceIte, aStep_eq, aStepOld, aOp, opBox, opBin, opUn, opCall, opIndexAddr, opFieldAddr, opLoad, opStore, opPick, opExtract, opSlice, opBuildSlice, opBuild, aRow, aev, aevs, aparts, ann, unn, aPut, if_true, if_false, rget_rput, flat, flat1, Nat.blt_eq, aBuiltin, aLen, List.getElem?_toArray, List.getElem?_cons_zero, List.getElem?_cons_succ, Nat.zero_add, Option.bind_some, beq_self_eq_true, Bool.not_true, Bool.not_false, Bool.true_beq, Bool.false_beq, h0]
      rfl
    refine W_ret ⟨Nat.le_refl _, [v], ?_, ?_, fun i hi => hi, Chg.of hlo E1⟩
    · simp +decide only [aevs, aev, aResults, rget_rput, if_true, if_false, h0]
    · obtain rfl : k = l.length := by omega
      rw [List.take_of_length_le (Nat.le_refl _)] at A1
      rw [Can.srt_id A1]
      exact hA.ext E1
  have d2 : decide ((k : Int) < (l.length : Int)) = true := decide_eq_true (by omega)
  repeat apply W_assoc
  apply W_reg
  · intro callf
    simp +decide only [aOps, rinit, aWanted, ↓bite_eq, ↓reduceIte, aStep_eq, aStepOld, aOp, opBox, opBin, opUn, opCall, opIndexAddr, opFieldAddr, opLoad, opStore, opPick, opExtract, opSlice, opBuildSlice, opBuild, aRow, aev, aevs, aparts, ann, unn, aPut, if_true, if_false, rget_rput, flat, flat1, Nat.blt_eq, aBuiltin, aLen, List.getElem?_toArray, List.getElem?_cons_zero, List.getElem?_cons_succ, Nat.zero_add, Option.bind_some, beq_self_eq_true, Bool.not_true, Bool.not_false, Bool.true_beq, Bool.false_beq, h0, h3, ← hv, Tryz.underlying60, goInt, d2, aBin, aInts, aInt_eq]
    rfl
  repeat apply W_assoc
  refine W_if (b := true) ?_ ?_ ?_
  · simp +decide only [aevs, aev, aResults, rget_rput, if_true, if_false]
  rotate_left
  · intro h; cases h
  intro _
  apply W_skipq
  refine W_blk ?_
  have w7 : IntKind.i64.wrap ((k : Int) - 1) = ((k - 1 : Nat) : Int) := by rw [wrap64_id _ (by omega) (by omega)]; omega
  obtain ⟨x, hx⟩ : ∃ x, l[k]? = some x := ⟨l[k], by simp [hlt]⟩
  obtain ⟨y, hy⟩ : ∃ y, l[k - 1]? = some y := ⟨l[k - 1]'(by omega), by simp [show k - 1 < l.length by omega]⟩
  have ix := hix k hlt
  have iy := hix (k - 1) (by omega)
  have lx := hld k x hx σ1.reset (E1.get b hb2)
  have ly := hld (k - 1) y hy σ1.reset (E1.get b hb2)
  have ex := fun xo yo => (eqA xo yo x y).1
  refine W_tail ?_
  repeat apply W_assoc
  refine W_drw [] [] (by kernel_rfl) (by kernel_rfl) ?_
  apply Lg_all
  · intro callf
    simp +decide only [aQ, memb, List.any_nil, List.any_cons, Bool.true_or, Bool.or_false, Bool.and_true, Bool.or_true, Bool.false_or, Bool.true_and, reset_merge, reset_reset, reset_next, reset_low, merge_next, merge_idem, new_low, ble_self, aOps, rinit, aWanted, ↓bite_eq, ↓reduceIte, aStep_eq, aStepOld, aOp, opBox, opBin, opUn, opCall, opIndexAddr, opFieldAddr, opLoad, opStore, opPick, opExtract, opSlice, opBuildSlice, opBuild, aRow, aev, aevs, aparts, ann, unn, aPut, if_true, if_false, rget_rput, flat, flat1, Nat.blt_eq, aBuiltin, aLen, List.getElem?_toArray, List.getElem?_cons_zero, List.getElem?_cons_succ, Nat.zero_add, Option.bind_some, beq_self_eq_true, Bool.not_true, Bool.not_false, Bool.true_beq, Bool.false_beq, h0, h3, w7, ix, iy, lx, ly, ex, subI]
    rfl
  have E2 := E1.trans ((Ext.refl _).merge (σ := σ1))
  generalize σ1.merge σ1.reset = σ2 at E2
  by_cases hxy : x = y
  rotate_left
  · have d3 : decide (x = y) = false := decide_eq_false hxy
    simp only [d3]
    repeat apply W_assoc
    refine W_if (b := false) ?_ ?_ ?_
    · simp +decide only [aevs, aev, aResults, rget_rput, if_true, if_false]
    · intro h; cases h
    intro _
    refine W_skipq ?_
    refine W_skip ⟨fun _ => ?_, fun h => absurd rfl h⟩
    refine W_tail ?_
    have w8 : IntKind.i64.wrap ((k : Int) + 1) = ((k + 1 : Nat) : Int) := by rw [wrap64_id _ (by omega) (by omega)]; omega
    repeat apply W_assoc
    apply W_reg
    · intro callf
      simp +decide only [aOps, rinit, aWanted, ↓bite_eq, ↓reduceIte, aStep_eq, aStepOld, aOp, opBox, opBin, opUn, opCall, opIndexAddr, opFieldAddr, opLoad, opStore, opPick, opExtract, opSlice, opBuildSlice, opBuild, aRow, aev, aevs, aparts, ann, unn, aPut, if_true, if_false, rget_rput, flat, flat1, Nat.blt_eq, aBuiltin, aLen, List.getElem?_toArray, List.getElem?_cons_zero, List.getElem?_cons_succ, Nat.zero_add, Option.bind_some, beq_self_eq_true, Bool.not_true, Bool.not_false, Bool.true_beq, Bool.false_beq, h3, w8, aBin, aInts, aInt_eq]
      rfl
    refine W_skip ⟨fun _ => ⟨k + 1, ?_, ?_⟩, fun h => (nomatch h), fun h => absurd rfl h⟩
    · show l.length - (k + 1) < l.length - k
      omega
    · refine ⟨by show 1 ≤ k + 1; omega, by show k + 1 ≤ _; omega, E2, Can.asc_step A1 ho (by omega) hlt hx hy hxy, ?_, ?_⟩ <;> simp +decide only [rget_rput, if_true, if_false, h0]
  have d3 : decide (x = y) = true := decide_eq_true hxy
  simp only [d3]
  repeat apply W_assoc
  refine W_if (b := true) ?_ ?_ ?_
  · simp +decide only [aevs, aev, aResults, rget_rput, if_true, if_false]
  rotate_left
  · intro h; cases h
  intro _
  subst hxy
  have hown : Own v b := ⟨_, _, hv.symm⟩
  have hA2 := hA.ext E2
  obtain ⟨b', c', ho', hsl, -⟩ := hA2.tail (k := k) (by omega) hlt
  obtain rfl : b' = b := by
    obtain ⟨n', c2, e⟩ := ho'
    rw [← hv] at e
    cases e; rfl
  repeat apply W_assoc
  apply W_reg
  · intro callf
    simp +decide only [aOps, rinit, aWanted, ↓bite_eq, ↓reduceIte, aStep_eq, aStepOld, aOp, opBox, opBin, opUn, opCall, opIndexAddr, opFieldAddr, opLoad, opStore, opPick, opExtract, opSlice, opBuildSlice, opBuild, aRow, aev, aevs, aparts, ann, unn, aPut, if_true, if_false, rget_rput, flat, flat1, Nat.blt_eq, aBuiltin, aLen, List.getElem?_toArray, List.getElem?_cons_zero, List.getElem?_cons_succ, Nat.zero_add, Option.bind_some, beq_self_eq_true, Bool.not_true, Bool.not_false, Bool.true_beq, Bool.false_beq, h0, h3, aopt, hsl]
    rfl
  repeat apply W_assoc
  apply W_reg
  · intro callf
    simp +decide only [aOps, rinit, aWanted, ↓bite_eq, ↓reduceIte, aStep_eq, aStepOld, aOp, opBox, opBin, opUn, opCall, opIndexAddr, opFieldAddr, opLoad, opStore, opPick, opExtract, opSlice, opBuildSlice, opBuild, aRow, aev, aevs, aparts, ann, unn, aPut, if_true, if_false, rget_rput, flat, flat1, Nat.blt_eq, aBuiltin, aLen, List.getElem?_toArray, List.getElem?_cons_zero, List.getElem?_cons_succ, Nat.zero_add, Option.bind_some, beq_self_eq_true, Bool.not_true, Bool.not_false, Bool.true_beq, Bool.false_beq]
    rfl
  repeat apply W_assoc
  refine W_for (fun (p : Nat × Nat × List Arc) r s => 1 ≤ p.2.1 ∧ k + p.2.1 ≤ l.length ∧ Can.Cmp l p.2.2 p.1 (k + p.2.1) ∧ AL lo s v p.2.2 ∧ Chg lo σ s v ∧ rget r 0 = v ∧ rget r 3 = .int .i64 (p.1 : Int) ∧ rget r 4 = .slice (some ⟨b', k * 2, none⟩) (l.length - k) c' ∧ rget r 5 = .int .i64 (p.2.1 : Int)) (fun p => l.length - (k + p.2.1)) ?_ (k, 1, l) ?_
  rotate_left
  · refine ⟨Nat.le_refl _, hlt, Can.Cmp.start (by omega) hlt A1 hx hy, hA2, Chg.of hlo E2, ?_, ?_, ?_, ?_⟩ <;> simp +decide only [rget_rput, rinit, if_true, if_false, goInt, h0, h3]
    first | exact True.intro | rfl
  clear h0 h3 lx ly ix iy
  rintro ⟨k1, k2, cur⟩ r σ3 ⟨hk21, hk2, M3, A3, C3, h0, h3, h4, h5⟩
  dsimp only at hk21 hk2 M3 A3 h3 h5
  have hcl := M3.len
  have hcur : cur ≠ [] := fun e => by rw [e] at hcl; simp at hcl; omega
  have hkr := M3.kr
  have hkp := M3.pos
  by_cases hlt2 : k + k2 < l.length
  rotate_left
  · have d4 : decide ((k2 : Int) < ((l.length - k : Nat) : Int)) = false := decide_eq_false (by omega)
    repeat apply W_assoc
    apply W_reg
    · intro callf
      simp +decide only [aOps, rinit, aWanted, ↓bite_eq, ↓reduceIte, aStep_eq, aStepOld, aOp, opBox, opBin, opUn, opCall, opIndexAddr, opFieldAddr, opLoad, opStore, opPick, opExtract, opSlice, opBuildSlice, opBuild, aRow, aev, aevs, aparts, ann, unn, aPut, if_true, if_false, rget_rput, flat, flat1, Nat.blt_eq, aBuiltin, aLen, List.getElem?_toArray, List.getElem?_cons_zero, List.getElem?_cons_succ, Nat.zero_add, Option.bind_some, beq_self_eq_true, Bool.not_true, Bool.not_false, Bool.true_beq, Bool.false_beq, h4, h5, Tryz.underlying60, goInt, d4, aBin, aInts, aInt_eq]
      rfl
    repeat apply W_assoc
    refine W_if (b := false) ?_ ?_ ?_
    · simp +decide only [aevs, aev, aResults, rget_rput, if_true, if_false]
    · intro h; cases h
    intro _
    refine W_exitq ⟨fun h => (nomatch h), fun _ => ?_, fun h1 h2 => absurd rfl h2⟩
    have hend : k + k2 = l.length := by omega
    rw [hend] at M3 hkr
    obtain ⟨b2, c2, ho2, hs2, σ4, hc4, hn4, hg4, hw4, hf4⟩ := A3.tail (k := k1) hkp (by omega)
    obtain rfl : b2 = b' := by
      obtain ⟨n', c3, e⟩ := ho2
      rw [← hv] at e
      cases e; rfl
    repeat apply W_assoc
    apply W_reg
    · intro callf
      simp +decide only [aOps, rinit, aWanted, ↓bite_eq, ↓reduceIte, aStep_eq, aStepOld, aOp, opBox, opBin, opUn, opCall, opIndexAddr, opFieldAddr, opLoad, opStore, opPick, opExtract, opSlice, opBuildSlice, opBuild, aRow, aev, aevs, aparts, ann, unn, aPut, if_true, if_false, rget_rput, flat, flat1, Nat.blt_eq, aBuiltin, aLen, List.getElem?_toArray, List.getElem?_cons_zero, List.getElem?_cons_succ, Nat.zero_add, Option.bind_some, beq_self_eq_true, Bool.not_true, Bool.not_false, Bool.true_beq, Bool.false_beq, h0, h3, aopt, hs2, hc4]
      rfl
    obtain ⟨u, hu, hAu, hou⟩ := hf4 σ4 (Nat.le_refl _) rfl
    repeat apply W_assoc
    apply W_reg
    · intro callf
      simp +decide only [aOps, rinit, aWanted, ↓bite_eq, ↓reduceIte, aStep_eq, aStepOld, aOp, opBox, opBin, opUn, opCall, opIndexAddr, opFieldAddr, opLoad, opStore, opPick, opExtract, opSlice, opBuildSlice, opBuild, aRow, aev, aevs, aparts, ann, unn, aPut, if_true, if_false, rget_rput, flat, flat1, Nat.blt_eq, aBuiltin, aLen, List.getElem?_toArray, List.getElem?_cons_zero, List.getElem?_cons_succ, Nat.zero_add, Option.bind_some, beq_self_eq_true, Bool.not_true, Bool.not_false, Bool.true_beq, Bool.false_beq, h0, h3, aopt, hu]
      rfl
    refine W_retq ⟨fun h => h.elim (fun h => (nomatch h)) (fun h => (nomatch h)), fun _ _ => ⟨fun h => (nomatch h), fun h => (nomatch h), fun _ _ => ⟨Nat.le_refl _, [u], ?_, ?_, hou, C3.trans ⟨by rw [hn4]; exact Nat.le_refl _, fun i hi hno => hg4 i (fun e => hno (by rw [e]; exact hown)), fun q h1 h2 => hw4 q (Nat.le_trans h1 hb1) h2⟩⟩⟩⟩
    · simp +decide only [aevs, aev, aResults, rget_rput, if_true, if_false]
    · rw [← M3.done]
      exact hAu
  have d4 : decide ((k2 : Int) < ((l.length - k : Nat) : Int)) = true := decide_eq_true (by omega)
  repeat apply W_assoc
  apply W_reg
  · intro callf
    simp +decide only [aOps, rinit, aWanted, ↓bite_eq, ↓reduceIte, aStep_eq, aStepOld, aOp, opBox, opBin, opUn, opCall, opIndexAddr, opFieldAddr, opLoad, opStore, opPick, opExtract, opSlice, opBuildSlice, opBuild, aRow, aev, aevs, aparts, ann, unn, aPut, if_true, if_false, rget_rput, flat, flat1, Nat.blt_eq, aBuiltin, aLen, List.getElem?_toArray, List.getElem?_cons_zero, List.getElem?_cons_succ, Nat.zero_add, Option.bind_some, beq_self_eq_true, Bool.not_true, Bool.not_false, Bool.true_beq, Bool.false_beq, h4, h5, Tryz.underlying60, goInt, d4, aBin, aInts, aInt_eq]
    rfl
  repeat apply W_assoc
  refine W_if (b := true) ?_ ?_ ?_
  · simp +decide only [aevs, aev, aResults, rget_rput, if_true, if_false]
  rotate_left
  · intro h; cases h
  intro _
  apply W_skipq
  refine W_blk ?_
  clear hix hld hst
  obtain ⟨b2, c2, hv2, hb1', hb2', -, -, hix, hld, hst⟩ := A3.at hcur
  obtain rfl : b2 = b' := by
    rw [← hv] at hv2
    have := (Value.slice.inj hv2).1
    cases this; rfl
  have w9 : IntKind.i64.wrap ((k2 : Int) - 1) = ((k2 - 1 : Nat) : Int) := by rw [wrap64_id _ (by omega) (by omega)]; omega
  obtain ⟨z, hz⟩ : ∃ z, l[k + k2]? = some z := ⟨l[k + k2], by simp [hlt2]⟩
  obtain ⟨t, ht⟩ : ∃ t, l[k + k2 - 1]? = some t := ⟨l[k + k2 - 1]'(by omega), by simp [show k + k2 - 1 < l.length by omega]⟩
  have hz2 := (M3.tail (k + k2) (by omega)).trans hz
  have ht2 := (M3.tail (k + k2 - 1) (by omega)).trans ht
  have iz : aIndexAddr Tryz.prog 60 (.slice (some ⟨b2, k * 2, none⟩) (l.length - k) c') (.int .i64 (k2 : Int)) = some (.pointer (some ⟨b2, (k + k2) * 2, none⟩)) := by
    rw [idxA (show k2 < l.length - k by omega), Nat.add_mul]
  have it : aIndexAddr Tryz.prog 60 (.slice (some ⟨b2, k * 2, none⟩) (l.length - k) c') (.int .i64 ((k2 - 1 : Nat) : Int)) = some (.pointer (some ⟨b2, (k + k2 - 1) * 2, none⟩)) := by
    rw [idxA (show k2 - 1 < l.length - k by omega), ← Nat.add_mul, show k + (k2 - 1) = k + k2 - 1 by omega]
  have lz := hld (k + k2) z hz2 σ3.reset rfl
  have lt := hld (k + k2 - 1) t ht2 σ3.reset rfl
  have ez := fun xo yo => (eqA xo yo z t).2
  refine W_tail ?_
  have wk : IntKind.i64.wrap ((k2 : Int) + 1) = ((k2 + 1 : Nat) : Int) := by rw [wrap64_id _ (by omega) (by omega)]; omega
  repeat apply W_assoc
  refine W_drw [] [] (by kernel_rfl) (by kernel_rfl) ?_
  apply Lg_all
  · intro callf
    simp +decide only [aQ, memb, List.any_nil, List.any_cons, Bool.true_or, Bool.or_false, Bool.and_true, Bool.or_true, Bool.false_or, Bool.true_and, reset_merge, reset_reset, reset_next, reset_low, merge_next, merge_idem, new_low, ble_self, aOps, rinit, aWanted, ↓bite_eq, ↓reduceIte, aStep_eq, aStepOld, aOp, opBox, opBin, opUn, opCall, opIndexAddr, opFieldAddr, opLoad, opStore, opPick, opExtract, opSlice, opBuildSlice, opBuild, aRow, aev, aevs, aparts, ann, unn, aPut, if_true, if_false, rget_rput, flat, flat1, Nat.blt_eq, aBuiltin, aLen, List.getElem?_toArray, List.getElem?_cons_zero, List.getElem?_cons_succ, Nat.zero_add, Option.bind_some, beq_self_eq_true, Bool.not_true, Bool.not_false, Bool.true_beq, Bool.false_beq, h4, h5, w9, iz, it, lz, lt, ez, subI]
    rfl
  have e4 := (Ext.refl _).merge (σ := σ3)
  generalize σ3.merge σ3.reset = σ4 at e4
  have A4 := A3.ext e4
  have C4 := C3.ext hlo e4
  by_cases hzt : z = t
  · have d5 : (!decide (z = t)) = false := by rw [decide_eq_true hzt]; rfl
    simp only [d5]
    repeat apply W_assoc
    refine W_if (b := false) ?_ ?_ ?_
    · simp +decide only [aevs, aev, aResults, rget_rput, if_true, if_false]
    · intro h; cases h
    intro _
    refine W_skipq ?_
    refine W_skip ⟨fun _ => ?_, fun h => absurd rfl h⟩
    refine W_tail ?_
    repeat apply W_assoc
    apply W_reg
    · intro callf
      simp +decide only [aOps, rinit, aWanted, ↓bite_eq, ↓reduceIte, aStep_eq, aStepOld, aOp, opBox, opBin, opUn, opCall, opIndexAddr, opFieldAddr, opLoad, opStore, opPick, opExtract, opSlice, opBuildSlice, opBuild, aRow, aev, aevs, aparts, ann, unn, aPut, if_true, if_false, rget_rput, flat, flat1, Nat.blt_eq, aBuiltin, aLen, List.getElem?_toArray, List.getElem?_cons_zero, List.getElem?_cons_succ, Nat.zero_add, Option.bind_some, beq_self_eq_true, Bool.not_true, Bool.not_false, Bool.true_beq, Bool.false_beq, h5, wk, aBin, aInts, aInt_eq]
      rfl
    subst hzt
    refine W_skip ⟨fun _ => ⟨(k1, k2 + 1, cur), ?_, ?_⟩, fun h => (nomatch h), fun h => absurd rfl h⟩
    · show l.length - (k + (k2 + 1)) < l.length - (k + k2)
      omega
    · refine ⟨by show 1 ≤ k2 + 1; omega, by show k + (k2 + 1) ≤ _; omega, M3.same hlt2 hz ht, A4, C4, ?_, ?_, ?_, ?_⟩ <;> simp +decide only [rget_rput, if_true, if_false, h0, h3, h4]
  have d5 : (!decide (z = t)) = true := by rw [decide_eq_false hzt]; rfl
  simp only [d5]
  repeat apply W_assoc
  refine W_if (b := true) ?_ ?_ ?_
  · simp +decide only [aevs, aev, aResults, rget_rput, if_true, if_false]
  rotate_left
  · intro h; cases h
  intro _
  clear hix hld hst lz lt
  obtain ⟨b3, c3, hv3, hb1'', hb2'', -, -, hix, hld, hst⟩ := A4.at hcur
  obtain rfl : b3 = b2 := by
    rw [← hv] at hv3
    have := (Value.slice.inj hv3).1
    cases this; rfl
  have lz := hld (k + k2) z hz2 σ4 rfl
  have ik := hix k1 (by omega)
  obtain ⟨B, hBk, hBe, hBs, hBo⟩ := hst k1 z (by omega)
  have hs := hBs σ4 rfl
  repeat apply W_assoc
  apply W_reg
  · intro callf
    simp +decide only [aOps, rinit, aWanted, ↓bite_eq, ↓reduceIte, aStep_eq, aStepOld, aOp, opBox, opBin, opUn, opCall, opIndexAddr, opFieldAddr, opLoad, opStore, opPick, opExtract, opSlice, opBuildSlice, opBuild, aRow, aev, aevs, aparts, ann, unn, aPut, if_true, if_false, rget_rput, flat, flat1, Nat.blt_eq, aBuiltin, aLen, List.getElem?_toArray, List.getElem?_cons_zero, List.getElem?_cons_succ, Nat.zero_add, Option.bind_some, beq_self_eq_true, Bool.not_true, Bool.not_false, Bool.true_beq, Bool.false_beq, h0, h3, h4, h5, iz, lz, ik, hs]
    rfl
  have A5 : AL lo (σ4.put b3 B) v (cur.set k1 z) := hBo _ (Nat.le_refl _) (by rw [AS.get_put, if_pos rfl])
  have C5 : Chg lo σ (σ4.put b3 B) v := C4.trans (Chg.put hown hb1 hb2'' B)
  generalize σ4.put b3 B = σ5 at A5 C5
  have wj : IntKind.i64.wrap ((k1 : Int) + 1) = ((k1 + 1 : Nat) : Int) := by rw [wrap64_id _ (by omega) (by omega)]; omega
  repeat apply W_assoc
  apply W_reg
  · intro callf
    simp +decide only [aOps, rinit, aWanted, ↓bite_eq, ↓reduceIte, aStep_eq, aStepOld, aOp, opBox, opBin, opUn, opCall, opIndexAddr, opFieldAddr, opLoad, opStore, opPick, opExtract, opSlice, opBuildSlice, opBuild, aRow, aev, aevs, aparts, ann, unn, aPut, if_true, if_false, rget_rput, flat, flat1, Nat.blt_eq, aBuiltin, aLen, List.getElem?_toArray, List.getElem?_cons_zero, List.getElem?_cons_succ, Nat.zero_add, Option.bind_some, beq_self_eq_true, Bool.not_true, Bool.not_false, Bool.true_beq, Bool.false_beq, h3, wj, aBin, aInts, aInt_eq]
    rfl
  refine W_skip ⟨fun _ => ?_, fun h => absurd rfl h⟩
  refine W_tail ?_
  repeat apply W_assoc
  apply W_reg
  · intro callf
    simp +decide only [aOps, rinit, aWanted, ↓bite_eq, ↓reduceIte, aStep_eq, aStepOld, aOp, opBox, opBin, opUn, opCall, opIndexAddr, opFieldAddr, opLoad, opStore, opPick, opExtract, opSlice, opBuildSlice, opBuild, aRow, aev, aevs, aparts, ann, unn, aPut, if_true, if_false, rget_rput, flat, flat1, Nat.blt_eq, aBuiltin, aLen, List.getElem?_toArray, List.getElem?_cons_zero, List.getElem?_cons_succ, Nat.zero_add, Option.bind_some, beq_self_eq_true, Bool.not_true, Bool.not_false, Bool.true_beq, Bool.false_beq, h5, wk, aBin, aInts, aInt_eq]
    rfl
  refine W_skip ⟨fun _ => ⟨(k1 + 1, k2 + 1, cur.set k1 z), ?_, ?_⟩, fun h => (nomatch h), fun h => absurd rfl h⟩
  · show l.length - (k + (k2 + 1)) < l.length - (k + k2)
    omega
  · refine ⟨by show 1 ≤ k2 + 1; omega, by show k + (k2 + 1) ≤ _; omega, M3.more ho hlt2 hz ht hzt, A5, C5, ?_, ?_, ?_, ?_⟩ <;> simp +decide only [rget_rput, if_true, if_false, h0, h3, h4]

end Go.Proofs.YtacpdefmnijhnaaGreat.U
