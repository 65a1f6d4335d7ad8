/- Sort of few integers (75, 69, 60). -/
import Derived.Test.YtbknckiapcafdaaNestZQ
set_option linter.unusedSimpArgs false
set_option linter.unusedVariables false
namespace Go.Proofs.Ytbknckiapcafdaa.Nest
open Abs Abs2

/-- A growing list of integers. -/
def OL (lo : Nat) (σ : AS) (v : Value) (l : List Int) : Prop := Stk lo 3 1 σ v l.length (l.map vInt)

section
variable {lo : Nat} {σ σ' : AS} {v : Value} {l : List Int}
theorem OL.ext (h : OL lo σ v l) (e : Ext σ σ') : OL lo σ' v l := h.keep e.nxt fun i _ hi => e.get i hi
theorem OL.nil : OL lo σ (.slice none 0 0) [] := ⟨rfl, rfl, .inl ⟨rfl, rfl⟩⟩
theorem OL.at (h : OL lo σ v l) (hl : l ≠ []) : ∃ b c, v = .slice (some ⟨b, 0, none⟩) l.length c ∧ lo ≤ b ∧ b < σ.next ∧ (σ.get b).kind = 2 ∧ (σ.get b).elem = 3 ∧
    (∀ i, i < l.length → aIndexAddr Try.prog 33 v (.int .i64 (i : Int)) = some (.pointer (some ⟨b, i, none⟩))) ∧
    (∀ i x, l[i]? = some x → ∀ σ' : AS, σ'.get b = σ.get b → aLoad Try.prog σ' 3 (.pointer (some ⟨b, i, none⟩)) = some (vInt x)) ∧
    (∀ i x, i < l.length → ∃ B : Blk, B.kind = 2 ∧ B.elem = 3 ∧ (∀ σ' : AS, σ'.get b = σ.get b → aStore Try.prog σ' 3 (vInt x) (.pointer (some ⟨b, i, none⟩)) = some (σ'.put b B)) ∧ ∀ τ : AS, σ.next ≤ τ.next → τ.get b = B → OL lo τ v (l.set i x)) := by
  obtain ⟨c1, c2, ⟨h3, h0⟩ | ⟨b, n, vals, rfl, h4, h5, h6, h7, h8, h9⟩⟩ := h
  · exact absurd (List.length_eq_zero_iff.1 h0) hl
  have hv : ∀ (i : Nat) (x : Int), l[i]? = some x → vals[i]? = some (vInt x) := fun i x hx => by
    have h10 : (l.map vInt)[i]? = some (vInt x) := by rw [List.getElem?_map, hx]; rfl
    rw [← h9, List.getElem?_take] at h10
    split at h10
    · exact h10
    · cases h10
  refine ⟨b, _, rfl, h5, h6, by rw [h7], by rw [h7], fun i hi => ?_, fun i x hx σ' hg => load1 Try.underlying3 rfl ?_, fun i x hi => ⟨⟨2, 3, 1, vals.set i (vInt x), []⟩, rfl, rfl, fun σ' hg => ?_, fun τ hn hg => ⟨by rw [List.length_map, List.length_set, Nat.mul_one], ?_, .inr ⟨b, n, vals.set i (vInt x), by rw [List.length_set], by rw [List.length_set]; exact h4, h5, by omega, hg, by rw [List.length_set]; exact h8, ?_⟩⟩⟩⟩
  · have e1 := idx33 (b := b) (off := 0) (cap := OPENCAP + n) hi
    rw [Nat.mul_one, Nat.zero_add] at e1
    exact e1
  · obtain ⟨g1, g2⟩ := List.getElem?_eq_some_iff.1 (hv i x hx)
    unfold aCells
    simp only [hg.trans h7, hasLen_eq]
    rw [ble_t (show i + 1 ≤ vals.length by omega), List.drop_eq_getElem_cons g1, g2]
    rfl
  · obtain ⟨inf, hi2, hs⟩ : ∃ inf, Try.prog.info? 3 = some inf ∧ inf.size = 1 := ⟨(Try.prog.info? 3).get!, by kernel_rfl, by kernel_rfl⟩
    have hz : Nat.beq (vInt x).cells.size 1 = true := rfl
    have hc : (vInt x).cells.toList = [vInt x] := rfl
    have ho : one (vInt x) = true := rfl
    unfold aStore
    simp only [hi2, hs, hz, if_true, hc]
    unfold aWrite
    simp only [hg.trans h7, hasLen_eq, List.length_cons, List.length_nil, Nat.zero_add, List.all_cons, List.all_nil, ho]
    rw [ble_t (show i + 1 ≤ vals.length by omega), lsplice_cons, lsplice_nil]
    rfl
  · rw [List.all_eq_true]
    intro y hy
    obtain ⟨z, _, rfl⟩ := List.mem_map.1 hy
    rfl
  · rw [List.length_set, List.take_set, h9, ← List.map_set]
theorem OL.push (h : OL lo σ v l) (hlo : lo ≤ σ.next) {b : Nat} {x : Int} (hb : σ.get b = ⟨1, 3, 0, [vInt x], []⟩) (hk : l.length + 1 ≤ 1000000) :
    ∃ v' s, aAppend Try.prog σ #[33, 33] v (.slice (some ⟨b, 0, none⟩) 1 1) = some (v', s) ∧ OL lo s v' (l ++ [x]) ∧ σ.next ≤ s.next ∧ (∀ i, i < σ.next → ¬ Own v i → s.get i = σ.get i) ∧ (∀ q, q ≤ lo → q ≤ σ.low → q ≤ s.low) := by
  have hsrc : ∀ inf : TypeInfo, inf.size = 1 → aSource Try.prog σ false inf (.slice (some ⟨b, 0, none⟩) 1 1) = some (1, [vInt x]) := fun inf hi => by
    have hc : aCells σ ⟨b, 0, none⟩ 1 = some [vInt x] := cells_at hb rfl (Nat.le_refl _)
    unfold aSource
    simp only [Bool.false_eq_true, if_false, hi, Nat.mul_one, aCellsS_none, hc]
  obtain ⟨v', s, g1, g2, g3, g4, g5, g6⟩ := Stk.push el3 h hlo hsrc rfl rfl hk
  refine ⟨v', s, g1, ?_, g3, g4, g5⟩
  unfold OL
  rw [List.length_append, List.map_append]
  exact g2
theorem OL.own (h : OL lo σ v l) {i : Nat} (ho : Own v i) : lo ≤ i ∧ i < σ.next ∧ (σ.get i).kind = 2 ∧ (σ.get i).elem = 3 := Stk.own h ho
end

theorem swap_mem {l : List Int} {i j : Nat} {a b : Int} (ha : l[i]? = some a) (hb : l[j]? = some b) (x : Int) : x ∈ (l.set i b).set j a ↔ x ∈ l := by
  obtain ⟨hi, ha2⟩ := List.getElem?_eq_some_iff.1 ha
  obtain ⟨hj, hb2⟩ := List.getElem?_eq_some_iff.1 hb
  constructor
  · intro h
    rcases List.mem_or_eq_of_mem_set h with h | rfl
    · rcases List.mem_or_eq_of_mem_set h with h | rfl
      · exact h
      · exact List.mem_of_getElem? hb
    · exact List.mem_of_getElem? ha
  · intro h
    obtain ⟨k, hk⟩ := List.mem_iff_getElem?.1 h
    have hkl := (List.getElem?_eq_some_iff.1 hk).1
    by_cases e1 : k = i
    · subst e1
      rw [ha] at hk; cases hk
      exact List.mem_of_getElem? (i := j) (List.getElem?_set_self (by rw [List.length_set]; exact hj))
    · by_cases e2 : k = j
      · subst e2
        rw [hb] at hk; cases hk
        refine List.mem_of_getElem? (i := i) ?_
        rw [List.getElem?_set_ne e1, List.getElem?_set_self hi]
      · refine List.mem_of_getElem? (i := k) ?_
        rw [List.getElem?_set_ne (fun e => e2 e.symm), List.getElem?_set_ne (fun e => e1 e.symm)]; exact hk

/-- What a sort does: the list's own block changes, its elements are the same. -/
structure Srt (lo : Nat) (σ σ' : AS) (v : Value) (l l' : List Int) : Prop where
  ol : OL lo σ' v l'
  len : l'.length = l.length
  mem : ∀ x, x ∈ l' ↔ x ∈ l
  nxt : σ.next ≤ σ'.next
  get : ∀ i, i < σ.next → ¬ Own v i → σ'.get i = σ.get i
  low : ∀ q, q ≤ lo → q ≤ σ.low → q ≤ σ'.low
theorem Srt.refl {lo : Nat} {σ : AS} {v : Value} {l : List Int} (h : OL lo σ v l) : Srt lo σ σ v l l := ⟨h, rfl, fun _ => Iff.rfl, Nat.le_refl _, fun _ _ _ => rfl, fun _ _ h => h⟩
theorem Srt.ext {lo : Nat} {σ σ1 σ2 : AS} {v : Value} {l l1 : List Int} (h : Srt lo σ σ1 v l l1) (hlo : lo ≤ σ.next) (e : Ext σ1 σ2) : Srt lo σ σ2 v l l1 :=
  ⟨h.ol.ext e, h.len, h.mem, Nat.le_trans h.nxt e.nxt, fun i hi ho => (e.get i (Nat.lt_of_lt_of_le hi h.nxt)).trans (h.get i hi ho), fun q h1 h2 => e.low q (h.low q h1 h2) (Nat.le_trans h1 (Nat.le_trans hlo h.nxt))⟩

set_option maxHeartbeats 16000000 in
theorem insertion_c {lo : Nat} {σ : AS} {v : Value} {l : List Int} (h : OL lo σ v l) (hlo : lo ≤ σ.next) (hl : l ≠ []) (hn : l.length ≤ 1000) : C Try.prog Kn 0 75 [v, .int .i64 0, .int .i64 (l.length : Int)] σ fun _ σ' => ∃ l', Srt lo σ σ' v l l' := by
  have hpos := List.length_pos_iff.2 hl
  refine C_of (kn (by decide)) Try.func75 rfl (Nat.le_of_ble_eq_true rfl) ?_
  show W _ _ _ 49 _ _ _ _
  unfold Try.f75
  dsimp only
  have w01 : IntKind.i64.wrap (0 + 1) = ((1 : Nat) : Int) := by rw [wrap64_id _ (by omega) (by omega)]; rfl
  repeat apply W_assoc
  apply W_reg
  · intro callf
    simp +decide only [aOps, rinit, aWanted, ↓bite_eq, ↓reduceIte, aStep_eq, aStepOld, aOp, opBin, aev, ann, aPut, rget_rput, Nat.zero_add, w01, aBin, aInts, aInt_eq]
    rfl
  refine W_tail ?_
  repeat apply W_assoc
  refine W_for (fun (p : Nat × List Int) r s => 1 ≤ p.1 ∧ p.1 ≤ l.length ∧ Srt lo σ s v l p.2 ∧ rget r 0 = v ∧ rget r 1 = .int .i64 0 ∧ rget r 2 = .int .i64 (l.length : Int) ∧ rget r 6 = .int .i64 (p.1 : Int)) (fun p => l.length - p.1) ?_ (1, l) ?_
  rotate_left
  · refine ⟨Nat.le_refl _, hpos, Srt.refl h, ?_, ?_, ?_, ?_⟩ <;> simp +decide only [rget_rput, if_true, if_false] <;> first | exact True.intro | rfl
  rintro ⟨i, l1⟩ r σ1 ⟨hi1, hi, S1, h0, h1, h2, h6⟩
  dsimp only at hi1 hi S1 h6
  by_cases hlt : i < l.length
  rotate_left
  · have d1 : decide ((i : Int) < (l.length : Int)) = false := decide_eq_false (by omega)
    repeat apply W_assoc
    apply W_reg
    · intro callf
      simp +decide only [aOps, aWanted, ↓bite_eq, ↓reduceIte, aStep_eq, aStepOld, aOp, opBin, aev, ann, aPut, rget_rput, h2, h6, d1, aBin, aInts, aInt_eq]
      rfl
    repeat apply W_assoc
    refine W_if (b := false) ?_ ?_ ?_
    · simp +decide only [aev, rget_rput, if_true, if_false]
    · intro h; cases h
    intro _
    refine W_exitq ⟨fun h => (nomatch h), fun _ => ?_, fun h1 h2 => absurd rfl h2⟩
    refine W_skip ⟨Nat.zero_le _, [], rfl, l1, S1⟩
  have d1 : decide ((i : Int) < (l.length : Int)) = true := decide_eq_true (by omega)
  repeat apply W_assoc
  apply W_reg
  · intro callf
    simp +decide only [aOps, aWanted, ↓bite_eq, ↓reduceIte, aStep_eq, aStepOld, aOp, opBin, aev, ann, aPut, rget_rput, h2, h6, d1, aBin, aInts, aInt_eq]
    rfl
  repeat apply W_assoc
  refine W_if (b := true) ?_ ?_ ?_
  · simp +decide only [aev, rget_rput, if_true, if_false]
  rotate_left
  · intro h; cases h
  intro _
  apply W_skipq
  refine W_blk ?_
  repeat apply W_assoc
  apply W_reg
  · intro callf
    simp +decide only [aOps, aWanted, ↓bite_eq, ↓reduceIte, aStep_eq, aStepOld, aOp, aev, ann, aPut, rget_rput, h6]
    rfl
  refine W_tail ?_
  repeat apply W_assoc
  refine W_for (fun (p : Nat × List Int) r s => p.1 ≤ i ∧ Srt lo σ s v l p.2 ∧ rget r 0 = v ∧ rget r 1 = .int .i64 0 ∧ rget r 2 = .int .i64 (l.length : Int) ∧ rget r 6 = .int .i64 (i : Int) ∧ rget r 7 = .int .i64 (p.1 : Int)) (fun p => p.1) ?_ (i, l1) ?_
  rotate_left
  · refine ⟨Nat.le_refl _, S1, ?_, ?_, ?_, ?_, ?_⟩ <;> simp +decide only [rget_rput, if_true, if_false, h0, h1, h2, h6]
  clear h0 h1 h2 h6 S1
  rintro ⟨j, l2⟩ r σ2 ⟨hj, S2, h0, h1, h2, h6, h7⟩
  dsimp only at hj S2 h7
  have exitJ : ∀ (r : Regs) (s : AS), Srt lo σ s v l l2 → rget r 0 = v → rget r 1 = .int .i64 0 → rget r 2 = .int .i64 (l.length : Int) → rget r 6 = .int .i64 (i : Int) → True := fun _ _ _ _ _ _ _ => trivial
  have hl2 : l2 ≠ [] := fun e => by have := S2.len; rw [e] at this; simp at this; omega
  obtain ⟨b, c, hv, hb1, hb2, hbk, hbe, hix, hld, hst⟩ := S2.ol.at hl2
  have hlen2 := S2.len
  by_cases hj0 : 0 < j
  rotate_left
  · have d2 : decide ((j : Int) > 0) = false := decide_eq_false (by omega)
    repeat apply W_assoc
    refine W_drw [] [] (by kernel_rfl) (by kernel_rfl) ?_
    apply Lg_all
    · intro callf
      simp +decide only [aQ, memb, List.any_nil, Bool.true_or, Bool.and_true, reset_merge, reset_reset, reset_next, reset_low, merge_next, merge_idem, ble_self, aWanted, ↓bite_eq, ↓reduceIte, aStep_eq, aStepOld, aOp, opBin, opPick, aev, ann, aPut, rget_rput, List.getElem?_toArray, List.getElem?_cons_zero, List.getElem?_cons_succ, Nat.zero_add, Option.bind_some, Bool.not_true, Bool.not_false, Bool.false_beq, h1, h7, d2, opPick, aBin, aInts, aInt_eq]
      rfl
    have e3 : Ext σ2 (σ2.merge σ2.reset) := (Ext.refl _).merge
    generalize σ2.merge σ2.reset = σ3 at e3
    repeat apply W_assoc
    refine W_if (b := false) ?_ ?_ ?_
    · simp +decide only [aev, rget_rput, if_true, if_false]
    · intro h; cases h
    intro _
    refine W_exitq ⟨fun h => (nomatch h), fun _ => ?_, fun h1 h2 => absurd rfl h2⟩
    refine W_skip ⟨fun _ => ?_, fun h => absurd rfl h⟩
    refine W_tail ?_
    have w6 : IntKind.i64.wrap ((i : Int) + 1) = ((i + 1 : Nat) : Int) := by rw [wrap64_id _ (by omega) (by omega)]; omega
    repeat apply W_assoc
    apply W_reg
    · intro callf
      simp +decide only [aOps, aWanted, ↓bite_eq, ↓reduceIte, aStep_eq, aStepOld, aOp, opBin, aev, ann, aPut, rget_rput, h6, w6, aBin, aInts, aInt_eq]
      rfl
    refine W_skip ⟨fun _ => ⟨(i + 1, l2), ?_, ?_⟩, fun h => (nomatch h), fun h => absurd rfl h⟩
    · show l.length - (i + 1) < l.length - i
      omega
    · refine ⟨by show 1 ≤ i + 1; omega, by show i + 1 ≤ _; omega, S2.ext hlo e3, ?_, ?_, ?_, ?_⟩ <;> simp +decide only [rget_rput, if_true, if_false, h0, h1, h2]
  have d2 : decide ((j : Int) > 0) = true := decide_eq_true (by omega)
  have w7 : IntKind.i64.wrap ((j : Int) - 1) = ((j - 1 : Nat) : Int) := by rw [wrap64_id _ (by omega) (by omega)]; omega
  obtain ⟨x, hx⟩ : ∃ x, l2[j]? = some x := ⟨l2[j]'(by omega), by simp [show j < l2.length by omega]⟩
  obtain ⟨y, hy⟩ : ∃ y, l2[j - 1]? = some y := ⟨l2[j - 1]'(by omega), by simp [show j - 1 < l2.length by omega]⟩
  have ix := hix j (by omega)
  have iy := hix (j - 1) (by omega)
  have lx := hld j x hx σ2.reset rfl
  have ly := hld (j - 1) y hy σ2.reset rfl
  repeat apply W_assoc
  refine W_drw [] [] (by kernel_rfl) (by kernel_rfl) ?_
  apply Lg_pre 13
  · intro callf
    simp +decide only [List.take, aQ, memb, List.any_nil, Bool.true_or, Bool.and_true, reset_merge, reset_reset, reset_next, reset_low, merge_next, merge_idem, ble_self, aWanted, ↓bite_eq, ↓reduceIte, aStep_eq, aStepOld, aOp, opBin, opIndexAddr, opLoad, aev, ann, aPut, rget_rput, List.getElem?_toArray, List.getElem?_cons_zero, List.getElem?_cons_succ, Nat.zero_add, Option.bind_some, beq_self_eq_true, Bool.not_false, h0, h1, h7, d2, w7, ix, iy, lx, ly, vInt, aBin, aInts, aInt_eq]
    rfl
  dsimp only [List.drop, List.take, List.length]
  have e3 : Ext σ2 (σ2.merge σ2.reset) := (Ext.refl _).merge
  generalize σ2.merge σ2.reset = σ3 at e3
  refine Lg_fnG (vs := [.int .i64 x, .int .i64 y]) (by simp +decide only [aWanted, List.getElem?_toArray, List.getElem?_cons_zero, List.getElem?_cons_succ, Option.bind_some, rget_rput, if_true, if_false]) (by simp +decide only [aevs, aev, rget_rput, if_true, if_false]) (by decide) rfl (C.mono (lessI_c x y) ?_)
  rintro w s1 ⟨rfl, e4⟩
  refine ⟨e4.quiet, ?_⟩
  have e5 := e3.trans e4.merge
  generalize σ3.merge s1 = σ4 at e5
  apply Lg_all
  · intro callf
    simp +decide only [aQ, memb, List.any_nil, Bool.true_or, Bool.and_true, reset_low, ble_self, aWanted, ↓bite_eq, ↓reduceIte, aStep_eq, aStepOld, aOp, opPick, aev, aPut, rget_rput, Nat.zero_add, Bool.not_false, opPick]
    rfl
  have e5 := e5.trans ((Ext.refl _).merge (σ := σ4))
  generalize σ4.merge σ4.reset = σ5 at e5
  have S5 := S2.ext hlo e5
  cases hxy : decide (x < y) with
  | false =>
    repeat apply W_assoc
    refine W_if (b := false) ?_ ?_ ?_
    · simp +decide only [aev, rget_rput, if_true, if_false]
    · intro h; cases h
    intro _
    refine W_exitq ⟨fun h => (nomatch h), fun _ => ?_, fun h1 h2 => absurd rfl h2⟩
    refine W_skip ⟨fun _ => ?_, fun h => absurd rfl h⟩
    refine W_tail ?_
    have w6 : IntKind.i64.wrap ((i : Int) + 1) = ((i + 1 : Nat) : Int) := by rw [wrap64_id _ (by omega) (by omega)]; omega
    repeat apply W_assoc
    apply W_reg
    · intro callf
      simp +decide only [aOps, aWanted, ↓bite_eq, ↓reduceIte, aStep_eq, aStepOld, aOp, opBin, aev, ann, aPut, rget_rput, h6, w6, aBin, aInts, aInt_eq]
      rfl
    refine W_skip ⟨fun _ => ⟨(i + 1, l2), ?_, ?_⟩, fun h => (nomatch h), fun h => absurd rfl h⟩
    · show l.length - (i + 1) < l.length - i
      omega
    · refine ⟨by show 1 ≤ i + 1; omega, by show i + 1 ≤ _; omega, S5, ?_, ?_, ?_, ?_⟩ <;> simp +decide only [rget_rput, if_true, if_false, h0, h1, h2]
  | true =>
    repeat apply W_assoc
    refine W_if (b := true) ?_ ?_ ?_
    · simp +decide only [aev, rget_rput, if_true, if_false]
    rotate_left
    · intro h; cases h
    intro _
    apply W_skipq
    refine W_blk ?_
    clear hix hld hst ix iy lx ly
    obtain ⟨b', c', hv', hb1, hb2, hbk, hbe, hix, hld, hst⟩ := S5.ol.at hl2
    have ix := hix j (by omega)
    have iy := hix (j - 1) (by omega)
    have lx := hld j x hx σ5.reset rfl
    have ly := hld (j - 1) y hy σ5.reset rfl
    refine W_tail ?_
    repeat apply W_assoc
    refine W_drw [] [] (by kernel_rfl) (by kernel_rfl) ?_
    apply Lg_pre 15
    · intro callf
      simp +decide only [List.take, aQ, memb, List.any_nil, Bool.true_or, Bool.and_true, reset_merge, reset_reset, reset_next, reset_low, merge_next, merge_idem, ble_self, aWanted, ↓bite_eq, ↓reduceIte, aStep_eq, aStepOld, aOp, opBin, opIndexAddr, opLoad, aev, ann, aPut, rget_rput, Nat.zero_add, Bool.not_false, h0, h7, w7, ix, iy, lx, ly, vInt, aBin, aInts, aInt_eq]
      rfl
    dsimp only [List.drop, List.take, List.length]
    have S6 := S5.ext hlo ((Ext.refl _).merge (σ := σ5))
    have hg6 : (σ5.merge σ5.reset).get b' = σ5.get b' := rfl
    have hn6 : (σ5.merge σ5.reset).next = σ5.next := rfl
    generalize σ5.merge σ5.reset = σ6 at S6 hg6 hn6
    obtain ⟨B, hBk, hBe, hBs, hBo⟩ := hst j y (by omega)
    refine Lg_st (v := undef) (s1 := σ6.reset.put b' B) (by intro callf; have := hBs σ6.reset hg6; unfold vInt at this; simp +decide only [↓reduceIte, aStep_eq, aStepOld, aOp, opStore, aev, unn, rget_rput, this]) (by kernel_rfl) ?_
    have O7 : OL lo (σ6.merge (σ6.reset.put b' B)) v (l2.set j y) := hBo _ (by rw [← hn6]; exact Nat.le_refl _) (by rw [get_merge, AS.get_put, if_pos rfl])
    have n7 : (σ6.merge (σ6.reset.put b' B)).next = σ6.next := rfl
    have g7 : ∀ i, i ≠ b' → (σ6.merge (σ6.reset.put b' B)).get i = σ6.get i := fun i hi => by rw [get_merge, AS.get_put, if_neg (fun e => hi e.symm)]; rfl
    have lw7 : ∀ q, q ≤ lo → q ≤ σ6.low → q ≤ (σ6.merge (σ6.reset.put b' B)).low := fun q h1 h2 => Nat.le_min.2 ⟨h2, Nat.le_min.2 ⟨Nat.le_trans h1 (Nat.le_trans hlo S6.nxt), Nat.le_trans h1 hb1⟩⟩
    generalize σ6.merge (σ6.reset.put b' B) = σ7 at O7 n7 g7 lw7
    apply Lg_pre 1
    · intro callf
      simp +decide only [List.take, aQ, memb, List.any_nil, Bool.true_or, Bool.and_true, reset_low, ble_self, aWanted, ↓bite_eq, ↓reduceIte, aStep_eq, aStepOld, aOp, opIndexAddr, aev, ann, aPut, rget_rput, Nat.zero_add, Bool.not_false, iy]
      rfl
    dsimp only [List.drop, List.take, List.length]
    have O8 : OL lo (σ7.merge σ7.reset) v (l2.set j y) := O7.ext ((Ext.refl _).merge (σ := σ7))
    have n8 : (σ7.merge σ7.reset).next = σ7.next := rfl
    have g8 : ∀ i, (σ7.merge σ7.reset).get i = σ7.get i := fun _ => rfl
    have lw8 : ∀ q, q ≤ lo → q ≤ σ7.low → q ≤ (σ7.merge σ7.reset).low := fun q h1 h2 => Nat.le_min.2 ⟨h2, by show q ≤ σ7.next; rw [n7]; exact Nat.le_trans h1 (Nat.le_trans hlo S6.nxt)⟩
    generalize σ7.merge σ7.reset = σ8 at O8 n8 g8 lw8
    have hl8 : l2.set j y ≠ [] := fun e => hl2 (List.length_eq_zero_iff.1 (by have h9 := congrArg List.length e; rw [List.length_set] at h9; exact h9))
    obtain ⟨b'', c'', hv'', hb1', hb2', -, -, -, -, hst'⟩ := O8.at hl8
    obtain rfl : b'' = b' := by rw [List.length_set, hv'] at hv''; cases hv''; rfl
    obtain ⟨B', -, -, hBs', hBo'⟩ := hst' (j - 1) x (by rw [List.length_set]; omega)
    refine Lg_st (v := undef) (s1 := σ8.reset.put b'' B') (by intro callf; have := hBs' σ8.reset rfl; unfold vInt at this; simp +decide only [↓reduceIte, aStep_eq, aStepOld, aOp, opStore, aev, unn, rget_rput, this]) (by kernel_rfl) ?_
    have S9 : Srt lo σ (σ8.merge (σ8.reset.put b'' B')) v l ((l2.set j y).set (j - 1) x) := ⟨hBo' _ (Nat.le_refl _) (by rw [get_merge, AS.get_put, if_pos rfl]), by rw [List.length_set, List.length_set]; exact hlen2, fun z => (swap_mem hx hy z).trans (S6.mem z), by show σ.next ≤ σ8.next; rw [n8, n7]; exact S6.nxt, fun i hi ho => by
      have hne : i ≠ b'' := fun e => ho (by rw [e]; exact ⟨_, _, hv'⟩)
      rw [get_merge, AS.get_put, if_neg (fun e => hne e.symm)]
      exact (g8 i).trans ((g7 i hne).trans (S6.get i hi ho)), fun q h1 h2 => Nat.le_min.2 ⟨lw8 q h1 (lw7 q h1 (S6.low q h1 h2)), Nat.le_min.2 ⟨by show q ≤ σ8.next; rw [n8, n7]; exact Nat.le_trans h1 (Nat.le_trans hlo S6.nxt), Nat.le_trans h1 hb1⟩⟩⟩
    generalize σ8.merge (σ8.reset.put b'' B') = σ9 at S9
    show W _ _ _ 49 _ _ _ _
    refine W_skip ⟨fun _ => ?_, fun h => absurd rfl h⟩
    refine W_tail ?_
    repeat apply W_assoc
    apply W_reg
    · intro callf
      simp +decide only [aOps, aWanted, ↓bite_eq, ↓reduceIte, aStep_eq, aStepOld, aOp, opBin, aev, ann, aPut, rget_rput, h7, w7, aBin, aInts, aInt_eq]
      rfl
    refine W_skip ⟨fun _ => ⟨(j - 1, (l2.set j y).set (j - 1) x), ?_, ?_⟩, fun h => (nomatch h), fun h => absurd rfl h⟩
    · show j - 1 < j
      omega
    · refine ⟨by show j - 1 ≤ i; omega, S9, ?_, ?_, ?_, ?_, ?_⟩ <;> simp +decide only [rget_rput, if_true, if_false, h0, h1, h2, h6]

set_option maxHeartbeats 8000000 in
theorem pdq_c {lo : Nat} {σ : AS} {v : Value} {l : List Int} {k : Int} (h : OL lo σ v l) (hlo : lo ≤ σ.next) (hl : l ≠ []) (hn : l.length ≤ 12) : C Try.prog Kn 0 69 [v, .int .i64 0, .int .i64 (l.length : Int), .int .i64 k] σ fun _ σ' => ∃ l', Srt lo σ σ' v l l' := by
  refine C_of (kn (by decide)) Try.func69 rfl (Nat.le_of_ble_eq_true rfl) ?_
  show W _ _ _ 134 _ _ _ _
  unfold Try.f69
  dsimp only
  repeat apply W_assoc
  apply W_reg
  · intro callf
    simp +decide only [aOps, rinit, aWanted, ↓bite_eq, ↓reduceIte, aStep_eq, aStepOld, aOp, aev, ann, aPut, Nat.zero_add]
    rfl
  repeat apply W_assoc
  apply W_reg
  · intro callf
    simp +decide only [aOps, aWanted, ↓bite_eq, ↓reduceIte, aStep_eq, aStepOld, aOp, aev, ann, aPut]
    rfl
  refine W_tail ?_
  repeat apply W_assoc
  have w0 : IntKind.i64.wrap ((l.length : Int) - 0) = (l.length : Int) := by rw [wrap64_id _ (by omega) (by omega)]; omega
  have d1 : decide ((l.length : Int) ≤ 12) = true := decide_eq_true (by omega)
  refine W_for (fun (_ : Unit) r s => s = σ ∧ rget r 0 = v ∧ rget r 1 = .int .i64 0 ∧ rget r 2 = .int .i64 (l.length : Int)) (fun _ => 0) ?_ () ?_
  rotate_left
  · refine ⟨rfl, ?_, ?_, ?_⟩ <;> simp +decide only [rget_rput, if_true, if_false] <;> first | exact True.intro | rfl
  rintro _ r s ⟨rfl, h0, h1, h2⟩
  refine W_tail ?_
  repeat apply W_assoc
  refine W_blk ?_
  repeat apply W_assoc
  apply W_reg
  · intro callf
    simp +decide only [aOps, aWanted, ↓bite_eq, ↓reduceIte, aStep_eq, aStepOld, aOp, opBin, aev, ann, aPut, rget_rput, h1, h2, w0, aBin, aInts, aInt_eq]
    rfl
  repeat apply W_assoc
  apply W_reg
  · intro callf
    simp +decide only [aOps, aWanted, ↓bite_eq, ↓reduceIte, aStep_eq, aStepOld, aOp, opBin, aev, ann, aPut, rget_rput, d1, aBin, aInts, aInt_eq]
    rfl
  repeat apply W_assoc
  refine W_if (b := true) ?_ ?_ ?_
  · simp +decide only [aev, rget_rput, if_true, if_false]
  rotate_left
  · intro h; cases h
  intro _
  repeat apply W_assoc
  apply W_regL
  apply Ls_pre 3
  · intro callf
    simp +decide only [List.take, aOps, aWanted, ↓bite_eq, ↓reduceIte, aStep_eq, aStepOld, aOp, aev, ann, aPut, rget_rput, h0, h1, h2]
    rfl
  dsimp only [List.drop]
  refine Ls_fn (vs := [v, .int .i64 0, .int .i64 (l.length : Int)]) (by simp +decide only [aevs, aev, rget_rput, if_true, if_false]) (by decide) (C.mono (insertion_c h hlo hl (by omega)) ?_)
  rintro v σ' ⟨l2, S⟩
  apply Ls_all
  · intro callf
    simp +decide only [aOps]
    rfl
  refine W_retq ⟨fun h => h.elim (fun h => (nomatch h)) (fun h => (nomatch h)), fun _ _ => ⟨fun h => (nomatch h), fun h => (nomatch h), fun _ _ => ⟨Nat.le_refl _, [], rfl, l2, S⟩⟩⟩

set_option maxHeartbeats 8000000 in
theorem sort_c {lo : Nat} {σ : AS} {v : Value} {l : List Int} (h : OL lo σ v l) (hlo : lo ≤ σ.next) (hl : l ≠ []) (hn : l.length ≤ 12) : C Try.prog Kn 0 60 [v] σ fun _ σ' => ∃ l', Srt lo σ σ' v l l' := by
  obtain ⟨va, vc, hv⟩ := h.len
  refine C_of (kn (by decide)) Try.func60 rfl (Nat.le_of_ble_eq_true rfl) ?_
  show W _ _ _ 11 _ _ _ _
  unfold Try.f60
  dsimp only
  repeat apply W_assoc
  apply W_reg
  · intro callf
    simp +decide only [aOps, rinit, aWanted, ↓bite_eq, ↓reduceIte, aStep_eq, aStepOld, aOp, opCall, aev, aevs, ann, aPut, rget_rput, aBuiltin, aLen, List.getElem?_toArray, List.getElem?_cons_zero, hv, Try.underlying33, goInt]
    rfl
  refine W_tail ?_
  obtain ⟨k, hk⟩ := len_run (σ := σ) l.length (by omega)
  repeat apply W_assoc
  apply W_regL
  apply Ls_pre 4
  · intro callf
    simp +decide only [List.take, aOps, aWanted, ↓bite_eq, ↓reduceIte, aStep_eq, aStepOld, aOp, aev, ann, aPut, rget_rput, flat1, opConvert, conv_up l.length (by omega)]
    rfl
  dsimp only [List.drop]
  refine Ls_fn (vs := [.int .u64 (l.length : Int)]) (by simp +decide only [aevs, aev, rget_rput, if_true, if_false]) (by decide) (C.mono (C_run (Q := fun v s1 => v = .int .i64 k ∧ s1 = σ) hk ⟨rfl, rfl⟩) ?_)
  rintro v σ' ⟨rfl, rfl⟩
  refine Ls_fn (vs := [v, .int .i64 0, .int .i64 (l.length : Int), .int .i64 k]) (by simp +decide only [aevs, aev, rget_rput, if_true, if_false, hv]) (by decide) (C.mono (pdq_c h hlo hl hn) ?_)
  rintro w σ' ⟨l2, S⟩
  apply Ls_all
  · intro callf
    simp +decide only [aOps]
    rfl
  refine W_skip ⟨Nat.zero_le _, [], rfl, l2, S⟩

end Go.Proofs.Ytbknckiapcafdaa.Nest
