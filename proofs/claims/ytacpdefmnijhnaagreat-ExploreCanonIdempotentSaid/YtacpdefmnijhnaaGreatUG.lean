/- A sort of few arcs. -/
import Derived.Test.YtacpdefmnijhnaaGreatUF
import Derived.Test.YtacpdefmnijhnaaGreatCanLaw
set_option linter.unusedSimpArgs false
set_option linter.unusedVariables false
namespace Go.Proofs.YtacpdefmnijhnaaGreat.U
open Abs

section
variable {P : Program} {K : Tbl} {G n : Nat} {ops : Array Oper} {r : Regs} {σ : AS} {l : List Oper}
/-- A call of a function value that stands under a guard. -/
theorem Lg_dynG {sj X : List Nat} {Q : Regs → AS → Prop} {k0 : Nat} {d : Nat} {f : Operand} {args : Array Operand} {ts : Array TypeId} {ty : TypeId} {pos : String} {aft : Array Edge} {fid : FuncId} {vs : List Value} {gd : Option (Nat × Bool)}
    (hf : aev G r f = some (.func (.func fid) #[] #[])) (hw : aWanted ops r ⟨some d, .call ⟨.value f, args, ts⟩, ty, pos, aft, gd⟩ = true) (hv : aevs G r args.toList = some vs) (hd : d < n) (hm : memb sj k0 = false)
    (h : C P K G fid vs σ.reset fun v s1 => σ.next ≤ s1.low ∧ Lg P K G n ops sj X (k0 + 1) l (rput r d v) (σ.merge s1) Q) :
    Lg P K G n ops sj X k0 (⟨some d, .call ⟨.value f, args, ts⟩, ty, pos, aft, gd⟩ :: l) r σ Q := by
  refine ⟨fun _ => O_call (first := #[]) (captured := #[]) hf hv ?_, fun h => by rw [hw] at h; cases h⟩
  have e : (#[] : Array Value).toList ++ vs ++ (#[] : Array Value).toList = vs := by simp
  rw [e]
  exact h.mono fun v s1 ⟨h1, h2⟩ => ⟨⟨.inl h1, fun h => by rw [hm] at h; cases h⟩, _, by simp only [aPut, bite_eq]; rw [if_pos (by rw [Nat.blt_eq]; exact hd)], h2⟩
end

theorem cmpA_neg (a b : Arc) : cmpA a b < 0 ↔ Can.alt a b := by
  obtain ⟨x, y⟩ := a
  obtain ⟨z, w⟩ := b
  unfold cmpA Can.alt
  simp only [orI, cmpI]
  by_cases h1 : (x : Int) < z
  · simp [h1]; omega
  · by_cases h2 : (z : Int) < x
    · simp [h1, h2]; omega
    · have : x = z := by omega
      subst this
      by_cases h3 : (y : Int) < w
      · simp [h3]; omega
      · by_cases h4 : (w : Int) < y
        · simp [h3, h4]; omega
        · simp [h3, h4]; omega

/-- Not behind. -/
def leA (a b : Arc) : Prop := ¬ Can.alt b a
theorem leA_trans {a b c : Arc} (h : leA a b) (k : leA b c) : leA a c := by
  unfold leA Can.alt at *; omega
theorem leA_of_alt {a b : Arc} (h : Can.alt a b) : leA a b := by
  unfold leA Can.alt at *; omega
theorem leA_refl (a : Arc) : leA a a := Can.alt_irrefl a

theorem swapA_mem {l : List Arc} {i j : Nat} {a b : Arc} (ha : l[i]? = some a) (hb : l[j]? = some b) (x : Arc) : x ∈ (l.set i b).set j a ↔ x ∈ l := by
  obtain ⟨hi, ha2⟩ := List.getElem?_eq_some_iff.1 ha
  obtain ⟨hj, hb2⟩ := List.getElem?_eq_some_iff.1 hb
  constructor
  · intro h
    rcases List.mem_or_eq_of_mem_set h with h | rfl
    · rcases List.mem_or_eq_of_mem_set h with h | rfl
      · exact h
      · exact List.mem_of_getElem? hb
    · exact List.mem_of_getElem? ha
  · intro h
    obtain ⟨k, hk⟩ := List.mem_iff_getElem?.1 h
    have hkl := (List.getElem?_eq_some_iff.1 hk).1
    by_cases e1 : k = i
    · subst e1
      rw [ha] at hk; cases hk
      exact List.mem_of_getElem? (i := j) (List.getElem?_set_self (by rw [List.length_set]; exact hj))
    · by_cases e2 : k = j
      · subst e2
        rw [hb] at hk; cases hk
        refine List.mem_of_getElem? (i := i) ?_
        rw [List.getElem?_set_ne e1, List.getElem?_set_self hi]
      · refine List.mem_of_getElem? (i := k) ?_
        rw [List.getElem?_set_ne (fun e => e2 e.symm), List.getElem?_set_ne (fun e => e1 e.symm)]; exact hk

/-- The first n are in order, but for the one at j, which is not behind those that follow. -/
def Near (l : List Arc) (n j : Nat) : Prop := ∀ p q a b, p < q → q < n → q ≠ j → l[p]? = some a → l[q]? = some b → leA a b
/-- The first n are in order. -/
def Ord (l : List Arc) (n : Nat) : Prop := ∀ p q a b, p < q → q < n → l[p]? = some a → l[q]? = some b → leA a b

theorem Near.of_ord {l : List Arc} {i : Nat} (h : Ord l i) : Near l (i + 1) i := fun p q a b hpq hq hne ha hb => h p q a b hpq (by omega) ha hb
theorem Near.zero {l : List Arc} {n : Nat} (h : Near l n 0) : Ord l n := fun p q a b hpq hq ha hb => h p q a b hpq hq (by omega) ha hb
theorem Near.stop {l : List Arc} {n j : Nat} {x y : Arc} (h : Near l n j) (hj : 0 < j) (hx : l[j]? = some x) (hy : l[j - 1]? = some y) (hle : leA y x) : Ord l n := by
  intro p q a b hpq hq ha hb
  by_cases e : q = j
  · subst e
    rw [hx] at hb; cases hb
    by_cases e2 : p = q - 1
    · subst e2; rw [hy] at ha; cases ha; exact hle
    · exact leA_trans (h p (q - 1) a y (by omega) (by omega) (by omega) ha hy) hle
  · exact h p q a b hpq hq e ha hb
theorem Near.swap {l : List Arc} {n j : Nat} {x y : Arc} (h : Near l n j) (hj : 0 < j) (hjn : j < n) (hx : l[j]? = some x) (hy : l[j - 1]? = some y) (hlt : Can.alt x y) : Near ((l.set j y).set (j - 1) x) n (j - 1) := by
  obtain ⟨hjl, -⟩ := List.getElem?_eq_some_iff.1 hx
  have get : ∀ k, ((l.set j y).set (j - 1) x)[k]? = if k = j - 1 then some x else if k = j then some y else l[k]? := fun k => by
    by_cases e1 : k = j - 1
    · rw [if_pos e1, e1, List.getElem?_set_self (by rw [List.length_set]; omega)]
    · rw [if_neg e1, List.getElem?_set_ne (fun e => e1 e.symm)]
      by_cases e2 : k = j
      · rw [if_pos e2, e2, List.getElem?_set_self hjl]
      · rw [if_neg e2, List.getElem?_set_ne (fun e => e2 e.symm)]
  intro p q a b hpq hq hne ha hb
  rw [get] at ha hb
  rw [if_neg hne] at hb
  by_cases eq : q = j
  · rw [if_pos eq] at hb
    cases hb
    by_cases ep : p = j - 1
    · rw [if_pos ep] at ha; cases ha; exact leA_of_alt hlt
    · rw [if_neg ep, if_neg (by omega)] at ha
      exact h p (j - 1) a y (by omega) (by omega) (by omega) ha hy
  · rw [if_neg eq] at hb
    by_cases ep : p = j - 1
    · rw [if_pos ep] at ha; cases ha
      exact h j q x b (by omega) hq eq hx hb
    · by_cases ep2 : p = j
      · rw [if_neg ep, if_pos ep2] at ha; cases ha
        exact h (j - 1) q y b (by omega) hq eq hy hb
      · rw [if_neg ep, if_neg ep2] at ha
        exact h p q a b hpq hq eq ha hb

/-- What a sort does: the list's own block changes, its elements are the same. -/
structure Srt (lo : Nat) (σ σ' : AS) (v : Value) (l l' : List Arc) : Prop where
  al : AL lo σ' v l'
  len : l'.length = l.length
  mem : ∀ x, x ∈ l' ↔ x ∈ l
  nxt : σ.next ≤ σ'.next
  get : ∀ i, i < σ.next → ¬ Own v i → σ'.get i = σ.get i
  low : ∀ q, q ≤ lo → q ≤ σ.low → q ≤ σ'.low
theorem Srt.refl {lo : Nat} {σ : AS} {v : Value} {l : List Arc} (h : AL lo σ v l) : Srt lo σ σ v l l := ⟨h, rfl, fun _ => Iff.rfl, Nat.le_refl _, fun _ _ _ => rfl, fun _ _ h => h⟩
theorem Srt.ext {lo : Nat} {σ σ1 σ2 : AS} {v : Value} {l l1 : List Arc} (h : Srt lo σ σ1 v l l1) (hlo : lo ≤ σ.next) (e : Ext σ1 σ2) : Srt lo σ σ2 v l l1 :=
  ⟨h.al.ext e, h.len, h.mem, Nat.le_trans h.nxt e.nxt, fun i hi ho => (e.get i (Nat.lt_of_lt_of_le hi h.nxt)).trans (h.get i hi ho), fun q h1 h2 => e.low q (h.low q h1 h2) (Nat.le_trans h1 (Nat.le_trans hlo h.nxt))⟩

set_option maxHeartbeats 16000000 in
theorem insertion_c {lo : Nat} {σ : AS} {v : Value} {l : List Arc} (h : AL lo σ v l) (hlo : lo ≤ σ.next) (hl : l ≠ []) (hn : l.length ≤ 1000) : C Tryz.prog KA 0 193 [v, .int .i64 0, .int .i64 (l.length : Int), .func (.func 42) #[] #[]] σ fun _ σ' => ∃ l', Srt lo σ σ' v l l' ∧ Ord l' l.length := by
  have hpos := List.length_pos_iff.2 hl
  refine C_of (ka rfl rfl) Tryz.func193 rfl (Nat.le_of_ble_eq_true rfl) ?_
  show W _ _ _ 53 _ _ _ _
  unfold Tryz.f193
  dsimp only
  have w01 : IntKind.i64.wrap (0 + 1) = ((1 : Nat) : Int) := by rw [wrap64_id _ (by omega) (by omega)]; rfl
  repeat apply W_assoc
  apply W_reg
  · intro callf
    simp +decide only [aOps, rinit, aWanted, ↓bite_eq, ↓reduceIte, aStep_eq, aStepOld, aOp, opBox, opBin, opUn, opCall, opIndexAddr, opFieldAddr, opLoad, opStore, opPick, opExtract, opSlice, opBuildSlice, opBuild, aRow, aev, aevs, aparts, ann, unn, aPut, if_true, if_false, rget_rput, flat, flat1, Nat.blt_eq, aBuiltin, aLen, List.getElem?_toArray, List.getElem?_cons_zero, List.getElem?_cons_succ, Nat.zero_add, Option.bind_some, beq_self_eq_true, Bool.not_true, Bool.not_false, Bool.true_beq, Bool.false_beq, w01, aBin, aInts, aInt_eq]
    rfl
  refine W_tail ?_
  repeat apply W_assoc
  refine W_for (fun (p : Nat × List Arc) r s => 1 ≤ p.1 ∧ p.1 ≤ l.length ∧ Srt lo σ s v l p.2 ∧ Ord p.2 p.1 ∧ rget r 0 = v ∧ rget r 1 = .int .i64 0 ∧ rget r 2 = .int .i64 (l.length : Int) ∧ rget r 3 = .func (.func 42) #[] #[] ∧ rget r 8 = .int .i64 (p.1 : Int)) (fun p => l.length - p.1) ?_ (1, l) ?_
  rotate_left
  · refine ⟨Nat.le_refl _, hpos, Srt.refl h, fun p q a b h1 h2 => absurd h1 (by omega), ?_, ?_, ?_, ?_, ?_⟩ <;> simp +decide only [rget_rput, rinit, if_true, if_false, goInt] <;> first | exact True.intro | rfl
  rintro ⟨i, l1⟩ r σ1 ⟨hi1, hi, S1, O1, h0, h1, h2, h3, h8⟩
  dsimp only at hi1 hi S1 O1 h8
  by_cases hlt : i < l.length
  rotate_left
  · have d1 : decide ((i : Int) < (l.length : Int)) = false := decide_eq_false (by omega)
    obtain rfl : i = l.length := by omega
    repeat apply W_assoc
    apply W_reg
    · intro callf
      simp +decide only [aOps, rinit, aWanted, ↓bite_eq, ↓reduceIte, aStep_eq, aStepOld, aOp, opBox, opBin, opUn, opCall, opIndexAddr, opFieldAddr, opLoad, opStore, opPick, opExtract, opSlice, opBuildSlice, opBuild, aRow, aev, aevs, aparts, ann, unn, aPut, if_true, if_false, rget_rput, flat, flat1, Nat.blt_eq, aBuiltin, aLen, List.getElem?_toArray, List.getElem?_cons_zero, List.getElem?_cons_succ, Nat.zero_add, Option.bind_some, beq_self_eq_true, Bool.not_true, Bool.not_false, Bool.true_beq, Bool.false_beq, h2, h8, d1, aBin, aInts, aInt_eq]
      rfl
    repeat apply W_assoc
    refine W_if (b := false) ?_ ?_ ?_
    · simp +decide only [aevs, aev, aResults, rget_rput, if_true, if_false]
    · intro h; cases h
    intro _
    refine W_exitq ⟨fun h => (nomatch h), fun _ => ?_, fun h1 h2 => absurd rfl h2⟩
    refine W_skip ⟨Nat.zero_le _, [], rfl, l1, S1, O1⟩
  have d1 : decide ((i : Int) < (l.length : Int)) = true := decide_eq_true (by omega)
  repeat apply W_assoc
  apply W_reg
  · intro callf
    simp +decide only [aOps, rinit, aWanted, ↓bite_eq, ↓reduceIte, aStep_eq, aStepOld, aOp, opBox, opBin, opUn, opCall, opIndexAddr, opFieldAddr, opLoad, opStore, opPick, opExtract, opSlice, opBuildSlice, opBuild, aRow, aev, aevs, aparts, ann, unn, aPut, if_true, if_false, rget_rput, flat, flat1, Nat.blt_eq, aBuiltin, aLen, List.getElem?_toArray, List.getElem?_cons_zero, List.getElem?_cons_succ, Nat.zero_add, Option.bind_some, beq_self_eq_true, Bool.not_true, Bool.not_false, Bool.true_beq, Bool.false_beq, h2, h8, d1, aBin, aInts, aInt_eq]
    rfl
  repeat apply W_assoc
  refine W_if (b := true) ?_ ?_ ?_
  · simp +decide only [aevs, aev, aResults, rget_rput, if_true, if_false]
  rotate_left
  · intro h; cases h
  intro _
  apply W_skipq
  refine W_blk ?_
  repeat apply W_assoc
  apply W_reg
  · intro callf
    simp +decide only [aOps, rinit, aWanted, ↓bite_eq, ↓reduceIte, aStep_eq, aStepOld, aOp, opBox, opBin, opUn, opCall, opIndexAddr, opFieldAddr, opLoad, opStore, opPick, opExtract, opSlice, opBuildSlice, opBuild, aRow, aev, aevs, aparts, ann, unn, aPut, if_true, if_false, rget_rput, flat, flat1, Nat.blt_eq, aBuiltin, aLen, List.getElem?_toArray, List.getElem?_cons_zero, List.getElem?_cons_succ, Nat.zero_add, Option.bind_some, beq_self_eq_true, Bool.not_true, Bool.not_false, Bool.true_beq, Bool.false_beq, h8]
    rfl
  refine W_tail ?_
  repeat apply W_assoc
  refine W_for (fun (p : Nat × List Arc) r s => p.1 ≤ i ∧ Srt lo σ s v l p.2 ∧ Near p.2 (i + 1) p.1 ∧ rget r 0 = v ∧ rget r 1 = .int .i64 0 ∧ rget r 2 = .int .i64 (l.length : Int) ∧ rget r 3 = .func (.func 42) #[] #[] ∧ rget r 8 = .int .i64 (i : Int) ∧ rget r 9 = .int .i64 (p.1 : Int)) (fun p => p.1) ?_ (i, l1) ?_
  rotate_left
  · refine ⟨Nat.le_refl _, S1, Near.of_ord O1, ?_, ?_, ?_, ?_, ?_, ?_⟩ <;> simp +decide only [rget_rput, rinit, if_true, if_false, h0, h1, h2, h3, h8]
  clear h0 h1 h2 h3 h8 S1 O1
  rintro ⟨j, l2⟩ r σ2 ⟨hj, S2, N2, h0, h1, h2, h3, h8, h9⟩
  dsimp only at hj S2 N2 h9
  have hl2 : l2 ≠ [] := fun e => by have := S2.len; rw [e] at this; simp at this; omega
  obtain ⟨b, c, hv, hb1, hb2, hbk, hbe, hix, hld, hst⟩ := S2.al.at hl2
  have hlen2 := S2.len
  by_cases hj0 : 0 < j
  rotate_left
  · have d2 : decide ((j : Int) > 0) = false := decide_eq_false (by omega)
    obtain rfl : j = 0 := by omega
    repeat apply W_assoc
    refine W_drw [] [] (by kernel_rfl) (by kernel_rfl) ?_
    apply Lg_all
    · intro callf
      simp +decide only [aQ, memb, List.any_nil, List.any_cons, Bool.true_or, Bool.or_false, Bool.and_true, Bool.or_true, Bool.false_or, Bool.true_and, reset_merge, reset_reset, reset_next, reset_low, merge_next, merge_idem, new_low, ble_self, aOps, rinit, aWanted, ↓bite_eq, ↓reduceIte, aStep_eq, aStepOld, aOp, opBox, opBin, opUn, opCall, opIndexAddr, opFieldAddr, opLoad, opStore, opPick, opExtract, opSlice, opBuildSlice, opBuild, aRow, aev, aevs, aparts, ann, unn, aPut, if_true, if_false, rget_rput, flat, flat1, Nat.blt_eq, aBuiltin, aLen, List.getElem?_toArray, List.getElem?_cons_zero, List.getElem?_cons_succ, Nat.zero_add, Option.bind_some, beq_self_eq_true, Bool.not_true, Bool.not_false, Bool.true_beq, Bool.false_beq, h1, h9, d2, opPick, aBin, aInts, aInt_eq]
      rfl
    have e3 : Ext σ2 (σ2.merge σ2.reset) := (Ext.refl _).merge (σ := σ2)
    generalize σ2.merge σ2.reset = σ3 at e3
    repeat apply W_assoc
    refine W_if (b := false) ?_ ?_ ?_
    · simp +decide only [aevs, aev, aResults, rget_rput, if_true, if_false]
    · intro h; cases h
    intro _
    refine W_exitq ⟨fun h => (nomatch h), fun _ => ?_, fun h1 h2 => absurd rfl h2⟩
    refine W_skip ⟨fun _ => ?_, fun h => absurd rfl h⟩
    refine W_tail ?_
    have w6 : IntKind.i64.wrap ((i : Int) + 1) = ((i + 1 : Nat) : Int) := by rw [wrap64_id _ (by omega) (by omega)]; omega
    repeat apply W_assoc
    apply W_reg
    · intro callf
      simp +decide only [aOps, rinit, aWanted, ↓bite_eq, ↓reduceIte, aStep_eq, aStepOld, aOp, opBox, opBin, opUn, opCall, opIndexAddr, opFieldAddr, opLoad, opStore, opPick, opExtract, opSlice, opBuildSlice, opBuild, aRow, aev, aevs, aparts, ann, unn, aPut, if_true, if_false, rget_rput, flat, flat1, Nat.blt_eq, aBuiltin, aLen, List.getElem?_toArray, List.getElem?_cons_zero, List.getElem?_cons_succ, Nat.zero_add, Option.bind_some, beq_self_eq_true, Bool.not_true, Bool.not_false, Bool.true_beq, Bool.false_beq, h8, w6, aBin, aInts, aInt_eq]
      rfl
    refine W_skip ⟨fun _ => ⟨(i + 1, l2), ?_, ?_⟩, fun h => (nomatch h), fun h => absurd rfl h⟩
    · show l.length - (i + 1) < l.length - i
      omega
    · refine ⟨by show 1 ≤ i + 1; omega, by show i + 1 ≤ _; omega, S2.ext hlo e3, N2.zero, ?_, ?_, ?_, ?_, ?_⟩ <;> simp +decide only [rget_rput, if_true, if_false, h0, h1, h2, h3]
  have d2 : decide ((j : Int) > 0) = true := decide_eq_true (by omega)
  have w7 : IntKind.i64.wrap ((j : Int) - 1) = ((j - 1 : Nat) : Int) := by rw [wrap64_id _ (by omega) (by omega)]; omega
  obtain ⟨x, hx⟩ : ∃ x, l2[j]? = some x := ⟨l2[j]'(by omega), by simp [show j < l2.length by omega]⟩
  obtain ⟨y, hy⟩ : ∃ y, l2[j - 1]? = some y := ⟨l2[j - 1]'(by omega), by simp [show j - 1 < l2.length by omega]⟩
  have ix := hix j (by omega)
  have iy := hix (j - 1) (by omega)
  have lx := hld j x hx σ2.reset rfl
  have ly := hld (j - 1) y hy σ2.reset rfl
  repeat apply W_assoc
  refine W_drw [] [] (by kernel_rfl) (by kernel_rfl) ?_
  apply Lg_pre 14
  · intro callf
    simp +decide only [List.take, aQ, memb, List.any_nil, List.any_cons, Bool.true_or, Bool.or_false, Bool.and_true, Bool.or_true, Bool.false_or, Bool.true_and, reset_merge, reset_reset, reset_next, reset_low, merge_next, merge_idem, new_low, ble_self, aOps, rinit, aWanted, ↓bite_eq, ↓reduceIte, aStep_eq, aStepOld, aOp, opBox, opBin, opUn, opCall, opIndexAddr, opFieldAddr, opLoad, opStore, opPick, opExtract, opSlice, opBuildSlice, opBuild, aRow, aev, aevs, aparts, ann, unn, aPut, if_true, if_false, rget_rput, flat, flat1, Nat.blt_eq, aBuiltin, aLen, List.getElem?_toArray, List.getElem?_cons_zero, List.getElem?_cons_succ, Nat.zero_add, Option.bind_some, beq_self_eq_true, Bool.not_true, Bool.not_false, Bool.true_beq, Bool.false_beq, h0, h1, h3, h9, d2, w7, ix, iy, lx, ly, aBin, aInts, aInt_eq]
    rfl
  dsimp only [List.drop, List.take, List.length]
  have e3 : Ext σ2 (σ2.merge σ2.reset) := (Ext.refl _).merge (σ := σ2)
  generalize σ2.merge σ2.reset = σ3 at e3
  refine Lg_dynG (fid := 42) (vs := [vArc x, vArc y]) (by simp +decide only [aevs, aev, aResults, rget_rput, if_true, if_false]) (by simp +decide only [aWanted, List.getElem?_toArray, List.getElem?_cons_zero, List.getElem?_cons_succ, Option.bind_some, rget_rput, if_true, if_false]) (by simp +decide only [aevs, aev, aResults, rget_rput, if_true, if_false]) (by decide) rfl (C.mono (cmpArc_c x y) ?_)
  rintro w s1 ⟨rfl, e4⟩
  refine ⟨e4.quiet, ?_⟩
  have e5 := e3.trans e4.merge
  generalize σ3.merge s1 = σ4 at e5
  apply Lg_all
  · intro callf
    simp +decide only [aQ, memb, List.any_nil, List.any_cons, Bool.true_or, Bool.or_false, Bool.and_true, Bool.or_true, Bool.false_or, Bool.true_and, reset_merge, reset_reset, reset_next, reset_low, merge_next, merge_idem, new_low, ble_self, aOps, rinit, aWanted, ↓bite_eq, ↓reduceIte, aStep_eq, aStepOld, aOp, opBox, opBin, opUn, opCall, opIndexAddr, opFieldAddr, opLoad, opStore, opPick, opExtract, opSlice, opBuildSlice, opBuild, aRow, aev, aevs, aparts, ann, unn, aPut, if_true, if_false, rget_rput, flat, flat1, Nat.blt_eq, aBuiltin, aLen, List.getElem?_toArray, List.getElem?_cons_zero, List.getElem?_cons_succ, Nat.zero_add, Option.bind_some, beq_self_eq_true, Bool.not_true, Bool.not_false, Bool.true_beq, Bool.false_beq, opPick, aBin, aInts, aInt_eq]
    rfl
  have e5 := e5.trans ((Ext.refl _).merge (σ := σ4))
  generalize σ4.merge σ4.reset = σ5 at e5
  have S5 := S2.ext hlo e5
  have hneg := cmpA_neg x y
  generalize cmpA x y = cxy at hneg
  by_cases hxy : cxy < 0
  rotate_left
  · have d3 : decide (cxy < 0) = false := decide_eq_false hxy
    simp only [d3]
    repeat apply W_assoc
    refine W_if (b := false) ?_ ?_ ?_
    · simp +decide only [aevs, aev, aResults, rget_rput, if_true, if_false]
    · intro h; cases h
    intro _
    refine W_exitq ⟨fun h => (nomatch h), fun _ => ?_, fun h1 h2 => absurd rfl h2⟩
    refine W_skip ⟨fun _ => ?_, fun h => absurd rfl h⟩
    refine W_tail ?_
    have w6 : IntKind.i64.wrap ((i : Int) + 1) = ((i + 1 : Nat) : Int) := by rw [wrap64_id _ (by omega) (by omega)]; omega
    repeat apply W_assoc
    apply W_reg
    · intro callf
      simp +decide only [aOps, rinit, aWanted, ↓bite_eq, ↓reduceIte, aStep_eq, aStepOld, aOp, opBox, opBin, opUn, opCall, opIndexAddr, opFieldAddr, opLoad, opStore, opPick, opExtract, opSlice, opBuildSlice, opBuild, aRow, aev, aevs, aparts, ann, unn, aPut, if_true, if_false, rget_rput, flat, flat1, Nat.blt_eq, aBuiltin, aLen, List.getElem?_toArray, List.getElem?_cons_zero, List.getElem?_cons_succ, Nat.zero_add, Option.bind_some, beq_self_eq_true, Bool.not_true, Bool.not_false, Bool.true_beq, Bool.false_beq, h8, w6, aBin, aInts, aInt_eq]
      rfl
    refine W_skip ⟨fun _ => ⟨(i + 1, l2), ?_, ?_⟩, fun h => (nomatch h), fun h => absurd rfl h⟩
    · show l.length - (i + 1) < l.length - i
      omega
    · refine ⟨by show 1 ≤ i + 1; omega, by show i + 1 ≤ _; omega, S5, N2.stop hj0 hx hy (fun h => hxy (hneg.2 h)), ?_, ?_, ?_, ?_, ?_⟩ <;> simp +decide only [rget_rput, if_true, if_false, h0, h1, h2, h3]
  have d3 : decide (cxy < 0) = true := decide_eq_true hxy
  have halt := hneg.1 hxy
  simp only [d3]
  repeat apply W_assoc
  refine W_if (b := true) ?_ ?_ ?_
  · simp +decide only [aevs, aev, aResults, rget_rput, if_true, if_false]
  rotate_left
  · intro h; cases h
  intro _
  apply W_skipq
  refine W_blk ?_
  clear hix hld hst ix iy lx ly
  obtain ⟨b', c', hv', hb1, hb2, hbk, hbe, hix, hld, hst⟩ := S5.al.at hl2
  have ix := hix j (by omega)
  have iy := hix (j - 1) (by omega)
  have lx := hld j x hx σ5.reset rfl
  have ly := hld (j - 1) y hy σ5.reset rfl
  refine W_tail ?_
  repeat apply W_assoc
  refine W_drw [] [] (by kernel_rfl) (by kernel_rfl) ?_
  apply Lg_pre 15
  · intro callf
    simp +decide only [List.take, aQ, memb, List.any_nil, List.any_cons, Bool.true_or, Bool.or_false, Bool.and_true, Bool.or_true, Bool.false_or, Bool.true_and, reset_merge, reset_reset, reset_next, reset_low, merge_next, merge_idem, new_low, ble_self, aOps, rinit, aWanted, ↓bite_eq, ↓reduceIte, aStep_eq, aStepOld, aOp, opBox, opBin, opUn, opCall, opIndexAddr, opFieldAddr, opLoad, opStore, opPick, opExtract, opSlice, opBuildSlice, opBuild, aRow, aev, aevs, aparts, ann, unn, aPut, if_true, if_false, rget_rput, flat, flat1, Nat.blt_eq, aBuiltin, aLen, List.getElem?_toArray, List.getElem?_cons_zero, List.getElem?_cons_succ, Nat.zero_add, Option.bind_some, beq_self_eq_true, Bool.not_true, Bool.not_false, Bool.true_beq, Bool.false_beq, h0, h9, w7, ix, iy, lx, ly, aBin, aInts, aInt_eq]
    rfl
  dsimp only [List.drop, List.take, List.length]
  have S6 := S5.ext hlo ((Ext.refl _).merge (σ := σ5))
  have hg6 : (σ5.merge σ5.reset).get b' = σ5.get b' := rfl
  have hn6 : (σ5.merge σ5.reset).next = σ5.next := rfl
  generalize σ5.merge σ5.reset = σ6 at S6 hg6 hn6
  obtain ⟨B, hBk, hBe, hBs, hBo⟩ := hst j y (by omega)
  refine Lg_st (v := undef) (s1 := σ6.reset.put b' B) (by intro callf; have := hBs σ6.reset hg6; simp +decide only [aOps, rinit, aWanted, ↓bite_eq, ↓reduceIte, aStep_eq, aStepOld, aOp, opBox, opBin, opUn, opCall, opIndexAddr, opFieldAddr, opLoad, opStore, opPick, opExtract, opSlice, opBuildSlice, opBuild, aRow, aev, aevs, aparts, ann, unn, aPut, if_true, if_false, rget_rput, flat, flat1, Nat.blt_eq, aBuiltin, aLen, List.getElem?_toArray, List.getElem?_cons_zero, List.getElem?_cons_succ, Nat.zero_add, Option.bind_some, beq_self_eq_true, Bool.not_true, Bool.not_false, Bool.true_beq, Bool.false_beq, this]) (by kernel_rfl) ?_
  have O7 : AL lo (σ6.merge (σ6.reset.put b' B)) v (l2.set j y) := hBo _ (by rw [← hn6]; exact Nat.le_refl _) (by rw [get_merge, AS.get_put, if_pos rfl])
  have n7 : (σ6.merge (σ6.reset.put b' B)).next = σ6.next := rfl
  have g7 : ∀ i, i ≠ b' → (σ6.merge (σ6.reset.put b' B)).get i = σ6.get i := fun i hi => by rw [get_merge, AS.get_put, if_neg (fun e => hi e.symm)]; rfl
  have lw7 : ∀ q, q ≤ lo → q ≤ σ6.low → q ≤ (σ6.merge (σ6.reset.put b' B)).low := fun q h1 h2 => Nat.le_min.2 ⟨h2, Nat.le_min.2 ⟨Nat.le_trans h1 (Nat.le_trans hlo S6.nxt), Nat.le_trans h1 hb1⟩⟩
  generalize σ6.merge (σ6.reset.put b' B) = σ7 at O7 n7 g7 lw7
  apply Lg_pre 1
  · intro callf
    simp +decide only [List.take, aQ, memb, List.any_nil, List.any_cons, Bool.true_or, Bool.or_false, Bool.and_true, Bool.or_true, Bool.false_or, Bool.true_and, reset_merge, reset_reset, reset_next, reset_low, merge_next, merge_idem, new_low, ble_self, aOps, rinit, aWanted, ↓bite_eq, ↓reduceIte, aStep_eq, aStepOld, aOp, opBox, opBin, opUn, opCall, opIndexAddr, opFieldAddr, opLoad, opStore, opPick, opExtract, opSlice, opBuildSlice, opBuild, aRow, aev, aevs, aparts, ann, unn, aPut, if_true, if_false, rget_rput, flat, flat1, Nat.blt_eq, aBuiltin, aLen, List.getElem?_toArray, List.getElem?_cons_zero, List.getElem?_cons_succ, Nat.zero_add, Option.bind_some, beq_self_eq_true, Bool.not_true, Bool.not_false, Bool.true_beq, Bool.false_beq, iy]
    rfl
  dsimp only [List.drop, List.take, List.length]
  have O8 : AL lo (σ7.merge σ7.reset) v (l2.set j y) := O7.ext ((Ext.refl _).merge (σ := σ7))
  have n8 : (σ7.merge σ7.reset).next = σ7.next := rfl
  have g8 : ∀ i, (σ7.merge σ7.reset).get i = σ7.get i := fun _ => rfl
  have lw8 : ∀ q, q ≤ lo → q ≤ σ7.low → q ≤ (σ7.merge σ7.reset).low := fun q h1 h2 => Nat.le_min.2 ⟨h2, by show q ≤ σ7.next; rw [n7]; exact Nat.le_trans h1 (Nat.le_trans hlo S6.nxt)⟩
  generalize σ7.merge σ7.reset = σ8 at O8 n8 g8 lw8
  have hl8 : l2.set j y ≠ [] := fun e => hl2 (List.length_eq_zero_iff.1 (by have h9 := congrArg List.length e; rw [List.length_set] at h9; exact h9))
  obtain ⟨b'', c'', hv'', hb1', hb2', -, -, -, -, hst'⟩ := O8.at hl8
  obtain rfl : b'' = b' := by rw [List.length_set, hv'] at hv''; cases hv''; rfl
  obtain ⟨B', -, -, hBs', hBo'⟩ := hst' (j - 1) x (by rw [List.length_set]; omega)
  refine Lg_st (v := undef) (s1 := σ8.reset.put b'' B') (by intro callf; have := hBs' σ8.reset rfl; simp +decide only [aOps, rinit, aWanted, ↓bite_eq, ↓reduceIte, aStep_eq, aStepOld, aOp, opBox, opBin, opUn, opCall, opIndexAddr, opFieldAddr, opLoad, opStore, opPick, opExtract, opSlice, opBuildSlice, opBuild, aRow, aev, aevs, aparts, ann, unn, aPut, if_true, if_false, rget_rput, flat, flat1, Nat.blt_eq, aBuiltin, aLen, List.getElem?_toArray, List.getElem?_cons_zero, List.getElem?_cons_succ, Nat.zero_add, Option.bind_some, beq_self_eq_true, Bool.not_true, Bool.not_false, Bool.true_beq, Bool.false_beq, this]) (by kernel_rfl) ?_
  have S9 : Srt lo σ (σ8.merge (σ8.reset.put b'' B')) v l ((l2.set j y).set (j - 1) x) := ⟨hBo' _ (Nat.le_refl _) (by rw [get_merge, AS.get_put, if_pos rfl]), by rw [List.length_set, List.length_set]; exact hlen2, fun z => (swapA_mem hx hy z).trans (S6.mem z), by show σ.next ≤ σ8.next; rw [n8, n7]; exact S6.nxt, fun i hi ho => by
    have hne : i ≠ b'' := fun e => ho (by rw [e]; exact ⟨_, _, hv'⟩)
    rw [get_merge, AS.get_put, if_neg (fun e => hne e.symm)]
    exact (g8 i).trans ((g7 i hne).trans (S6.get i hi ho)), fun q h1 h2 => Nat.le_min.2 ⟨lw8 q h1 (lw7 q h1 (S6.low q h1 h2)), Nat.le_min.2 ⟨by show q ≤ σ8.next; rw [n8, n7]; exact Nat.le_trans h1 (Nat.le_trans hlo S6.nxt), Nat.le_trans h1 hb1⟩⟩⟩
  generalize σ8.merge (σ8.reset.put b'' B') = σ9 at S9
  show W _ _ _ 53 _ _ _ _
  refine W_skip ⟨fun _ => ?_, fun h => absurd rfl h⟩
  refine W_tail ?_
  repeat apply W_assoc
  apply W_reg
  · intro callf
    simp +decide only [aOps, rinit, aWanted, ↓bite_eq, ↓reduceIte, aStep_eq, aStepOld, aOp, opBox, opBin, opUn, opCall, opIndexAddr, opFieldAddr, opLoad, opStore, opPick, opExtract, opSlice, opBuildSlice, opBuild, aRow, aev, aevs, aparts, ann, unn, aPut, if_true, if_false, rget_rput, flat, flat1, Nat.blt_eq, aBuiltin, aLen, List.getElem?_toArray, List.getElem?_cons_zero, List.getElem?_cons_succ, Nat.zero_add, Option.bind_some, beq_self_eq_true, Bool.not_true, Bool.not_false, Bool.true_beq, Bool.false_beq, h9, w7, aBin, aInts, aInt_eq]
    rfl
  refine W_skip ⟨fun _ => ⟨(j - 1, (l2.set j y).set (j - 1) x), ?_, ?_⟩, fun h => (nomatch h), fun h => absurd rfl h⟩
  · show j - 1 < j
    omega
  · refine ⟨by show j - 1 ≤ i; omega, S9, N2.swap hj0 (by omega) hx hy halt, ?_, ?_, ?_, ?_, ?_, ?_⟩ <;> simp +decide only [rget_rput, if_true, if_false, h0, h1, h2, h3, h8]

end Go.Proofs.YtacpdefmnijhnaaGreat.U
