/- The contract of Insert (function 28). -/
import Derived.Test.YtbknckiapcafdaaNestO
set_option linter.unusedSimpArgs false
set_option linter.unusedVariables false
namespace Go.Proofs.Ytbknckiapcafdaa.Nest
open Abs Abs2

theorem lessA_trans {a b c : Arc} (h : lessA a b = true) (k : lessA b c = true) : lessA a c = true := by
  unfold lessA at *
  simp only [Bool.or_eq_true, Bool.and_eq_true, decide_eq_true_eq] at *
  omega
theorem lessA_total {a b : Arc} (h : lessA a b = false) (hne : a ≠ b) : lessA b a = true := by
  cases hq : lessA b a with
  | true => rfl
  | false =>
    exfalso
    apply hne
    unfold lessA at h hq
    simp only [Bool.or_eq_false_iff, Bool.and_eq_false_iff, decide_eq_false_iff_not] at h hq
    have e1 : a.1 = b.1 := by omega
    have e2 : a.2 = b.2 := by omega
    exact Prod.ext e1 e2
theorem asc_pair : ∀ {l : List Arc}, asc l = true ↔ l.Pairwise fun a b => lessA a b = true
  | [] => by simp [asc]
  | [x] => by simp [asc]
  | x :: y :: l => by
    have ih := asc_pair (l := y :: l)
    rw [asc, Bool.and_eq_true, ih]
    constructor
    · rintro ⟨h1, h2⟩
      refine List.pairwise_cons.2 ⟨fun z hz => ?_, h2⟩
      rcases List.mem_cons.1 hz with rfl | hz
      · exact h1
      · exact lessA_trans h1 ((List.pairwise_cons.1 h2).1 z hz)
    · intro h
      obtain ⟨h1, h2⟩ := List.pairwise_cons.1 h
      exact ⟨h1 y (by simp), h2⟩
theorem asc_insert {l : List Arc} {a : Arc} {i : Nat} (h : asc l = true) (h1 : ∀ y ∈ l.take i, lessA y a = true) (h2 : ∀ y, l[i]? = some y → lessA y a = false ∧ y ≠ a) : asc (l.take i ++ [a] ++ l.drop i) = true := by
  have hp := asc_pair.1 h
  have hd : ∀ y ∈ l.drop i, lessA a y = true := fun y hy => by
    by_cases hi : i < l.length
    · rw [List.drop_eq_getElem_cons hi] at hy
      obtain ⟨h3, h4⟩ := h2 l[i] (by simp [hi])
      have h5 := lessA_total h3 h4
      rcases List.mem_cons.1 hy with rfl | hy
      · exact h5
      · have h6 : (l[i] :: l.drop (i + 1)).Pairwise fun a b => lessA a b = true := by
          rw [← List.drop_eq_getElem_cons hi]; exact hp.sublist (List.drop_sublist _ _)
        exact lessA_trans h5 ((List.pairwise_cons.1 h6).1 y hy)
    · rw [List.drop_eq_nil_of_le (by omega)] at hy; cases hy
  rw [asc_pair, List.append_assoc, List.pairwise_append]
  refine ⟨hp.sublist (List.take_sublist _ _), ?_, fun x hx y hy => ?_⟩
  · rw [List.singleton_append, List.pairwise_cons]
    exact ⟨hd, hp.sublist (List.drop_sublist _ _)⟩
  · rw [List.singleton_append] at hy
    rcases List.mem_cons.1 hy with rfl | hy
    · exact h1 x hx
    · exact lessA_trans (h1 x hx) (hd y hy)

/-- A row in the making, made since σ0. -/
def Out (σ0 σ : AS) (v : Value) (m : List Arc) : Prop :=
  (m = [] ∧ ∃ b0, σ0.next ≤ b0 ∧ b0 < σ.next ∧ v = .slice (some ⟨b0, 0, none⟩) 0 0 ∧ σ.get b0 = ⟨1, 27, 0, [], []⟩) ∨
  (m ≠ [] ∧ ∃ b, σ0.next ≤ b ∧ b < σ.next ∧ v = outV b m ∧ σ.get b = outB m)

theorem Out.ext {σ0 σ σ' : AS} {v : Value} {m : List Arc} (h : Out σ0 σ v m) (e : Ext σ σ') : Out σ0 σ' v m := by
  rcases h with ⟨h0, b, h1, h2, h3, h4⟩ | ⟨h0, b, h1, h2, h3, h4⟩
  · exact .inl ⟨h0, b, h1, e.lt h2, h3, (e.get b h2).trans h4⟩
  · exact .inr ⟨h0, b, h1, e.lt h2, h3, (e.get b h2).trans h4⟩

theorem Out.append {σ0 σ : AS} {v x : Value} {m k : List Arc} (h : Out σ0 σ v m) (hx : Src σ x k) (hn : m.length + k.length ≤ 1000000) (hE : Ext σ0 σ) :
    ∃ v' σ', aAppend Try.prog σ #[22, 22] v x = some (v', σ') ∧ Out σ0 σ' v' (m ++ k) ∧ Ext σ0 σ' := by
  have hnx := hE.nxt
  rcases h with ⟨rfl, b, h1, h2, rfl, h4⟩ | ⟨h0, b, h1, h2, rfl, h4⟩
  · by_cases hk : k = []
    · subst hk
      exact ⟨_, _, append_nil hx h4, .inl ⟨rfl, b, h1, h2, rfl, h4⟩, hE⟩
    · refine ⟨_, _, append_first hx hk (by simpa using hn) h4, .inr ⟨hk, σ.next, hnx, Nat.lt_succ_self _, rfl, by rw [AS.get_new, if_pos rfl]; rfl⟩, hE.trans (Ext.new _ _)⟩
  · by_cases hk : k = []
    · subst hk
      rw [List.append_nil]
      exact ⟨_, _, append_same hx (by simpa using hn) h4, .inr ⟨h0, b, h1, h2, rfl, h4⟩, hE⟩
    · refine ⟨_, _, append_more hx hk hn h4, .inr ⟨by simp [h0], σ.next, hnx, Nat.lt_succ_self _, rfl, ?_⟩, (hE.put h1 _).trans (Ext.new _ _)⟩
      rw [AS.get_new, if_pos]
      rfl

theorem Out.row {σ0 σ : AS} {v : Value} {m : List Arc} {X : List Nat} (h : Out σ0 σ v m) (hm : m ≠ []) (hX : ∀ x ∈ X, x < σ0.next) : GRow (hid X σ) v m := by
  rcases h with ⟨h0, _⟩ | ⟨h0, b, h1, h2, h3, h4⟩
  · exact absurd h0 hm
  · refine .inr ⟨h0, b, h3, by rw [hid_next]; exact h2, ?_⟩
    rw [hid_out _ (fun hx => by have := hX b hx; omega)]
    exact h4

theorem aLss {P : Program} {t : TypeId} (xo yo : Operand) {k : IntKind} {a b : Int} : aBin P .lss t xo yo (.int k a) (.int k b) = some (.bool (decide (a < b))) := by
  simp only [aBin, aInts, aInt_eq, if_true]

section
variable {P : Program} {K : Tbl} {G n id : Nat} {r : Regs} {σ : AS} {c d : Code} {Q : Nat → Regs → AS → Prop}
/-- A loop in a block, what holds behind it, and what follows. -/
theorem W_forM {α : Type} (inv : α → Regs → AS → Prop) (μ : α → Nat) (M : Regs → AS → Prop)
    (h : ∀ a r σ, inv a r σ → W P K G n c r σ fun e r' σ' => (e = 0 → ∃ a', μ a' < μ a ∧ inv a' r' σ') ∧ (e = id + 2 → M r' σ') ∧ (e ≠ 0 → e ≠ id + 2 → Q e r' σ'))
    (hM : ∀ r' σ', M r' σ' → W P K G n d r' σ' Q) (a : α) (h0 : inv a r σ) : W P K G n (.seq (.block id (.loop c)) d) r σ Q :=
  W_for inv μ (fun a r σ hi => (h a r σ hi).mono fun e r' σ' ⟨h1, h2, h3⟩ => ⟨h1, fun he => hM _ _ (h2 he), h3⟩) a h0
end

set_option maxHeartbeats 8000000 in
theorem insert : InsertC := by
  intro X σ v l a hg0 hl hX
  obtain ⟨vb, vc, rfl⟩ := hg0.slice
  refine C_of (kn (by decide)) Try.func28 rfl (Nat.le_of_ble_eq_true rfl) ?_
  show W _ _ _ 48 _ _ _ _
  unfold Try.f28
  dsimp only
  repeat apply W_assoc
  apply W_reg
  · intro callf
    simp +decide only [aOps, rinit, aWanted, ↓bite_eq, ↓reduceIte, aStep_eq, aStepOld, aOp, opBox, aRow, aev, ann, aPut, rget_rput, Nat.zero_add]
    rfl
  have A := ArcAt.new σ a
  have e1 := Ext.new σ ⟨1, 27, 0, (vArc a).cells.toList, []⟩
  generalize σ.new ⟨1, 27, 0, (vArc a).cells.toList, []⟩ = σ1 at A e1
  have hrs := (hg0.shown.ext e1).rs
  repeat apply W_assoc
  apply W_reg
  · intro callf
    simp +decide only [aOps, aWanted, ↓bite_eq, ↓reduceIte, aStep_eq, aStepOld, aOp, aev, ann, aPut]
    rfl
  repeat apply W_assoc
  refine W_forM (fun (i : Nat) r σ' => i ≤ l.length ∧ Ext σ1 σ' ∧ (∀ y ∈ l.take i, lessA y a = true) ∧ rget r 0 = .slice vb l.length vc ∧ rget r 3 = .pointer (some ⟨σ.next, 0, none⟩) ∧ rget r 4 = .slice none 0 0 ∧ rget r 5 = .int .i64 (i : Int))
    (fun i => l.length - i) (fun r σ' => ∃ i, i ≤ l.length ∧ Ext σ1 σ' ∧ (∀ y, l[i]? = some y → lessA y a = false) ∧ (∀ y ∈ l.take i, lessA y a = true) ∧ rget r 0 = .slice vb l.length vc ∧ rget r 3 = .pointer (some ⟨σ.next, 0, none⟩) ∧ rget r 4 = .slice none 0 0 ∧ rget r 5 = .int .i64 (i : Int)) ?_ ?_ 0 ?_
  rotate_left 2
  · simp +decide only [rget_rput, if_true, if_false]
    exact ⟨Nat.zero_le _, Ext.refl _, by simp, trivial, trivial, trivial, rfl⟩
  · rintro i r σ2 ⟨hi, e2, hls, h0, h3, h4, h5⟩
    have A2 := A.ext e2
    by_cases hlt : i < l.length
    · have d1 : decide ((i : Int) < (l.length : Int)) = true := decide_eq_true (by omega)
      obtain ⟨x, hx⟩ : ∃ x, l[i]? = some x := ⟨l[i], by simp [hlt]⟩
      obtain ⟨-, b, off, rfl, hbl, hat1⟩ := arcOf hrs hx
      repeat apply W_assoc
      repeat apply W_assoc
      refine W_drw [] [] (by kernel_rfl) (by kernel_rfl) ?_
      apply Lg_pre 10
      · intro callf
        simp +decide only [List.take, aQ, memb, List.any_nil, Bool.true_or, Bool.and_true, reset_merge, reset_reset, reset_next, reset_low, merge_next, merge_idem, ble_self, aWanted, ↓bite_eq, ↓reduceIte, aStep_eq, aStepOld, aOp, opBin, opCall, opIndexAddr, opLoad, aev, aevs, ann, aPut, rget_rput, aBuiltin, aLen, List.getElem?_toArray, List.getElem?_cons_zero, List.getElem?_cons_succ, Nat.zero_add, Option.bind_some, beq_self_eq_true, Bool.not_false, h0, h3, h5, d1, Try.underlying22, goInt, idx22 hlt, (hat1 _ (e2.trans (Ext.reset _))).1, (A2.ext (Ext.reset _)).load, aBin, aInts, aInt_eq]
        rfl
      dsimp only [List.drop, List.take, List.length]
      have e3 := e2.trans ((Ext.refl _).merge (σ := σ2))
      generalize σ2.merge σ2.reset = σ3 at e3
      refine Lg_fnG (vs := [vArc x, vArc a]) (by simp +decide only [aWanted, List.getElem?_toArray, List.getElem?_cons_zero, List.getElem?_cons_succ, Option.bind_some, rget_rput, if_true, if_false]) (by simp +decide only [aevs, aev, rget_rput, if_true, if_false]) (by decide) rfl (C.mono (less_arcs x a) ?_)
      rintro v s1 ⟨rfl, e4⟩
      refine ⟨e4.quiet, ?_⟩
      have e5 := e3.trans e4.merge
      generalize σ3.merge s1 = σ4 at e5
      apply Lg_all
      · intro callf
        simp +decide only [aQ, memb, List.any_nil, Bool.true_or, Bool.and_true, reset_low, ble_self, aWanted, ↓bite_eq, ↓reduceIte, aStep_eq, aStepOld, aOp, opPick, aev, aPut, rget_rput, Nat.zero_add, Bool.not_false]
        rfl
      have e6 := e5.trans ((Ext.refl _).merge (σ := σ4))
      generalize σ4.merge σ4.reset = σ5 at e6
      repeat apply W_assoc
      refine W_if (b := (lessA x a)) ?_ ?_ ?_
      · simp +decide only [aev, rget_rput, if_true, if_false]
      · intro h
        apply W_skipq
        refine W_tail ?_
        refine W_blk ?_
        refine W_tail ?_
        repeat apply W_assoc
        apply W_reg
        · intro callf
          simp +decide only [aOps, aWanted, ↓bite_eq, ↓reduceIte, aStep_eq, aStepOld, aOp, opBin, aev, ann, aPut, rget_rput, h5, wrap_add hlt (Nat.le_trans hl (by decide)), aBin, aInts, aInt_eq]
          rfl
        refine W_skip ⟨fun _ => W_skip ⟨fun _ => ⟨i + 1, ?_, ?_⟩, fun h => (nomatch h), fun h => absurd rfl h⟩, fun h => absurd rfl h⟩
        · omega
        · have hls2 : ∀ y ∈ l.take (i + 1), lessA y a = true := fun y hy => by
            rw [List.take_add_one, hx] at hy
            rcases List.mem_append.1 hy with hy | hy
            · exact hls y hy
            · rw [show y = x from by simpa using hy]; exact h
          simp +decide only [rget_rput, if_true, if_false, h0, h3, h4]
          exact ⟨by omega, e6, hls2, trivial⟩
      intro h
      refine W_exitq ⟨fun h => (nomatch h), fun _ => ⟨i, hi, e6, (fun y hy => by rw [hx] at hy; cases hy; exact h), hls, ?_⟩, fun h1 h2 => absurd rfl h2⟩
      simp +decide only [rget_rput, if_false, h0, h3, h4, h5]
    · have d1 : decide ((i : Int) < (l.length : Int)) = false := decide_eq_false (by omega)
      repeat apply W_assoc
      repeat apply W_assoc
      refine W_drw [] [] (by kernel_rfl) (by kernel_rfl) ?_
      apply Lg_all
      · intro callf
        simp +decide only [aQ, memb, List.any_nil, Bool.true_or, Bool.and_true, reset_merge, reset_reset, reset_next, reset_low, merge_next, merge_idem, ble_self, aWanted, ↓bite_eq, ↓reduceIte, aStep_eq, aStepOld, aOp, opBin, opCall, opPick, aev, aevs, ann, aPut, rget_rput, aBuiltin, aLen, List.getElem?_toArray, List.getElem?_cons_zero, List.getElem?_cons_succ, Nat.zero_add, Option.bind_some, Bool.not_true, Bool.not_false, Bool.false_beq, h0, h5, d1, Try.underlying22, goInt, aBin, aInts, aInt_eq]
        rfl
      have e3 := e2.trans ((Ext.refl _).merge (σ := σ2))
      generalize σ2.merge σ2.reset = σ3 at e3
      repeat apply W_assoc
      refine W_if (b := false) ?_ ?_ ?_
      · simp +decide only [aev, rget_rput, if_true, if_false]
      · intro h
        cases h
      intro h
      refine W_exitq ⟨fun h => (nomatch h), fun _ => ⟨i, hi, e3, (fun y hy => by rw [List.getElem?_eq_none (by omega)] at hy; cases hy), hls, ?_⟩, fun h1 h2 => absurd rfl h2⟩
      simp +decide only [rget_rput, if_false, h0, h3, h4, h5]
  rintro r σ2 ⟨i, hi, e2, hnl, hls, h0, h3, h4, h5⟩
  have A2 := A.ext e2
  by_cases hlt : i < l.length
  · have d1 : decide ((i : Int) < (l.length : Int)) = true := decide_eq_true (by omega)
    obtain ⟨x, hx⟩ : ∃ x, l[i]? = some x := ⟨l[i], by simp [hlt]⟩
    obtain ⟨-, b, off, rfl, hbl, hat1⟩ := arcOf hrs hx
    repeat apply W_assoc
    repeat apply W_assoc
    refine W_drw [] [] (by kernel_rfl) (by kernel_rfl) ?_
    apply Lg_all
    · intro callf
      simp +decide only [aQ, memb, List.any_nil, Bool.true_or, Bool.and_true, reset_merge, reset_reset, reset_next, reset_low, merge_next, merge_idem, ble_self, aWanted, ↓bite_eq, ↓reduceIte, aStep_eq, aStepOld, aOp, opBin, opCall, opIndexAddr, opLoad, opPick, aev, aevs, ann, aPut, rget_rput, aBuiltin, aLen, List.getElem?_toArray, List.getElem?_cons_zero, List.getElem?_cons_succ, Nat.zero_add, Option.bind_some, beq_self_eq_true, Bool.not_false, h0, h3, h5, d1, Try.underlying22, goInt, idx22 hlt, (hat1 _ (e2.trans (Ext.reset _))).1, (A2.ext (Ext.reset _)).load, eqArc, aLss]
      rfl
    have e3 := e2.trans ((Ext.refl _).merge (σ := σ2))
    generalize σ2.merge σ2.reset = σ3 at e3
    repeat apply W_assoc
    refine W_if (b := (decide (x = a))) ?_ ?_ ?_
    · simp +decide only [aev, rget_rput, if_true, if_false]
    · intro hxa
      have hxa := of_decide_eq_true hxa
      repeat apply W_assoc
      apply W_reg
      · intro callf
        simp +decide only [aOps, aWanted, ↓bite_eq, ↓reduceIte, aStep_eq, aStepOld, aOp, aev, ann, aPut, rget_rput, h0]
        rfl
      refine W_retq ⟨Nat.le_refl _, [.slice (some ⟨b, off, none⟩) l.length vc], ?_, e1.trans e3, l, hg0.ext (Ext.hid (e1.trans e3)), by omega, fun x hx => .inr hx, by rw [← hxa]; exact List.mem_of_getElem? hx, id⟩
      simp +decide only [aResults, rget_rput, if_true, if_false]
    intro hxa
    have hxa := of_decide_eq_false hxa
    have hne : ∀ y, l[i]? = some y → y ≠ a := fun y hy => by rw [hx] at hy; cases hy; exact hxa
    apply W_skipq
    have G2 : GRow σ3 (.slice (some ⟨b, off, none⟩) l.length vc) l := hg0.shown.ext (e1.trans e3)
    obtain ⟨x1, hx1, hs1⟩ := (G2.ext (Ext.new σ3 ⟨1, 27, 0, [], []⟩)).slice_to hi
    obtain ⟨o1, σ6, ha1, O1, eD⟩ := Out.append (σ0 := σ1) (v := .slice (some ⟨σ3.next, 0, none⟩) 0 0) (m := []) (.inl ⟨rfl, σ3.next, e3.nxt, Nat.lt_succ_self _, rfl, by rw [AS.get_new, if_pos rfl]⟩) hs1 (by rw [List.length_take]; simp; omega) (e3.trans (Ext.new σ3 ⟨1, 27, 0, [], []⟩))
    rw [List.nil_append] at O1
    repeat apply W_assoc
    apply W_reg
    · intro callf
      simp +decide only [aOps, aWanted, ↓bite_eq, ↓reduceIte, aStep_eq, aStepOld, aOp, opCall, opSlice, opBuildSlice, aev, aevs, aparts, ann, aPut, rget_rput, aBuiltin, h0, h5, slice22e, aopt, hx1, ha1]
      rfl
    generalize hn6 : σ6.next = n6
    obtain ⟨o2, σ7, ha2, O2, eE⟩ := Out.append (O1.ext (Ext.new σ6 ⟨1, 27, 0, [.int .i64 a.1, .int .i64 a.2], []⟩)) (x := .slice (some ⟨n6, 0, none⟩) 1 1) (k := [a]) (Src.of (.inr (.inr ⟨n6, 0, 1, rfl, cells_at (by rw [AS.get_new, if_pos hn6]) rfl (Nat.le_refl _)⟩))) (by rw [List.length_take]; simp; omega) (eD.trans (Ext.new _ _))
    repeat apply W_assoc
    apply W_reg
    · intro callf
      simp +decide only [aOps, aWanted, ↓bite_eq, ↓reduceIte, aStep_eq, aStepOld, aOp, opCall, opLoad, opBuildSlice, aev, aevs, aparts, ann, aPut, rget_rput, aBuiltin, h3, (A.ext eD).load, slice22, hn6, ha2]
      rfl
    obtain ⟨x3, hx3, hs3⟩ := (hg0.shown.ext (e1.trans eE)).slice_from hi
    obtain ⟨o3, σ8, ha3, O3, eF⟩ := Out.append O2 hs3 (by rw [List.length_append, List.length_take, List.length_drop]; simp; omega) eE
    repeat apply W_assoc
    apply W_reg
    · intro callf
      simp +decide only [aOps, aWanted, ↓bite_eq, ↓reduceIte, aStep_eq, aStepOld, aOp, opCall, opSlice, aev, aevs, ann, aPut, rget_rput, aBuiltin, h0, h5, aopt, hx3, ha3]
      rfl
    refine W_ret ⟨Nat.le_refl _, [o3], ?_, e1.trans eF, _, O3.row (by simp) (fun x hx => Nat.lt_of_lt_of_le (hX x hx) e1.nxt), ?_, fun y hy => ?_, by simp, fun h => asc_insert h hls fun y hy => ⟨hnl y hy, hne y hy⟩⟩
    · simp +decide only [aResults, rget_rput, if_true, if_false]
    · rw [List.length_append, List.length_append, List.length_take, List.length_drop, List.length_singleton]; omega
    · rw [List.mem_append, List.mem_append, List.mem_singleton] at hy
      rcases hy with (hy | hy) | hy
      · exact .inr (List.mem_of_mem_take hy)
      · exact .inl hy
      · exact .inr (List.mem_of_mem_drop hy)
  · have d1 : decide ((i : Int) < (l.length : Int)) = false := decide_eq_false (by omega)
    repeat apply W_assoc
    repeat apply W_assoc
    refine W_drw [] [] (by kernel_rfl) (by kernel_rfl) ?_
    apply Lg_all
    · intro callf
      simp +decide only [aQ, memb, List.any_nil, Bool.true_or, Bool.and_true, reset_merge, reset_reset, reset_next, reset_low, merge_next, merge_idem, ble_self, aWanted, ↓bite_eq, ↓reduceIte, aStep_eq, aStepOld, aOp, opBin, opCall, opPick, aev, aevs, ann, aPut, rget_rput, aBuiltin, aLen, List.getElem?_toArray, List.getElem?_cons_zero, List.getElem?_cons_succ, Nat.zero_add, Option.bind_some, Bool.not_true, Bool.not_false, Bool.false_beq, h0, h5, d1, Try.underlying22, goInt, aBin, aInts, aInt_eq]
      rfl
    have e3 := e2.trans ((Ext.refl _).merge (σ := σ2))
    generalize σ2.merge σ2.reset = σ3 at e3
    repeat apply W_assoc
    refine W_if (b := false) ?_ ?_ ?_
    · simp +decide only [aev, rget_rput, if_true, if_false]
    · intro h
      cases h
    intro _
    have hne : ∀ y, l[i]? = some y → y ≠ a := fun y hy => by rw [List.getElem?_eq_none (by omega)] at hy; cases hy
    apply W_skipq
    have G2 : GRow σ3 (.slice vb l.length vc) l := hg0.shown.ext (e1.trans e3)
    obtain ⟨x1, hx1, hs1⟩ := (G2.ext (Ext.new σ3 ⟨1, 27, 0, [], []⟩)).slice_to hi
    obtain ⟨o1, σ6, ha1, O1, eD⟩ := Out.append (σ0 := σ1) (v := .slice (some ⟨σ3.next, 0, none⟩) 0 0) (m := []) (.inl ⟨rfl, σ3.next, e3.nxt, Nat.lt_succ_self _, rfl, by rw [AS.get_new, if_pos rfl]⟩) hs1 (by rw [List.length_take]; simp; omega) (e3.trans (Ext.new σ3 ⟨1, 27, 0, [], []⟩))
    rw [List.nil_append] at O1
    repeat apply W_assoc
    apply W_reg
    · intro callf
      simp +decide only [aOps, aWanted, ↓bite_eq, ↓reduceIte, aStep_eq, aStepOld, aOp, opCall, opSlice, opBuildSlice, aev, aevs, aparts, ann, aPut, rget_rput, aBuiltin, h0, h5, slice22e, aopt, hx1, ha1]
      rfl
    generalize hn6 : σ6.next = n6
    obtain ⟨o2, σ7, ha2, O2, eE⟩ := Out.append (O1.ext (Ext.new σ6 ⟨1, 27, 0, [.int .i64 a.1, .int .i64 a.2], []⟩)) (x := .slice (some ⟨n6, 0, none⟩) 1 1) (k := [a]) (Src.of (.inr (.inr ⟨n6, 0, 1, rfl, cells_at (by rw [AS.get_new, if_pos hn6]) rfl (Nat.le_refl _)⟩))) (by rw [List.length_take]; simp; omega) (eD.trans (Ext.new _ _))
    repeat apply W_assoc
    apply W_reg
    · intro callf
      simp +decide only [aOps, aWanted, ↓bite_eq, ↓reduceIte, aStep_eq, aStepOld, aOp, opCall, opLoad, opBuildSlice, aev, aevs, aparts, ann, aPut, rget_rput, aBuiltin, h3, (A.ext eD).load, slice22, hn6, ha2]
      rfl
    obtain ⟨x3, hx3, hs3⟩ := (hg0.shown.ext (e1.trans eE)).slice_from hi
    obtain ⟨o3, σ8, ha3, O3, eF⟩ := Out.append O2 hs3 (by rw [List.length_append, List.length_take, List.length_drop]; simp; omega) eE
    repeat apply W_assoc
    apply W_reg
    · intro callf
      simp +decide only [aOps, aWanted, ↓bite_eq, ↓reduceIte, aStep_eq, aStepOld, aOp, opCall, opSlice, aev, aevs, ann, aPut, rget_rput, aBuiltin, h0, h5, aopt, hx3, ha3]
      rfl
    refine W_ret ⟨Nat.le_refl _, [o3], ?_, e1.trans eF, _, O3.row (by simp) (fun x hx => Nat.lt_of_lt_of_le (hX x hx) e1.nxt), ?_, fun y hy => ?_, by simp, fun h => asc_insert h hls fun y hy => ⟨hnl y hy, hne y hy⟩⟩
    · simp +decide only [aResults, rget_rput, if_true, if_false]
    · rw [List.length_append, List.length_append, List.length_take, List.length_drop, List.length_singleton]; omega
    · rw [List.mem_append, List.mem_append, List.mem_singleton] at hy
      rcases hy with (hy | hy) | hy
      · exact .inr (List.mem_of_mem_take hy)
      · exact .inl hy
      · exact .inr (List.mem_of_mem_drop hy)

end Go.Proofs.Ytbknckiapcafdaa.Nest
