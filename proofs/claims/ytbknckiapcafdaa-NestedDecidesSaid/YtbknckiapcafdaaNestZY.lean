/- Components (40). -/
import Derived.Test.YtbknckiapcafdaaNestZX
set_option linter.unusedSimpArgs false
set_option linter.unusedVariables false
namespace Go.Proofs.Ytbknckiapcafdaa.Nest
open Abs Abs2

def gr (L : Lts) (s : Nat) : List Nat := (tauRow L s).map fun a => a.2.toNat
theorem gr_len (L : Lts) (s : Nat) : (gr L s).length = (tauRow L s).length := List.length_map ..
theorem tau_all {l : List Arc} {a : Arc} (h : asc l = true) (h0 : ∀ b ∈ l, 0 ≤ b.1) (ha : a ∈ l) (h1 : a.1 = 0) : a ∈ l.takeWhile fun a => a.1 == 0 := by
  induction l with
  | nil => cases ha
  | cons x l ih =>
    have hp := asc_pair.1 h
    rw [List.pairwise_cons] at hp
    have hx : x.1 = 0 := by
      rcases List.mem_cons.1 ha with rfl | ha
      · exact h1
      · have h2 := hp.1 a ha
        have h3 := h0 x (List.mem_cons_self ..)
        unfold lessA at h2
        simp only [Bool.or_eq_true, Bool.and_eq_true, decide_eq_true_eq] at h2
        omega
    rw [List.takeWhile_cons, if_pos (by simpa using hx)]
    rcases List.mem_cons.1 ha with rfl | ha
    · exact List.mem_cons_self ..
    · exact List.mem_cons_of_mem _ (ih (asc_pair.2 hp.2) (fun b hb => h0 b (List.mem_cons_of_mem _ hb)) ha)
theorem valid_at {L : Lts} (h : validB L = true) {row : List Arc} (hr : row ∈ L) : asc row = true ∧ ∀ a ∈ row, 0 ≤ a.1 ∧ 0 ≤ a.2 ∧ a.2 < (L.length : Int) := by
  have hl := valid_loose h
  unfold validB at h
  rw [Bool.and_eq_true] at h
  refine ⟨List.all_eq_true.1 h.2 row hr, fun a ha => ?_⟩
  unfold looseB at hl
  simp only [Bool.and_eq_true] at hl
  have h2 := List.all_eq_true.1 (List.all_eq_true.1 hl.2 row hr) a ha
  unfold okA at h2
  simp only [Bool.and_eq_true, decide_eq_true_eq] at h2
  exact ⟨h2.1.1.1, h2.1.2, h2.2⟩
theorem gr_tau {L : Lts} (h : validB L = true) (s t : Nat) : t ∈ gr L s ↔ Tau L s t := by
  unfold gr
  rw [List.mem_map]
  constructor
  · rintro ⟨a, ha, rfl⟩
    obtain ⟨h1, h2⟩ := tau_mem ha
    rw [List.getD_eq_getElem?_getD] at h1
    cases hr : L[s]? with
    | none => rw [hr] at h1; cases h1
    | some row =>
      rw [hr] at h1
      have h3 := (valid_at h (List.mem_of_getElem? hr)).2 a h1
      exact ⟨row, a, hr, h1, h2, by omega⟩
  · rintro ⟨row, a, hr, ha, h1, h2⟩
    obtain ⟨h3, h4⟩ := valid_at h (List.mem_of_getElem? hr)
    refine ⟨a, ?_, by rw [h2]; rfl⟩
    unfold tauRow
    rw [List.getD_eq_getElem?_getD, hr]
    exact tau_all h3 (fun b hb => (h4 b hb).1) ha h1
theorem gr_lt {L : Lts} (h : validB L = true) {s t : Nat} (ht : t ∈ gr L s) : s < L.length ∧ t < L.length := by
  obtain ⟨row, a, hr, ha, h1, h2⟩ := (gr_tau h s t).1 ht
  have h3 := (valid_at h (List.mem_of_getElem? hr)).2 a ha
  exact ⟨(List.getElem?_eq_some_iff.1 hr).1, by omega⟩
theorem tab_const (n : Nat) (c : Int) : tab n (fun _ => c) = List.replicate n c := by
  apply List.ext_getElem?
  intro i
  by_cases h : i < n
  · rw [tab_at h, List.getElem?_replicate, if_pos h]
  · rw [List.getElem?_eq_none (by rw [tab_len]; omega), List.getElem?_eq_none (by simp; omega)]

structure Q40 (L : Lts) (σ1 : AS) (b1 N ob ib lb i : Nat) (X : TS) (r : Regs) (s : AS) : Prop where
  inv : TInv L (gr L) N X
  cnt : X.cnt + left (gr L) N X.pr ≤ 20000
  opl : X.op.length ≤ X.cnt
  pal : X.path.length + left (gr L) N X.pr ≤ 20001
  seen : ∀ j, j < i → 0 < X.ix j
  tm : TM σ1 s N X ob ib lb (rget r 10) (rget r 11)
  a1 : rget r 1 = .bool true
  a2 : rget r 2 = .pointer (some ⟨b1, 0, none⟩)
  a6 : rget r 6 = .slice (some ⟨ob, 0, none⟩) N N
  a7 : rget r 7 = .slice (some ⟨ib, 0, none⟩) N N
  a8 : rget r 8 = .slice (some ⟨lb, 0, none⟩) N N
  a9 : rget r 9 = .int .i64 (X.cnt : Int)
  a31 : rget r 31 = .int .i64 (N : Int)
  a32 : rget r 32 = .int .i64 (i : Int)

/-- In a search from state i. -/
structure P40 (L : Lts) (σ1 : AS) (b1 N ob ib lb i : Nat) (X : TS) (r : Regs) (s : AS) : Prop where
  q : Q40 L σ1 b1 N ob ib lb i X r s
  here : 0 < X.ix i ∨ i ∈ X.path
  two : ∀ p s, X.path = p ++ [s] → X.ix s = 0 ∨ 2 ≤ X.pr s

/-- At the top of the way, seen. -/
structure M40 (L : Lts) (σ1 : AS) (b1 N ob ib lb i : Nat) (X0 : TS) (b : Nat) (p : List Nat) (t : Nat) (X : TS) (r : Regs) (s : AS) : Prop where
  q : Q40 L σ1 b1 N ob ib lb i X r s
  here : 0 < X.ix i ∨ i ∈ X.path
  path : X.path = p ++ [t]
  vis : 0 < X.ix t
  le : left (gr L) N X.pr ≤ left (gr L) N X0.pr
  a10 : ∃ c, rget r 10 = .slice (some ⟨b, 0, none⟩) (p.length + 1) c
  a13 : rget r 13 = .pointer (some ⟨b, p.length * 2, none⟩)
  a14 : rget r 14 = .int .i64 (t : Int)

/-- The top is done; its component, if it is one, is closed. -/
structure E40 (L : Lts) (σ1 : AS) (b1 N ob ib lb i : Nat) (X0 : TS) (b : Nat) (p : List Nat) (t : Nat) (X2 X : TS) (r : Regs) (s : AS) : Prop where
  inv : TInv L (gr L) N X
  path : X.path = p
  here : 0 < X.ix i
  lt : left (gr L) N X.pr < left (gr L) N X0.pr
  cnt : X.cnt + left (gr L) N X.pr ≤ 20000
  opl : X.op.length ≤ X.cnt
  pal : X.path.length + left (gr L) N X.pr ≤ 20001
  seen : ∀ j, j < i → 0 < X.ix j
  lo0 : p = [] → X.lo = X2.lo
  lo1 : ∀ q u, p = q ++ [u] → X.lo = upd X2.lo u (min (X2.lo u) (X2.lo t))
  two : ∀ q u, p = q ++ [u] → 2 ≤ X.pr u
  prp : ∀ u, u ∈ p → X.pr u = X2.pr u
  tm : TM σ1 s N { X with lo := X2.lo, path := p ++ [t], pr := X2.pr } ob ib lb (rget r 10) (rget r 11)
  tN : t < N
  a1 : rget r 1 = .bool true
  a2 : rget r 2 = .pointer (some ⟨b1, 0, none⟩)
  a6 : rget r 6 = .slice (some ⟨ob, 0, none⟩) N N
  a7 : rget r 7 = .slice (some ⟨ib, 0, none⟩) N N
  a8 : rget r 8 = .slice (some ⟨lb, 0, none⟩) N N
  a9 : rget r 9 = .int .i64 (X.cnt : Int)
  a31 : rget r 31 = .int .i64 (N : Int)
  a32 : rget r 32 = .int .i64 (i : Int)
  a10 : ∃ c, rget r 10 = .slice (some ⟨b, 0, none⟩) (p.length + 1) c
  a14 : rget r 14 = .int .i64 (t : Int)

section
variable {L : Lts} {g : Nat → List Nat} {N s k : Nat} {p : List Nat} {X : TS}
theorem TInv.nN (h : TInv L g N X) (hp : X.path = p ++ [s]) : s ∉ p ∧ s < N := by
  have h1 := h.pN
  rw [hp] at h1
  exact ⟨(nd_snoc.1 h1).2, h.pn s (by rw [hp]; simp)⟩
theorem left_upd {pr : Nat → Nat} {x : Nat} (hs : s < N) (hx : pr s < x) (hx2 : x ≤ (g s).length + 2) : left g N (upd pr s x) < left g N pr :=
  left_lt hs hx hx2 (by rw [upd_self]; exact Nat.le_refl _) fun i => by
    by_cases e : i = s
    · rw [e, upd_self]; omega
    · rw [upd_ne _ _ e]; exact Nat.le_refl _
theorem left_le {pr : Nat → Nat} {c : Nat} : ∀ {n : Nat}, (∀ s, s < n → (g s).length + 2 ≤ c) → left g n pr ≤ c * n := by
  intro n
  unfold left
  induction n with
  | zero => intro _; exact Nat.zero_le _
  | succ n ih =>
    intro h
    have h1 := ih fun s hs => h s (by omega)
    have h2 := h n (by omega)
    rw [sumTo, Nat.mul_succ]
    omega
end

set_option maxHeartbeats 64000000 in
theorem components_c {σ : AS} {tb lb0 cap m : Nat} {L : Lts} (hG : Gen tb lb0 σ L m) (hm : m ≤ 1000) (hn : L.length ≤ 12) (hv : validB L = true) :
    C Try.prog Kn 0 40 [.agg #[.slice (some ⟨lb0, 0, none⟩) L.length cap], .bool true] σ fun v σ' => ∃ comp, IL σ.next σ' v comp ∧ Ext σ σ' ∧ comp.length = L.length ∧ (LoopAt L comp ↔ Cyc L) := by
  have hpos := loose_pos (valid_loose hv)
  have hE := gr_tau hv
  have hrowle : ∀ s, s < L.length → (gr L s).length + 2 ≤ 1002 := fun s hs => by
    have h1 : L.getD s [] ∈ L := by rw [List.getD_eq_getElem?_getD, List.getElem?_eq_getElem hs]; exact List.getElem_mem hs
    have h2 := (hG.row _ h1).1
    have h3 := tau_len (L := L) (s := s)
    rw [gr_len]; omega
  refine C_of (kn (by decide)) Try.func40 rfl (Nat.le_of_ble_eq_true rfl) ?_
  show W _ _ _ 171 _ _ _ _
  unfold Try.f40
  dsimp only
  repeat apply W_assoc
  apply W_reg
  · intro callf
    simp +decide only [aOps, rinit, aWanted, ↓bite_eq, ↓reduceIte, aStep_eq, aStepOld, aOp, opBox, aRow, aev, ann, aPut, rget_rput, Nat.zero_add]
    rfl
  have E0 := Ext.new σ ⟨1, 30, 0, (Value.agg #[.slice (some ⟨lb0, 0, none⟩) L.length cap]).cells.toList, []⟩
  have BX : BoxAt (σ.new ⟨1, 30, 0, (Value.agg #[.slice (some ⟨lb0, 0, none⟩) L.length cap]).cells.toList, []⟩) σ.next (.slice (some ⟨lb0, 0, none⟩) L.length cap) := ⟨Nat.lt_succ_self _, by rw [AS.get_new, if_pos rfl]; rfl⟩
  generalize hb1 : σ.next = b1 at BX
  generalize σ.new ⟨1, 30, 0, (Value.agg #[.slice (some ⟨lb0, 0, none⟩) L.length cap]).cells.toList, []⟩ = σ1 at E0 BX
  have G1 := hG.ext E0
  repeat apply W_assoc
  apply W_regL
  apply Ls_pre 1
  · intro callf
    simp +decide only [List.take, aOps, aWanted, ↓bite_eq, ↓reduceIte, aStep_eq, aStepOld, aOp, opLoad, aev, ann, aPut, rget_rput, BX.load]
    rfl
  dsimp only [List.drop]
  refine Ls_fn (vs := [.agg #[.slice (some ⟨lb0, 0, none⟩) L.length cap]]) (by simp +decide only [aevs, aev, rget_rput, if_true, if_false]) (by decide) (C.mono (valid_prog (RS.shown RRow.shown G1.rs) (hG.small hm (by omega))) ?_)
  rintro v σ' ⟨rfl, e1⟩
  apply Ls_all
  · intro callf
    simp +decide only [aOps, aWanted, ↓bite_eq, ↓reduceIte, aStep_eq, aStepOld, aOp, opUn, aev, ann, aPut, rget_rput, Bool.not_true, hv, not_b]
    rfl
  repeat apply W_assoc
  refine W_if (b := false) ?_ ?_ ?_
  · simp +decide only [aev, rget_rput, if_true, if_false]
  · intro h; cases h
  intro _
  apply W_skipq
  have BX2 := BX.ext e1
  generalize σ' = σ2 at BX2 e1
  repeat apply W_assoc
  apply W_reg
  · intro callf
    simp +decide only [aOps, aWanted, ↓bite_eq, ↓reduceIte, aStep_eq, aStepOld, aOp, opCall, opFieldAddr, opLoad, aev, aevs, ann, aPut, rget_rput, aBuiltin, aLen, List.getElem?_toArray, List.getElem?_cons_zero, fldL, BX2.out, Try.underlying28, goInt]
    rfl
  repeat apply W_assoc
  apply W_regL
  apply Ls_pre 2
  · intro callf
    simp +decide only [List.take, aOps, aWanted, ↓bite_eq, ↓reduceIte, aStep_eq, aStepOld, aOp, opBuildSlice, aev, aparts, ann, aPut, rget_rput, slice33a]
    rfl
  dsimp only [List.drop]
  refine Ls_fn (vs := [.slice (some ⟨σ2.next, 0, none⟩) 1 1, .int .i64 (L.length : Int)]) (by simp +decide only [aevs, aev, rget_rput, if_true, if_false]) (by decide) (C.mono (repeat_c (σ := σ2.new ⟨1, 3, 0, [.int .i64 (-1)], []⟩) (xb := σ2.next) (Nat.lt_succ_self _) (by rw [AS.get_new, if_pos rfl]) hpos hn) ?_)
  rintro v σ' ⟨hI, e2⟩
  obtain ⟨ob, rfl, ob1, ob2, obg⟩ := hI
  apply Ls_all
  · intro callf
    simp +decide only [aOps, aWanted, ↓bite_eq, ↓reduceIte, aStep_eq, aStepOld, aOp, aev, ann, aPut, rget_rput]
    rfl
  have ob0 : σ1.next ≤ ob := Nat.le_trans (Nat.le_trans e1.nxt (Ext.new σ2 _).nxt) ob1
  have e2 := (e1.trans (Ext.new σ2 _)).trans e2
  generalize σ' = σ3 at e2 ob2 obg
  repeat apply W_assoc
  refine W_drw [] [] (by kernel_rfl) (by kernel_rfl) ?_
  apply Lg_pre 1
  · intro callf
    simp +decide only [List.take, aQ, memb, List.any_nil, Bool.true_or, Bool.and_true, reset_low, ble_self, aWanted, ↓bite_eq, ↓reduceIte, aStep_eq, aStepOld, aOp, aev, ann, aPut, rget_rput, Bool.not_false]
    rfl
  dsimp only [List.drop, List.take, List.length]
  have e4 : Ext σ3 (σ3.merge σ3.reset) := (Ext.refl _).merge
  generalize σ3.merge σ3.reset = σ4 at e4
  apply Lg_pre 1
  · intro callf
    simp +decide only [List.take, aQ, memb, List.any_nil, Bool.true_or, Bool.and_true, reset_next, reset_low, new_low, ble_self, aWanted, ↓bite_eq, ↓reduceIte, aStep_eq, aStepOld, aOp, aev, aPut, rget_rput, Nat.zero_add, Bool.not_false, opMakeSlice, make33 (show L.length ≤ 1000000 by omega)]
    rfl
  dsimp only [List.drop, List.take, List.length]
  have e5 : Ext σ4 (σ4.merge (σ4.reset.new ⟨1, 3, 0, List.replicate L.length (.int .i64 0), []⟩)) := Ext.merge (Ext.new _ _)
  have hI5 : IL σ4.next (σ4.merge (σ4.reset.new ⟨1, 3, 0, List.replicate L.length (.int .i64 0), []⟩)) (.slice (some ⟨σ4.next, 0, none⟩) L.length L.length) (List.replicate L.length 0) := (make33_il (σ := σ4.reset) (N := L.length) (Nat.le_refl _)).keep (Nat.le_refl _) fun _ _ _ => rfl
  generalize hib : σ4.next = ib at hI5
  generalize σ4.merge (σ4.reset.new ⟨1, 3, 0, List.replicate L.length (.int .i64 0), []⟩) = σ5 at e5 hI5
  apply Lg_pre 1
  · intro callf
    simp +decide only [List.take, aQ, memb, List.any_nil, Bool.true_or, Bool.and_true, reset_low, ble_self, aWanted, ↓bite_eq, ↓reduceIte, aStep_eq, aStepOld, aOp, aev, ann, aPut, rget_rput, Nat.zero_add, Bool.not_false]
    rfl
  dsimp only [List.drop, List.take, List.length]
  have e6 : Ext σ5 (σ5.merge σ5.reset) := (Ext.refl _).merge
  generalize σ5.merge σ5.reset = σ6 at e6
  apply Lg_pre 1
  · intro callf
    simp +decide only [List.take, aQ, memb, List.any_nil, Bool.true_or, Bool.and_true, reset_next, reset_low, new_low, ble_self, aWanted, ↓bite_eq, ↓reduceIte, aStep_eq, aStepOld, aOp, aev, aPut, rget_rput, Nat.zero_add, Bool.not_false, opMakeSlice, make33 (show L.length ≤ 1000000 by omega)]
    rfl
  dsimp only [List.drop, List.take, List.length]
  have e7 : Ext σ6 (σ6.merge (σ6.reset.new ⟨1, 3, 0, List.replicate L.length (.int .i64 0), []⟩)) := Ext.merge (Ext.new _ _)
  have hI7 : IL σ6.next (σ6.merge (σ6.reset.new ⟨1, 3, 0, List.replicate L.length (.int .i64 0), []⟩)) (.slice (some ⟨σ6.next, 0, none⟩) L.length L.length) (List.replicate L.length 0) := (make33_il (σ := σ6.reset) (N := L.length) (Nat.le_refl _)).keep (Nat.le_refl _) fun _ _ _ => rfl
  generalize hlb : σ6.next = lb at hI7
  generalize σ6.merge (σ6.reset.new ⟨1, 3, 0, List.replicate L.length (.int .i64 0), []⟩) = σ7 at e7 hI7
  apply Lg_all
  · intro callf
    simp +decide only [aQ, memb, List.any_nil, Bool.true_or, Bool.and_true, reset_merge, reset_reset, reset_next, reset_low, merge_next, merge_idem, ble_self, aWanted, ↓bite_eq, ↓reduceIte, aStep_eq, aStepOld, aOp, aev, ann, aPut, rget_rput, Nat.zero_add, Bool.not_false]
    rfl
  have e8 : Ext σ7 (σ7.merge σ7.reset) := (Ext.refl _).merge
  generalize σ7.merge σ7.reset = σ8 at e8
  have hIi := ((hI5.ext e6).ext e7).ext e8
  have hIl := hI7.ext e8
  have e38 := ((((e4.trans e5).trans e6).trans e7).trans e8)
  have e18 := e2.trans e38
  have hobib : ob < ib := by have := e4.nxt; omega
  have hiblb : ib < lb := by
    have h1 := hI5.ib.lt
    have := e6.nxt
    omega
  have T0 : TM σ1 σ8 L.length ⟨fun _ => 0, fun _ => 0, fun _ => -1, fun _ => 0, [], [], 0⟩ ob ib lb (.slice none 0 0) (.slice none 0 0) := by
    refine ⟨e18, ⟨ob0, e38.lt ob2, by rw [e38.get ob ob2, obg, tab_const]⟩, ⟨?_, hIi.ib.lt, ?_⟩, ⟨?_, hIl.ib.lt, ?_⟩, ⟨rfl, rfl, .inl ⟨rfl, rfl⟩⟩, OL.nil, by omega, by omega, by omega⟩
    · omega
    · rw [hIi.ib.get]; show _ = (⟨1, 3, 0, (tab L.length fun _ => ((0 : Nat) : Int)).map vInt, []⟩ : Blk); rw [tab_const]; rfl
    · omega
    · rw [hIl.ib.get]; show _ = (⟨1, 3, 0, (tab L.length fun _ => ((0 : Nat) : Int)).map vInt, []⟩ : Blk); rw [tab_const]; rfl
  have I0 := TInv.init L (gr L) (n := L.length)
  have hL0 : left (gr L) L.length (fun _ => 0) ≤ 20000 := Nat.le_trans (left_le hrowle) (by omega)
  rw [List.length_replicate]
  clear hI5 hI7 hIi hIl obg ob1 ob2 e2 e38 e4 e5 e6 e7 e8 ob0 e1 BX2
  generalize hX0 : (⟨fun _ => 0, fun _ => 0, fun _ => -1, fun _ => 0, [], [], 0⟩ : TS) = X0 at T0 I0
  have hX1 : X0.path = [] := by rw [← hX0]
  have hX2 : X0.cnt + left (gr L) L.length X0.pr ≤ 20000 := by rw [← hX0]; exact Nat.le_trans (Nat.le_of_eq (Nat.zero_add _)) hL0
  have hX3 : X0.op.length ≤ X0.cnt := by rw [← hX0]; exact Nat.le_refl _
  have hX4 : X0.cnt = 0 := by rw [← hX0]
  repeat apply W_assoc
  apply W_reg
  · intro callf
    simp +decide only [aOps, aWanted, ↓bite_eq, ↓reduceIte, aStep_eq, aStepOld, aOp, aev, ann, aPut]
    rfl
  repeat apply W_assoc
  apply W_reg
  · intro callf
    simp +decide only [aOps, aWanted, ↓bite_eq, ↓reduceIte, aStep_eq, aStepOld, aOp, aev, ann, aPut]
    rfl
  repeat apply W_assoc
  apply W_reg
  · intro callf
    simp +decide only [aOps, aWanted, ↓bite_eq, ↓reduceIte, aStep_eq, aStepOld, aOp, aev, ann, aPut]
    rfl
  repeat apply W_assoc
  apply W_reg
  · intro callf
    simp +decide only [aOps, aWanted, ↓bite_eq, ↓reduceIte, aStep_eq, aStepOld, aOp, aev, ann, aPut, rget_rput]
    rfl
  repeat apply W_assoc
  refine W_forM (fun (a : Nat × TS) r s => a.1 ≤ L.length ∧ Q40 L σ1 b1 L.length ob ib lb a.1 a.2 r s ∧ a.2.path = [])
    (fun a => L.length - a.1) (fun r s => ∃ X, Q40 L σ1 b1 L.length ob ib lb L.length X r s ∧ X.path = []) ?_ ?_ (0, X0) ?_
  rotate_left 2
  · refine ⟨Nat.zero_le _, ⟨I0, hX2, hX3, by rw [hX1]; simp; omega, fun j hj => absurd hj (Nat.not_lt_zero _), ?_, ?_, ?_, ?_, ?_, ?_, ?_, ?_, ?_⟩, hX1⟩
    all_goals simp +decide only [rget_rput, if_true, if_false, hX4]
    all_goals first | exact True.intro | rfl | exact T0
  rotate_left
  · rintro r s ⟨X, q, hp⟩
    obtain ⟨hall, hloop⟩ := q.inv.done hE hp q.seen fun s t ht => gr_lt hv ht
    repeat apply W_assoc
    apply W_reg
    · intro callf
      simp +decide only [aOps, aWanted, ↓bite_eq, ↓reduceIte, aStep_eq, aStepOld, aOp, aev, ann, aPut, rget_rput, q.a6]
      rfl
    refine W_ret ⟨Nat.le_refl _, [.slice (some ⟨ob, 0, none⟩) L.length L.length], ?_, tab L.length X.out, ⟨ob, by rw [tab_len]; rfl, by have := E0.nxt; have := q.tm.out.lo; omega, q.tm.out.lt, q.tm.out.get⟩, E0.trans q.tm.ext, tab_len _ _, ?_⟩
    · simp +decide only [aResults, rget_rput, if_true, if_false]
    · rw [← hloop]
      constructor
      · rintro ⟨s, a, c, h1, h2, h3⟩
        have hmem : a.2.toNat ∈ gr L s := List.mem_map.2 ⟨a, h1, rfl⟩
        obtain ⟨g1, g2⟩ := gr_lt hv hmem
        rw [tab_at g1] at h2
        rw [tab_at g2] at h3
        cases h2
        exact ⟨s, _, hmem, (Option.some.inj h3).symm⟩
      · rintro ⟨s, t, h1, h2⟩
        obtain ⟨g1, g2⟩ := gr_lt hv h1
        obtain ⟨a, ha, rfl⟩ := List.mem_map.1 h1
        exact ⟨s, a, X.out s, ha, tab_at g1, by rw [tab_at g2, h2]⟩
  clear T0 I0 hX0 hX1 hX2 hX3 hX4 hL0 e18
  rintro ⟨i, X⟩ r s ⟨hi, q, hp⟩
  dsimp only at hi q hp
  by_cases hlt : i < L.length
  rotate_left
  · obtain rfl : i = L.length := by omega
    have d1 : decide ((L.length : Int) < (L.length : Int)) = false := decide_eq_false (by omega)
    repeat apply W_assoc
    apply W_reg
    · intro callf
      simp +decide only [aOps, aWanted, ↓bite_eq, ↓reduceIte, aStep_eq, aStepOld, aOp, opBin, aev, ann, aPut, q.a31, q.a32, d1, aBin, aInts, aInt_eq]
      rfl
    repeat apply W_assoc
    refine W_if (b := false) ?_ ?_ ?_
    · simp +decide only [aev, rget_rput, if_true]
    · intro h; cases h
    intro _
    refine W_exitq ⟨fun h => (nomatch h), fun _ => ⟨X, ⟨q.inv, q.cnt, q.opl, q.pal, q.seen, ?_, ?_, ?_, ?_, ?_, ?_, ?_, ?_, ?_⟩, hp⟩, fun h1 h2 => absurd rfl h2⟩
    all_goals simp +decide only [rget_rput, if_false]
    all_goals first | exact q.tm | exact q.a1 | exact q.a2 | exact q.a6 | exact q.a7 | exact q.a8 | exact q.a9 | exact q.a31 | exact q.a32
  have d1 : decide ((i : Int) < (L.length : Int)) = true := decide_eq_true (by omega)
  have w1 : IntKind.i64.wrap ((i : Int) + 1) = ((i + 1 : Nat) : Int) := by rw [wrap64_id _ (by omega) (by omega)]; omega
  repeat apply W_assoc
  apply W_reg
  · intro callf
    simp +decide only [aOps, aWanted, ↓bite_eq, ↓reduceIte, aStep_eq, aStepOld, aOp, opBin, aev, ann, aPut, q.a31, q.a32, d1, aBin, aInts, aInt_eq]
    rfl
  repeat apply W_assoc
  refine W_if (b := true) ?_ ?_ ?_
  · simp +decide only [aev, rget_rput, if_true]
  rotate_left
  · intro h; cases h
  intro _
  apply W_skipq
  refine W_seqM (fun r s => ∃ X, Q40 L σ1 b1 L.length ob ib lb i X r s ∧ 0 < X.ix i ∧ X.path = []) ?_ ?_
  rotate_left
  · rintro r s ⟨X, q, hix, hp⟩
    refine W_tail ?_
    repeat apply W_assoc
    apply W_reg
    · intro callf
      simp +decide only [aOps, aWanted, ↓bite_eq, ↓reduceIte, aStep_eq, aStepOld, aOp, opBin, aev, ann, aPut, rget_rput, q.a32, w1, aBin, aInts, aInt_eq]
      rfl
    refine W_skip ⟨fun _ => ⟨(i + 1, X), ?_, by show i + 1 ≤ L.length; omega, ⟨q.inv, q.cnt, q.opl, q.pal, fun j hj => ?_, ?_, ?_, ?_, ?_, ?_, ?_, ?_, ?_, ?_⟩, hp⟩, fun h => (nomatch h), fun h => absurd rfl h⟩
    · show L.length - (i + 1) < L.length - i
      omega
    · by_cases e : j = i
      · rw [e]; exact hix
      · exact q.seen j (by omega)
    all_goals simp +decide only [rget_rput, if_true, if_false]
    all_goals first | exact q.tm | exact q.a1 | exact q.a2 | exact q.a6 | exact q.a7 | exact q.a8 | exact q.a9 | exact q.a31
  refine W_tail ?_
  refine W_blk ?_
  repeat apply W_assoc
  apply W_reg
  · intro callf
    simp +decide only [aOps, aWanted, ↓bite_eq, ↓reduceIte, aStep_eq, aStepOld, aOp, aev, ann, aPut, rget_rput, q.a32]
    rfl
  refine W_tail ?_
  apply W_scopeq
  repeat apply W_assoc
  apply W_reg
  · intro callf
    simp +decide only [aOps, aWanted, ↓bite_eq, ↓reduceIte, aStep_eq, aStepOld, aOp, opBin, opIndexAddr, opLoad, aev, ann, aPut, rget_rput, q.a7, idxB hlt, q.tm.ldIx hlt, aBin, aInts, aInt_eq]
    rfl
  by_cases hix : 0 < X.ix i
  · have d2 : decide ((X.ix i : Int) > 0) = true := decide_eq_true (by omega)
    repeat apply W_assoc
    refine W_if (b := true) ?_ ?_ ?_
    · simp +decide only [aev, rget_rput, if_true, if_false, d2]
    rotate_left
    · intro h; cases h
    intro _
    refine W_exitq ⟨fun _ => ?_, fun h1 h2 => absurd rfl h2⟩
    refine W_skip ⟨fun _ => ⟨X, ⟨q.inv, q.cnt, q.opl, q.pal, q.seen, ?_, ?_, ?_, ?_, ?_, ?_, ?_, ?_, ?_⟩, hix, hp⟩, fun h => absurd rfl h⟩
    all_goals simp +decide only [rget_rput, if_false]
    all_goals first | exact q.tm | exact q.a1 | exact q.a2 | exact q.a6 | exact q.a7 | exact q.a8 | exact q.a9 | exact q.a31 | exact q.a32 | exact True.intro | rfl
  have d2 : decide ((X.ix i : Int) > 0) = false := decide_eq_false (by omega)
  repeat apply W_assoc
  refine W_if (b := false) ?_ ?_ ?_
  · simp +decide only [aev, rget_rput, if_true, if_false, d2]
  · intro h; cases h
  intro _
  apply W_skipq
  have hX0 : X.ix i = 0 := by omega
  have hB1 : (s.new ⟨1, 90, 0, [.int .i64 (i : Int), .int .i64 0], []⟩).get s.next = ⟨1, 90, 0, [.int .i64 (i : Int), .int .i64 0], []⟩ := by rw [AS.get_new, if_pos rfl]
  obtain ⟨pv1, s2, ha1, T1⟩ := (q.tm.go (Ext.new s ⟨1, 90, 0, [.int .i64 (i : Int), .int .i64 0], []⟩)).pushPath (t := i) hB1 (by rw [hp]; simp) (q.inv.pr0 i hX0)
  repeat apply W_assoc
  apply W_reg
  · intro callf
    simp +decide only [aOps, aWanted, ↓bite_eq, ↓reduceIte, aStep_eq, aStepOld, aOp, opCall, opBuildSlice, opBuild, aev, aevs, aparts, ann, aPut, rget_rput, aBuiltin, build90, slice88, ha1]
    rfl
  repeat apply W_assoc
  apply W_labelq
  have I1 := q.inv.enter hp hX0 hlt
  rw [hp] at T1
  have hleft := q.cnt
  repeat apply W_assoc
  refine W_forM (fun (X : TS) r s => P40 L σ1 b1 L.length ob ib lb i X r s) (fun X => left (gr L) L.length X.pr) (fun r s => ∃ X, Q40 L σ1 b1 L.length ob ib lb i X r s ∧ 0 < X.ix i ∧ X.path = []) ?_ ?_ { X with path := [i] } ?_
  rotate_left 2
  · refine ⟨⟨I1, q.cnt, q.opl, by show 1 + left (gr L) L.length X.pr ≤ 20001; have := q.cnt; omega, q.seen, ?_, ?_, ?_, ?_, ?_, ?_, ?_, ?_, ?_⟩, .inr (by simp), fun p s hps => .inl ?_⟩
    rotate_left 9
    · have h1 : [i] = p ++ [s] := hps
      have h2 := congrArg List.getLast? h1
      simp at h2
      show X.ix s = 0
      rw [← h2]; exact hX0
    all_goals simp +decide only [rget_rput, if_true, if_false]
    all_goals first | exact T1 | exact q.a1 | exact q.a2 | exact q.a6 | exact q.a7 | exact q.a8 | exact q.a9 | exact q.a31 | exact q.a32 | exact True.intro | rfl
  rotate_left
  · rintro r s ⟨X, q, h1, h2⟩
    repeat first | apply W_skipq | apply W_assoc
    refine W_skip ⟨fun _ => ?_, fun h => absurd rfl h⟩
    exact W_skip ⟨fun _ => ⟨X, q, h1, h2⟩, fun h => absurd rfl h⟩
  clear I1 T1 ha1 hB1 hX0 d2 hix hp q hleft
  rintro X r s ⟨q, here, two⟩
  obtain ⟨pa, pc, hpv⟩ := q.tm.len
  rcases List.eq_nil_or_concat X.path with hp | ⟨p, t, hp⟩
  · have d3 : decide ((X.path.length : Int) > 0) = false := decide_eq_false (by rw [hp]; simp)
    repeat apply W_assoc
    apply W_reg
    · intro callf
      simp +decide only [aOps, aWanted, ↓bite_eq, ↓reduceIte, aStep_eq, aStepOld, aOp, opBin, opCall, aev, aevs, ann, aPut, rget_rput, aBuiltin, aLen, List.getElem?_toArray, List.getElem?_cons_zero, hpv, Try.underlying88, goInt, d3, aBin, aInts, aInt_eq]
      rfl
    repeat apply W_assoc
    refine W_if (b := false) ?_ ?_ ?_
    · simp +decide only [aev, rget_rput, if_true, if_false]
    · intro h; cases h
    intro _
    have hX1 : 0 < X.ix i := by
      rcases here with h | h
      · exact h
      · rw [hp] at h; cases h
    refine W_exitq ⟨fun h => (nomatch h), fun _ => ⟨X, ⟨q.inv, q.cnt, q.opl, q.pal, q.seen, ?_, ?_, ?_, ?_, ?_, ?_, ?_, ?_, ?_⟩, hX1, hp⟩, fun h1 h2 => absurd rfl h2⟩
    all_goals simp +decide only [rget_rput, if_false]
    all_goals first | exact q.tm | exact q.a1 | exact q.a2 | exact q.a6 | exact q.a7 | exact q.a8 | exact q.a9 | exact q.a31 | exact q.a32 | exact True.intro | rfl
  have hp : X.path = p ++ [t] := by simpa using hp
  have d3 : decide ((X.path.length : Int) > 0) = true := decide_eq_true (by rw [hp]; simp)
  repeat apply W_assoc
  apply W_reg
  · intro callf
    simp +decide only [aOps, aWanted, ↓bite_eq, ↓reduceIte, aStep_eq, aStepOld, aOp, opBin, opCall, aev, aevs, ann, aPut, rget_rput, aBuiltin, aLen, List.getElem?_toArray, List.getElem?_cons_zero, hpv, Try.underlying88, goInt, d3, aBin, aInts, aInt_eq]
    rfl
  repeat apply W_assoc
  refine W_if (b := true) ?_ ?_ ?_
  · simp +decide only [aev, rget_rput, if_true, if_false]
  rotate_left
  · intro h; cases h
  intro _
  apply W_skipq
  obtain ⟨htp, htN⟩ := q.inv.nN hp
  obtain ⟨b, c, hpv2, hb, hl0, hl1, -⟩ := q.tm.top hp htp
  have w2 : IntKind.i64.wrap (((p.length + 1 : Nat) : Int) - 1) = (p.length : Int) := by
    have := q.pal
    rw [hp, List.length_append] at this
    rw [wrap64_id _ (by omega) (by omega)]; omega
  refine W_tail ?_
  refine W_seqM (fun r s => ∃ X', left (gr L) L.length X'.pr < left (gr L) L.length X.pr ∧ P40 L σ1 b1 L.length ob ib lb i X' r s) ?_ ?_
  rotate_left
  · rintro r s ⟨X', h1, h2⟩
    exact W_skip ⟨fun _ => ⟨X', h1, h2⟩, fun h => (nomatch h), fun h => absurd rfl h⟩
  refine W_tail ?_
  refine W_blk ?_
  repeat apply W_assoc
  apply W_reg
  · intro callf
    simp +decide only [aOps, aWanted, ↓bite_eq, ↓reduceIte, aStep_eq, aStepOld, aOp, opBin, opCall, opIndexAddr, aev, aevs, ann, aPut, rget_rput, aBuiltin, aLen, List.getElem?_toArray, List.getElem?_cons_zero, Nat.zero_add, hpv2, Try.underlying88, goInt, w2, idx88 (show p.length < p.length + 1 by omega), aBin, aInts, aInt_eq]
    rfl
  repeat apply W_assoc
  apply W_reg
  · intro callf
    simp +decide only [aOps, aWanted, ↓bite_eq, ↓reduceIte, aStep_eq, aStepOld, aOp, opFieldAddr, opLoad, aev, ann, aPut, rget_rput, opNil, fld90_0, hl0]
    rfl
  repeat apply W_assoc
  apply W_reg
  · intro callf
    simp +decide only [aOps, aWanted, ↓bite_eq, ↓reduceIte, aStep_eq, aStepOld, aOp, opBin, opFieldAddr, opLoad, aev, ann, aPut, rget_rput, opNil, fld90_1, hl1, aBin, aInts, aInt_eq]
    rfl
  refine W_seqM (fun r s => ∃ X1, M40 L σ1 b1 L.length ob ib lb i X b p t X1 r s) ?_ ?_
  · by_cases hvis : 0 < X.ix t
    · have h2p : 2 ≤ X.pr t := (two p t hp).resolve_left (by omega)
      have d4 : (((X.pr t - 1 : Nat) : Int) == 0) = false := by simp; omega
      refine W_tail ?_
      repeat apply W_assoc
      refine W_if (b := false) ?_ ?_ ?_
      · simp +decide only [aev, rget_rput, if_true, if_false, d4]
      · intro h; cases h
      intro _
      apply W_skipq
      refine W_skip ⟨fun _ => ⟨X, ⟨q.inv, q.cnt, q.opl, q.pal, q.seen, ?_, ?_, ?_, ?_, ?_, ?_, ?_, ?_, ?_⟩, here, hp, hvis, Nat.le_refl _, ⟨c, ?_⟩, ?_, ?_⟩, fun h => absurd rfl h⟩
      all_goals simp +decide only [rget_rput, if_true, if_false]
      all_goals first | exact q.tm | exact hpv2 | exact q.a1 | exact q.a2 | exact q.a6 | exact q.a7 | exact q.a8 | exact q.a9 | exact q.a31 | exact q.a32 | exact True.intro | rfl
    have hX0 : X.ix t = 0 := by omega
    have hpr0 := q.inv.pr0 t hX0
    have d4 : (((X.pr t - 1 : Nat) : Int) == 0) = true := by rw [hpr0]; rfl
    refine W_tail ?_
    repeat apply W_assoc
    refine W_if (b := true) ?_ ?_ ?_
    · simp +decide only [aev, rget_rput, if_true, if_false, d4]
    rotate_left
    · intro h; cases h
    intro _
    have w3 : IntKind.i64.wrap ((X.cnt : Int) + 1) = ((X.cnt + 1 : Nat) : Int) := by
      have := q.cnt
      rw [wrap64_id _ (by omega) (by omega)]; omega
    repeat apply W_assoc
    apply W_reg
    · intro callf
      simp +decide only [aOps, aWanted, ↓bite_eq, ↓reduceIte, aStep_eq, aStepOld, aOp, opBin, aev, ann, aPut, rget_rput, q.a9, w3, aBin, aInts, aInt_eq]
      rfl
    obtain ⟨st1, T1⟩ := q.tm.putIx htN (X.cnt + 1)
    generalize s.put ib ⟨1, 3, 0, (tab L.length fun j => ((upd X.ix t (X.cnt + 1) j : Nat) : Int)).map vInt, []⟩ = s1 at st1 T1
    obtain ⟨st2, T2⟩ := T1.putLo htN (X.cnt + 1)
    generalize hs2 : s1.put lb ⟨1, 3, 0, (tab L.length fun j => ((upd X.lo t (X.cnt + 1) j : Nat) : Int)).map vInt, []⟩ = s2 at T2
    have st2 : aStore Try.prog s1 3 (.int .i64 ((X.cnt + 1 : Nat) : Int)) (.pointer (some ⟨lb, t, none⟩)) = some s2 := st2.trans (congrArg some hs2)
    repeat apply W_assoc
    apply W_reg
    · intro callf
      simp +decide only [aOps, aWanted, ↓bite_eq, ↓reduceIte, aStep_eq, aStepOld, aOp, opIndexAddr, opStore, aev, ann, unn, aPut, rget_rput, q.a7, q.a8, idxB htN, st1, st2]
      rfl
    have hB1 : (s2.new ⟨1, 3, 0, [.int .i64 (t : Int)], []⟩).get s2.next = ⟨1, 3, 0, [.int .i64 (t : Int)], []⟩ := by rw [AS.get_new, if_pos rfl]
    obtain ⟨ov3, s3, ha3, T3⟩ := (T2.go (Ext.new s2 ⟨1, 3, 0, [.int .i64 (t : Int)], []⟩)).pushOp (s := t) hB1 (by have := q.opl; have := q.cnt; show X.op.length + 1 ≤ _; omega)
    repeat apply W_assoc
    apply W_reg
    · intro callf
      simp +decide only [aOps, aWanted, ↓bite_eq, ↓reduceIte, aStep_eq, aStepOld, aOp, opCall, opBuildSlice, aev, aevs, aparts, ann, aPut, rget_rput, aBuiltin, slice33a, ha3]
      rfl
    have I3 := q.inv.visit hp hX0
    have T4 := (T3.cnt (X.cnt + 1)).pr (pr' := upd X.pr t 1) fun y _ => by
      show X.pr y - 1 = _
      by_cases e : y = t
      · rw [e, upd_self, hpr0]
      · rw [upd_ne _ _ e]
    have hlt2 : left (gr L) L.length (upd X.pr t 1) < left (gr L) L.length X.pr := left_upd htN (by omega) (by omega)
    refine W_skip ⟨fun _ => ⟨_, ⟨I3, ?_, ?_, ?_, fun j hj => ?_, ?_, ?_, ?_, ?_, ?_, ?_, ?_, ?_, ?_⟩, ?_, hp, ?_, Nat.le_of_lt hlt2, ⟨c, ?_⟩, ?_, ?_⟩, fun h => absurd rfl h⟩
    · have := q.cnt
      show X.cnt + 1 + left (gr L) L.length (upd X.pr t 1) ≤ 20000
      omega
    · have := q.opl
      show (X.op ++ [t]).length ≤ X.cnt + 1
      simp; omega
    · have := q.pal
      show X.path.length + left (gr L) L.length (upd X.pr t 1) ≤ 20001
      omega
    · show 0 < upd X.ix t (X.cnt + 1) j
      by_cases e : j = t
      · rw [e, upd_self]; omega
      · rw [upd_ne _ _ e]; exact q.seen j hj
    rotate_left 9
    · show 0 < upd X.ix t (X.cnt + 1) i ∨ i ∈ X.path
      by_cases e : i = t
      · rw [e, upd_self]; exact .inl (by omega)
      · rw [upd_ne _ _ e]; exact here
    · show 0 < upd X.ix t (X.cnt + 1) t
      rw [upd_self]; omega
    all_goals simp +decide only [rget_rput, if_true, if_false]
    all_goals first | exact T4 | exact hpv2 | exact q.a1 | exact q.a2 | exact q.a6 | exact q.a7 | exact q.a8 | exact q.a9 | exact q.a31 | exact q.a32 | exact True.intro | rfl
  have BX1 := BX
  clear hl0 hl1 hpv2 hpv q two here hb w2 d3 pa pc
  rintro r s ⟨X1, M⟩
  repeat apply W_assoc
  apply W_regL
  apply Ls_pre 3
  · intro callf
    simp +decide only [List.take, aOps, aWanted, ↓bite_eq, ↓reduceIte, aStep_eq, aStepOld, aOp, opLoad, aev, ann, aPut, rget_rput, M.q.a1, M.q.a2, M.a14, (BX.ext M.q.tm.ext).load]
    rfl
  dsimp only [List.drop]
  refine Ls_fn (vs := [.agg #[.slice (some ⟨lb0, 0, none⟩) L.length cap], .int .i64 (t : Int), .bool true]) (by simp +decide only [aevs, aev, rget_rput, if_true, if_false]) (by decide) (C.mono (tau_c G1 M.q.tm.ext hm htN) ?_)
  rintro v σ' ⟨e4, ⟨ta, tc, rfl⟩, hrs⟩
  apply Ls_all
  · intro callf
    simp +decide only [aOps, aWanted, ↓bite_eq, ↓reduceIte, aStep_eq, aStepOld, aOp, aev, ann, aPut, rget_rput]
    rfl
  have T1 := M.q.tm.go e4
  generalize σ' = s4 at T1
  repeat apply W_assoc
  refine W_forM (fun (X2 : TS) r s => M40 L σ1 b1 L.length ob ib lb i X b p t X2 r s ∧ rget r 15 = .slice ta (tauRow L t).length tc) (fun X2 => (gr L t).length + 1 - X2.pr t) (fun r s => ∃ X2, M40 L σ1 b1 L.length ob ib lb i X b p t X2 r s ∧ X2.pr t = (gr L t).length + 1) ?_ ?_ X1 ?_
  rotate_left 2
  · refine ⟨⟨⟨M.q.inv, M.q.cnt, M.q.opl, M.q.pal, M.q.seen, ?_, ?_, ?_, ?_, ?_, ?_, ?_, ?_, ?_⟩, M.here, M.path, M.vis, M.le, ?_, ?_, ?_⟩, ?_⟩
    all_goals simp +decide only [rget_rput, if_true, if_false]
    all_goals first | exact T1 | exact M.a10 | exact M.a13 | exact M.a14 | exact M.q.a1 | exact M.q.a2 | exact M.q.a6 | exact M.q.a7 | exact M.q.a8 | exact M.q.a9 | exact M.q.a31 | exact M.q.a32 | exact True.intro | rfl
  rotate_left
  · clear M T1 e4
    rintro r s ⟨X2, M, hpr⟩
    have TQ := M.q.tm.go (Ext.reset s)
    have l1 : aLoad Try.prog s.reset 3 (.pointer (some ⟨lb, t, none⟩)) = some (.int .i64 (X2.lo t : Int)) := TQ.ldLo htN
    have l2 : aLoad Try.prog s.reset 3 (.pointer (some ⟨ib, t, none⟩)) = some (.int .i64 (X2.ix t : Int)) := TQ.ldIx htN
    repeat apply W_assoc
    refine W_drw [] [] (by kernel_rfl) (by kernel_rfl) ?_
    apply Lg_all
    · intro callf
      simp +decide only [aQ, memb, List.any_nil, Bool.true_or, Bool.and_true, reset_merge, reset_reset, reset_next, reset_low, merge_next, merge_idem, ble_self, aWanted, ↓bite_eq, ↓reduceIte, aStep_eq, aStepOld, aOp, opBin, opIndexAddr, opLoad, aev, ann, aPut, rget_rput, Nat.zero_add, Bool.not_false, M.q.a8, M.a14, idxB htN, l1, M.q.a7, l2, aBin, aInts, aInt_eq]
      rfl
    have e1 : Ext s (s.merge s.reset) := (Ext.refl _).merge
    generalize s.merge s.reset = s1 at e1
    have T1 := M.q.tm.go e1
    have hsrt := M.q.inv.srt
    rw [M.path] at hsrt
    obtain ⟨-, hsrt⟩ := pw_snoc.1 hsrt
    have hprlt : left (gr L) L.length (upd X2.pr t ((gr L t).length + 2)) < left (gr L) L.length X2.pr := left_upd htN (by omega) (Nat.le_refl _)
    have hhere : 0 < X2.ix i := by
      rcases M.here with h | h
      · exact h
      · rw [M.path] at h
        rcases mem_snoc.1 h with h | h
        · exact (hsrt i h).1
        · rw [h]; exact M.vis
    have hc := M.q.cnt
    have hpl := M.q.pal
    rw [M.path, List.length_append, List.length_singleton] at hpl
    have hle := M.le
    refine W_seqM (fun r s => ∃ X3, E40 L σ1 b1 L.length ob ib lb i X b p t X2 X3 r s) ?_ ?_
    · refine W_tail ?_
      by_cases heq : X2.lo t = X2.ix t
      · have d8 : ((X2.lo t : Int) == (X2.ix t : Int)) = true := by rw [heq]; simp
        repeat apply W_assoc
        refine W_if (b := true) ?_ ?_ ?_
        · simp +decide only [aev, rget_rput, if_true, if_false, d8]
        rotate_left
        · intro h; cases h
        intro _
        have hout : X2.out t < 0 := by
          by_cases h : X2.out t < 0
          · exact h
          · exact absurd (by rw [M.path]; simp) (M.q.inv.cl t (by omega)).2
        obtain ⟨q', k', hop⟩ := List.append_of_mem ((M.q.inv.opm t).2 ⟨M.vis, hout⟩)
        have hops := M.q.inv.ops
        rw [hop] at hops
        have hnd : t ∉ k' := fun h => by
          have := (List.pairwise_cons.1 (List.pairwise_append.1 hops).2.1).1 t h
          omega
        have hT1o := T1.op
        rw [hop] at hT1o
        have hT1i := T1.out.il
        rw [tab_len] at hT1i
        repeat apply W_assoc
        apply W_regL
        apply Ls_pre 3
        · intro callf
          simp +decide only [List.take, aOps, aWanted, ↓bite_eq, ↓reduceIte, aStep_eq, aStepOld, aOp, aev, ann, aPut, rget_rput, M.a14, M.q.a6]
          rfl
        dsimp only [List.drop]
        refine Ls_fn (vs := [rget r 11, .int .i64 (t : Int), .slice (some ⟨ob, 0, none⟩) L.length L.length]) (by simp +decide only [aevs, aev, rget_rput, if_true, if_false]) (by decide) (C.mono (close_c hT1o hT1i T1.ext.nxt hnd (by rw [← hop]; have := M.q.opl; omega) (fun u hu => M.q.inv.ixn u ((M.q.inv.opm u).1 (by rw [hop]; exact hu)).1)) ?_)
        rintro v σ' ⟨m, hm, hO, hI, hn1, hg1, hlw1, -⟩
        apply Ls_all
        · intro callf
          simp +decide only [aOps, aWanted, ↓bite_eq, ↓reduceIte, aStep_eq, aStepOld, aOp, aev, ann, aPut, rget_rput]
          rfl
        have T2 := T1.close hO hI hn1 hg1 hlw1
        rw [M.path] at T2
        have I2 := M.q.inv.close hE M.path M.vis hpr heq hop hm
        refine W_skip ⟨fun _ => ⟨_, I2, rfl, hhere, Nat.lt_of_lt_of_le hprlt hle, ?_, ?_, ?_, M.q.seen, fun _ => rfl, fun q u hqu => ?_, fun q u hqu => ?_, fun u hu => ?_, ?_, htN, ?_, ?_, ?_, ?_, ?_, ?_, ?_, ?_, M.a10.imp fun c h => ?_, ?_⟩, fun h => absurd rfl h⟩
        · show X2.cnt + left (gr L) L.length (upd X2.pr t ((gr L t).length + 2)) ≤ 20000
          omega
        · show q'.length ≤ X2.cnt
          have h1 := M.q.opl
          rw [hop, List.length_append] at h1
          omega
        · show p.length + left (gr L) L.length (upd X2.pr t ((gr L t).length + 2)) ≤ 20001
          omega
        · have hu : u ∈ p := by rw [hqu]; simp
          have h1 := hsrt u hu
          have h2 := M.q.inv.low u h1.1
          have hmin : min (X2.lo u) (X2.lo t) = X2.lo u := by have := M.vis; omega
          show X2.lo = _
          rw [hmin, upd_same]
        · have hu : u ∈ p := by rw [hqu]; simp
          show 2 ≤ upd X2.pr t ((gr L t).length + 2) u
          rw [upd_ne _ _ (show u ≠ t from fun e => htp (e ▸ hu))]; exact (hsrt u hu).2.1
        · show upd X2.pr t ((gr L t).length + 2) u = _
          rw [upd_ne _ _ (show u ≠ t from fun e => htp (e ▸ hu))]
        all_goals simp +decide only [rget_rput, if_true, if_false]
        all_goals first | exact T2 | exact h | exact M.a14 | exact M.q.a1 | exact M.q.a2 | exact M.q.a6 | exact M.q.a7 | exact M.q.a8 | exact M.q.a9 | exact M.q.a31 | exact M.q.a32 | exact True.intro | rfl
      have d8 : ((X2.lo t : Int) == (X2.ix t : Int)) = false := by simp; omega
      repeat apply W_assoc
      refine W_if (b := false) ?_ ?_ ?_
      · simp +decide only [aev, rget_rput, if_true, if_false, d8]
      · intro h; cases h
      intro _
      obtain ⟨q0, u0, hpq⟩ := M.q.inv.alone M.path M.vis heq
      have I2 := M.q.inv.merge (by rw [M.path, hpq]) M.vis hpr heq
      have T2 : TM σ1 s1 L.length ⟨X2.ix, X2.lo, X2.out, X2.pr, p ++ [t], X2.op, X2.cnt⟩ ob ib lb (rget r 10) (rget r 11) := T1.to rfl rfl rfl M.path (fun _ _ => rfl) rfl
      refine W_skipq (W_skip ⟨fun _ => ⟨_, I2, hpq.symm, hhere, Nat.lt_of_lt_of_le hprlt hle, ?_, M.q.opl, ?_, M.q.seen, fun h => ?_, fun q u hqu => ?_, fun q u hqu => ?_, fun u hu => ?_, ?_, htN, ?_, ?_, ?_, ?_, ?_, ?_, ?_, ?_, M.a10.imp fun c h => ?_, ?_⟩, fun h => absurd rfl h⟩)
      · show X2.cnt + left (gr L) L.length (upd X2.pr t ((gr L t).length + 2)) ≤ 20000
        omega
      · show (q0 ++ [u0]).length + left (gr L) L.length (upd X2.pr t ((gr L t).length + 2)) ≤ 20001
        rw [← hpq]; omega
      · rw [hpq] at h; simp at h
      · rw [hpq] at hqu
        have h2 := congrArg List.getLast? hqu
        simp at h2
        rw [h2]
      · have hu : u ∈ p := by rw [hqu]; simp
        show 2 ≤ upd X2.pr t ((gr L t).length + 2) u
        rw [upd_ne _ _ (show u ≠ t from fun e => htp (e ▸ hu))]; exact (hsrt u hu).2.1
      · show upd X2.pr t ((gr L t).length + 2) u = _
        rw [upd_ne _ _ (show u ≠ t from fun e => htp (e ▸ hu))]
      all_goals simp +decide only [rget_rput, if_false]
      all_goals first | exact T2 | exact h | exact M.a14 | exact M.q.a1 | exact M.q.a2 | exact M.q.a6 | exact M.q.a7 | exact M.q.a8 | exact M.q.a9 | exact M.q.a31 | exact M.q.a32 | exact True.intro | rfl
    clear T1 TQ l1 l2 hsrt hprlt hhere hc hpl hle M hpr e1
    rintro r s ⟨X3, E⟩
    obtain ⟨c, h10⟩ := E.a10
    obtain ⟨pv5, hcut, T5⟩ := E.tm.pop (p := p) (s := t) rfl
    obtain ⟨pa, pc, rfl⟩ := T5.len
    rw [h10] at hcut
    have hpl := E.pal
    rw [E.path] at hpl
    have w2 : IntKind.i64.wrap (((p.length + 1 : Nat) : Int) - 1) = (p.length : Int) := by rw [wrap64_id _ (by omega) (by omega)]; omega
    repeat apply W_assoc
    apply W_reg
    · intro callf
      simp +decide only [aOps, aWanted, ↓bite_eq, ↓reduceIte, aStep_eq, aStepOld, aOp, opBin, opCall, opSlice, aev, aevs, ann, aPut, rget_rput, aBuiltin, aLen, List.getElem?_toArray, List.getElem?_cons_zero, h10, w2, aopt, hcut, Try.underlying88, goInt, aBin, aInts, aInt_eq]
      rfl
    rcases List.eq_nil_or_concat p with hp0 | ⟨q, u, hp0⟩
    · have d9 : decide ((p.length : Int) > 0) = false := decide_eq_false (by rw [hp0]; simp)
      repeat apply W_assoc
      apply W_reg
      · intro callf
        simp +decide only [aOps, aWanted, ↓bite_eq, ↓reduceIte, aStep_eq, aStepOld, aOp, opBin, opCall, aev, aevs, ann, aPut, rget_rput, aBuiltin, aLen, List.getElem?_toArray, List.getElem?_cons_zero, Try.underlying88, goInt, d9, aBin, aInts, aInt_eq]
        rfl
      refine W_tail ?_
      repeat apply W_assoc
      refine W_if (b := false) ?_ ?_ ?_
      · simp +decide only [aev, rget_rput, if_true, if_false]
      · intro h; cases h
      intro _
      have T6 := T5.to (Y := X3) rfl (E.lo0 hp0).symm rfl E.path.symm (fun y hy => by rw [← E.prp y hy]) rfl
      repeat first | apply W_skipq | apply W_assoc
      refine W_skip ⟨fun _ => W_skip ⟨fun _ => ⟨X3, E.lt, ⟨E.inv, E.cnt, E.opl, E.pal, E.seen, ?_, ?_, ?_, ?_, ?_, ?_, ?_, ?_, ?_⟩, .inl E.here, fun q u hqu => .inr (E.two q u (E.path.symm.trans hqu))⟩, fun h => absurd rfl h⟩, fun h => absurd rfl h⟩
      all_goals simp +decide only [rget_rput, if_true, if_false]
      all_goals first | exact T6 | exact E.a1 | exact E.a2 | exact E.a6 | exact E.a7 | exact E.a8 | exact E.a9 | exact E.a31 | exact E.a32 | exact True.intro | rfl
    have hp0 : p = q ++ [u] := by simpa using hp0
    have d9 : decide ((p.length : Int) > 0) = true := decide_eq_true (by rw [hp0]; simp)
    repeat apply W_assoc
    apply W_reg
    · intro callf
      simp +decide only [aOps, aWanted, ↓bite_eq, ↓reduceIte, aStep_eq, aStepOld, aOp, opBin, opCall, aev, aevs, ann, aPut, rget_rput, aBuiltin, aLen, List.getElem?_toArray, List.getElem?_cons_zero, Try.underlying88, goInt, d9, aBin, aInts, aInt_eq]
      rfl
    refine W_tail ?_
    repeat apply W_assoc
    refine W_if (b := true) ?_ ?_ ?_
    · simp +decide only [aev, rget_rput, if_true, if_false]
    rotate_left
    · intro h; cases h
    intro _
    obtain ⟨huq, huN⟩ := E.inv.nN (E.path.trans hp0)
    obtain ⟨b5, c5, hpv5, hb5, hl5, -, -⟩ := T5.top (p := q) (s := u) hp0 huq
    have hql : p.length = q.length + 1 := by rw [hp0]; simp
    rw [hql] at hpv5 hcut
    have w7 : IntKind.i64.wrap (((q.length + 1 : Nat) : Int) - 1) = (q.length : Int) := by rw [wrap64_id _ (by omega) (by omega)]; omega
    repeat apply W_assoc
    apply W_reg
    · intro callf
      simp +decide only [aOps, aWanted, ↓bite_eq, ↓reduceIte, aStep_eq, aStepOld, aOp, opBin, opCall, opIndexAddr, opFieldAddr, opLoad, aev, aevs, ann, aPut, rget_rput, aBuiltin, aLen, List.getElem?_toArray, List.getElem?_cons_zero, Nat.zero_add, hql, hpv5, w7, Try.underlying88, goInt, idx88 (show q.length < q.length + 1 by omega), fld90_0, hl5, aBin, aInts, aInt_eq]
      rfl
    have TQ := T5.go (Ext.reset s)
    have wm : (if (X2.lo t : Int) < (X2.lo u : Int) then (X2.lo t : Int) else (X2.lo u : Int)) = ((min (X2.lo u) (X2.lo t) : Nat) : Int) := by split <;> omega
    have l1 : aLoad Try.prog s.reset 3 (.pointer (some ⟨lb, u, none⟩)) = some (.int .i64 (X2.lo u : Int)) := TQ.ldLo huN
    have l2 : aLoad Try.prog s.reset 3 (.pointer (some ⟨lb, t, none⟩)) = some (.int .i64 (X2.lo t : Int)) := TQ.ldLo E.tN
    repeat apply W_assoc
    refine W_drw [] [] (by kernel_rfl) (by kernel_rfl) ?_
    apply Lg_pre 12
    · intro callf
      simp +decide only [List.take, aQ, memb, List.any_nil, Bool.true_or, Bool.and_true, reset_merge, reset_reset, reset_next, reset_low, merge_next, merge_idem, ble_self, aWanted, ↓bite_eq, ↓reduceIte, aStep_eq, aStepOld, aOp, opCall, opIndexAddr, opLoad, aev, aevs, ann, aPut, rget_rput, aBuiltin, Nat.zero_add, Bool.not_false, E.a8, E.a14, idxB huN, idxB E.tN, l1, l2, min_ii, wm]
      rfl
    dsimp only [List.drop, List.take, List.length]
    have e6 : Ext s (s.merge s.reset) := (Ext.refl _).merge
    generalize s.merge s.reset = s6 at e6
    have T6 := T5.go e6
    obtain ⟨st7, T7⟩ := (T6.go (Ext.reset s6)).putLo huN (min (X2.lo u) (X2.lo t))
    have T7 := T7.to (Y := X3) rfl (E.lo1 q u hp0).symm rfl E.path.symm (fun y hy => by rw [← E.prp y hy]) rfl
    refine Lg_st (v := undef) (s1 := s6.reset.put lb _) (by intro callf; simp +decide only [↓reduceIte, aStep_eq, aStepOld, aOp, opStore, aev, unn, rget_rput, st7]; rfl) (by kernel_rfl) ?_
    have T8 := T7.merge T6.ext
    generalize s6.merge (s6.reset.put lb _) = s8 at T8
    have T8 : TM σ1 s8 L.length X3 ob ib lb (.slice pa p.length pc) (rget r 11) := T8
    rw [hql, hpv5] at T8
    show W _ _ _ 171 _ _ _ _
    repeat first | apply W_skipq | apply W_assoc
    refine W_skip ⟨fun _ => W_skip ⟨fun _ => ⟨X3, E.lt, ⟨E.inv, E.cnt, E.opl, E.pal, E.seen, ?_, ?_, ?_, ?_, ?_, ?_, ?_, ?_, ?_⟩, .inl E.here, fun q u hqu => .inr (E.two q u (E.path.symm.trans hqu))⟩, fun h => absurd rfl h⟩, fun h => absurd rfl h⟩
    all_goals simp +decide only [rget_rput, if_true, if_false]
    all_goals first | exact T8 | exact hpv5 ▸ T8 | exact E.a1 | exact E.a2 | exact E.a6 | exact E.a7 | exact E.a8 | exact E.a9 | exact E.a31 | exact E.a32 | exact True.intro | rfl
  clear M T1 e4
  rintro X2 r s ⟨M, h15⟩
  obtain ⟨hpr1, hpr2⟩ := M.q.inv.prp t (by rw [M.path]; simp) M.vis
  obtain ⟨k, hk⟩ : ∃ k, X2.pr t = k + 1 := ⟨X2.pr t - 1, by omega⟩
  obtain ⟨b', c, hpv, hb, hl0, hl1, hst⟩ := M.q.tm.top M.path htp
  obtain ⟨c', h10⟩ := M.a10
  rw [h10] at hpv
  cases hpv
  rw [show X2.pr t - 1 = k by omega] at hl1
  rw [gr_len] at hpr2
  by_cases hkl : k < (tauRow L t).length
  rotate_left
  · have d5 : decide ((k : Int) < ((tauRow L t).length : Int)) = false := decide_eq_false (by omega)
    repeat apply W_assoc
    apply W_reg
    · intro callf
      simp +decide only [aOps, aWanted, ↓bite_eq, ↓reduceIte, aStep_eq, aStepOld, aOp, opBin, opCall, opFieldAddr, opLoad, aev, aevs, ann, aPut, rget_rput, aBuiltin, aLen, List.getElem?_toArray, List.getElem?_cons_zero, opNil, M.a13, fld90_1, hl1, h15, Try.underlying22, goInt, d5, aBin, aInts, aInt_eq]
      rfl
    repeat apply W_assoc
    refine W_if (b := false) ?_ ?_ ?_
    · simp +decide only [aev, rget_rput, if_true, if_false]
    · intro h; cases h
    intro _
    refine W_exitq ⟨fun h => (nomatch h), fun _ => ⟨X2, ⟨⟨M.q.inv, M.q.cnt, M.q.opl, M.q.pal, M.q.seen, ?_, ?_, ?_, ?_, ?_, ?_, ?_, ?_, ?_⟩, M.here, M.path, M.vis, M.le, ⟨c, ?_⟩, ?_, ?_⟩, by rw [hk, gr_len]; omega⟩, fun h1 h2 => absurd rfl h2⟩
    all_goals simp +decide only [rget_rput, if_false]
    all_goals first | exact M.q.tm | exact h10 | exact M.a13 | exact M.a14 | exact M.q.a1 | exact M.q.a2 | exact M.q.a6 | exact M.q.a7 | exact M.q.a8 | exact M.q.a9 | exact M.q.a31 | exact M.q.a32 | exact True.intro | rfl
  have d5 : decide ((k : Int) < ((tauRow L t).length : Int)) = true := decide_eq_true (by omega)
  repeat apply W_assoc
  apply W_reg
  · intro callf
    simp +decide only [aOps, aWanted, ↓bite_eq, ↓reduceIte, aStep_eq, aStepOld, aOp, opBin, opCall, opFieldAddr, opLoad, aev, aevs, ann, aPut, rget_rput, aBuiltin, aLen, List.getElem?_toArray, List.getElem?_cons_zero, opNil, M.a13, fld90_1, hl1, h15, Try.underlying22, goInt, d5, aBin, aInts, aInt_eq]
    rfl
  repeat apply W_assoc
  refine W_if (b := true) ?_ ?_ ?_
  · simp +decide only [aev, rget_rput, if_true, if_false]
  rotate_left
  · intro h; cases h
  intro _
  apply W_skipq
  refine W_tail ?_
  refine W_blk ?_
  obtain ⟨a, ha⟩ : ∃ a, (tauRow L t)[k]? = some a := ⟨(tauRow L t)[k], by simp [hkl]⟩
  have hgk : (gr L t)[k]? = some a.2.toNat := by unfold gr; rw [List.getElem?_map, ha]; rfl
  have hTN := (gr_lt hv (List.mem_of_getElem? hgk)).2
  have ha0 : 0 ≤ a.2 := by
    obtain ⟨h1, -⟩ := tau_mem (List.mem_of_getElem? ha)
    rw [List.getD_eq_getElem?_getD, List.getElem?_eq_getElem htN] at h1
    exact ((valid_at hv (List.getElem_mem htN)).2 a h1).2.1
  have hT : a.2 = (a.2.toNat : Int) := by omega
  obtain ⟨-, ab, aoff, rfl, -, hat⟩ := arcOf (hrs s M.q.tm.ext) ha
  have hld := (hat _ (Ext.refl _)).2.2
  generalize a.2.toNat = T at hgk hTN hT
  rw [hT] at hld
  have w5 : IntKind.i64.wrap ((k : Int) + 1) = ((k + 1 : Nat) : Int) := by
    have := hrowle t htN
    rw [gr_len] at this
    rw [wrap64_id _ (by omega) (by omega)]; omega
  repeat apply W_assoc
  apply W_reg
  · intro callf
    simp +decide only [aOps, aWanted, ↓bite_eq, ↓reduceIte, aStep_eq, aStepOld, aOp, opIndexAddr, opFieldAddr, opLoad, aev, ann, aPut, rget_rput, opNil, h15, M.a13, fld90_1, hl1, idx22 hkl, fld1, hld]
    rfl
  obtain ⟨B, hst1, T2⟩ := hst (k + 1)
  generalize s.put b B = s5 at hst1 T2
  repeat apply W_assoc
  apply W_reg
  · intro callf
    simp +decide only [aOps, aWanted, ↓bite_eq, ↓reduceIte, aStep_eq, aStepOld, aOp, opBin, opFieldAddr, opLoad, opStore, aev, ann, unn, aPut, rget_rput, opNil, M.a13, fld90_1, hl1, w5, hst1, aBin, aInts, aInt_eq]
    rfl
  have li : aLoad Try.prog s5 3 (.pointer (some ⟨ib, T, none⟩)) = some (.int .i64 (X2.ix T : Int)) := T2.ldIx hTN
  have lo : aLoad Try.prog s5 3 (.pointer (some ⟨ob, T, none⟩)) = some (.int .i64 (X2.out T)) := T2.ldOut hTN
  repeat apply W_assoc
  apply W_reg
  · intro callf
    simp +decide only [aOps, aWanted, ↓bite_eq, ↓reduceIte, aStep_eq, aStepOld, aOp, opBin, opIndexAddr, opLoad, aev, ann, aPut, rget_rput, M.q.a7, idxB hTN, li, aBin, aInts, aInt_eq]
    rfl
  have hleft : left (gr L) L.length (upd X2.pr t (k + 2)) < left (gr L) L.length X2.pr := left_upd htN (by omega) (by rw [gr_len]; omega)
  by_cases hixT : X2.ix T = 0
  · have d6 : ((X2.ix T : Int) == 0) = true := by simp; exact hixT
    repeat apply W_assoc
    refine W_if (b := true) ?_ ?_ ?_
    · simp +decide only [aev, rget_rput, if_true, if_false, d6]
    rotate_left
    · intro h; cases h
    intro _
    have hTt : T ≠ t := fun e => by have := M.vis; rw [e] at hixT; omega
    have hB1 : (s5.new ⟨1, 90, 0, [.int .i64 (T : Int), .int .i64 0], []⟩).get s5.next = ⟨1, 90, 0, [.int .i64 (T : Int), .int .i64 0], []⟩ := by rw [AS.get_new, if_pos rfl]
    obtain ⟨pv6, s6, ha6, T6⟩ := (T2.go (Ext.new s5 ⟨1, 90, 0, [.int .i64 (T : Int), .int .i64 0], []⟩)).pushPath (t := T) hB1 (by have := M.q.pal; show X2.path.length + 1 ≤ _; omega) (by
      show upd X2.pr t (k + 1 + 1) T = 0
      rw [upd_ne _ _ hTt]; exact M.q.inv.pr0 T hixT)
    repeat apply W_assoc
    apply W_reg
    · intro callf
      simp +decide only [aOps, aWanted, ↓bite_eq, ↓reduceIte, aStep_eq, aStepOld, aOp, opCall, opBuildSlice, opBuild, aev, aevs, aparts, ann, aPut, rget_rput, aBuiltin, build90, slice88, ha6]
      rfl
    have I6 := M.q.inv.push hE M.path M.vis hk hgk hixT hTN
    have hle := M.le
    refine W_exitq ⟨fun h => h.elim (fun h => (nomatch h)) (fun h => (nomatch h)), fun _ _ => ⟨fun h => (nomatch h), fun h => (nomatch h), fun _ _ => ⟨fun _ => ?_, fun _ h => absurd rfl h⟩⟩⟩
    refine W_skip ⟨fun _ => ⟨_, Nat.lt_of_lt_of_le hleft M.le, ⟨I6, ?_, M.q.opl, ?_, M.q.seen, ?_, ?_, ?_, ?_, ?_, ?_, ?_, ?_, ?_⟩, ?_, fun q u hqu => ?_⟩, fun h => absurd rfl h⟩
    · have := M.q.cnt
      show X2.cnt + left (gr L) L.length (upd X2.pr t (k + 2)) ≤ 20000
      omega
    · have := M.q.pal
      show (X2.path ++ [T]).length + left (gr L) L.length (upd X2.pr t (k + 2)) ≤ 20001
      rw [List.length_append, List.length_singleton]; omega
    rotate_left 9
    · exact M.here.imp_right fun h => List.mem_append.2 (.inl h)
    · have h2 := congrArg List.getLast? hqu
      simp at h2
      rw [← h2]; exact .inl hixT
    all_goals simp +decide only [rget_rput, if_true, if_false]
    all_goals first | exact T6 | exact M.q.a1 | exact M.q.a2 | exact M.q.a6 | exact M.q.a7 | exact M.q.a8 | exact M.q.a9 | exact M.q.a31 | exact M.q.a32 | exact True.intro | rfl
  have d6 : ((X2.ix T : Int) == 0) = false := by simp; exact hixT
  repeat apply W_assoc
  refine W_if (b := false) ?_ ?_ ?_
  · simp +decide only [aev, rget_rput, if_true, if_false, d6]
  · intro h; cases h
  intro _
  apply W_skipq
  repeat apply W_assoc
  apply W_reg
  · intro callf
    simp +decide only [aOps, aWanted, ↓bite_eq, ↓reduceIte, aStep_eq, aStepOld, aOp, opBin, opIndexAddr, opLoad, aev, ann, aPut, rget_rput, M.q.a6, idxB hTN, lo, aBin, aInts, aInt_eq]
    rfl
  have step : ∀ (lo' : Nat → Nat) (r' : Regs) (s' : AS), TInv L (gr L) L.length { X2 with pr := upd X2.pr t (k + 2), lo := lo' } → TM σ1 s' L.length { X2 with pr := upd X2.pr t (k + 2), lo := lo' } ob ib lb (rget r' 10) (rget r' 11) →
      rget r' 1 = .bool true → rget r' 2 = .pointer (some ⟨b1, 0, none⟩) → rget r' 6 = .slice (some ⟨ob, 0, none⟩) L.length L.length → rget r' 7 = .slice (some ⟨ib, 0, none⟩) L.length L.length → rget r' 8 = .slice (some ⟨lb, 0, none⟩) L.length L.length →
      rget r' 9 = .int .i64 (X2.cnt : Int) → rget r' 31 = .int .i64 (L.length : Int) → rget r' 32 = .int .i64 (i : Int) → rget r' 10 = .slice (some ⟨b, 0, none⟩) (p.length + 1) c → rget r' 13 = .pointer (some ⟨b, p.length * 2, none⟩) → rget r' 14 = .int .i64 (t : Int) → rget r' 15 = .slice (some ⟨ab, aoff, none⟩) (tauRow L t).length tc →
      ∃ X2', (gr L t).length + 1 - X2'.pr t < (gr L t).length + 1 - X2.pr t ∧ M40 L σ1 b1 L.length ob ib lb i X b p t X2' r' s' ∧ rget r' 15 = .slice (some ⟨ab, aoff, none⟩) (tauRow L t).length tc := fun lo' r' s' I' T' g1 g2 g6 g7 g8 g9 g31 g32 g10 g13 g14 g15 => by
    refine ⟨_, ?_, ⟨⟨I', ?_, M.q.opl, ?_, M.q.seen, T', g1, g2, g6, g7, g8, g9, g31, g32⟩, M.here, M.path, M.vis, Nat.le_trans (Nat.le_of_lt hleft) M.le, ⟨c, g10⟩, g13, g14⟩, g15⟩
    · show (gr L t).length + 1 - upd X2.pr t (k + 2) t < _
      rw [upd_self, gr_len, hk]; omega
    · have := M.q.cnt
      show X2.cnt + left (gr L) L.length (upd X2.pr t (k + 2)) ≤ 20000
      omega
    · have := M.q.pal
      show X2.path.length + left (gr L) L.length (upd X2.pr t (k + 2)) ≤ 20001
      omega
  refine W_tail ?_
  by_cases hoT : X2.out T < 0
  · have d7 : decide (X2.out T < 0) = true := decide_eq_true hoT
    repeat apply W_assoc
    refine W_if (b := true) ?_ ?_ ?_
    · simp +decide only [aev, rget_rput, if_true, if_false, d7]
    rotate_left
    · intro h; cases h
    intro _
    have TQ := T2.go (Ext.reset s5)
    have wm : (if (X2.ix T : Int) < (X2.lo t : Int) then (X2.ix T : Int) else (X2.lo t : Int)) = ((min (X2.lo t) (X2.ix T) : Nat) : Int) := by split <;> omega
    have l1 : aLoad Try.prog s5.reset 3 (.pointer (some ⟨lb, t, none⟩)) = some (.int .i64 (X2.lo t : Int)) := TQ.ldLo htN
    have l2 : aLoad Try.prog s5.reset 3 (.pointer (some ⟨ib, T, none⟩)) = some (.int .i64 (X2.ix T : Int)) := TQ.ldIx hTN
    repeat apply W_assoc
    refine W_drw [] [] (by kernel_rfl) (by kernel_rfl) ?_
    apply Lg_pre 12
    · intro callf
      simp +decide only [List.take, aQ, memb, List.any_nil, Bool.true_or, Bool.and_true, reset_merge, reset_reset, reset_next, reset_low, merge_next, merge_idem, ble_self, aWanted, ↓bite_eq, ↓reduceIte, aStep_eq, aStepOld, aOp, opCall, opIndexAddr, opLoad, aev, aevs, ann, aPut, rget_rput, aBuiltin, Nat.zero_add, Bool.not_false, M.q.a8, M.a14, idxB htN, l1, M.q.a7, idxB hTN, l2, min_ii, wm]
      rfl
    dsimp only [List.drop, List.take, List.length]
    have e6 : Ext s5 (s5.merge s5.reset) := (Ext.refl _).merge
    generalize s5.merge s5.reset = s6 at e6
    have T6 := T2.go e6
    obtain ⟨st7, T7⟩ := (T6.go (Ext.reset s6)).putLo htN (min (X2.lo t) (X2.ix T))
    generalize (⟨1, 3, 0, (tab L.length fun j => ((upd ({ X2 with pr := upd X2.pr t (k + 1 + 1) } : TS).lo t (min (X2.lo t) (X2.ix T)) j : Nat) : Int)).map vInt, []⟩ : Blk) = B7 at st7 T7
    refine Lg_st (v := undef) (s1 := s6.reset.put lb B7) (by intro callf; simp +decide only [↓reduceIte, aStep_eq, aStepOld, aOp, opStore, aev, unn, rget_rput, st7]) (by kernel_rfl) ?_
    have T8 := T7.merge T6.ext
    generalize s6.merge (s6.reset.put lb B7) = s8 at T8
    show W _ _ _ 171 _ _ _ _
    have I8 := M.q.inv.look hE M.path M.vis hk hgk (by omega) hoT
    repeat first | apply W_skipq | apply W_assoc
    refine W_skip ⟨fun _ => W_skip ⟨fun _ => step _ _ _ I8 ?_ ?_ ?_ ?_ ?_ ?_ ?_ ?_ ?_ ?_ ?_ ?_ ?_, fun h => (nomatch h), fun h => absurd rfl h⟩, fun h => absurd rfl h⟩
    all_goals simp +decide only [rget_rput, if_false]
    all_goals first | exact T8 | exact h10 | exact M.a13 | exact M.a14 | exact h15 | exact M.q.a1 | exact M.q.a2 | exact M.q.a6 | exact M.q.a7 | exact M.q.a8 | exact M.q.a9 | exact M.q.a31 | exact M.q.a32 | exact True.intro | rfl
  have d7 : decide (X2.out T < 0) = false := decide_eq_false hoT
  repeat apply W_assoc
  refine W_if (b := false) ?_ ?_ ?_
  · simp +decide only [aev, rget_rput, if_true, if_false, d7]
  · intro h; cases h
  intro _
  repeat first | apply W_skipq | apply W_assoc
  have I8 := M.q.inv.pass M.path M.vis hk hgk (by omega) hoT
  refine W_skip ⟨fun _ => W_skip ⟨fun _ => step _ _ _ I8 ?_ ?_ ?_ ?_ ?_ ?_ ?_ ?_ ?_ ?_ ?_ ?_ ?_, fun h => (nomatch h), fun h => absurd rfl h⟩, fun h => absurd rfl h⟩
  all_goals simp +decide only [rget_rput, if_false]
  all_goals first | exact T2 | exact h10 | exact M.a13 | exact M.a14 | exact h15 | exact M.q.a1 | exact M.q.a2 | exact M.q.a6 | exact M.q.a7 | exact M.q.a8 | exact M.q.a9 | exact M.q.a31 | exact M.q.a32 | exact True.intro | rfl

end Go.Proofs.Ytbknckiapcafdaa.Nest
