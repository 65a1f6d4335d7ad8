/- A spoiled system (function 14). -/
import Derived.Test.YtbknckiapcafdaaNestZKA
set_option linter.unusedSimpArgs false
set_option linter.unusedVariables false
namespace Go.Proofs.Ytbknckiapcafdaa.Nest
open Abs Abs2

set_option maxHeartbeats 4000000 in
theorem eventV {σ : AS} {tb k : Nat} {lv : Value} {ints : List Int} (h : TapeV tb σ lv ints k) (hk : k < 2 ^ 62) : C Try.prog Kn 0 29 [.pointer (some ⟨tb, 0, none⟩)] σ fun v σ' => (∃ e : Int, v = .int .i64 e) ∧ TapeV tb σ' lv ints (k + 1) ∧ ExtX [tb] σ σ' := by
  refine C_of (kn (by decide)) Try.func29 rfl (Nat.le_of_ble_eq_true rfl) ?_
  show W _ _ _ 12 _ _ _ _
  unfold Try.f29
  dsimp only
  repeat apply W_assoc
  apply W_reg
  · intro callf
    simp +decide only [aOps, rinit, aWanted, ↓bite_eq, ↓reduceIte, aStep_eq, aStepOld, aOp, aev, ann, aPut]
    rfl
  repeat apply W_assoc
  apply W_reg
  · intro callf
    simp +decide only [aOps, aWanted, ↓bite_eq, ↓reduceIte, aStep_eq, aStepOld, aOp, opBuildSlice, aev, aparts, ann, aPut, rget_rput, slice33]
    rfl
  have e1 := Ext.new σ ⟨1, 3, 0, evs.map (Value.int .i64), []⟩
  have hg : (σ.new ⟨1, 3, 0, evs.map (Value.int .i64), []⟩).get σ.next = ⟨1, 3, 0, evs.map (Value.int .i64), []⟩ := by rw [AS.get_new, if_pos rfl]
  have hlt : σ.next < (σ.new ⟨1, 3, 0, evs.map (Value.int .i64), []⟩).next := Nat.lt_succ_self _
  have h0 := h.lt
  generalize σ.new ⟨1, 3, 0, evs.map (Value.int .i64), []⟩ = σ1 at e1 hg hlt
  repeat apply W_assoc
  apply W_regL
  apply Ls_pre 4
  · intro callf
    simp +decide only [List.take, aOps, aWanted, ↓bite_eq, ↓reduceIte, aStep_eq, aStepOld, aOp, opCall, aev, aevs, ann, aPut, rget_rput, aBuiltin, aLen, List.getElem?_toArray, List.getElem?_cons_zero, Try.underlying33, goInt]
    rfl
  dsimp only [List.drop]
  refine Ls_fn (vs := [.pointer (some ⟨tb, 0, none⟩), .int .i64 ((11 : Nat) : Int)]) (by simp +decide only [aevs, aev, rget_rput, if_true, if_false]) (by decide) (C.mono (next_tapeV (h.ext e1) hk (n := ((11 : Nat) : Int)) (by decide)) ?_)
  rintro v σ' ⟨⟨m, rfl, hm⟩, T1, e2⟩
  obtain ⟨m0, m1⟩ := hm (by decide)
  obtain ⟨i, rfl⟩ : ∃ i : Nat, m = (i : Int) := ⟨m.toNat, by omega⟩
  have hi : i < 11 := by omega
  have hg2 := (e2.get σ.next hlt (by intro h; simp at h; omega)).trans hg
  obtain ⟨x, hx⟩ : ∃ x, evs[i]? = some x := ⟨evs[i]'hi, List.getElem?_eq_getElem hi⟩
  have L : aLoad Try.prog σ' 3 (.pointer (some ⟨σ.next, i, none⟩)) = some (.int .i64 x) := load1 Try.underlying3 rfl (cells_at hg2 (by
    rw [List.drop_eq_getElem_cons (by rw [List.length_map]; exact hi)]
    obtain ⟨h1, h2⟩ := List.getElem?_eq_some_iff.1 hx
    rw [List.getElem_map, h2]; rfl) (by rw [List.length_map]; exact hi))
  apply Ls_all
  · intro callf
    simp +decide only [aOps, aWanted, ↓bite_eq, ↓reduceIte, aStep_eq, aStepOld, aOp, opIndexAddr, opLoad, aev, ann, aPut, rget_rput, Nat.zero_add, idx33 hi, L, Nat.mul_one]
    rfl
  refine W_ret ⟨Nat.le_refl _, [.int .i64 x], ?_, ⟨x, rfl⟩, T1, (ExtX.of e1).trans e2⟩
  simp +decide only [aResults, rget_rput, if_true, if_false]

/-- A row that can be read as long as its block stays. -/
structure RowAt (σ : AS) (w : Value) (m : List Arc) : Prop where
  slice : ∃ a c, w = .slice a m.length c
  own : ∀ i, Own w i → i < σ.next ∧ (σ.get i).elem = 27
  rs : ∀ σ' : AS, σ.next ≤ σ'.next → (∀ i, Own w i → i < σ.next → σ'.get i = σ.get i) → RS 2 RArc σ' w m

theorem Out.rowAt {σ0 σ : AS} {u : Value} {l : List Arc} (h : Out σ0 σ u l) : RowAt σ u l := by
  refine ⟨h.slice, fun i ho => (h.own ho).2, fun σ' hn hg => ?_⟩
  have h2 := h.keep hn hg
  rcases h2 with ⟨rfl, b, h1, h2, rfl, h4⟩ | ⟨h0, b, h1, h2, rfl, h4⟩
  · exact ⟨_, _, rfl, fun h => absurd rfl h⟩
  · exact GRow.rs (.inr ⟨h0, b, rfl, h2, h4⟩)

theorem Out.blk {σ0 σ : AS} {u : Value} {l : List Arc} (h : Out σ0 σ u l) : ∃ b c, u = .slice (some ⟨b, 0, none⟩) l.length c := by
  rcases h with ⟨rfl, b, _, _, rfl, _⟩ | ⟨_, b, _, _, rfl, _⟩
  · exact ⟨_, _, rfl⟩
  · exact ⟨_, _, rfl⟩

theorem Out.src {σ0 σ : AS} {u : Value} {l : List Arc} (h : Out σ0 σ u l) : Src σ u l := by
  rcases h with ⟨rfl, b, h1, h2, rfl, h4⟩ | ⟨h0, b, h1, h2, rfl, h4⟩
  · exact Src.of (.inr (.inr ⟨b, 0, 0, rfl, cells_at h4 rfl (Nat.le_refl _)⟩))
  · exact GRow.src (.inr ⟨h0, b, rfl, h2, h4⟩)

theorem ExtX.putNew {X : List Nat} {σ σ' : AS} (h : ExtX X σ σ') {i : Nat} (hi : σ.next ≤ i) (b : Blk) : ExtX X σ (σ'.put i b) :=
  ⟨h.nxt, fun j hj hx => by rw [AS.get_put, if_neg (by omega)]; exact h.get j hj hx, fun m h1 h2 h3 => Nat.le_min.2 ⟨h.low m h1 h2 h3, Nat.le_trans h2 hi⟩⟩
theorem ExtX.mergeTo {X : List Nat} {σ0 σ s : AS} (h : ExtX X σ0 σ) (hs : ExtX X σ0 s) : ExtX X σ0 (σ.merge s) := ⟨hs.nxt, hs.get, fun m h1 h2 h3 => Nat.le_min.2 ⟨h.low m h1 h2 h3, hs.low m h1 h2 h3⟩⟩

theorem Out.grow {σ0 σ : AS} {v x : Value} {m k : List Arc} {X : List Nat} (h : Out σ0 σ v m) (hx : Src σ x k) (hn : m.length + k.length ≤ 1000000) (hE : ExtX X σ0 σ) :
    ∃ v' σ', aAppend Try.prog σ #[22, 22] v x = some (v', σ') ∧ Out σ0 σ' v' (m ++ k) ∧ ExtX X σ0 σ' ∧ σ.next ≤ σ'.next ∧ ∀ i, i < σ.next → ¬ Own v i → σ'.get i = σ.get i := by
  have hnx := hE.nxt
  rcases h with ⟨rfl, b, h1, h2, rfl, h4⟩ | ⟨h0, b, h1, h2, rfl, h4⟩
  · by_cases hk : k = []
    · subst hk
      exact ⟨_, _, append_nil hx h4, .inl ⟨rfl, b, h1, h2, rfl, h4⟩, hE, Nat.le_refl _, fun _ _ _ => rfl⟩
    · exact ⟨_, _, append_first hx hk (by simpa using hn) h4, .inr ⟨hk, σ.next, hnx, Nat.lt_succ_self _, rfl, by rw [AS.get_new, if_pos rfl]; rfl⟩, hE.trans (ExtX.of (Ext.new _ _)), Nat.le_succ _, fun i hi _ => by rw [AS.get_new, if_neg (by omega)]⟩
  · by_cases hk : k = []
    · subst hk
      rw [List.append_nil]
      exact ⟨_, _, append_same hx (by simpa using hn) h4, .inr ⟨h0, b, h1, h2, rfl, h4⟩, hE, Nat.le_refl _, fun _ _ _ => rfl⟩
    · refine ⟨_, _, append_more hx hk hn h4, .inr ⟨by simp [h0], σ.next, hnx, Nat.lt_succ_self _, rfl, ?_⟩, (hE.putNew h1 _).trans (ExtX.of (Ext.new _ _)), Nat.le_succ _, fun i hi ho => ?_⟩
      · rw [AS.get_new, if_pos]
        rfl
      · rw [AS.get_new, if_neg (by show σ.next ≠ i; omega), AS.get_put, if_neg (fun e => ho (by rw [← e]; exact ⟨_, _, rfl⟩))]

theorem one_append {σ : AS} {x : Value} {a : Arc} {k : List Arc} {b : Nat} (hb : σ.get b = ⟨1, 27, 0, [.int .i64 a.1, .int .i64 a.2], []⟩) (hbn : b < σ.next) (hx : Src σ x k) (hn : k.length ≤ 100000) :
    ∃ w s, aAppend Try.prog σ #[22, 22] (.slice (some ⟨b, 0, none⟩) 1 1) x = some (w, s) ∧ Ext σ s ∧ RowAt s w (a :: k) := by
  obtain ⟨inf, z, h1, h2, h3, h4, h5, h6⟩ := info27
  have hs := hx.source h2
  have d1 : Nat.beq (2 : Nat) 0 = false := rfl
  have d2 : Nat.beq (2 : Nat) 2 = true := rfl
  have d3 : Nat.ble ((4 * (1 + k.length) + 4000) * 16) 281474976710656 = true := ble_t (by omega)
  have d4 : Nat.ble (1 + k.length) 1000000000000 = true := ble_t (by omega)
  have d5 : Nat.beq (cellsOf k).length (k.length * 2) = true := by rw [cellsOf_length]; exact Nat.beq_refl _
  have d7 : isOpen 1 = false := by kernel_rfl
  by_cases hk : k = []
  · subst hk
    refine ⟨.slice (some ⟨b, 0, none⟩) 1 1, σ, ?_, Ext.refl _, ⟨_, _, rfl⟩, fun i ho => ?_, fun σ' hn hg => ?_⟩
    · have hw : aWriteS σ ⟨b, 0 + 1 * 2, none⟩ [] = some σ := by
        rw [aWriteS_none]
        unfold aWrite
        simp only [hb]; rfl
      have d3 : Nat.ble ((4 * 1 + 4000) * 16) 281474976710656 = true := rfl
      have d4 : Nat.ble 1 1000000000000 = true := rfl
      have d8 : Nat.ble 1 1 = true := rfl
      unfold aAppend
      simp only [List.getElem?_toArray, List.getElem?_cons_zero, List.getElem?_cons_succ, Try.underlying22, h1, h2, h3, h4, h5, h6, hs, d1, d2, List.length_nil, Nat.add_zero, d3, d4, d7, d8, cellsOf, Nat.zero_mul, Bool.not_true, Bool.or_false, Bool.false_eq_true, if_false, Nat.beq_refl, if_true]
      first | rw [hw] | simp only [hw] | (simp only [Nat.zero_add, Nat.one_mul] at hw ⊢; rw [hw])
    · obtain ⟨n, c, e⟩ := ho
      cases e
      exact ⟨hbn, by rw [hb]⟩
    · have hb2 := (hg b ⟨_, _, rfl⟩ hbn).trans hb
      refine RS.of_block (e := 27) (s := 0) (l := [a]) (by omega) hb2 (by simp) fun i y hy => ?_
      have hi := (List.getElem?_eq_some_iff.1 hy).1
      obtain rfl : i = 0 := by simpa using hi
      simp at hy; subst hy
      rfl
  · have d6 : Nat.ble (1 + k.length) 1 = false := ble_f (by have := List.length_pos_iff.2 hk; omega)
    have hc : aCells σ ⟨b, 0, none⟩ (1 * 2) = some [.int .i64 a.1, .int .i64 a.2] := cells_at hb rfl (Nat.le_refl _)
    have ha : aAppend Try.prog σ #[22, 22] (.slice (some ⟨b, 0, none⟩) 1 1) x = some (.slice (some ⟨σ.next, 0, none⟩) (1 + k.length) (OPENCAP + (1 + k.length)), σ.new ⟨2, 27, 2, [.int .i64 a.1, .int .i64 a.2] ++ cellsOf k, []⟩) := by
      unfold aAppend
      simp only [List.getElem?_toArray, List.getElem?_cons_zero, List.getElem?_cons_succ, Try.underlying22, h1, h2, h3, h4, h5, h6, hs, d1, d2, d3, d4, d5, d6, d7, aFirst, aCellsS_none, hc, Bool.not_true, Bool.or_false, Bool.false_eq_true, if_false, Nat.beq_refl]
      rfl
    refine ⟨_, _, ha, Ext.new _ _, Out.rowAt (σ0 := σ) (.inr ⟨by simp, σ.next, Nat.le_refl _, Nat.lt_succ_self _, ?_, ?_⟩)⟩
    · unfold outV
      rw [List.length_cons, Nat.add_comm 1]
    · rw [AS.get_new, if_pos rfl]; rfl

theorem cells2 {σ : AS} {b i : Nat} {vals : List Value} {w : Value} (h : σ.get b = ⟨2, 22, 1, vals, []⟩) (hi : vals[i]? = some w) : aCells σ ⟨b, i, none⟩ 1 = some [w] := by
  obtain ⟨h1, h2⟩ := List.getElem?_eq_some_iff.1 hi
  unfold aCells
  simp only [h, hasLen_eq]
  rw [ble_t (show i + 1 ≤ vals.length by omega), List.drop_eq_getElem_cons h1, h2]
  rfl
theorem store22o {σ : AS} {b i : Nat} {vals : List Value} {p : Option Addr} {n c : Nat} (h : σ.get b = ⟨2, 22, 1, vals, []⟩) (hi : i < vals.length) :
    aStore Try.prog σ 22 (.slice p n c) (.pointer (some ⟨b, i, none⟩)) = some (σ.put b ⟨2, 22, 1, vals.set i (.slice p n c), []⟩) := by
  obtain ⟨inf, hi2, hs⟩ : ∃ inf, Try.prog.info? 22 = some inf ∧ inf.size = 1 := ⟨(Try.prog.info? 22).get!, by kernel_rfl, by kernel_rfl⟩
  have hz : Nat.beq (Value.slice p n c).cells.size 1 = true := rfl
  have hc : (Value.slice p n c).cells.toList = [.slice p n c] := rfl
  unfold aStore
  simp only [hi2, hs, hz, if_true, hc]
  unfold aWrite
  simp only [h, hasLen_eq, List.length_cons, List.length_nil, Nat.zero_add]
  rw [ble_t (by omega), lsplice_cons, lsplice_nil]
  rfl

theorem QSys.row {σ0 σ : AS} {v : Value} {L : Lts} {rows : List Value} (h : QSys σ0 σ v L rows) {s : Nat} (hs : s < L.length) :
    ∃ qb c u l, v = .slice (some ⟨qb, 0, none⟩) L.length c ∧ σ0.next ≤ qb ∧ qb < σ.next ∧ (σ.get qb).kind = 2 ∧ (σ.get qb).elem = 22 ∧ L[s]? = some l ∧ Out σ0 σ u l ∧
      (∀ σ' : AS, σ'.get qb = σ.get qb → aLoad Try.prog σ' 22 (.pointer (some ⟨qb, s, none⟩)) = some u) ∧
      ∀ (σ' : AS) (w : Value) (l' : List Arc), σ.next ≤ σ'.next → (∀ i, i < σ.next → ¬ Own u i → σ'.get i = σ.get i) → RowAt σ' w l' →
        ∃ B : Blk, B.kind = 2 ∧ B.elem = 22 ∧ aStore Try.prog σ' 22 w (.pointer (some ⟨qb, s, none⟩)) = some (σ'.put qb B) ∧
          ∀ τ : AS, σ'.next ≤ τ.next → (∀ i, i < σ'.next → ((σ'.put qb B).get i).elem ≠ 30 → τ.get i = (σ'.put qb B).get i) → RS 1 RRow τ v (L.set s l') := by
  have hlen := h.len
  obtain ⟨c1, c2, ⟨h3, h0⟩ | ⟨qb, n, vals, rfl, h4, h5, h6, h7, h8, h9⟩⟩ := id h.stk
  · omega
  obtain ⟨u, hu⟩ : ∃ u, rows[s]? = some u := ⟨rows[s]'(by omega), by simp [show s < rows.length by omega]⟩
  obtain ⟨l, hl⟩ : ∃ l, L[s]? = some l := ⟨L[s], by simp [hs]⟩
  have hO := h.out s u l hu hl
  have hvr : ∀ j w, rows[j]? = some w → vals[j]? = some w := fun j w hj => by
    rw [← h9, List.getElem?_take] at hj
    split at hj
    · exact hj
    · cases hj
  refine ⟨qb, _, u, l, rfl, h5, h6, by rw [h7], by rw [h7], hl, hO, fun σ' hg => load1 Try.underlying22 rfl (cells2 (hg.trans h7) (hvr s u hu)), fun σ' w l' hn hg hw => ?_⟩
  have hqb : ¬ Own u qb := fun ho => by
    have := (hO.own ho).2.2
    rw [h7] at this
    cases this
  have hg7 := (hg qb h6 hqb).trans h7
  obtain ⟨wa, wc, rfl⟩ := hw.slice
  have hsv : s < vals.length := by omega
  refine ⟨_, rfl, rfl, store22o hg7 hsv, fun τ hnt hgt => ?_⟩
  have hq : τ.get qb = ⟨2, 22, 1, vals.set s (.slice wa l'.length wc), []⟩ := by
    rw [hgt qb (by omega) (by rw [AS.get_put, if_pos rfl]; show (22 : Nat) ≠ 30; decide), AS.get_put, if_pos rfl]
  refine ⟨_, _, by rw [List.length_set], fun _ => ⟨qb, 0, rfl, by omega, fun i x hx => ?_⟩⟩
  rw [Nat.zero_add, Nat.mul_one]
  by_cases hi : s = i
  · subst hi
    rw [List.getElem?_set_self hs] at hx
    cases hx
    refine ⟨_, cells2 hq (List.getElem?_set_self hsv), _, rfl, hw.rs τ hnt fun j ho hj => ?_⟩
    have hj27 := (hw.own j ho).2
    have hne : qb ≠ j := by
      rintro rfl
      rw [hg7] at hj27; cases hj27
    rw [hgt j hj (by rw [AS.get_put, if_neg hne, hj27]; decide), AS.get_put, if_neg hne]
  · rw [List.getElem?_set_ne hi] at hx
    have hiL := (List.getElem?_eq_some_iff.1 hx).1
    obtain ⟨w, hw2⟩ : ∃ w, rows[i]? = some w := ⟨rows[i]'(by omega), by simp [show i < rows.length by omega]⟩
    have hOi := h.out i w x hw2 hx
    refine ⟨_, cells2 hq (by rw [List.getElem?_set_ne hi]; exact hvr i w hw2), _, rfl, hOi.rowAt.rs τ (Nat.le_trans hn hnt) fun j ho hj => ?_⟩
    have hj27 := (hOi.own ho).2.2
    have hne : qb ≠ j := by
      rintro rfl
      rw [h7] at hj27; cases hj27
    have hgj := hg j hj fun ho2 => hi (h.dis s i u w j hu hw2 ho2 ho)
    rw [hgt j (by omega) (by rw [AS.get_put, if_neg hne, hgj, hj27]; decide), AS.get_put, if_neg hne, hgj]

section
variable {P : Program} {K : Tbl} {G n id : Nat} {r : Regs} {σ : AS} {c d : Code} {Q : Nat → Regs → AS → Prop}
theorem W_blkM (M : Regs → AS → Prop) (h : W P K G n c r σ fun e r' σ' => (e = 0 ∨ e = id + 2 → M r' σ') ∧ (e ≠ 0 → e ≠ id + 2 → Q e r' σ')) (hM : ∀ r' σ', M r' σ' → W P K G n d r' σ' Q) : W P K G n (.seq (.block id c) d) r σ Q :=
  W_blk (h.mono fun e r' σ' ⟨h1, h2⟩ => ⟨fun he => hM _ _ (h1 he), h2⟩)
end

section
variable {P : Program} {K : Tbl} {G n : Nat} {r : Regs} {σ : AS} {c : Code} {Q : Nat → Regs → AS → Prop}
theorem W_abs (I : Regs → Prop) (h0 : I r) (h : ∀ r, I r → W P K G n c r σ Q) : W P K G n c r σ Q := h r h0
end
theorem nb30 {σ : AS} {b e : Nat} {v : Value} (h : σ.get b = ⟨1, 30, 0, [v], []⟩) (h2 : (σ.get b).elem = e) (he : e ≠ 30 := by decide) : False := by
  rw [h] at h2
  exact he h2.symm
theorem build30e : aBuild Try.prog 30 [] = some (.agg #[.slice none 0 0]) := by kernel_rfl

set_option maxHeartbeats 32000000 in
theorem spoil_c {σ : AS} {tb lb cap m k : Nat} {L : Lts} (hT : Tape tb σ k) (hk : k ≤ 2 ^ 60) (hG : Gen tb lb σ L m) (hm : m ≤ 600) (hL1 : 1 ≤ L.length) (hL : L.length ≤ 100) : C Try.prog Kn 0 14 [.pointer (some ⟨tb, 0, none⟩), .agg #[.slice (some ⟨lb, 0, none⟩) L.length cap]] σ fun v σ' =>
    ∃ s' L', v = .agg #[s'] ∧ RS 1 RRow σ' s' L' ∧ L'.length ≤ 100 ∧ (∀ r ∈ L', r.length ≤ 2000) ∧ Tape tb σ' (k + 10) ∧ ExtX [tb] σ σ' := by
  obtain ⟨lv, ints, T0⟩ := hT.V
  have htb := T0.lt
  refine C_of (kn (by decide)) Try.func14 rfl (Nat.le_of_ble_eq_true rfl) ?_
  show W _ _ _ 130 _ _ _ _
  unfold Try.f14
  dsimp only
  repeat apply W_assoc
  apply W_reg
  · intro callf
    simp +decide only [aOps, rinit, aWanted, ↓bite_eq, ↓reduceIte, aStep_eq, aStepOld, aOp, opBox, aRow, aev, aPut, rget_rput, Nat.zero_add, alloc30]
    rfl
  have E0 : Ext σ ((σ.new ⟨1, 30, 0, (Value.agg #[.slice (some ⟨lb, 0, none⟩) L.length cap]).cells.toList, []⟩).new ⟨1, 30, 0, [.slice none 0 0], []⟩) := (Ext.new _ _).trans (Ext.new _ _)
  have BL : BoxAt ((σ.new ⟨1, 30, 0, (Value.agg #[.slice (some ⟨lb, 0, none⟩) L.length cap]).cells.toList, []⟩).new ⟨1, 30, 0, [.slice none 0 0], []⟩) σ.next (.slice (some ⟨lb, 0, none⟩) L.length cap) := ⟨by show _ < σ.next + 1 + 1; omega, by
    rw [AS.get_new, if_neg (by show σ.next + 1 ≠ _; omega), AS.get_new, if_pos rfl]; rfl⟩
  have BR : BoxAt ((σ.new ⟨1, 30, 0, (Value.agg #[.slice (some ⟨lb, 0, none⟩) L.length cap]).cells.toList, []⟩).new ⟨1, 30, 0, [.slice none 0 0], []⟩) (σ.next + 1) (.slice none 0 0) := ⟨by show _ < σ.next + 1 + 1; omega, by
    rw [AS.get_new, if_pos (by show σ.next + 1 = _; rfl)]⟩
  have TA := T0.ext E0
  have GA := hG.ext E0
  have hbA : (((σ.new ⟨1, 30, 0, (Value.agg #[.slice (some ⟨lb, 0, none⟩) L.length cap]).cells.toList, []⟩).new ⟨1, 30, 0, [.slice none 0 0], []⟩)).next = σ.next + 1 + 1 := rfl
  generalize hb3 : σ.next = b3 at BL BR hbA htb
  generalize hb4 : b3 + 1 = b4 at BR hbA
  generalize (σ.new ⟨1, 30, 0, (Value.agg #[.slice (some ⟨lb, 0, none⟩) L.length cap]).cells.toList, []⟩).new ⟨1, 30, 0, [.slice none 0 0], []⟩ = σA at E0 BL BR TA GA hbA
  repeat apply W_assoc
  apply W_regL
  apply Ls_pre 1
  · intro callf
    simp +decide only [List.take, aOps, aWanted, ↓bite_eq, ↓reduceIte, aStep_eq, aStepOld, aOp, opLoad, aev, ann, aPut, rget_rput, BL.load]
    rfl
  dsimp only [List.drop]
  refine Ls_fn (vs := [.agg #[.slice (some ⟨lb, 0, none⟩) L.length cap]]) (by simp +decide only [aevs, aev, rget_rput, if_true, if_false]) (by decide) (C.mono (copy_c GA (by omega) (by omega)) ?_)
  rintro v σ' ⟨qv, rows, rfl, QQ, E1⟩
  obtain ⟨qa, qcc, hqv⟩ := QQ.slice
  subst hqv
  generalize hb5 : σ'.next = b5
  have hA5 : σA.next ≤ b5 := by rw [← hb5]; exact E1.nxt
  apply Ls_all
  · intro callf
    simp +decide only [aOps, aWanted, ↓bite_eq, ↓reduceIte, aStep_eq, aStepOld, aOp, opStore, aev, unn, aPut, rget_rput, alloc30, hb5, store30 (σ := σ'.new ⟨1, 30, 0, [.slice none 0 0], []⟩) (b := b5) (x := .slice none 0 0) (by rw [AS.get_new, if_pos hb5])]
    rfl
  have e1 : Ext σ' ((σ'.new ⟨1, 30, 0, [.slice none 0 0], []⟩).put b5 ⟨1, 30, 0, [.slice qa L.length qcc], []⟩) := Ext.put (Ext.new _ _) (by omega) _
  have BX : BoxAt ((σ'.new ⟨1, 30, 0, [.slice none 0 0], []⟩).put b5 ⟨1, 30, 0, [.slice qa L.length qcc], []⟩) b5 (.slice qa L.length qcc) := ⟨by rw [← hb5]; exact Nat.lt_succ_self _, by rw [AS.get_put, if_pos rfl]⟩
  have QQ := QQ.ext e1
  have BR := (BR.ext E1).ext e1
  have TP := (TA.ext E1).ext e1
  have EE := ExtX.of (X := [tb]) (E1.trans e1)
  generalize (σ'.new ⟨1, 30, 0, [.slice none 0 0], []⟩).put b5 ⟨1, 30, 0, [.slice qa L.length qcc], []⟩ = σ1 at e1 BX QQ BR TP EE
  have d0 : ((L.length : Int) == 0) = false := by rw [beq_eq_false_iff_ne]; omega
  repeat apply W_assoc
  apply W_reg
  · intro callf
    simp +decide only [aOps, aWanted, ↓bite_eq, ↓reduceIte, aStep_eq, aStepOld, aOp, opBin, opCall, opFieldAddr, opLoad, aev, aevs, ann, aPut, rget_rput, aBuiltin, aLen, List.getElem?_toArray, List.getElem?_cons_zero, fldL, BX.out, Try.underlying28, goInt, d0, aBin, aInts, aInt_eq]
    rfl
  repeat apply W_assoc
  refine W_if (b := false) ?_ ?_ ?_
  · simp +decide only [aev, rget_rput, if_true, if_false]
  · intro h; cases h
  intro _
  apply W_skipq
  repeat apply W_assoc
  apply W_regL
  apply Ls_pre 4
  · intro callf
    simp +decide only [List.take, aOps, aWanted, ↓bite_eq, ↓reduceIte, aStep_eq, aStepOld, aOp, opCall, opFieldAddr, opLoad, aev, aevs, ann, aPut, rget_rput, aBuiltin, aLen, List.getElem?_toArray, List.getElem?_cons_zero, fldL, BX.out, Try.underlying28, goInt]
    rfl
  dsimp only [List.drop]
  refine Ls_fn (vs := [.pointer (some ⟨tb, 0, none⟩), .int .i64 (L.length : Int)]) (by simp +decide only [aevs, aev, rget_rput, if_true, if_false]) (by decide) (C.mono (next_tapeV TP (by omega) (n := (L.length : Int)) (by omega)) ?_)
  rintro v σ' ⟨⟨m6, rfl, hm6⟩, TP, E2⟩
  obtain ⟨hm60, hm61⟩ := hm6 (by omega)
  obtain ⟨s, rfl⟩ : ∃ s : Nat, m6 = (s : Int) := ⟨m6.toNat, by omega⟩
  have hs : s < L.length := by omega
  apply Ls_all
  · intro callf
    simp +decide only [aOps, aWanted, ↓bite_eq, ↓reduceIte, aStep_eq, aStepOld, aOp, aev, ann, aPut, rget_rput]
    rfl
  have BX := BX.extX E2 (by simp; omega)
  have BR := BR.extX E2 (by simp; omega)
  have QQ := QQ.extX E2 (by simp; have := TA.lt; omega)
  have EE := EE.trans E2
  generalize σ' = σ2 at BX BR QQ EE TP
  repeat apply W_assoc
  refine W_drw [4] [b5] (by kernel_rfl) (by kernel_rfl) ?_
  apply Lg_pre 1
  · intro callf
    simp +decide only [List.take, aQ, memb, List.any_nil, List.any_cons, Bool.or_false, Bool.true_and, reset_low, ble_self, aWanted, ↓bite_eq, ↓reduceIte, aStep_eq, aStepOld, aOp, aev, ann, aPut, rget_rput]
    rfl
  dsimp only [List.drop, List.take, List.length]
  have e3 : Ext σ2 (σ2.merge σ2.reset) := (Ext.refl _).merge
  generalize σ2.merge σ2.reset = σ3 at e3
  have BX := BX.ext e3
  have BR := BR.ext e3
  have QQ := QQ.ext e3
  have EE := EE.trans (ExtX.of e3)
  have TP := TP.ext e3
  refine Lg_bar (vs := [.pointer (some ⟨tb, 0, none⟩)]) (by simp +decide only [aevs, aev, rget_rput, if_true, if_false]) (by decide) (by kernel_rfl) (by kernel_rfl) (C.mono (eventV (TP.ext (Ext.reset σ3)) (by omega)) ?_)
  rintro v2 s1 ⟨⟨ev, rfl⟩, T1, E3⟩
  refine ⟨fun x hx hlt => E3.get x hlt (by simp at hx ⊢; omega), ?_⟩
  have E3 : ExtX [tb] σ3 (σ3.merge s1) := E3.merge
  have EE := EE.trans E3
  have TP : TapeV tb (σ3.merge s1) lv ints (k + 1 + 1) := T1.keep TA EE rfl
  have BX := BX.extX E3 (by simp; omega)
  have BR := BR.extX E3 (by simp; omega)
  have QQ := QQ.extX E3 (by simp; have := TA.lt; omega)
  generalize σ3.merge s1 = σ4 at EE TP BX BR QQ
  clear T1 e3 E3
  apply Lg_pre 2
  · intro callf
    simp +decide only [List.take, aQ, memb, List.any_nil, List.any_cons, Bool.or_false, Bool.true_and, reset_merge, reset_reset, reset_next, reset_low, merge_next, merge_idem, ble_self, aWanted, ↓bite_eq, ↓reduceIte, aStep_eq, aStepOld, aOp, opFieldAddr, aev, ann, aPut, rget_rput, Nat.zero_add, fldL]
    rfl
  dsimp only [List.drop, List.take, List.length]
  have e5 : Ext σ4 (σ4.merge σ4.reset) := (Ext.refl _).merge
  generalize σ4.merge σ4.reset = σ5 at e5
  have BX := BX.ext e5
  have BR := BR.ext e5
  have QQ := QQ.ext e5
  have EE := EE.trans (ExtX.of e5)
  have TP := TP.ext e5
  have hqsv : (vsc σ5.next 9 (.slice qa L.length qcc) && veq 9 (.slice qa L.length qcc) (.slice qa L.length qcc)) = true := by
    obtain ⟨qb, c, u, l, h1, h2, h3, -⟩ := QQ.row hs
    cases h1
    exact sv_slice h3
  refine Lg_load (b := b5) (off := 0) (v := .slice qa L.length qcc) (by simp +decide only [aev, rget_rput, if_true, if_false]) BX.reset.out hqsv BX.lt (by simp [memb]) (by decide) ?_
  have e7 : Ext σ5 (σ5.merge σ5.reset) := (Ext.refl _).merge
  generalize σ5.merge σ5.reset = σ7 at e7
  have BX := BX.ext e7
  have BR := BR.ext e7
  have QQ := QQ.ext e7
  have EE := EE.trans (ExtX.of e7)
  have TP := TP.ext e7
  apply Lg_pre 1
  · intro callf
    simp +decide only [List.take, aQ, memb, List.any_nil, List.any_cons, Bool.or_false, Bool.true_and, reset_low, ble_self, aWanted, ↓bite_eq, ↓reduceIte, aStep_eq, aStepOld, aOp, opCall, aev, aevs, aPut, rget_rput, aBuiltin, aLen, List.getElem?_toArray, List.getElem?_cons_zero, Nat.zero_add, Try.underlying28, goInt]
    rfl
  dsimp only [List.drop, List.take, List.length]
  have e8 : Ext σ7 (σ7.merge σ7.reset) := (Ext.refl _).merge
  generalize σ7.merge σ7.reset = σ8 at e8
  have BX := BX.ext e8
  have BR := BR.ext e8
  have QQ := QQ.ext e8
  have EE := EE.trans (ExtX.of e8)
  have TP := TP.ext e8
  refine Lg_bar (vs := [.pointer (some ⟨tb, 0, none⟩), .int .i64 (L.length : Int)]) (by simp +decide only [aevs, aev, rget_rput, if_true, if_false]) (by decide) (by kernel_rfl) (by kernel_rfl) (C.mono (next_tapeV (TP.ext (Ext.reset σ8)) (by omega) (n := (L.length : Int)) (by omega)) ?_)
  rintro v2 s1 ⟨⟨to, rfl, -⟩, T1, E3⟩
  refine ⟨fun x hx hlt => E3.get x hlt (by simp at hx ⊢; omega), ?_⟩
  have E3 : ExtX [tb] σ8 (σ8.merge s1) := E3.merge
  have EE := EE.trans E3
  have TP : TapeV tb (σ8.merge s1) lv ints (k + 1 + 1 + 1) := T1.keep TA EE rfl
  have BX := BX.extX E3 (by simp; omega)
  have BR := BR.extX E3 (by simp; omega)
  have QQ := QQ.extX E3 (by simp; have := TA.lt; omega)
  generalize σ8.merge s1 = σ9 at EE TP BX BR QQ
  clear T1 E3 e5 e7 e8
  apply Lg_pre 1
  · intro callf
    simp +decide only [List.take, aQ, memb, List.any_nil, List.any_cons, Bool.or_false, Bool.true_and, reset_low, ble_self, aWanted, ↓bite_eq, ↓reduceIte, aStep_eq, aStepOld, aOp, opBuild, aev, aparts, ann, aPut, rget_rput, Nat.zero_add, build27]
    rfl
  dsimp only [List.drop, List.take, List.length]
  have e10 : Ext σ9 (σ9.merge σ9.reset) := (Ext.refl _).merge
  generalize σ9.merge σ9.reset = σ10 at e10
  have BX := BX.ext e10
  have BR := BR.ext e10
  have QQ := QQ.ext e10
  have EE := EE.trans (ExtX.of e10)
  have TP := TP.ext e10
  apply Lg_pre 1
  · intro callf
    simp +decide only [List.take, aQ, memb, List.any_nil, List.any_cons, Bool.or_false, Bool.true_and, reset_next, reset_low, new_low, ble_self, aWanted, ↓bite_eq, ↓reduceIte, aStep_eq, aStepOld, aOp, aPut, Nat.zero_add, alloc27]
    rfl
  dsimp only [List.drop, List.take, List.length]
  generalize hn11 : σ10.next = n11
  have eN : Ext σ10 (σ10.merge (σ10.reset.new ⟨1, 27, 0, [.int .i64 0, .int .i64 0], []⟩)) := Ext.merge (Ext.new _ _)
  have hA : (σ10.merge (σ10.reset.new ⟨1, 27, 0, [.int .i64 0, .int .i64 0], []⟩)).get n11 = ⟨1, 27, 0, [.int .i64 0, .int .i64 0], []⟩ := by
    rw [get_merge, ← hn11]
    exact (AS.get_new σ10.reset _ σ10.reset.next).trans (if_pos rfl)
  have hAn : n11 < (σ10.merge (σ10.reset.new ⟨1, 27, 0, [.int .i64 0, .int .i64 0], []⟩)).next := by rw [← hn11]; exact Nat.lt_succ_self _
  generalize σ10.merge (σ10.reset.new ⟨1, 27, 0, [.int .i64 0, .int .i64 0], []⟩) = σ11 at eN hA hAn
  have h5n : b5 < n11 := by rw [← hn11]; exact BX.lt
  refine Lg_store (b := n11) (off := 0) (v := vArc (ev, to)) (by simp +decide only [aev, rget_rput, if_true, if_false]) (by simp +decide only [aev, rget_rput, if_true, if_false]) (store27g (σ := σ11.reset) hA) (fun y hy => by rw [AS.get_put, if_neg (fun e => hy e.symm)]; rfl) (by kernel_rfl) (by kernel_rfl) (by kernel_rfl) ?_
  have eP := ext_put_merge eN (i := n11) (by omega) ⟨1, 27, 0, (vArc (ev, to)).cells.toList, []⟩
  have AY : ArcAt (σ11.merge (σ11.reset.put n11 ⟨1, 27, 0, (vArc (ev, to)).cells.toList, []⟩)) n11 (ev, to) := ⟨hAn, by rw [get_merge, AS.get_put, if_pos rfl]⟩
  have BX := BX.ext eP
  have BR := BR.ext eP
  have QQ := QQ.ext eP
  have EE := EE.trans (ExtX.of eP)
  have TP := TP.ext eP
  generalize σ11.merge (σ11.reset.put n11 ⟨1, 27, 0, (vArc (ev, to)).cells.toList, []⟩) = σ12 at AY BX BR QQ EE TP
  generalize ((ev, to) : Arc) = a at AY
  show W _ _ _ 130 _ _ _ _
  clear hA hAn eN eP e10 hqsv
  repeat apply W_assoc
  apply W_regL
  apply Ls_pre 1
  · intro callf
    simp +decide only [List.take, aOps, aWanted, ↓bite_eq, ↓reduceIte, aStep_eq, aStepOld, aOp, aev, ann, aPut, rget_rput]
    rfl
  dsimp only [List.drop]
  refine Ls_fn (vs := [.pointer (some ⟨tb, 0, none⟩), .int .i64 7]) (by simp +decide only [aevs, aev, rget_rput, if_true, if_false]) (by decide) (C.mono (next_tapeV TP (by omega) (n := 7) (by omega)) ?_)
  rintro v σ' ⟨⟨M, rfl, -⟩, TP, E3⟩
  apply Ls_all
  · intro callf
    simp +decide only [aOps]
    rfl
  have BX := BX.extX E3 (by simp; omega)
  have BR := BR.extX E3 (by simp; omega)
  have QQ := QQ.extX E3 (by simp; have := TA.lt; omega)
  have hne : n11 ≠ tb := by have := TA.lt; omega
  have A7 : ArcAt σ' n11 a := ⟨E3.lt AY.lt, (E3.get _ AY.lt (by simpa using hne)).trans AY.get⟩
  have EE6 := EE.trans E3
  generalize σ' = σ6 at TP BX BR QQ A7 EE6
  clear EE E3 AY
  obtain ⟨qb, qc, u, l, hqv, hq0, hq1, hqk, hqe, hLs, hO, hld, hput⟩ := QQ.row hs
  obtain ⟨rfl, rfl⟩ : qa = some ⟨qb, 0, none⟩ ∧ qcc = qc := by cases hqv; exact ⟨rfl, rfl⟩
  have hll : l.length ≤ 600 := Nat.le_trans (hG.row l (List.mem_of_getElem? hLs)).1 hm
  have CX := BX.reset
  have AQ := A7.ext (Ext.reset σ6)
  have hldq := hld σ6.reset rfl
  have htb4 : b4 ≠ tb := by omega
  obtain ⟨ub, uc, rfl⟩ := hO.blk
  have hub := hO.own (i := ub) ⟨_, _, rfl⟩
  have hZ : ∀ x ∈ [ub], x < σ6.next := fun x hx => by rw [List.mem_singleton.1 hx]; exact hub.2.1
  have h5u : b5 ≠ ub := fun e => nb30 BX.get (e ▸ hub.2.2)
  refine W_abs (fun r => rget r 4 = .pointer (some ⟨b4, 0, none⟩) ∧ rget r 5 = .pointer (some ⟨b5, 0, none⟩) ∧ rget r 6 = .int .i64 (s : Int) ∧ rget r 7 = .pointer (some ⟨n11, 0, none⟩) ∧ rget r 29 = .int .i64 M) ?_ ?_
  · refine ⟨?_, ?_, ?_, ?_, ?_⟩ <;> simp +decide only [rget_rput, if_true, if_false, ← hb4, ← hb3] <;> first | exact True.intro | rfl
  rintro r ⟨h4, h5, h6, h7, h29⟩
  repeat apply W_assoc
  refine W_blkM (fun r σF => rget r 4 = .pointer (some ⟨b4, 0, none⟩) ∧ rget r 5 = .pointer (some ⟨b5, 0, none⟩) ∧ BoxAt σF b5 (.slice (some ⟨qb, 0, none⟩) L.length qcc) ∧ BoxAt σF b4 (.slice none 0 0) ∧ ∃ L', (∀ τ : AS, σF.next ≤ τ.next → (∀ i, i < σF.next → (σF.get i).elem ≠ 30 → τ.get i = σF.get i) → RS 1 RRow τ (.slice (some ⟨qb, 0, none⟩) L.length qcc) L') ∧ L'.length ≤ 100 ∧ (∀ r ∈ L', r.length ≤ 2000) ∧ TapeV tb σF lv ints (k + 5) ∧ ExtX [tb] σA σF) ?_ ?_
  rotate_left
  · clear h4 h5 h6 h7 h29
    rintro r σF ⟨h4, h5, B5, B4, L', hRS, hl1, hl2, TF, EF⟩
    repeat apply W_assoc
    apply W_reg
    · intro callf
      simp +decide only [aOps, aWanted, ↓bite_eq, ↓reduceIte, aStep_eq, aStepOld, aOp, opLoad, opStore, aev, ann, unn, aPut, rget_rput, h4, h5, B5.load, store30 B4.get]
      rfl
    have BF : BoxAt (σF.put b4 ⟨1, 30, 0, [.slice (some ⟨qb, 0, none⟩) L.length qcc], []⟩) b4 (.slice (some ⟨qb, 0, none⟩) L.length qcc) := ⟨B4.lt, by rw [AS.get_put, if_pos rfl]⟩
    have EG : ExtX [tb] σ (σF.put b4 ⟨1, 30, 0, [.slice (some ⟨qb, 0, none⟩) L.length qcc], []⟩) := ((ExtX.of E0).trans EF).putNew (by omega) _
    have TG : TapeV tb (σF.put b4 ⟨1, 30, 0, [.slice (some ⟨qb, 0, none⟩) L.length qcc], []⟩) lv ints (k + 5) := TF.keep T0 EG (by rw [AS.get_put, if_neg htb4])
    have RG := hRS (σF.put b4 ⟨1, 30, 0, [.slice (some ⟨qb, 0, none⟩) L.length qcc], []⟩) (Nat.le_refl _) (fun i hi he => by
      rw [AS.get_put, if_neg]
      rintro rfl
      rw [B4.get] at he
      exact he rfl)
    generalize σF.put b4 ⟨1, 30, 0, [.slice (some ⟨qb, 0, none⟩) L.length qcc], []⟩ = σG at BF EG TG RG
    refine W_ret ⟨Nat.le_refl _, [.agg #[.slice (some ⟨qb, 0, none⟩) L.length qcc]], ?_, _, L', rfl, RG, hl1, hl2, TG.tape.up (by omega), EG⟩
    simp +decide only [aResults, rget_rput, if_false, h4, BF.load]
  by_cases hc0 : M = 0
  · have d0 : (M == 0) = true := by rw [beq_iff_eq]; exact hc0
    repeat apply W_assoc
    apply W_reg
    · intro callf
      simp +decide only [aOps, aWanted, ↓bite_eq, ↓reduceIte, aStep_eq, aStepOld, aOp, opBin, aev, ann, aPut, rget_rput, h29, d0, aBin, aInts, aInt_eq]
      rfl
    refine W_tail ?_
    repeat apply W_assoc
    refine W_if (b := true) ?_ ?_ ?_
    · simp +decide only [aev, rget_rput, if_true, if_false]
    rotate_left
    · intro h; cases h
    intro _
    repeat apply W_assoc
    apply W_reg
    · intro callf
      simp +decide only [aOps, aWanted, ↓bite_eq, ↓reduceIte, aStep_eq, aStepOld, aOp, opStore, opBuild, aev, aparts, ann, unn, aPut, rget_rput, build30e, store30 BR.get, h4]
      rfl
    have BF : BoxAt (σ6.put b4 ⟨1, 30, 0, [.slice none 0 0], []⟩) b4 (.slice none 0 0) := ⟨BR.lt, by rw [AS.get_put, if_pos rfl]⟩
    have EF : ExtX [tb] σ (σ6.put b4 ⟨1, 30, 0, [.slice none 0 0], []⟩) := ((ExtX.of E0).trans EE6).putNew (by omega) _
    have TF : TapeV tb (σ6.put b4 ⟨1, 30, 0, [.slice none 0 0], []⟩) lv ints (k + 5) := (TP.up (k' := k + 5) (by omega)).keep T0 EF (by rw [AS.get_put, if_neg htb4])
    generalize σ6.put b4 ⟨1, 30, 0, [.slice none 0 0], []⟩ = σF at BF EF TF
    refine W_retq ⟨fun h => h.elim (fun h => (nomatch h)) (fun h => (nomatch h)), fun _ _ => ⟨Nat.le_refl _, [.agg #[.slice none 0 0]], ?_, .slice none 0 0, [], rfl, ⟨none, 0, rfl, fun h => absurd rfl h⟩, Nat.zero_le _, fun r hr => (nomatch hr), TF.tape.up (by omega), EF⟩⟩
    simp +decide only [aResults, rget_rput, if_false, h4, BF.load]
  have d0 : (M == 0) = false := by rw [beq_eq_false_iff_ne]; exact hc0
  repeat apply W_assoc
  apply W_reg
  · intro callf
    simp +decide only [aOps, aWanted, ↓bite_eq, ↓reduceIte, aStep_eq, aStepOld, aOp, opBin, aev, ann, aPut, rget_rput, h29, d0, aBin, aInts, aInt_eq]
    rfl
  refine W_tail ?_
  repeat apply W_assoc
  refine W_if (b := false) ?_ ?_ ?_
  · simp +decide only [aev, rget_rput, if_true, if_false]
  · intro h; cases h
  intro _
  by_cases hc1 : M = 1
  · have d1 : (M == 1) = true := by rw [beq_iff_eq]; exact hc1
    repeat apply W_assoc
    apply W_reg
    · intro callf
      simp +decide only [aOps, aWanted, ↓bite_eq, ↓reduceIte, aStep_eq, aStepOld, aOp, opBin, aev, ann, aPut, rget_rput, h29, d1, aBin, aInts, aInt_eq]
      rfl
    refine W_tail ?_
    repeat apply W_assoc
    refine W_if (b := true) ?_ ?_ ?_
    · simp +decide only [aev, rget_rput, if_true, if_false]
    rotate_left
    · intro h; cases h
    intro _
    obtain ⟨y, bld⟩ : ∃ y : Arc, aBuild Try.prog 27 [(0, .int .i64 (-1)), (1, .int .i64 a.2)] = some (vArc y) := ⟨_, build27⟩
    repeat apply W_assoc
    refine W_drwZ [12] [ub] hZ (by kernel_rfl) (by kernel_rfl) ?_
    apply Lz_pre 1 (by kernel_rfl)
    · intro callf
      simp +decide only [List.take, aQ, memb, List.any_nil, Bool.true_or, Bool.and_true, reset_low, ble_self, aWanted, ↓bite_eq, ↓reduceIte, aStep_eq, aStepOld, aOp, opFieldAddr, aev, ann, aPut, rget_rput, Bool.not_false, h5, fldL]
      rfl
    dsimp only [List.drop, List.take, List.length]
    have ea : Ext σ6 (σ6.merge σ6.reset) := (Ext.refl _).merge
    generalize σ6.merge σ6.reset = σa at ea
    refine Lz_load (b := b5) (off := 0) (v := .slice (some ⟨qb, 0, none⟩) L.length qcc) (by simp +decide only [aev, rget_rput, if_true, if_false]) ((BX.ext ea).reset).out (by simpa using h5u) (by decide) ?_
    have eb : Ext σa (σa.merge σa.reset) := (Ext.refl _).merge
    generalize σa.merge σa.reset = σb at eb
    have eb := ea.trans eb
    have CX := (BX.ext eb).reset
    have AQ := (A7.ext eb).ext (Ext.reset σb)
    have hldq := hld σb.reset (eb.get qb hq1)
    apply Lz_pre 9 (by kernel_rfl)
    · intro callf
      simp +decide only [List.take, aQ, memb, List.any_nil, Bool.true_or, Bool.and_true, reset_merge, reset_reset, reset_next, reset_low, merge_next, merge_idem, ble_self, aWanted, ↓bite_eq, ↓reduceIte, aStep_eq, aStepOld, aOp, opIndexAddr, opFieldAddr, opLoad, opBuild, aev, aparts, ann, aPut, rget_rput, Nat.zero_add, Bool.not_false, h5, h6, h7, fldL, CX.out, idx28g hs, Nat.zero_add, hldq, fld1, AQ.to, bld]
      rfl
    dsimp only [List.drop, List.take, List.length]
    have e7 : Ext σb (σb.merge σb.reset) := (Ext.refl _).merge
    generalize σb.merge σb.reset = σ7 at e7
    have e7 := eb.trans e7
    apply Lz_pre 1 (by kernel_rfl)
    · intro callf
      simp +decide only [List.take, aQ, memb, List.any_nil, Bool.true_or, Bool.and_true, reset_next, reset_low, new_low, ble_self, aWanted, ↓bite_eq, ↓reduceIte, aStep_eq, aStepOld, aOp, opBuildSlice, aev, aparts, aPut, rget_rput, Nat.zero_add, Bool.not_false, slice22]
      rfl
    dsimp only [List.drop, List.take, List.length]
    have e8 : Ext σ7 (σ7.merge (σ7.reset.new ⟨1, 27, 0, [.int .i64 (y).1, .int .i64 (y).2], []⟩)) := Ext.merge (Ext.new _ _)
    have hB : (σ7.merge (σ7.reset.new ⟨1, 27, 0, [.int .i64 (y).1, .int .i64 (y).2], []⟩)).get σ7.next = ⟨1, 27, 0, [.int .i64 (y).1, .int .i64 (y).2], []⟩ := by
      rw [get_merge]
      exact (AS.get_new σ7.reset _ σ7.reset.next).trans (if_pos rfl)
    have hBn : σ7.next < (σ7.merge (σ7.reset.new ⟨1, 27, 0, [.int .i64 (y).1, .int .i64 (y).2], []⟩)).next := Nat.lt_succ_self _
    generalize hn8 : σ7.next = n8 at hB hBn
    generalize σ7.merge (σ7.reset.new ⟨1, 27, 0, [.int .i64 (y).1, .int .i64 (y).2], []⟩) = σ8 at e8 hB hBn
    have e8 := e7.trans e8
    have hO8 := hO.keep e8.nxt fun j _ hj => e8.get j hj
    obtain ⟨w, s9, ha9, O9, E9, hn9, hg9⟩ := (hO8.same (σ' := σ8.reset) (Nat.le_refl _) fun _ => rfl).grow (x := .slice (some ⟨n8, 0, none⟩) 1 1) (k := [y]) (X := [tb]) (Src.of (.inr (.inr ⟨n8, 0, 1, rfl, cells_at (σ := σ8.reset) hB rfl (Nat.le_refl _)⟩))) (by simp; omega) ((EE6.trans (ExtX.of e8)).trans (ExtX.of (Ext.reset _)))
    have RW := O9.rowAt
    refine Lz_wr (v := w) (s1 := s9) (x := ub) (by intro callf; simp +decide only [↓reduceIte, aStep_eq, aStepOld, aOp, opCall, aev, aevs, rget_rput, aBuiltin, ha9]) (by decide) (by kernel_rfl) (by simp +decide only [fpOf, aevs, aev, rget_rput, if_true, if_false, List.flatMap_cons, fpV]; rfl) (by simp) (by kernel_rfl) ?_
    have EE9 : ExtX [tb] σA (σ8.merge s9) := (EE6.trans (ExtX.of e8)).mergeTo E9
    have hg9 : ∀ i, i < σ6.next → ¬ Own (.slice (some ⟨ub, 0, none⟩) l.length uc) i → (σ8.merge s9).get i = σ6.get i := fun i hi ho => by rw [get_merge, hg9 i (Nat.lt_of_lt_of_le hi e8.nxt) ho]; exact e8.get i hi
    have hn9 : σ6.next ≤ (σ8.merge s9).next := Nat.le_trans e8.nxt hn9
    have RW : RowAt (σ8.merge s9) w (l ++ [y]) := ⟨RW.slice, RW.own, RW.rs⟩
    generalize σ8.merge s9 = σ9 at EE9 hg9 hn9 RW
    apply Lz_pre 1 (by kernel_rfl)
    · intro callf
      simp +decide only [List.take, aQ, memb, List.any_nil, Bool.true_or, Bool.and_true, reset_low, ble_self, aWanted, ↓bite_eq, ↓reduceIte, aStep_eq, aStepOld, aOp, opIndexAddr, aev, ann, aPut, rget_rput, Nat.zero_add, Bool.not_false, idx28g hs, Nat.zero_add]
      rfl
    dsimp only [List.drop, List.take, List.length]
    have e10 : Ext σ9 (σ9.merge σ9.reset) := (Ext.refl _).merge
    generalize σ9.merge σ9.reset = σ10 at e10
    have RW : RowAt σ10 w (l ++ [y]) := ⟨RW.slice, fun i ho => ⟨Nat.lt_of_lt_of_le (RW.own i ho).1 e10.nxt, by rw [e10.get i (RW.own i ho).1]; exact (RW.own i ho).2⟩, fun σ' hn hg => RW.rs σ' (Nat.le_trans e10.nxt hn) fun i ho hi => by rw [hg i ho (Nat.lt_of_lt_of_le hi e10.nxt)]; exact e10.get i hi⟩
    have EE10 := EE9.trans (ExtX.of e10)
    have hg10 : ∀ i, i < σ6.next → ¬ Own (.slice (some ⟨ub, 0, none⟩) l.length uc) i → σ10.get i = σ6.get i := fun i hi ho => by rw [e10.get i (Nat.lt_of_lt_of_le hi hn9)]; exact hg9 i hi ho
    have hn10 := Nat.le_trans hn9 e10.nxt
    obtain ⟨B, hBk, hBe, hst, hRS⟩ := hput σ10.reset w (l ++ [y]) hn10 hg10 ⟨RW.slice, RW.own, RW.rs⟩
    refine Lz_st (v := undef) (s1 := σ10.reset.put qb B) (by intro callf; simp +decide only [↓reduceIte, aStep_eq, aStepOld, aOp, opStore, aev, unn, rget_rput, hst]) (by kernel_rfl) (by kernel_rfl) ?_
    have EEF : ExtX [tb] σA (σ10.merge (σ10.reset.put qb B)) := EE10.mergeTo ((EE10.trans (ExtX.of (Ext.reset _))).putNew hq0 B)
    have hnF : σ6.next ≤ (σ10.merge (σ10.reset.put qb B)).next := hn10
    have hgF : ∀ i, i < σ6.next → ¬ Own (.slice (some ⟨ub, 0, none⟩) l.length uc) i → i ≠ qb → (σ10.merge (σ10.reset.put qb B)).get i = σ6.get i := fun i hi ho hne => by rw [get_merge, AS.get_put, if_neg (fun e => hne e.symm)]; exact hg10 i hi ho
    have hRS : ∀ τ : AS, (σ10.merge (σ10.reset.put qb B)).next ≤ τ.next → (∀ i, i < (σ10.merge (σ10.reset.put qb B)).next → ((σ10.merge (σ10.reset.put qb B)).get i).elem ≠ 30 → τ.get i = (σ10.merge (σ10.reset.put qb B)).get i) → RS 1 RRow τ (.slice (some ⟨qb, 0, none⟩) L.length qcc) (L.set s (l ++ [y])) := hRS
    generalize σ10.merge (σ10.reset.put qb B) = σ11 at EEF hnF hgF hRS
    show W _ _ _ 130 _ _ _ _
    repeat first | apply W_skipq | apply W_assoc
    refine W_skip ⟨fun _ => ?_, fun h1 h2 => absurd rfl h1⟩
    have B5 : BoxAt σ11 b5 (.slice (some ⟨qb, 0, none⟩) L.length qcc) := ⟨Nat.lt_of_lt_of_le BX.lt hnF, by rw [hgF b5 BX.lt (fun ho => nb30 BX.get (hO.own ho).2.2) (fun e => nb30 BX.get (e ▸ hqe))]; exact BX.get⟩
    have B4 : BoxAt σ11 b4 (.slice none 0 0) := ⟨Nat.lt_of_lt_of_le BR.lt hnF, by rw [hgF b4 BR.lt (fun ho => nb30 BR.get (hO.own ho).2.2) (fun e => nb30 BR.get (e ▸ hqe))]; exact BR.get⟩
    have TF : TapeV tb σ11 lv ints (k + 5) := (TP.up (k' := k + 5) (by omega)).keep TA EEF (hgF tb TP.lt (fun ho => by have h8 := (hO.own ho).2.2; obtain ⟨pos, e, _⟩ := TP.own; rw [e] at h8; cases h8) (fun e2 => by have hqe := hqe; rw [← e2] at hqe; obtain ⟨pos, e, _⟩ := TP.own; rw [e] at hqe; cases hqe))
    refine ⟨?_, ?_, B5, B4, L.set s (l ++ [y]), hRS, by rw [List.length_set]; omega, fun r hr => ?_, TF, EEF⟩
    · simp +decide only [rget_rput, if_false, h4]
    · simp +decide only [rget_rput, if_false, h5]
    · rcases List.mem_or_eq_of_mem_set hr with hr | rfl
      · have := (hG.row r hr).1; omega
      · simp; omega
  have d1 : (M == 1) = false := by rw [beq_eq_false_iff_ne]; exact hc1
  repeat apply W_assoc
  apply W_reg
  · intro callf
    simp +decide only [aOps, aWanted, ↓bite_eq, ↓reduceIte, aStep_eq, aStepOld, aOp, opBin, aev, ann, aPut, rget_rput, h29, d1, aBin, aInts, aInt_eq]
    rfl
  refine W_tail ?_
  repeat apply W_assoc
  refine W_if (b := false) ?_ ?_ ?_
  · simp +decide only [aev, rget_rput, if_true, if_false]
  · intro h; cases h
  intro _
  by_cases hc2 : M = 2
  · have d2 : (M == 2) = true := by rw [beq_iff_eq]; exact hc2
    repeat apply W_assoc
    apply W_reg
    · intro callf
      simp +decide only [aOps, aWanted, ↓bite_eq, ↓reduceIte, aStep_eq, aStepOld, aOp, opBin, aev, ann, aPut, rget_rput, h29, d2, aBin, aInts, aInt_eq]
      rfl
    refine W_tail ?_
    repeat apply W_assoc
    refine W_if (b := true) ?_ ?_ ?_
    · simp +decide only [aev, rget_rput, if_true, if_false]
    rotate_left
    · intro h; cases h
    intro _
    obtain ⟨y, bld⟩ : ∃ y : Arc, aBuild Try.prog 27 [(0, .int .i64 1026), (1, .int .i64 a.2)] = some (vArc y) := ⟨_, build27⟩
    repeat apply W_assoc
    refine W_drwZ [12] [ub] hZ (by kernel_rfl) (by kernel_rfl) ?_
    apply Lz_pre 1 (by kernel_rfl)
    · intro callf
      simp +decide only [List.take, aQ, memb, List.any_nil, Bool.true_or, Bool.and_true, reset_low, ble_self, aWanted, ↓bite_eq, ↓reduceIte, aStep_eq, aStepOld, aOp, opFieldAddr, aev, ann, aPut, rget_rput, Bool.not_false, h5, fldL]
      rfl
    dsimp only [List.drop, List.take, List.length]
    have ea : Ext σ6 (σ6.merge σ6.reset) := (Ext.refl _).merge
    generalize σ6.merge σ6.reset = σa at ea
    refine Lz_load (b := b5) (off := 0) (v := .slice (some ⟨qb, 0, none⟩) L.length qcc) (by simp +decide only [aev, rget_rput, if_true, if_false]) ((BX.ext ea).reset).out (by simpa using h5u) (by decide) ?_
    have eb : Ext σa (σa.merge σa.reset) := (Ext.refl _).merge
    generalize σa.merge σa.reset = σb at eb
    have eb := ea.trans eb
    have CX := (BX.ext eb).reset
    have AQ := (A7.ext eb).ext (Ext.reset σb)
    have hldq := hld σb.reset (eb.get qb hq1)
    apply Lz_pre 9 (by kernel_rfl)
    · intro callf
      simp +decide only [List.take, aQ, memb, List.any_nil, Bool.true_or, Bool.and_true, reset_merge, reset_reset, reset_next, reset_low, merge_next, merge_idem, ble_self, aWanted, ↓bite_eq, ↓reduceIte, aStep_eq, aStepOld, aOp, opIndexAddr, opFieldAddr, opLoad, opBuild, aev, aparts, ann, aPut, rget_rput, Nat.zero_add, Bool.not_false, h5, h6, h7, fldL, CX.out, idx28g hs, Nat.zero_add, hldq, fld1, AQ.to, bld]
      rfl
    dsimp only [List.drop, List.take, List.length]
    have e7 : Ext σb (σb.merge σb.reset) := (Ext.refl _).merge
    generalize σb.merge σb.reset = σ7 at e7
    have e7 := eb.trans e7
    apply Lz_pre 1 (by kernel_rfl)
    · intro callf
      simp +decide only [List.take, aQ, memb, List.any_nil, Bool.true_or, Bool.and_true, reset_next, reset_low, new_low, ble_self, aWanted, ↓bite_eq, ↓reduceIte, aStep_eq, aStepOld, aOp, opBuildSlice, aev, aparts, aPut, rget_rput, Nat.zero_add, Bool.not_false, slice22]
      rfl
    dsimp only [List.drop, List.take, List.length]
    have e8 : Ext σ7 (σ7.merge (σ7.reset.new ⟨1, 27, 0, [.int .i64 (y).1, .int .i64 (y).2], []⟩)) := Ext.merge (Ext.new _ _)
    have hB : (σ7.merge (σ7.reset.new ⟨1, 27, 0, [.int .i64 (y).1, .int .i64 (y).2], []⟩)).get σ7.next = ⟨1, 27, 0, [.int .i64 (y).1, .int .i64 (y).2], []⟩ := by
      rw [get_merge]
      exact (AS.get_new σ7.reset _ σ7.reset.next).trans (if_pos rfl)
    have hBn : σ7.next < (σ7.merge (σ7.reset.new ⟨1, 27, 0, [.int .i64 (y).1, .int .i64 (y).2], []⟩)).next := Nat.lt_succ_self _
    generalize hn8 : σ7.next = n8 at hB hBn
    generalize σ7.merge (σ7.reset.new ⟨1, 27, 0, [.int .i64 (y).1, .int .i64 (y).2], []⟩) = σ8 at e8 hB hBn
    have e8 := e7.trans e8
    have hO8 := hO.keep e8.nxt fun j _ hj => e8.get j hj
    obtain ⟨w, s9, ha9, O9, E9, hn9, hg9⟩ := (hO8.same (σ' := σ8.reset) (Nat.le_refl _) fun _ => rfl).grow (x := .slice (some ⟨n8, 0, none⟩) 1 1) (k := [y]) (X := [tb]) (Src.of (.inr (.inr ⟨n8, 0, 1, rfl, cells_at (σ := σ8.reset) hB rfl (Nat.le_refl _)⟩))) (by simp; omega) ((EE6.trans (ExtX.of e8)).trans (ExtX.of (Ext.reset _)))
    have RW := O9.rowAt
    refine Lz_wr (v := w) (s1 := s9) (x := ub) (by intro callf; simp +decide only [↓reduceIte, aStep_eq, aStepOld, aOp, opCall, aev, aevs, rget_rput, aBuiltin, ha9]) (by decide) (by kernel_rfl) (by simp +decide only [fpOf, aevs, aev, rget_rput, if_true, if_false, List.flatMap_cons, fpV]; rfl) (by simp) (by kernel_rfl) ?_
    have EE9 : ExtX [tb] σA (σ8.merge s9) := (EE6.trans (ExtX.of e8)).mergeTo E9
    have hg9 : ∀ i, i < σ6.next → ¬ Own (.slice (some ⟨ub, 0, none⟩) l.length uc) i → (σ8.merge s9).get i = σ6.get i := fun i hi ho => by rw [get_merge, hg9 i (Nat.lt_of_lt_of_le hi e8.nxt) ho]; exact e8.get i hi
    have hn9 : σ6.next ≤ (σ8.merge s9).next := Nat.le_trans e8.nxt hn9
    have RW : RowAt (σ8.merge s9) w (l ++ [y]) := ⟨RW.slice, RW.own, RW.rs⟩
    generalize σ8.merge s9 = σ9 at EE9 hg9 hn9 RW
    apply Lz_pre 1 (by kernel_rfl)
    · intro callf
      simp +decide only [List.take, aQ, memb, List.any_nil, Bool.true_or, Bool.and_true, reset_low, ble_self, aWanted, ↓bite_eq, ↓reduceIte, aStep_eq, aStepOld, aOp, opIndexAddr, aev, ann, aPut, rget_rput, Nat.zero_add, Bool.not_false, idx28g hs, Nat.zero_add]
      rfl
    dsimp only [List.drop, List.take, List.length]
    have e10 : Ext σ9 (σ9.merge σ9.reset) := (Ext.refl _).merge
    generalize σ9.merge σ9.reset = σ10 at e10
    have RW : RowAt σ10 w (l ++ [y]) := ⟨RW.slice, fun i ho => ⟨Nat.lt_of_lt_of_le (RW.own i ho).1 e10.nxt, by rw [e10.get i (RW.own i ho).1]; exact (RW.own i ho).2⟩, fun σ' hn hg => RW.rs σ' (Nat.le_trans e10.nxt hn) fun i ho hi => by rw [hg i ho (Nat.lt_of_lt_of_le hi e10.nxt)]; exact e10.get i hi⟩
    have EE10 := EE9.trans (ExtX.of e10)
    have hg10 : ∀ i, i < σ6.next → ¬ Own (.slice (some ⟨ub, 0, none⟩) l.length uc) i → σ10.get i = σ6.get i := fun i hi ho => by rw [e10.get i (Nat.lt_of_lt_of_le hi hn9)]; exact hg9 i hi ho
    have hn10 := Nat.le_trans hn9 e10.nxt
    obtain ⟨B, hBk, hBe, hst, hRS⟩ := hput σ10.reset w (l ++ [y]) hn10 hg10 ⟨RW.slice, RW.own, RW.rs⟩
    refine Lz_st (v := undef) (s1 := σ10.reset.put qb B) (by intro callf; simp +decide only [↓reduceIte, aStep_eq, aStepOld, aOp, opStore, aev, unn, rget_rput, hst]) (by kernel_rfl) (by kernel_rfl) ?_
    have EEF : ExtX [tb] σA (σ10.merge (σ10.reset.put qb B)) := EE10.mergeTo ((EE10.trans (ExtX.of (Ext.reset _))).putNew hq0 B)
    have hnF : σ6.next ≤ (σ10.merge (σ10.reset.put qb B)).next := hn10
    have hgF : ∀ i, i < σ6.next → ¬ Own (.slice (some ⟨ub, 0, none⟩) l.length uc) i → i ≠ qb → (σ10.merge (σ10.reset.put qb B)).get i = σ6.get i := fun i hi ho hne => by rw [get_merge, AS.get_put, if_neg (fun e => hne e.symm)]; exact hg10 i hi ho
    have hRS : ∀ τ : AS, (σ10.merge (σ10.reset.put qb B)).next ≤ τ.next → (∀ i, i < (σ10.merge (σ10.reset.put qb B)).next → ((σ10.merge (σ10.reset.put qb B)).get i).elem ≠ 30 → τ.get i = (σ10.merge (σ10.reset.put qb B)).get i) → RS 1 RRow τ (.slice (some ⟨qb, 0, none⟩) L.length qcc) (L.set s (l ++ [y])) := hRS
    generalize σ10.merge (σ10.reset.put qb B) = σ11 at EEF hnF hgF hRS
    show W _ _ _ 130 _ _ _ _
    repeat first | apply W_skipq | apply W_assoc
    refine W_skip ⟨fun _ => ?_, fun h1 h2 => absurd rfl h1⟩
    have B5 : BoxAt σ11 b5 (.slice (some ⟨qb, 0, none⟩) L.length qcc) := ⟨Nat.lt_of_lt_of_le BX.lt hnF, by rw [hgF b5 BX.lt (fun ho => nb30 BX.get (hO.own ho).2.2) (fun e => nb30 BX.get (e ▸ hqe))]; exact BX.get⟩
    have B4 : BoxAt σ11 b4 (.slice none 0 0) := ⟨Nat.lt_of_lt_of_le BR.lt hnF, by rw [hgF b4 BR.lt (fun ho => nb30 BR.get (hO.own ho).2.2) (fun e => nb30 BR.get (e ▸ hqe))]; exact BR.get⟩
    have TF : TapeV tb σ11 lv ints (k + 5) := (TP.up (k' := k + 5) (by omega)).keep TA EEF (hgF tb TP.lt (fun ho => by have h8 := (hO.own ho).2.2; obtain ⟨pos, e, _⟩ := TP.own; rw [e] at h8; cases h8) (fun e2 => by have hqe := hqe; rw [← e2] at hqe; obtain ⟨pos, e, _⟩ := TP.own; rw [e] at hqe; cases hqe))
    refine ⟨?_, ?_, B5, B4, L.set s (l ++ [y]), hRS, by rw [List.length_set]; omega, fun r hr => ?_, TF, EEF⟩
    · simp +decide only [rget_rput, if_false, h4]
    · simp +decide only [rget_rput, if_false, h5]
    · rcases List.mem_or_eq_of_mem_set hr with hr | rfl
      · have := (hG.row r hr).1; omega
      · simp; omega
  have d2 : (M == 2) = false := by rw [beq_eq_false_iff_ne]; exact hc2
  repeat apply W_assoc
  apply W_reg
  · intro callf
    simp +decide only [aOps, aWanted, ↓bite_eq, ↓reduceIte, aStep_eq, aStepOld, aOp, opBin, aev, ann, aPut, rget_rput, h29, d2, aBin, aInts, aInt_eq]
    rfl
  refine W_tail ?_
  repeat apply W_assoc
  refine W_if (b := false) ?_ ?_ ?_
  · simp +decide only [aev, rget_rput, if_true, if_false]
  · intro h; cases h
  intro _
  by_cases hc3 : M = 3
  · have d3 : (M == 3) = true := by rw [beq_iff_eq]; exact hc3
    repeat apply W_assoc
    apply W_reg
    · intro callf
      simp +decide only [aOps, aWanted, ↓bite_eq, ↓reduceIte, aStep_eq, aStepOld, aOp, opBin, aev, ann, aPut, rget_rput, h29, d3, aBin, aInts, aInt_eq]
      rfl
    refine W_tail ?_
    repeat apply W_assoc
    refine W_if (b := true) ?_ ?_ ?_
    · simp +decide only [aev, rget_rput, if_true, if_false]
    rotate_left
    · intro h; cases h
    intro _
    obtain ⟨y, bld⟩ : ∃ y : Arc, aBuild Try.prog 27 [(0, .int .i64 a.1), (1, .int .i64 (L.length : Int))] = some (vArc y) := ⟨_, build27⟩
    repeat apply W_assoc
    refine W_drwZ [15] [ub] hZ (by kernel_rfl) (by kernel_rfl) ?_
    apply Lz_pre 1 (by kernel_rfl)
    · intro callf
      simp +decide only [List.take, aQ, memb, List.any_nil, Bool.true_or, Bool.and_true, reset_low, ble_self, aWanted, ↓bite_eq, ↓reduceIte, aStep_eq, aStepOld, aOp, opFieldAddr, aev, ann, aPut, rget_rput, Bool.not_false, h5, fldL]
      rfl
    dsimp only [List.drop, List.take, List.length]
    have ea : Ext σ6 (σ6.merge σ6.reset) := (Ext.refl _).merge
    generalize σ6.merge σ6.reset = σa at ea
    refine Lz_load (b := b5) (off := 0) (v := .slice (some ⟨qb, 0, none⟩) L.length qcc) (by simp +decide only [aev, rget_rput, if_true, if_false]) ((BX.ext ea).reset).out (by simpa using h5u) (by decide) ?_
    have eb : Ext σa (σa.merge σa.reset) := (Ext.refl _).merge
    generalize σa.merge σa.reset = σb at eb
    have eb := ea.trans eb
    have CX := (BX.ext eb).reset
    have AQ := (A7.ext eb).ext (Ext.reset σb)
    have hldq := hld σb.reset (eb.get qb hq1)
    apply Lz_pre 12 (by kernel_rfl)
    · intro callf
      simp +decide only [List.take, aQ, memb, List.any_nil, Bool.true_or, Bool.and_true, reset_merge, reset_reset, reset_next, reset_low, merge_next, merge_idem, ble_self, aWanted, ↓bite_eq, ↓reduceIte, aStep_eq, aStepOld, aOp, opCall, opIndexAddr, opFieldAddr, opLoad, opBuild, aev, aevs, aparts, ann, aPut, rget_rput, aBuiltin, aLen, List.getElem?_toArray, List.getElem?_cons_zero, Nat.zero_add, Bool.not_false, h5, h6, h7, fldL, CX.out, idx28g hs, Nat.zero_add, hldq, fld0, AQ.ev, bld, Try.underlying28, goInt]
      rfl
    dsimp only [List.drop, List.take, List.length]
    have e7 : Ext σb (σb.merge σb.reset) := (Ext.refl _).merge
    generalize σb.merge σb.reset = σ7 at e7
    have e7 := eb.trans e7
    apply Lz_pre 1 (by kernel_rfl)
    · intro callf
      simp +decide only [List.take, aQ, memb, List.any_nil, Bool.true_or, Bool.and_true, reset_next, reset_low, new_low, ble_self, aWanted, ↓bite_eq, ↓reduceIte, aStep_eq, aStepOld, aOp, opBuildSlice, aev, aparts, aPut, rget_rput, Nat.zero_add, Bool.not_false, slice22]
      rfl
    dsimp only [List.drop, List.take, List.length]
    have e8 : Ext σ7 (σ7.merge (σ7.reset.new ⟨1, 27, 0, [.int .i64 (y).1, .int .i64 (y).2], []⟩)) := Ext.merge (Ext.new _ _)
    have hB : (σ7.merge (σ7.reset.new ⟨1, 27, 0, [.int .i64 (y).1, .int .i64 (y).2], []⟩)).get σ7.next = ⟨1, 27, 0, [.int .i64 (y).1, .int .i64 (y).2], []⟩ := by
      rw [get_merge]
      exact (AS.get_new σ7.reset _ σ7.reset.next).trans (if_pos rfl)
    have hBn : σ7.next < (σ7.merge (σ7.reset.new ⟨1, 27, 0, [.int .i64 (y).1, .int .i64 (y).2], []⟩)).next := Nat.lt_succ_self _
    generalize hn8 : σ7.next = n8 at hB hBn
    generalize σ7.merge (σ7.reset.new ⟨1, 27, 0, [.int .i64 (y).1, .int .i64 (y).2], []⟩) = σ8 at e8 hB hBn
    have e8 := e7.trans e8
    have hO8 := hO.keep e8.nxt fun j _ hj => e8.get j hj
    obtain ⟨w, s9, ha9, O9, E9, hn9, hg9⟩ := (hO8.same (σ' := σ8.reset) (Nat.le_refl _) fun _ => rfl).grow (x := .slice (some ⟨n8, 0, none⟩) 1 1) (k := [y]) (X := [tb]) (Src.of (.inr (.inr ⟨n8, 0, 1, rfl, cells_at (σ := σ8.reset) hB rfl (Nat.le_refl _)⟩))) (by simp; omega) ((EE6.trans (ExtX.of e8)).trans (ExtX.of (Ext.reset _)))
    have RW := O9.rowAt
    refine Lz_wr (v := w) (s1 := s9) (x := ub) (by intro callf; simp +decide only [↓reduceIte, aStep_eq, aStepOld, aOp, opCall, aev, aevs, rget_rput, aBuiltin, ha9]) (by decide) (by kernel_rfl) (by simp +decide only [fpOf, aevs, aev, rget_rput, if_true, if_false, List.flatMap_cons, fpV]; rfl) (by simp) (by kernel_rfl) ?_
    have EE9 : ExtX [tb] σA (σ8.merge s9) := (EE6.trans (ExtX.of e8)).mergeTo E9
    have hg9 : ∀ i, i < σ6.next → ¬ Own (.slice (some ⟨ub, 0, none⟩) l.length uc) i → (σ8.merge s9).get i = σ6.get i := fun i hi ho => by rw [get_merge, hg9 i (Nat.lt_of_lt_of_le hi e8.nxt) ho]; exact e8.get i hi
    have hn9 : σ6.next ≤ (σ8.merge s9).next := Nat.le_trans e8.nxt hn9
    have RW : RowAt (σ8.merge s9) w (l ++ [y]) := ⟨RW.slice, RW.own, RW.rs⟩
    generalize σ8.merge s9 = σ9 at EE9 hg9 hn9 RW
    apply Lz_pre 1 (by kernel_rfl)
    · intro callf
      simp +decide only [List.take, aQ, memb, List.any_nil, Bool.true_or, Bool.and_true, reset_low, ble_self, aWanted, ↓bite_eq, ↓reduceIte, aStep_eq, aStepOld, aOp, opIndexAddr, aev, ann, aPut, rget_rput, Nat.zero_add, Bool.not_false, idx28g hs, Nat.zero_add]
      rfl
    dsimp only [List.drop, List.take, List.length]
    have e10 : Ext σ9 (σ9.merge σ9.reset) := (Ext.refl _).merge
    generalize σ9.merge σ9.reset = σ10 at e10
    have RW : RowAt σ10 w (l ++ [y]) := ⟨RW.slice, fun i ho => ⟨Nat.lt_of_lt_of_le (RW.own i ho).1 e10.nxt, by rw [e10.get i (RW.own i ho).1]; exact (RW.own i ho).2⟩, fun σ' hn hg => RW.rs σ' (Nat.le_trans e10.nxt hn) fun i ho hi => by rw [hg i ho (Nat.lt_of_lt_of_le hi e10.nxt)]; exact e10.get i hi⟩
    have EE10 := EE9.trans (ExtX.of e10)
    have hg10 : ∀ i, i < σ6.next → ¬ Own (.slice (some ⟨ub, 0, none⟩) l.length uc) i → σ10.get i = σ6.get i := fun i hi ho => by rw [e10.get i (Nat.lt_of_lt_of_le hi hn9)]; exact hg9 i hi ho
    have hn10 := Nat.le_trans hn9 e10.nxt
    obtain ⟨B, hBk, hBe, hst, hRS⟩ := hput σ10.reset w (l ++ [y]) hn10 hg10 ⟨RW.slice, RW.own, RW.rs⟩
    refine Lz_st (v := undef) (s1 := σ10.reset.put qb B) (by intro callf; simp +decide only [↓reduceIte, aStep_eq, aStepOld, aOp, opStore, aev, unn, rget_rput, hst]) (by kernel_rfl) (by kernel_rfl) ?_
    have EEF : ExtX [tb] σA (σ10.merge (σ10.reset.put qb B)) := EE10.mergeTo ((EE10.trans (ExtX.of (Ext.reset _))).putNew hq0 B)
    have hnF : σ6.next ≤ (σ10.merge (σ10.reset.put qb B)).next := hn10
    have hgF : ∀ i, i < σ6.next → ¬ Own (.slice (some ⟨ub, 0, none⟩) l.length uc) i → i ≠ qb → (σ10.merge (σ10.reset.put qb B)).get i = σ6.get i := fun i hi ho hne => by rw [get_merge, AS.get_put, if_neg (fun e => hne e.symm)]; exact hg10 i hi ho
    have hRS : ∀ τ : AS, (σ10.merge (σ10.reset.put qb B)).next ≤ τ.next → (∀ i, i < (σ10.merge (σ10.reset.put qb B)).next → ((σ10.merge (σ10.reset.put qb B)).get i).elem ≠ 30 → τ.get i = (σ10.merge (σ10.reset.put qb B)).get i) → RS 1 RRow τ (.slice (some ⟨qb, 0, none⟩) L.length qcc) (L.set s (l ++ [y])) := hRS
    generalize σ10.merge (σ10.reset.put qb B) = σ11 at EEF hnF hgF hRS
    show W _ _ _ 130 _ _ _ _
    repeat first | apply W_skipq | apply W_assoc
    refine W_skip ⟨fun _ => ?_, fun h1 h2 => absurd rfl h1⟩
    have B5 : BoxAt σ11 b5 (.slice (some ⟨qb, 0, none⟩) L.length qcc) := ⟨Nat.lt_of_lt_of_le BX.lt hnF, by rw [hgF b5 BX.lt (fun ho => nb30 BX.get (hO.own ho).2.2) (fun e => nb30 BX.get (e ▸ hqe))]; exact BX.get⟩
    have B4 : BoxAt σ11 b4 (.slice none 0 0) := ⟨Nat.lt_of_lt_of_le BR.lt hnF, by rw [hgF b4 BR.lt (fun ho => nb30 BR.get (hO.own ho).2.2) (fun e => nb30 BR.get (e ▸ hqe))]; exact BR.get⟩
    have TF : TapeV tb σ11 lv ints (k + 5) := (TP.up (k' := k + 5) (by omega)).keep TA EEF (hgF tb TP.lt (fun ho => by have h8 := (hO.own ho).2.2; obtain ⟨pos, e, _⟩ := TP.own; rw [e] at h8; cases h8) (fun e2 => by have hqe := hqe; rw [← e2] at hqe; obtain ⟨pos, e, _⟩ := TP.own; rw [e] at hqe; cases hqe))
    refine ⟨?_, ?_, B5, B4, L.set s (l ++ [y]), hRS, by rw [List.length_set]; omega, fun r hr => ?_, TF, EEF⟩
    · simp +decide only [rget_rput, if_false, h4]
    · simp +decide only [rget_rput, if_false, h5]
    · rcases List.mem_or_eq_of_mem_set hr with hr | rfl
      · have := (hG.row r hr).1; omega
      · simp; omega
  have d3 : (M == 3) = false := by rw [beq_eq_false_iff_ne]; exact hc3
  repeat apply W_assoc
  apply W_reg
  · intro callf
    simp +decide only [aOps, aWanted, ↓bite_eq, ↓reduceIte, aStep_eq, aStepOld, aOp, opBin, aev, ann, aPut, rget_rput, h29, d3, aBin, aInts, aInt_eq]
    rfl
  refine W_tail ?_
  repeat apply W_assoc
  refine W_if (b := false) ?_ ?_ ?_
  · simp +decide only [aev, rget_rput, if_true, if_false]
  · intro h; cases h
  intro _
  by_cases hc4 : M = 4
  · have d4 : (M == 4) = true := by rw [beq_iff_eq]; exact hc4
    repeat apply W_assoc
    apply W_reg
    · intro callf
      simp +decide only [aOps, aWanted, ↓bite_eq, ↓reduceIte, aStep_eq, aStepOld, aOp, opBin, aev, ann, aPut, rget_rput, h29, d4, aBin, aInts, aInt_eq]
      rfl
    refine W_tail ?_
    repeat apply W_assoc
    refine W_if (b := true) ?_ ?_ ?_
    · simp +decide only [aev, rget_rput, if_true, if_false]
    rotate_left
    · intro h; cases h
    intro _
    obtain ⟨y, bld⟩ : ∃ y : Arc, aBuild Try.prog 27 [(0, .int .i64 a.1), (1, .int .i64 (-1))] = some (vArc y) := ⟨_, build27⟩
    repeat apply W_assoc
    refine W_drwZ [12] [ub] hZ (by kernel_rfl) (by kernel_rfl) ?_
    apply Lz_pre 1 (by kernel_rfl)
    · intro callf
      simp +decide only [List.take, aQ, memb, List.any_nil, Bool.true_or, Bool.and_true, reset_low, ble_self, aWanted, ↓bite_eq, ↓reduceIte, aStep_eq, aStepOld, aOp, opFieldAddr, aev, ann, aPut, rget_rput, Bool.not_false, h5, fldL]
      rfl
    dsimp only [List.drop, List.take, List.length]
    have ea : Ext σ6 (σ6.merge σ6.reset) := (Ext.refl _).merge
    generalize σ6.merge σ6.reset = σa at ea
    refine Lz_load (b := b5) (off := 0) (v := .slice (some ⟨qb, 0, none⟩) L.length qcc) (by simp +decide only [aev, rget_rput, if_true, if_false]) ((BX.ext ea).reset).out (by simpa using h5u) (by decide) ?_
    have eb : Ext σa (σa.merge σa.reset) := (Ext.refl _).merge
    generalize σa.merge σa.reset = σb at eb
    have eb := ea.trans eb
    have CX := (BX.ext eb).reset
    have AQ := (A7.ext eb).ext (Ext.reset σb)
    have hldq := hld σb.reset (eb.get qb hq1)
    apply Lz_pre 9 (by kernel_rfl)
    · intro callf
      simp +decide only [List.take, aQ, memb, List.any_nil, Bool.true_or, Bool.and_true, reset_merge, reset_reset, reset_next, reset_low, merge_next, merge_idem, ble_self, aWanted, ↓bite_eq, ↓reduceIte, aStep_eq, aStepOld, aOp, opIndexAddr, opFieldAddr, opLoad, opBuild, aev, aparts, ann, aPut, rget_rput, Nat.zero_add, Bool.not_false, h5, h6, h7, fldL, CX.out, idx28g hs, Nat.zero_add, hldq, fld0, AQ.ev, bld]
      rfl
    dsimp only [List.drop, List.take, List.length]
    have e7 : Ext σb (σb.merge σb.reset) := (Ext.refl _).merge
    generalize σb.merge σb.reset = σ7 at e7
    have e7 := eb.trans e7
    apply Lz_pre 1 (by kernel_rfl)
    · intro callf
      simp +decide only [List.take, aQ, memb, List.any_nil, Bool.true_or, Bool.and_true, reset_next, reset_low, new_low, ble_self, aWanted, ↓bite_eq, ↓reduceIte, aStep_eq, aStepOld, aOp, opBuildSlice, aev, aparts, aPut, rget_rput, Nat.zero_add, Bool.not_false, slice22]
      rfl
    dsimp only [List.drop, List.take, List.length]
    have e8 : Ext σ7 (σ7.merge (σ7.reset.new ⟨1, 27, 0, [.int .i64 (y).1, .int .i64 (y).2], []⟩)) := Ext.merge (Ext.new _ _)
    have hB : (σ7.merge (σ7.reset.new ⟨1, 27, 0, [.int .i64 (y).1, .int .i64 (y).2], []⟩)).get σ7.next = ⟨1, 27, 0, [.int .i64 (y).1, .int .i64 (y).2], []⟩ := by
      rw [get_merge]
      exact (AS.get_new σ7.reset _ σ7.reset.next).trans (if_pos rfl)
    have hBn : σ7.next < (σ7.merge (σ7.reset.new ⟨1, 27, 0, [.int .i64 (y).1, .int .i64 (y).2], []⟩)).next := Nat.lt_succ_self _
    generalize hn8 : σ7.next = n8 at hB hBn
    generalize σ7.merge (σ7.reset.new ⟨1, 27, 0, [.int .i64 (y).1, .int .i64 (y).2], []⟩) = σ8 at e8 hB hBn
    have e8 := e7.trans e8
    have hO8 := hO.keep e8.nxt fun j _ hj => e8.get j hj
    obtain ⟨w, s9, ha9, O9, E9, hn9, hg9⟩ := (hO8.same (σ' := σ8.reset) (Nat.le_refl _) fun _ => rfl).grow (x := .slice (some ⟨n8, 0, none⟩) 1 1) (k := [y]) (X := [tb]) (Src.of (.inr (.inr ⟨n8, 0, 1, rfl, cells_at (σ := σ8.reset) hB rfl (Nat.le_refl _)⟩))) (by simp; omega) ((EE6.trans (ExtX.of e8)).trans (ExtX.of (Ext.reset _)))
    have RW := O9.rowAt
    refine Lz_wr (v := w) (s1 := s9) (x := ub) (by intro callf; simp +decide only [↓reduceIte, aStep_eq, aStepOld, aOp, opCall, aev, aevs, rget_rput, aBuiltin, ha9]) (by decide) (by kernel_rfl) (by simp +decide only [fpOf, aevs, aev, rget_rput, if_true, if_false, List.flatMap_cons, fpV]; rfl) (by simp) (by kernel_rfl) ?_
    have EE9 : ExtX [tb] σA (σ8.merge s9) := (EE6.trans (ExtX.of e8)).mergeTo E9
    have hg9 : ∀ i, i < σ6.next → ¬ Own (.slice (some ⟨ub, 0, none⟩) l.length uc) i → (σ8.merge s9).get i = σ6.get i := fun i hi ho => by rw [get_merge, hg9 i (Nat.lt_of_lt_of_le hi e8.nxt) ho]; exact e8.get i hi
    have hn9 : σ6.next ≤ (σ8.merge s9).next := Nat.le_trans e8.nxt hn9
    have RW : RowAt (σ8.merge s9) w (l ++ [y]) := ⟨RW.slice, RW.own, RW.rs⟩
    generalize σ8.merge s9 = σ9 at EE9 hg9 hn9 RW
    apply Lz_pre 1 (by kernel_rfl)
    · intro callf
      simp +decide only [List.take, aQ, memb, List.any_nil, Bool.true_or, Bool.and_true, reset_low, ble_self, aWanted, ↓bite_eq, ↓reduceIte, aStep_eq, aStepOld, aOp, opIndexAddr, aev, ann, aPut, rget_rput, Nat.zero_add, Bool.not_false, idx28g hs, Nat.zero_add]
      rfl
    dsimp only [List.drop, List.take, List.length]
    have e10 : Ext σ9 (σ9.merge σ9.reset) := (Ext.refl _).merge
    generalize σ9.merge σ9.reset = σ10 at e10
    have RW : RowAt σ10 w (l ++ [y]) := ⟨RW.slice, fun i ho => ⟨Nat.lt_of_lt_of_le (RW.own i ho).1 e10.nxt, by rw [e10.get i (RW.own i ho).1]; exact (RW.own i ho).2⟩, fun σ' hn hg => RW.rs σ' (Nat.le_trans e10.nxt hn) fun i ho hi => by rw [hg i ho (Nat.lt_of_lt_of_le hi e10.nxt)]; exact e10.get i hi⟩
    have EE10 := EE9.trans (ExtX.of e10)
    have hg10 : ∀ i, i < σ6.next → ¬ Own (.slice (some ⟨ub, 0, none⟩) l.length uc) i → σ10.get i = σ6.get i := fun i hi ho => by rw [e10.get i (Nat.lt_of_lt_of_le hi hn9)]; exact hg9 i hi ho
    have hn10 := Nat.le_trans hn9 e10.nxt
    obtain ⟨B, hBk, hBe, hst, hRS⟩ := hput σ10.reset w (l ++ [y]) hn10 hg10 ⟨RW.slice, RW.own, RW.rs⟩
    refine Lz_st (v := undef) (s1 := σ10.reset.put qb B) (by intro callf; simp +decide only [↓reduceIte, aStep_eq, aStepOld, aOp, opStore, aev, unn, rget_rput, hst]) (by kernel_rfl) (by kernel_rfl) ?_
    have EEF : ExtX [tb] σA (σ10.merge (σ10.reset.put qb B)) := EE10.mergeTo ((EE10.trans (ExtX.of (Ext.reset _))).putNew hq0 B)
    have hnF : σ6.next ≤ (σ10.merge (σ10.reset.put qb B)).next := hn10
    have hgF : ∀ i, i < σ6.next → ¬ Own (.slice (some ⟨ub, 0, none⟩) l.length uc) i → i ≠ qb → (σ10.merge (σ10.reset.put qb B)).get i = σ6.get i := fun i hi ho hne => by rw [get_merge, AS.get_put, if_neg (fun e => hne e.symm)]; exact hg10 i hi ho
    have hRS : ∀ τ : AS, (σ10.merge (σ10.reset.put qb B)).next ≤ τ.next → (∀ i, i < (σ10.merge (σ10.reset.put qb B)).next → ((σ10.merge (σ10.reset.put qb B)).get i).elem ≠ 30 → τ.get i = (σ10.merge (σ10.reset.put qb B)).get i) → RS 1 RRow τ (.slice (some ⟨qb, 0, none⟩) L.length qcc) (L.set s (l ++ [y])) := hRS
    generalize σ10.merge (σ10.reset.put qb B) = σ11 at EEF hnF hgF hRS
    show W _ _ _ 130 _ _ _ _
    repeat first | apply W_skipq | apply W_assoc
    refine W_skip ⟨fun _ => ?_, fun h1 h2 => absurd rfl h1⟩
    have B5 : BoxAt σ11 b5 (.slice (some ⟨qb, 0, none⟩) L.length qcc) := ⟨Nat.lt_of_lt_of_le BX.lt hnF, by rw [hgF b5 BX.lt (fun ho => nb30 BX.get (hO.own ho).2.2) (fun e => nb30 BX.get (e ▸ hqe))]; exact BX.get⟩
    have B4 : BoxAt σ11 b4 (.slice none 0 0) := ⟨Nat.lt_of_lt_of_le BR.lt hnF, by rw [hgF b4 BR.lt (fun ho => nb30 BR.get (hO.own ho).2.2) (fun e => nb30 BR.get (e ▸ hqe))]; exact BR.get⟩
    have TF : TapeV tb σ11 lv ints (k + 5) := (TP.up (k' := k + 5) (by omega)).keep TA EEF (hgF tb TP.lt (fun ho => by have h8 := (hO.own ho).2.2; obtain ⟨pos, e, _⟩ := TP.own; rw [e] at h8; cases h8) (fun e2 => by have hqe := hqe; rw [← e2] at hqe; obtain ⟨pos, e, _⟩ := TP.own; rw [e] at hqe; cases hqe))
    refine ⟨?_, ?_, B5, B4, L.set s (l ++ [y]), hRS, by rw [List.length_set]; omega, fun r hr => ?_, TF, EEF⟩
    · simp +decide only [rget_rput, if_false, h4]
    · simp +decide only [rget_rput, if_false, h5]
    · rcases List.mem_or_eq_of_mem_set hr with hr | rfl
      · have := (hG.row r hr).1; omega
      · simp; omega
  have d4 : (M == 4) = false := by rw [beq_eq_false_iff_ne]; exact hc4
  repeat apply W_assoc
  apply W_reg
  · intro callf
    simp +decide only [aOps, aWanted, ↓bite_eq, ↓reduceIte, aStep_eq, aStepOld, aOp, opBin, aev, ann, aPut, rget_rput, h29, d4, aBin, aInts, aInt_eq]
    rfl
  refine W_tail ?_
  repeat apply W_assoc
  refine W_if (b := false) ?_ ?_ ?_
  · simp +decide only [aev, rget_rput, if_true, if_false]
  · intro h; cases h
  intro _
  by_cases hc5 : M = 5
  · have d5 : (M == 5) = true := by rw [beq_iff_eq]; exact hc5
    repeat apply W_assoc
    apply W_reg
    · intro callf
      simp +decide only [aOps, aWanted, ↓bite_eq, ↓reduceIte, aStep_eq, aStepOld, aOp, opBin, aev, ann, aPut, rget_rput, h29, d5, aBin, aInts, aInt_eq]
      rfl
    refine W_tail ?_
    repeat apply W_assoc
    refine W_if (b := true) ?_ ?_ ?_
    · simp +decide only [aev, rget_rput, if_true, if_false]
    rotate_left
    · intro h; cases h
    intro _
    repeat apply W_assoc
    refine W_drw [] [] (by kernel_rfl) (by kernel_rfl) ?_
    apply Lg_pre 4
    · intro callf
      simp +decide only [List.take, aQ, memb, List.any_nil, Bool.true_or, Bool.and_true, reset_merge, reset_reset, reset_next, reset_low, merge_next, merge_idem, ble_self, aWanted, ↓bite_eq, ↓reduceIte, aStep_eq, aStepOld, aOp, opFieldAddr, opLoad, aev, ann, aPut, rget_rput, Nat.zero_add, Bool.not_false, h5, h6, h7, fldL, CX.out, AQ.load]
      rfl
    dsimp only [List.drop, List.take, List.length]
    have e7 : Ext σ6 (σ6.merge σ6.reset) := (Ext.refl _).merge
    generalize σ6.merge σ6.reset = σ7 at e7
    apply Lg_pre 1
    · intro callf
      simp +decide only [List.take, aQ, memb, List.any_nil, Bool.true_or, Bool.and_true, reset_next, reset_low, new_low, ble_self, aWanted, ↓bite_eq, ↓reduceIte, aStep_eq, aStepOld, aOp, opBuildSlice, aev, aparts, aPut, rget_rput, Nat.zero_add, Bool.not_false, slice22]
      rfl
    dsimp only [List.drop, List.take, List.length]
    have e8 : Ext σ7 (σ7.merge (σ7.reset.new ⟨1, 27, 0, [.int .i64 a.1, .int .i64 a.2], []⟩)) := Ext.merge (Ext.new _ _)
    have hB : (σ7.merge (σ7.reset.new ⟨1, 27, 0, [.int .i64 a.1, .int .i64 a.2], []⟩)).get σ7.next = ⟨1, 27, 0, [.int .i64 a.1, .int .i64 a.2], []⟩ := by
      rw [get_merge]
      exact (AS.get_new σ7.reset _ σ7.reset.next).trans (if_pos rfl)
    have hBn : σ7.next < (σ7.merge (σ7.reset.new ⟨1, 27, 0, [.int .i64 a.1, .int .i64 a.2], []⟩)).next := Nat.lt_succ_self _
    generalize hn8 : σ7.next = n8 at hB hBn
    generalize σ7.merge (σ7.reset.new ⟨1, 27, 0, [.int .i64 a.1, .int .i64 a.2], []⟩) = σ9 at e8 hB hBn
    have e8 := e7.trans e8
    have CX9 := (BX.ext e8).reset
    have hldq9 := hld σ9.reset (e8.get qb hq1)
    apply Lg_pre 5
    · intro callf
      simp +decide only [List.take, aQ, memb, List.any_nil, Bool.true_or, Bool.and_true, reset_merge, reset_reset, reset_next, reset_low, merge_next, merge_idem, ble_self, aWanted, ↓bite_eq, ↓reduceIte, aStep_eq, aStepOld, aOp, opIndexAddr, opFieldAddr, opLoad, aev, ann, aPut, rget_rput, Nat.zero_add, Bool.not_false, h5, h6, fldL, CX9.out, idx28g hs, Nat.zero_add, hldq9]
      rfl
    dsimp only [List.drop, List.take, List.length]
    have e9 : Ext σ9 (σ9.merge σ9.reset) := (Ext.refl _).merge
    have hB := (e9.get n8 hBn).trans hB
    have hBn := e9.lt hBn
    generalize σ9.merge σ9.reset = σ8 at e9 hB hBn
    have e8 := e8.trans e9
    have hO8 := (hO.keep e8.nxt fun j _ hj => e8.get j hj).same (σ' := σ8.reset) (Nat.le_refl _) fun _ => rfl
    obtain ⟨w, s9, ha9, E9, RW⟩ := one_append (σ := σ8.reset) (x := .slice (some ⟨ub, 0, none⟩) l.length uc) (k := l) hB hBn hO8.src (by omega)
    refine Lg_qop (v := w) (s1 := s9) (by intro callf; simp +decide only [↓reduceIte, aStep_eq, aStepOld, aOp, opCall, aev, aevs, rget_rput, aBuiltin, ha9]) (by decide) E9.quiet ?_
    have hn9 : σ8.next ≤ s9.next := E9.nxt
    have hg9 : ∀ i, i < σ8.next → ¬ Own (.slice (some ⟨ub, 0, none⟩) l.length uc) i → s9.get i = σ8.get i := fun i hi _ => E9.get i hi
    have E9 : ExtX [tb] σA s9 := ((EE6.trans (ExtX.of e8)).trans (ExtX.of (Ext.reset _))).trans (ExtX.of E9)
    have EE9 : ExtX [tb] σA (σ8.merge s9) := (EE6.trans (ExtX.of e8)).mergeTo E9
    have hg9 : ∀ i, i < σ6.next → ¬ Own (.slice (some ⟨ub, 0, none⟩) l.length uc) i → (σ8.merge s9).get i = σ6.get i := fun i hi ho => by rw [get_merge, hg9 i (Nat.lt_of_lt_of_le hi e8.nxt) ho]; exact e8.get i hi
    have hn9 : σ6.next ≤ (σ8.merge s9).next := Nat.le_trans e8.nxt hn9
    have RW : RowAt (σ8.merge s9) w (a :: l) := ⟨RW.slice, RW.own, RW.rs⟩
    generalize σ8.merge s9 = σ9 at EE9 hg9 hn9 RW
    apply Lg_pre 1
    · intro callf
      simp +decide only [List.take, aQ, memb, List.any_nil, Bool.true_or, Bool.and_true, reset_low, ble_self, aWanted, ↓bite_eq, ↓reduceIte, aStep_eq, aStepOld, aOp, opIndexAddr, aev, ann, aPut, rget_rput, Nat.zero_add, Bool.not_false, idx28g hs, Nat.zero_add]
      rfl
    dsimp only [List.drop, List.take, List.length]
    have e10 : Ext σ9 (σ9.merge σ9.reset) := (Ext.refl _).merge
    generalize σ9.merge σ9.reset = σ10 at e10
    have RW : RowAt σ10 w (a :: l) := ⟨RW.slice, fun i ho => ⟨Nat.lt_of_lt_of_le (RW.own i ho).1 e10.nxt, by rw [e10.get i (RW.own i ho).1]; exact (RW.own i ho).2⟩, fun σ' hn hg => RW.rs σ' (Nat.le_trans e10.nxt hn) fun i ho hi => by rw [hg i ho (Nat.lt_of_lt_of_le hi e10.nxt)]; exact e10.get i hi⟩
    have EE10 := EE9.trans (ExtX.of e10)
    have hg10 : ∀ i, i < σ6.next → ¬ Own (.slice (some ⟨ub, 0, none⟩) l.length uc) i → σ10.get i = σ6.get i := fun i hi ho => by rw [e10.get i (Nat.lt_of_lt_of_le hi hn9)]; exact hg9 i hi ho
    have hn10 := Nat.le_trans hn9 e10.nxt
    obtain ⟨B, hBk, hBe, hst, hRS⟩ := hput σ10.reset w (a :: l) hn10 hg10 ⟨RW.slice, RW.own, RW.rs⟩
    refine Lg_st (v := undef) (s1 := σ10.reset.put qb B) (by intro callf; simp +decide only [↓reduceIte, aStep_eq, aStepOld, aOp, opStore, aev, unn, rget_rput, hst]) (by kernel_rfl) ?_
    have EEF : ExtX [tb] σA (σ10.merge (σ10.reset.put qb B)) := EE10.mergeTo ((EE10.trans (ExtX.of (Ext.reset _))).putNew hq0 B)
    have hnF : σ6.next ≤ (σ10.merge (σ10.reset.put qb B)).next := hn10
    have hgF : ∀ i, i < σ6.next → ¬ Own (.slice (some ⟨ub, 0, none⟩) l.length uc) i → i ≠ qb → (σ10.merge (σ10.reset.put qb B)).get i = σ6.get i := fun i hi ho hne => by rw [get_merge, AS.get_put, if_neg (fun e => hne e.symm)]; exact hg10 i hi ho
    have hRS : ∀ τ : AS, (σ10.merge (σ10.reset.put qb B)).next ≤ τ.next → (∀ i, i < (σ10.merge (σ10.reset.put qb B)).next → ((σ10.merge (σ10.reset.put qb B)).get i).elem ≠ 30 → τ.get i = (σ10.merge (σ10.reset.put qb B)).get i) → RS 1 RRow τ (.slice (some ⟨qb, 0, none⟩) L.length qcc) (L.set s (a :: l)) := hRS
    generalize σ10.merge (σ10.reset.put qb B) = σ11 at EEF hnF hgF hRS
    show W _ _ _ 130 _ _ _ _
    repeat first | apply W_skipq | apply W_assoc
    refine W_skip ⟨fun _ => ?_, fun h1 h2 => absurd rfl h1⟩
    have B5 : BoxAt σ11 b5 (.slice (some ⟨qb, 0, none⟩) L.length qcc) := ⟨Nat.lt_of_lt_of_le BX.lt hnF, by rw [hgF b5 BX.lt (fun ho => nb30 BX.get (hO.own ho).2.2) (fun e => nb30 BX.get (e ▸ hqe))]; exact BX.get⟩
    have B4 : BoxAt σ11 b4 (.slice none 0 0) := ⟨Nat.lt_of_lt_of_le BR.lt hnF, by rw [hgF b4 BR.lt (fun ho => nb30 BR.get (hO.own ho).2.2) (fun e => nb30 BR.get (e ▸ hqe))]; exact BR.get⟩
    have TF : TapeV tb σ11 lv ints (k + 5) := (TP.up (k' := k + 5) (by omega)).keep TA EEF (hgF tb TP.lt (fun ho => by have h8 := (hO.own ho).2.2; obtain ⟨pos, e, _⟩ := TP.own; rw [e] at h8; cases h8) (fun e2 => by have hqe := hqe; rw [← e2] at hqe; obtain ⟨pos, e, _⟩ := TP.own; rw [e] at hqe; cases hqe))
    refine ⟨?_, ?_, B5, B4, L.set s (a :: l), hRS, by rw [List.length_set]; omega, fun r hr => ?_, TF, EEF⟩
    · simp +decide only [rget_rput, if_false, h4]
    · simp +decide only [rget_rput, if_false, h5]
    · rcases List.mem_or_eq_of_mem_set hr with hr | rfl
      · have := (hG.row r hr).1; omega
      · simp; omega
  have d5 : (M == 5) = false := by rw [beq_eq_false_iff_ne]; exact hc5
  repeat apply W_assoc
  apply W_reg
  · intro callf
    simp +decide only [aOps, aWanted, ↓bite_eq, ↓reduceIte, aStep_eq, aStepOld, aOp, opBin, aev, ann, aPut, rget_rput, h29, d5, aBin, aInts, aInt_eq]
    rfl
  refine W_tail ?_
  repeat apply W_assoc
  refine W_if (b := false) ?_ ?_ ?_
  · simp +decide only [aev, rget_rput, if_true, if_false]
  · intro h; cases h
  intro _
  repeat apply W_assoc
  refine W_drwZ [13] [ub] hZ (by kernel_rfl) (by kernel_rfl) ?_
  apply Lz_pre 1 (by kernel_rfl)
  · intro callf
    simp +decide only [List.take, aQ, memb, List.any_nil, Bool.true_or, Bool.and_true, reset_low, ble_self, aWanted, ↓bite_eq, ↓reduceIte, aStep_eq, aStepOld, aOp, opFieldAddr, aev, ann, aPut, rget_rput, Bool.not_false, h5, fldL]
    rfl
  dsimp only [List.drop, List.take, List.length]
  have ea : Ext σ6 (σ6.merge σ6.reset) := (Ext.refl _).merge
  generalize σ6.merge σ6.reset = σa at ea
  refine Lz_load (b := b5) (off := 0) (v := .slice (some ⟨qb, 0, none⟩) L.length qcc) (by simp +decide only [aev, rget_rput, if_true, if_false]) ((BX.ext ea).reset).out (by simpa using h5u) (by decide) ?_
  have eb : Ext σa (σa.merge σa.reset) := (Ext.refl _).merge
  generalize σa.merge σa.reset = σb at eb
  have eb := ea.trans eb
  have CX := (BX.ext eb).reset
  have AQ := (A7.ext eb).ext (Ext.reset σb)
  have hldq := hld σb.reset (eb.get qb hq1)
  apply Lz_pre 11 (by kernel_rfl)
  · intro callf
    simp +decide only [List.take, aQ, memb, List.any_nil, Bool.true_or, Bool.and_true, reset_merge, reset_reset, reset_next, reset_low, merge_next, merge_idem, ble_self, aWanted, ↓bite_eq, ↓reduceIte, aStep_eq, aStepOld, aOp, opIndexAddr, opFieldAddr, opLoad, aev, ann, aPut, rget_rput, Nat.zero_add, Bool.not_false, h5, h6, fldL, CX.out, idx28g hs, Nat.zero_add, hldq]
    rfl
  dsimp only [List.drop, List.take, List.length]
  have e7 : Ext σb (σb.merge σb.reset) := (Ext.refl _).merge
  generalize σb.merge σb.reset = σ7 at e7
  have e7 := eb.trans e7
  have e8 := e7
  generalize σ7 = σ8 at e8
  have hO8 := (hO.keep e8.nxt fun j _ hj => e8.get j hj).same (σ' := σ8.reset) (Nat.le_refl _) fun _ => rfl
  obtain ⟨w, s9, ha9, O9, E9, hn9, hg9⟩ := hO8.grow (k := l) (X := [tb]) hO8.src (by omega) ((EE6.trans (ExtX.of e8)).trans (ExtX.of (Ext.reset _)))
  have RW := O9.rowAt
  refine Lz_wr (v := w) (s1 := s9) (x := ub) (by intro callf; simp +decide only [↓reduceIte, aStep_eq, aStepOld, aOp, opCall, aev, aevs, rget_rput, aBuiltin, ha9]) (by decide) (by kernel_rfl) (by simp +decide only [fpOf, aevs, aev, rget_rput, if_true, if_false, List.flatMap_cons, fpV]; rfl) (by simp) (by kernel_rfl) ?_
  have EE9 : ExtX [tb] σA (σ8.merge s9) := (EE6.trans (ExtX.of e8)).mergeTo E9
  have hg9 : ∀ i, i < σ6.next → ¬ Own (.slice (some ⟨ub, 0, none⟩) l.length uc) i → (σ8.merge s9).get i = σ6.get i := fun i hi ho => by rw [get_merge, hg9 i (Nat.lt_of_lt_of_le hi e8.nxt) ho]; exact e8.get i hi
  have hn9 : σ6.next ≤ (σ8.merge s9).next := Nat.le_trans e8.nxt hn9
  have RW : RowAt (σ8.merge s9) w (l ++ l) := ⟨RW.slice, RW.own, RW.rs⟩
  generalize σ8.merge s9 = σ9 at EE9 hg9 hn9 RW
  apply Lz_pre 1 (by kernel_rfl)
  · intro callf
    simp +decide only [List.take, aQ, memb, List.any_nil, Bool.true_or, Bool.and_true, reset_low, ble_self, aWanted, ↓bite_eq, ↓reduceIte, aStep_eq, aStepOld, aOp, opIndexAddr, aev, ann, aPut, rget_rput, Nat.zero_add, Bool.not_false, idx28g hs, Nat.zero_add]
    rfl
  dsimp only [List.drop, List.take, List.length]
  have e10 : Ext σ9 (σ9.merge σ9.reset) := (Ext.refl _).merge
  generalize σ9.merge σ9.reset = σ10 at e10
  have RW : RowAt σ10 w (l ++ l) := ⟨RW.slice, fun i ho => ⟨Nat.lt_of_lt_of_le (RW.own i ho).1 e10.nxt, by rw [e10.get i (RW.own i ho).1]; exact (RW.own i ho).2⟩, fun σ' hn hg => RW.rs σ' (Nat.le_trans e10.nxt hn) fun i ho hi => by rw [hg i ho (Nat.lt_of_lt_of_le hi e10.nxt)]; exact e10.get i hi⟩
  have EE10 := EE9.trans (ExtX.of e10)
  have hg10 : ∀ i, i < σ6.next → ¬ Own (.slice (some ⟨ub, 0, none⟩) l.length uc) i → σ10.get i = σ6.get i := fun i hi ho => by rw [e10.get i (Nat.lt_of_lt_of_le hi hn9)]; exact hg9 i hi ho
  have hn10 := Nat.le_trans hn9 e10.nxt
  obtain ⟨B, hBk, hBe, hst, hRS⟩ := hput σ10.reset w (l ++ l) hn10 hg10 ⟨RW.slice, RW.own, RW.rs⟩
  refine Lz_st (v := undef) (s1 := σ10.reset.put qb B) (by intro callf; simp +decide only [↓reduceIte, aStep_eq, aStepOld, aOp, opStore, aev, unn, rget_rput, hst]) (by kernel_rfl) (by kernel_rfl) ?_
  have EEF : ExtX [tb] σA (σ10.merge (σ10.reset.put qb B)) := EE10.mergeTo ((EE10.trans (ExtX.of (Ext.reset _))).putNew hq0 B)
  have hnF : σ6.next ≤ (σ10.merge (σ10.reset.put qb B)).next := hn10
  have hgF : ∀ i, i < σ6.next → ¬ Own (.slice (some ⟨ub, 0, none⟩) l.length uc) i → i ≠ qb → (σ10.merge (σ10.reset.put qb B)).get i = σ6.get i := fun i hi ho hne => by rw [get_merge, AS.get_put, if_neg (fun e => hne e.symm)]; exact hg10 i hi ho
  have hRS : ∀ τ : AS, (σ10.merge (σ10.reset.put qb B)).next ≤ τ.next → (∀ i, i < (σ10.merge (σ10.reset.put qb B)).next → ((σ10.merge (σ10.reset.put qb B)).get i).elem ≠ 30 → τ.get i = (σ10.merge (σ10.reset.put qb B)).get i) → RS 1 RRow τ (.slice (some ⟨qb, 0, none⟩) L.length qcc) (L.set s (l ++ l)) := hRS
  generalize σ10.merge (σ10.reset.put qb B) = σ11 at EEF hnF hgF hRS
  show W _ _ _ 130 _ _ _ _
  repeat first | apply W_skipq | apply W_assoc
  refine W_skip ⟨fun _ => ?_, fun h1 h2 => absurd rfl h1⟩
  have B5 : BoxAt σ11 b5 (.slice (some ⟨qb, 0, none⟩) L.length qcc) := ⟨Nat.lt_of_lt_of_le BX.lt hnF, by rw [hgF b5 BX.lt (fun ho => nb30 BX.get (hO.own ho).2.2) (fun e => nb30 BX.get (e ▸ hqe))]; exact BX.get⟩
  have B4 : BoxAt σ11 b4 (.slice none 0 0) := ⟨Nat.lt_of_lt_of_le BR.lt hnF, by rw [hgF b4 BR.lt (fun ho => nb30 BR.get (hO.own ho).2.2) (fun e => nb30 BR.get (e ▸ hqe))]; exact BR.get⟩
  have TF : TapeV tb σ11 lv ints (k + 5) := (TP.up (k' := k + 5) (by omega)).keep TA EEF (hgF tb TP.lt (fun ho => by have h8 := (hO.own ho).2.2; obtain ⟨pos, e, _⟩ := TP.own; rw [e] at h8; cases h8) (fun e2 => by have hqe := hqe; rw [← e2] at hqe; obtain ⟨pos, e, _⟩ := TP.own; rw [e] at hqe; cases hqe))
  refine ⟨?_, ?_, B5, B4, L.set s (l ++ l), hRS, by rw [List.length_set]; omega, fun r hr => ?_, TF, EEF⟩
  · simp +decide only [rget_rput, if_false, h4]
  · simp +decide only [rget_rput, if_false, h5]
  · rcases List.mem_or_eq_of_mem_set hr with hr | rfl
    · have := (hG.row r hr).1; omega
    · simp; omega

end Go.Proofs.Ytbknckiapcafdaa.Nest
