/- A path that is drawn (function 18). -/
import Derived.Test.YtbknckiapcafdaaNestQ
set_option linter.unusedSimpArgs false
set_option linter.unusedVariables false
namespace Go.Proofs.Ytbknckiapcafdaa.Nest
open Abs Abs2

theorem TapeV.ext {tb k : Nat} {σ σ' : AS} {lv : Value} {ints : List Int} (h : TapeV tb σ lv ints k) (e : Ext σ σ') : TapeV tb σ' lv ints k := h.keep h (.of e) (e.get _ h.lt)

theorem ext_put_merge {σ σ' : AS} (h : Ext σ σ') {i : Nat} (hi : σ.next ≤ i) (B : Blk) : Ext σ (σ'.merge (σ'.reset.put i B)) :=
  ⟨h.nxt, fun j hj => by rw [get_merge, AS.get_put, if_neg (by omega)]; exact h.get j hj, fun m h1 h2 => Nat.le_min.2 ⟨h.low m h1 h2, Nat.le_min.2 ⟨Nat.le_trans h2 h.nxt, Nat.le_trans h2 hi⟩⟩⟩

theorem store27g {σ : AS} {b : Nat} {u w : Value} {x : Arc} (h : σ.get b = ⟨1, 27, 0, [u, w], []⟩) : aStore Try.prog σ 27 (vArc x) (.pointer (some ⟨b, 0, none⟩)) = some (σ.put b ⟨1, 27, 0, (vArc x).cells.toList, []⟩) := by
  obtain ⟨inf, hi, hs⟩ : ∃ inf, Try.prog.info? 27 = some inf ∧ inf.size = 2 := ⟨(Try.prog.info? 27).get!, by kernel_rfl, by kernel_rfl⟩
  have hz : Nat.beq (vArc x).cells.size 2 = true := rfl
  have hc : (vArc x).cells.toList = [.int .i64 x.1, .int .i64 x.2] := rfl
  unfold aStore
  simp only [hi, hs, hz, if_true, hc]
  unfold aWrite
  simp only [h, hasLen_eq, List.length_cons, List.length_nil, Nat.zero_add]
  rfl

theorem TapeV.up {tb k k' : Nat} {σ : AS} {lv : Value} {ints : List Int} (h : TapeV tb σ lv ints k) (hk : k ≤ k') : TapeV tb σ lv ints k' := by
  obtain ⟨h1, ⟨pos, h2, h3, h4⟩, h5, h6⟩ := h
  exact ⟨h1, ⟨pos, h2, h3, by omega⟩, h5, h6⟩

/-- Arcs are appended to nil. -/
theorem append_none {σ : AS} {x : Value} {m : List Arc} (hx : Src σ x m) (hm : m ≠ []) (hn : m.length ≤ 1000000) :
    aAppend Try.prog σ #[22, 22] (.slice none 0 0) x = some (outV σ.next m, σ.new (outB m)) := by
  obtain ⟨inf, z, h1, h2, h3, h4, h5, h6⟩ := info27
  have hs := hx.source h2
  have hp : 0 < m.length := List.length_pos_iff.2 hm
  have d1 : Nat.beq (2 : Nat) 0 = false := rfl
  have d2 : Nat.beq (2 : Nat) 2 = true := rfl
  have d3 : Nat.ble ((4 * m.length + 4000) * 16) 281474976710656 = true := ble_t (by omega)
  have d4 : Nat.ble m.length 1000000000000 = true := ble_t (by omega)
  have d5 : Nat.beq (cellsOf m).length (m.length * 2) = true := by rw [cellsOf_length]; exact Nat.beq_refl _
  have d6 : Nat.ble m.length 0 = false := ble_f hp
  unfold aAppend
  simp only [List.getElem?_toArray, List.getElem?_cons_zero, List.getElem?_cons_succ, Try.underlying22, h1, h2, h3, h4, h5, h6, hs, d1, d2, Nat.zero_add, d3, d4, d5, d6, open_zero, aFirst, Nat.zero_mul, Bool.not_true, Bool.or_false, Bool.false_eq_true, if_false, List.length_nil, Nat.beq_refl, if_true, List.nil_append]
  rfl

/-- A row in the making, from nil, made since σ0. -/
def OutN (σ0 σ : AS) (v : Value) (m : List Arc) : Prop :=
  (m = [] ∧ v = .slice none 0 0) ∨ (m ≠ [] ∧ ∃ b, σ0.next ≤ b ∧ b < σ.next ∧ v = outV b m ∧ σ.get b = outB m)

theorem OutN.extX {σ0 σ σ' : AS} {v : Value} {m : List Arc} {X : List Nat} (h : OutN σ0 σ v m) (e : ExtX X σ σ') (hX : ∀ x ∈ X, x < σ0.next) : OutN σ0 σ' v m := by
  rcases h with h | ⟨h0, b, h1, h2, h3, h4⟩
  · exact .inl h
  · exact .inr ⟨h0, b, h1, e.lt h2, h3, (e.get b h2 (fun hx => by have := hX b hx; omega)).trans h4⟩
theorem OutN.ext {σ0 σ σ' : AS} {v : Value} {m : List Arc} (h : OutN σ0 σ v m) (e : Ext σ σ') : OutN σ0 σ' v m := h.extX (X := []) (.of e) (by simp)

theorem OutN.append {σ0 σ : AS} {v x : Value} {m k : List Arc} {X : List Nat} (h : OutN σ0 σ v m) (hx : Src σ x k) (hk : k ≠ []) (hn : m.length + k.length ≤ 1000000) (hE : ExtX X σ0 σ) :
    ∃ v' σ', aAppend Try.prog σ #[22, 22] v x = some (v', σ') ∧ OutN σ0 σ' v' (m ++ k) ∧ ExtX X σ0 σ' ∧ σ.next ≤ σ'.next ∧ ∀ i, i < σ.next → (σ.get i).kind ≠ 2 → σ'.get i = σ.get i := by
  have hnx := hE.nxt
  rcases h with ⟨rfl, rfl⟩ | ⟨h0, b, h1, h2, rfl, h4⟩
  · exact ⟨_, _, append_none hx hk (by simpa using hn), .inr ⟨hk, σ.next, hnx, Nat.lt_succ_self _, rfl, by rw [AS.get_new, if_pos rfl]; rfl⟩, hE.trans (.of (Ext.new _ _)), Nat.le_succ _, fun i hi _ => by rw [AS.get_new, if_neg (by omega)]⟩
  · refine ⟨_, _, append_more hx hk hn h4, .inr ⟨by simp [h0], σ.next, hnx, Nat.lt_succ_self _, rfl, ?_⟩, ⟨Nat.le_trans hnx (Nat.le_succ _), fun i hi hx => ?_, fun m' g1 g2 g3 => ?_⟩, Nat.le_succ _, fun i hi hk2 => ?_⟩
    · rw [AS.get_new, if_pos]
      rfl
    · rw [AS.get_new, if_neg (by show σ.next ≠ i; omega), AS.get_put, if_neg (by omega), hE.get i hi hx]
    · exact Nat.le_min.2 ⟨hE.low m' g1 g2 g3, Nat.le_trans g2 h1⟩
    · have hne : b ≠ i := by
        rintro rfl
        rw [h4] at hk2
        exact hk2 rfl
      rw [AS.get_new, if_neg (by show σ.next ≠ i; omega), AS.get_put, if_neg hne]

theorem OutN.row {σ0 σ : AS} {v : Value} {m : List Arc} {X : List Nat} (h : OutN σ0 σ v m) (hX : ∀ x ∈ X, x < σ0.next) : GRow (hid X σ) v m := by
  rcases h with ⟨rfl, rfl⟩ | ⟨h0, b, h1, h2, h3, h4⟩
  · exact .inl ⟨rfl, rfl⟩
  · refine .inr ⟨h0, b, h3, by rw [hid_next]; exact h2, ?_⟩
    rw [hid_out _ (fun hx => by have := hX b hx; omega)]
    exact h4

set_option maxHeartbeats 8000000 in
theorem drawn {σ : AS} {tb lb k cap m s : Nat} {L : Lts} (hT : Tape tb σ k) (hk : k ≤ 2 ^ 60) (hG : Gen tb lb σ L m) (hm : m ≤ 1000) (hs : s < L.length) (hL : L.length ≤ 100) : C Try.prog Kn 0 18 [.pointer (some ⟨tb, 0, none⟩), .agg #[.slice (some ⟨lb, 0, none⟩) L.length cap], .int .i64 (s : Int), .int .i64 3] σ fun v σ' =>
    ∃ out, GRow (hid [tb] σ') v out ∧ out.length ≤ 3 ∧ (∀ a ∈ out, 0 ≤ a.2 ∧ a.2 < (L.length : Int)) ∧ Tape tb σ' (k + 10) ∧ ExtX [tb] σ σ' := by
  have htb := hT.lt
  obtain ⟨lv, ints, hT⟩ := hT.V
  refine C_of (kn (by decide)) Try.func18 rfl (Nat.le_of_ble_eq_true rfl) ?_
  show W _ _ _ 51 _ _ _ _
  unfold Try.f18
  dsimp only
  repeat apply W_assoc
  apply W_reg
  · intro callf
    simp +decide only [aOps, rinit, aWanted, ↓bite_eq, ↓reduceIte, aStep_eq, aStepOld, aOp, opBox, aRow, aev, ann, aPut, rget_rput, Nat.zero_add]
    rfl
  have E0 := Ext.new σ ⟨1, 30, 0, (Value.agg #[.slice (some ⟨lb, 0, none⟩) L.length cap]).cells.toList, []⟩
  have BX : BoxAt (σ.new ⟨1, 30, 0, (Value.agg #[.slice (some ⟨lb, 0, none⟩) L.length cap]).cells.toList, []⟩) σ.next (.slice (some ⟨lb, 0, none⟩) L.length cap) := ⟨Nat.lt_succ_self _, by rw [AS.get_new, if_pos rfl]; rfl⟩
  have GN := hG.ext E0
  have TB := hT.keep hT (.of E0) (E0.get tb htb)
  generalize hb5 : σ.next = b5 at BX htb
  have w31 : IntKind.i64.wrap (3 + 1) = 4 := by rw [wrap64_id _ (by omega) (by omega)]; rfl
  generalize σ.new ⟨1, 30, 0, (Value.agg #[.slice (some ⟨lb, 0, none⟩) L.length cap]).cells.toList, []⟩ = σ1 at E0 BX GN TB
  repeat apply W_assoc
  apply W_reg
  · intro callf
    simp +decide only [aOps, aWanted, ↓bite_eq, ↓reduceIte, aStep_eq, aStepOld, aOp, aev, ann, aPut]
    rfl
  repeat apply W_assoc
  apply W_regL
  apply Ls_pre 3
  · intro callf
    simp +decide only [List.take, aOps, aWanted, ↓bite_eq, ↓reduceIte, aStep_eq, aStepOld, aOp, opBin, aev, ann, aPut, rget_rput, w31, aBin, aInts, aInt_eq]
    rfl
  dsimp only [List.drop]
  refine Ls_fn (vs := [.pointer (some ⟨tb, 0, none⟩), .int .i64 4]) (by simp +decide only [aevs, aev, rget_rput, if_true, if_false]) (by decide) (C.mono (next_tapeV TB (by omega) (n := 4) (by omega)) ?_)
  rintro v σ' ⟨⟨m4, rfl, hm4⟩, TP, EX⟩
  obtain ⟨hm40, hm41⟩ := hm4 (by omega)
  obtain ⟨M, rfl⟩ : ∃ M : Nat, m4 = (M : Int) := ⟨m4.toNat, by omega⟩
  apply Ls_all
  · intro callf
    simp +decide only [aOps, aWanted, ↓bite_eq, ↓reduceIte, aStep_eq, aStepOld, aOp, aev, ann, aPut, rget_rput]
    rfl
  generalize σ' = σ2 at TP EX
  have hb5' : b5 ≤ σ1.next := by rw [← hb5]; exact E0.nxt
  have h51 : b5 < σ1.next := BX.lt
  repeat apply W_assoc
  refine W_for (fun (x : Nat × Nat × List Arc) r σ' => x.1 + x.2.2.length ≤ 3 ∧ x.2.1 < L.length ∧ (∀ a ∈ x.2.2, 0 ≤ a.2 ∧ a.2 < (L.length : Int)) ∧ rget r 0 = .pointer (some ⟨tb, 0, none⟩) ∧ rget r 2 = .int .i64 (x.2.1 : Int) ∧ rget r 5 = .pointer (some ⟨b5, 0, none⟩) ∧ rget r 10 = .int .i64 (x.1 : Int) ∧
      (∃ v, rget r 9 = v ∧ OutN σ1 σ' v x.2.2) ∧ TapeV tb σ' lv ints (k + 1 + x.2.2.length) ∧ ExtX [tb] σ1 σ')
    (fun x => x.1) ?_ (M, s, []) ?_
  rotate_left
  · simp +decide only [rget_rput, if_true, if_false]
    refine ⟨by simp; omega, hs, by simp, ?_, ?_, ?_, ?_, ⟨_, rfl, .inl ⟨rfl, rfl⟩⟩, TP, EX⟩ <;> first | exact True.intro | rfl | assumption
  clear TP EX
  rintro ⟨c, s, out⟩ r σ3 ⟨hc, hs, ho, h0, h2, h5, h10, ⟨ov, h9, hO⟩, TP, EX⟩
  dsimp only at hc hs ho h2 h10 hO TP
  have GC := GN.extX EX
  have BC := BX.extX EX (by simp; omega)
  obtain ⟨v, l, hl, hlm, hg, hld⟩ := GC.at (i := s) hs
  obtain ⟨vb, vc, hv⟩ := hg.slice
  subst hv
  have hld3 := hld _ (ExtX.refl _ _)
  by_cases hc0 : 0 < c
  rotate_left
  · have d1 : decide ((0 : Int) < (c : Int)) = false := decide_eq_false (by omega)
    repeat apply W_assoc
    apply W_reg
    · intro callf
      simp +decide only [aOps, aWanted, ↓bite_eq, ↓reduceIte, aStep_eq, aStepOld, aOp, opBin, opPick, aev, ann, aPut, rget_rput, List.getElem?_toArray, List.getElem?_cons_zero, List.getElem?_cons_succ, Option.bind_some, Bool.not_true, Bool.false_beq, h10, d1, aBin, aInts, aInt_eq]
      rfl
    repeat apply W_assoc
    refine W_if (b := false) ?_ ?_ ?_
    · simp +decide only [aev, rget_rput, if_true, if_false]
    · intro h; cases h
    intro _
    refine W_exitq ⟨fun h => (nomatch h), fun _ => ?_, fun h1 h2 => absurd rfl h2⟩
    repeat apply W_assoc
    apply W_reg
    · intro callf
      simp +decide only [aOps, aWanted, ↓bite_eq, ↓reduceIte, aStep_eq, aStepOld, aOp, aev, ann, aPut, rget_rput, h9]
      rfl
    refine W_ret ⟨Nat.le_refl _, [ov], ?_, out, hO.row (by simp; omega), by omega, ho, TP.tape.up (by omega), (ExtX.of E0).trans EX⟩
    simp +decide only [aResults, rget_rput, if_true, if_false]
  have d1 : decide ((0 : Int) < (c : Int)) = true := decide_eq_true (by omega)
  by_cases hl0 : 0 < l.length
  rotate_left
  · have d2 : decide ((0 : Int) < (l.length : Int)) = false := decide_eq_false (by omega)
    repeat apply W_assoc
    apply W_reg
    · intro callf
      simp +decide only [aOps, aWanted, ↓bite_eq, ↓reduceIte, aStep_eq, aStepOld, aOp, opBin, opCall, opIndexAddr, opFieldAddr, opLoad, opPick, aev, aevs, ann, aPut, rget_rput, aBuiltin, aLen, List.getElem?_toArray, List.getElem?_cons_zero, List.getElem?_cons_succ, Nat.zero_add, Option.bind_some, beq_self_eq_true, h2, h5, h10, d1, d2, fldL, BC.out, idx28g hs, Nat.zero_add, hld3, Try.underlying22, goInt, aBin, aInts, aInt_eq]
      rfl
    repeat apply W_assoc
    refine W_if (b := false) ?_ ?_ ?_
    · simp +decide only [aev, rget_rput, if_true, if_false]
    · intro h; cases h
    intro _
    refine W_exitq ⟨fun h => (nomatch h), fun _ => ?_, fun h1 h2 => absurd rfl h2⟩
    repeat apply W_assoc
    apply W_reg
    · intro callf
      simp +decide only [aOps, aWanted, ↓bite_eq, ↓reduceIte, aStep_eq, aStepOld, aOp, aev, ann, aPut, rget_rput, h9]
      rfl
    refine W_ret ⟨Nat.le_refl _, [ov], ?_, out, hO.row (by simp; omega), by omega, ho, TP.tape.up (by omega), (ExtX.of E0).trans EX⟩
    simp +decide only [aResults, rget_rput, if_true, if_false]
  have d2 : decide ((0 : Int) < (l.length : Int)) = true := decide_eq_true (by omega)
  repeat apply W_assoc
  apply W_reg
  · intro callf
    simp +decide only [aOps, aWanted, ↓bite_eq, ↓reduceIte, aStep_eq, aStepOld, aOp, opBin, opCall, opIndexAddr, opFieldAddr, opLoad, opPick, aev, aevs, ann, aPut, rget_rput, aBuiltin, aLen, List.getElem?_toArray, List.getElem?_cons_zero, List.getElem?_cons_succ, Nat.zero_add, Option.bind_some, beq_self_eq_true, h2, h5, h10, d1, d2, fldL, BC.out, idx28g hs, Nat.zero_add, hld3, Try.underlying22, goInt, aBin, aInts, aInt_eq]
    rfl
  repeat apply W_assoc
  refine W_if (b := true) ?_ ?_ ?_
  · simp +decide only [aev, rget_rput, if_true, if_false]
  rotate_left
  · intro h; cases h
  intro _
  apply W_skipq
  refine W_blk ?_
  have hE : ExtX [tb] σ3 σ3 := ExtX.refl _ _
  have hTb := TP.lt
  have hlbn := GC.lt
  have hlne := GC.ne
  have hb53 := BC.lt
  repeat apply W_assoc
  refine W_drw [1, 4] [b5, lb] (by kernel_rfl) (by kernel_rfl) ?_
  apply Lg_pre 1
  · intro callf
    simp +decide only [List.take, aQ, memb, List.any_nil, List.any_cons, Bool.or_false, Bool.true_and, reset_low, ble_self, aWanted, ↓bite_eq, ↓reduceIte, aStep_eq, aStepOld, aOp, opFieldAddr, aev, ann, aPut, rget_rput, h5, fldL]
    rfl
  dsimp only [List.drop, List.take, List.length]
  have e0 : Ext σ3 (σ3.merge σ3.reset) := (Ext.refl _).merge
  have hE := hE.trans (ExtX.of e0)
  have TP := TP.ext e0
  generalize σ3.merge σ3.reset = σ4 at e0 hE TP
  have BS := BC.extX (hE.trans (ExtX.of (Ext.reset σ4))) (by simp; omega)
  have LS := hld _ (hE.trans (ExtX.of (Ext.reset σ4)))
  refine Lg_load (b := b5) (off := 0) (v := .slice (some ⟨lb, 0, none⟩) L.length cap) (by simp +decide only [aev, rget_rput, if_true, if_false]) BS.out (sv_slice (Nat.lt_of_lt_of_le hlbn hE.nxt)) (Nat.lt_of_lt_of_le hb53 hE.nxt) (by simp [memb]) (by decide) ?_
  have e0 : Ext σ4 (σ4.merge σ4.reset) := (Ext.refl _).merge
  have hE := hE.trans (ExtX.of e0)
  have TP := TP.ext e0
  generalize σ4.merge σ4.reset = σ5 at e0 hE TP
  apply Lg_pre 2
  · intro callf
    simp +decide only [List.take, aQ, memb, List.any_nil, List.any_cons, Bool.or_false, Bool.true_and, reset_merge, reset_reset, reset_next, reset_low, merge_next, merge_idem, ble_self, aWanted, ↓bite_eq, ↓reduceIte, aStep_eq, aStepOld, aOp, opIndexAddr, aev, ann, aPut, rget_rput, Nat.zero_add, h2, idx28g hs, Nat.zero_add]
    rfl
  dsimp only [List.drop, List.take, List.length]
  have e0 : Ext σ5 (σ5.merge σ5.reset) := (Ext.refl _).merge
  have hE := hE.trans (ExtX.of e0)
  have TP := TP.ext e0
  generalize σ5.merge σ5.reset = σ6 at e0 hE TP
  have BS := BC.extX (hE.trans (ExtX.of (Ext.reset σ6))) (by simp; omega)
  have LS := hld _ (hE.trans (ExtX.of (Ext.reset σ6)))
  refine Lg_load (b := lb) (off := s) (v := .slice vb l.length vc) (by simp +decide only [aev, rget_rput, if_true, if_false]) LS (hg.ext (hE.sub (Y := [tb, lb]) (by simp)).hid).sv (Nat.lt_of_lt_of_le hlbn hE.nxt) (by simp [memb]) (by decide) ?_
  have e0 : Ext σ6 (σ6.merge σ6.reset) := (Ext.refl _).merge
  have hE := hE.trans (ExtX.of e0)
  have TP := TP.ext e0
  generalize σ6.merge σ6.reset = σ7 at e0 hE TP
  have BS := BC.extX (hE.trans (ExtX.of (Ext.reset σ7))) (by simp; omega)
  have LS := hld _ (hE.trans (ExtX.of (Ext.reset σ7)))
  apply Lg_pre 7
  · intro callf
    simp +decide only [List.take, aQ, memb, List.any_nil, List.any_cons, Bool.or_false, Bool.true_and, reset_merge, reset_reset, reset_next, reset_low, merge_next, merge_idem, ble_self, aWanted, ↓bite_eq, ↓reduceIte, aStep_eq, aStepOld, aOp, opCall, opIndexAddr, opFieldAddr, opLoad, aev, aevs, ann, aPut, rget_rput, aBuiltin, aLen, List.getElem?_toArray, List.getElem?_cons_zero, Nat.zero_add, h0, h2, h5, fldL, BS.out, LS, idx28g hs, Nat.zero_add, Try.underlying22, goInt]
    rfl
  dsimp only [List.drop, List.take, List.length]
  have e0 : Ext σ7 (σ7.merge σ7.reset) := (Ext.refl _).merge
  have hE := hE.trans (ExtX.of e0)
  have TP := TP.ext e0
  generalize σ7.merge σ7.reset = σ8 at e0 hE TP
  refine Lg_bar (vs := [.pointer (some ⟨tb, 0, none⟩), .int .i64 (l.length : Int)]) (by simp +decide only [aevs, aev, rget_rput, if_true, if_false]) (by decide) (by kernel_rfl) (by kernel_rfl) (C.mono (next_tapeV (TP.ext (Ext.reset σ8)) (by omega) (n := (l.length : Int)) (by have := (GC.row l hlm).1; omega)) ?_)
  rintro v2 s1 ⟨⟨j, rfl, hj⟩, T1, E1⟩
  refine ⟨fun x hx hlt => E1.get x hlt (by simp at hx ⊢; rcases hx with rfl | rfl <;> omega), ?_⟩
  obtain ⟨hj0, hj1⟩ := hj (by omega)
  obtain ⟨j, rfl⟩ : ∃ J : Nat, j = (J : Int) := ⟨j.toNat, by omega⟩
  have hj2 : j < l.length := by omega
  have E1 : ExtX [tb] σ8 (σ8.merge s1) := E1.merge
  have hE := hE.trans E1
  have T1 : TapeV tb (σ8.merge s1) lv ints (k + 1 + out.length + 1) := T1.keep TB (EX.trans hE) rfl
  clear TP e0
  have TP := T1
  generalize σ8.merge s1 = σ9 at TP hE
  obtain ⟨y, hy⟩ : ∃ y, l[j]? = some y := ⟨l[j], by simp [hj2]⟩
  have RG := (hg.ext ((hE.trans (ExtX.of (Ext.reset σ9))).sub (Y := [tb, lb]) (by simp)).hid).shown.rs
  obtain ⟨-, b, off, rfl, hbl, hat⟩ := arcOf RG hy
  apply Lg_pre 2
  · intro callf
    simp +decide only [List.take, aQ, memb, List.any_nil, List.any_cons, Bool.or_false, Bool.true_and, reset_merge, reset_reset, reset_next, reset_low, merge_next, merge_idem, ble_self, aWanted, ↓bite_eq, ↓reduceIte, aStep_eq, aStepOld, aOp, opIndexAddr, opLoad, aev, ann, aPut, rget_rput, Nat.zero_add, idx22 hj2, (hat _ (Ext.refl _)).1]
    rfl
  dsimp only [List.drop, List.take, List.length]
  have e0 : Ext σ9 (σ9.merge σ9.reset) := (Ext.refl _).merge
  have hE := hE.trans (ExtX.of e0)
  have TP := TP.ext e0
  generalize σ9.merge σ9.reset = σ10 at e0 hE TP
  apply Lg_pre 1
  · intro callf
    simp +decide only [List.take, aQ, memb, List.any_nil, List.any_cons, Bool.or_false, Bool.true_and, reset_next, reset_low, new_low, ble_self, aWanted, ↓bite_eq, ↓reduceIte, aStep_eq, aStepOld, aOp, aPut, Nat.zero_add, alloc27]
    rfl
  dsimp only [List.drop, List.take, List.length]
  generalize hn11 : σ10.next = n11
  have eN : Ext σ10 (σ10.merge (σ10.reset.new ⟨1, 27, 0, [.int .i64 0, .int .i64 0], []⟩)) := Ext.merge (Ext.new _ _)
  have hA : (σ10.merge (σ10.reset.new ⟨1, 27, 0, [.int .i64 0, .int .i64 0], []⟩)).get n11 = ⟨1, 27, 0, [.int .i64 0, .int .i64 0], []⟩ := by
    rw [get_merge, ← hn11]
    exact (AS.get_new σ10.reset _ σ10.reset.next).trans (if_pos rfl)
  have hAn : n11 < (σ10.merge (σ10.reset.new ⟨1, 27, 0, [.int .i64 0, .int .i64 0], []⟩)).next := by rw [← hn11]; exact Nat.lt_succ_self _
  generalize σ10.merge (σ10.reset.new ⟨1, 27, 0, [.int .i64 0, .int .i64 0], []⟩) = σ11 at eN hA hAn
  refine Lg_store (b := n11) (off := 0) (v := vArc y) (by simp +decide only [aev, rget_rput, if_true, if_false]) (by simp +decide only [aev, rget_rput, if_true, if_false]) (store27g (σ := σ11.reset) hA) (fun y hy => by rw [AS.get_put, if_neg (fun e => hy e.symm)]; rfl) (by kernel_rfl) (by kernel_rfl) (by kernel_rfl) ?_
  have eP := ext_put_merge eN (i := n11) (by omega) ⟨1, 27, 0, (vArc y).cells.toList, []⟩
  have AY : ArcAt (σ11.merge (σ11.reset.put n11 ⟨1, 27, 0, (vArc y).cells.toList, []⟩)) n11 y := ⟨hAn, by rw [get_merge, AS.get_put, if_pos rfl]⟩
  have TP := TP.ext eP
  have hE := hE.trans (ExtX.of eP)
  generalize σ11.merge (σ11.reset.put n11 ⟨1, 27, 0, (vArc y).cells.toList, []⟩) = σ12 at AY TP hE
  show W _ _ _ 51 _ _ _ _
  have hO12 := hO.extX hE (by simp; have := TB.lt; omega)
  generalize hn12 : σ12.next = n12
  obtain ⟨o2, σ13, ha2, O2, eE, eL, eG⟩ := (hO12.ext (Ext.new σ12 ⟨1, 27, 0, [.int .i64 y.1, .int .i64 y.2], []⟩)).append (x := .slice (some ⟨n12, 0, none⟩) 1 1) (k := [y]) (X := [tb]) (Src.of (.inr (.inr ⟨n12, 0, 1, rfl, cells_at (by rw [AS.get_new, if_pos hn12]) rfl (Nat.le_refl _)⟩))) (by simp) (by simp; omega) ((EX.trans hE).trans (ExtX.of (Ext.new _ _)))
  have AZ := AY.ext (Ext.new σ12 ⟨1, 27, 0, [.int .i64 y.1, .int .i64 y.2], []⟩)
  have A3 : ArcAt σ13 n11 y := ⟨Nat.lt_of_lt_of_le AZ.lt eL, (eG n11 AZ.lt (by rw [AZ.get]; show (1 : Nat) ≠ 2; decide)).trans AZ.get⟩
  have TZ := TP.ext (Ext.new σ12 ⟨1, 27, 0, [.int .i64 y.1, .int .i64 y.2], []⟩)
  have T3 := TZ.keep TB eE (eG tb TZ.lt (by obtain ⟨pos, e, _⟩ := TZ.own; rw [e]; show (1 : Nat) ≠ 2; decide))
  repeat apply W_assoc
  apply W_reg
  · intro callf
    simp +decide only [aOps, aWanted, ↓bite_eq, ↓reduceIte, aStep_eq, aStepOld, aOp, opCall, opLoad, opBuildSlice, aev, aevs, aparts, ann, aPut, rget_rput, aBuiltin, h9, AY.load, slice22, hn12, ha2]
    rfl
  refine W_tail ?_
  repeat apply W_assoc
  apply W_reg
  · intro callf
    simp +decide only [aOps, aWanted, ↓bite_eq, ↓reduceIte, aStep_eq, aStepOld, aOp, opFieldAddr, opLoad, aev, ann, aPut, rget_rput, Nat.zero_add, fld1, A3.to]
    rfl
  refine W_skip ⟨fun _ => ?_, fun h => absurd rfl h⟩
  refine W_tail ?_
  have w1 : IntKind.i64.wrap ((c : Int) - 1) = ((c - 1 : Nat) : Int) := by rw [wrap64_id _ (by omega) (by omega)]; omega
  have hyt := (GC.row l hlm).2 y (List.mem_of_getElem? hy)
  repeat apply W_assoc
  apply W_reg
  · intro callf
    simp +decide only [aOps, aWanted, ↓bite_eq, ↓reduceIte, aStep_eq, aStepOld, aOp, opBin, aev, ann, aPut, rget_rput, h10, w1, aBin, aInts, aInt_eq]
    rfl
  refine W_skip ⟨fun _ => ⟨(c - 1, y.2.toNat, out ++ [y]), ?_, ?_⟩, fun h => (nomatch h), fun h => absurd rfl h⟩
  · show c - 1 < c
    omega
  · refine ⟨by show c - 1 + (out ++ [y]).length ≤ 3; simp; omega, by show y.2.toNat < _; omega, ?_, ?_, ?_, ?_, ?_, ⟨_, rfl, ?_⟩, T3.up (by simp; omega), eE⟩
    · intro a ha
      rcases List.mem_append.1 ha with ha | ha
      · exact ho a ha
      · rw [List.mem_singleton.1 ha]; exact hyt
    · simp +decide only [rget_rput, if_false, h0]
    · simp +decide only [rget_rput, if_true, if_false]
      rw [show ((y.2.toNat : Nat) : Int) = y.2 by omega]
    · simp +decide only [rget_rput, if_false, h5]
    · simp +decide only [rget_rput, if_true, if_false]
    · simp +decide only [rget_rput, if_true, if_false]
      exact O2

end Go.Proofs.Ytbknckiapcafdaa.Nest
