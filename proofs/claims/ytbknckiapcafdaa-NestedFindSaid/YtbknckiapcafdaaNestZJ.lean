/- A calm system (function 13). -/
import Derived.Test.YtbknckiapcafdaaNestZI
set_option linter.unusedSimpArgs false
set_option linter.unusedVariables false
namespace Go.Proofs.Ytbknckiapcafdaa.Nest
open Abs Abs2

theorem OutN.app {σ0 σ : AS} {v x : Value} {m k : List Arc} (h : OutN σ0 σ v m) (hx : Src σ x k) (hk : k ≠ []) (hn : m.length + k.length ≤ 1000000) (hE : Ext σ0 σ) :
    ∃ v' σ', aAppend Try.prog σ #[22, 22] v x = some (v', σ') ∧ OutN σ0 σ' v' (m ++ k) ∧ Ext σ0 σ' := by
  obtain ⟨v', σ', h1, h2, h3, -, -⟩ := h.append (X := []) hx hk hn (.of hE)
  exact ⟨v', σ', h1, h2, ⟨h3.nxt, fun i hi => h3.get i hi (by simp), fun m g1 g2 => h3.low m g1 g2 (by simp)⟩⟩

set_option maxHeartbeats 16000000 in
theorem calm (ch : GenC 11 2000 600) : GenC 13 2000 600 := by
  intro σ tb k n hT hk hn1 hn2
  refine C_of (kn (by decide)) Try.func13 rfl (Nat.le_of_ble_eq_true rfl) ?_
  show W _ _ _ 69 _ _ _ _
  unfold Try.f13
  dsimp only
  repeat apply W_assoc
  apply W_reg
  · intro callf
    simp +decide only [aOps, rinit, aWanted, ↓bite_eq, ↓reduceIte, aStep_eq, aStepOld, aOp, aPut, Nat.zero_add, alloc30]
    rfl
  have E0 : Ext σ (σ.new ⟨1, 30, 0, [.slice none 0 0], []⟩) := Ext.new _ _
  have BR : BoxAt (σ.new ⟨1, 30, 0, [.slice none 0 0], []⟩) σ.next (.slice none 0 0) := ⟨Nat.lt_succ_self _, by rw [AS.get_new, if_pos rfl]⟩
  have T0 := hT.ext E0
  have htb : tb < σ.next := hT.lt
  generalize σ.new ⟨1, 30, 0, [.slice none 0 0], []⟩ = σ1 at E0 BR T0
  repeat apply W_assoc
  apply W_regL
  apply Ls_pre 2
  · intro callf
    simp +decide only [List.take, aOps, aWanted, ↓bite_eq, ↓reduceIte, aStep_eq, aStepOld, aOp, aev, ann, aPut, rget_rput]
    rfl
  dsimp only [List.drop]
  refine Ls_fn (vs := [.pointer (some ⟨tb, 0, none⟩), .int .i64 n]) (by simp +decide only [aevs, aev, rget_rput, if_true, if_false]) (by decide) (C.mono (ch T0 hk hn1 hn2) ?_)
  rintro v σ' ⟨lb, L0, cap, rfl, hlb, TP, EX, GN, hL1, hL2⟩
  have hlb2 : σ.next < lb := Nat.lt_of_lt_of_le BR.lt hlb
  have BR := BR.extX EX (by simp; omega)
  generalize hb5 : σ'.next = b5
  have hl5 : lb < b5 := hb5 ▸ GN.lt
  apply Ls_all
  · intro callf
    simp +decide only [aOps, aWanted, ↓bite_eq, ↓reduceIte, aStep_eq, aStepOld, aOp, opStore, aev, unn, aPut, rget_rput, alloc30, hb5, store30 (σ := σ'.new ⟨1, 30, 0, [.slice none 0 0], []⟩) (b := b5) (x := .slice none 0 0) (by rw [AS.get_new, if_pos hb5])]
    rfl
  have e1 : Ext σ' ((σ'.new ⟨1, 30, 0, [.slice none 0 0], []⟩).put b5 ⟨1, 30, 0, [.slice (some ⟨lb, 0, none⟩) L0.length cap], []⟩) := Ext.put (Ext.new _ _) (by omega) _
  have BX : BoxAt ((σ'.new ⟨1, 30, 0, [.slice none 0 0], []⟩).put b5 ⟨1, 30, 0, [.slice (some ⟨lb, 0, none⟩) L0.length cap], []⟩) b5 (.slice (some ⟨lb, 0, none⟩) L0.length cap) := ⟨by rw [← hb5]; exact Nat.lt_succ_self _, by rw [AS.get_put, if_pos rfl]⟩
  have BR := BR.ext e1
  have TP := TP.ext e1
  have GN := GN.ext e1
  have EX := EX.trans (ExtX.of e1)
  have hlt0 := e1.nxt
  generalize (σ'.new ⟨1, 30, 0, [.slice none 0 0], []⟩).put b5 ⟨1, 30, 0, [.slice (some ⟨lb, 0, none⟩) L0.length cap], []⟩ = σ2 at e1 BX BR TP GN EX hlt0
  repeat apply W_assoc
  apply W_reg
  · intro callf
    simp +decide only [aOps, aWanted, ↓bite_eq, ↓reduceIte, aStep_eq, aStepOld, aOp, aev, ann, aPut]
    rfl
  repeat apply W_assoc
  refine W_for (fun (x : Nat × Lts) r σ' => x.1 ≤ L0.length ∧ x.2.length = L0.length ∧ rget r 4 = .pointer (some ⟨σ.next, 0, none⟩) ∧ rget r 5 = .pointer (some ⟨b5, 0, none⟩) ∧ rget r 6 = .int .i64 (x.1 : Int) ∧
      Tape tb σ' (k + 2000) ∧ Gen tb lb σ' x.2 600 ∧ BoxAt σ' b5 (.slice (some ⟨lb, 0, none⟩) L0.length cap) ∧ BoxAt σ' σ.next (.slice none 0 0) ∧ ExtX [tb, lb] σ2 σ')
    (fun x => L0.length - x.1) ?_ (0, L0) ?_
  rotate_left
  · simp +decide only [rget_rput, if_true, if_false]
    refine ⟨Nat.zero_le _, ?_, ?_, ?_, ?_, TP, GN, BX, BR, ExtX.refl _ _⟩ <;> first | trivial | rfl
  rintro ⟨i, L⟩ r σ3 ⟨hi, hL, h4, h5, h6, TP, GN, BX, BR, EY⟩
  dsimp only at hi hL h6 TP GN
  have w1 : IntKind.i64.wrap ((i : Int) + 1) = ((i + 1 : Nat) : Int) := by rw [wrap64_id _ (by omega) (by omega)]; omega
  by_cases hlt : i < L0.length
  rotate_left
  · have d1 : decide ((i : Int) < (L0.length : Int)) = false := decide_eq_false (by omega)
    repeat apply W_assoc
    apply W_reg
    · intro callf
      simp +decide only [aOps, aWanted, ↓bite_eq, ↓reduceIte, aStep_eq, aStepOld, aOp, opBin, opCall, opFieldAddr, opLoad, aev, aevs, ann, aPut, rget_rput, aBuiltin, aLen, List.getElem?_toArray, List.getElem?_cons_zero, h5, h6, d1, fldL, BX.out, Try.underlying28, goInt, aBin, aInts, aInt_eq]
      rfl
    repeat apply W_assoc
    refine W_if (b := false) ?_ ?_ ?_
    · simp +decide only [aev, rget_rput, if_true, if_false]
    · intro h; cases h
    intro _
    refine W_exitq ⟨fun h => (nomatch h), fun _ => ?_, fun h1 h2 => absurd rfl h2⟩
    repeat apply W_assoc
    apply W_reg
    · intro callf
      simp +decide only [aOps, aWanted, ↓bite_eq, ↓reduceIte, aStep_eq, aStepOld, aOp, opLoad, opStore, aev, ann, unn, aPut, rget_rput, h4, h5, BX.load, store30 BR.get]
      rfl
    have EZ : ExtX [tb, lb, σ.next] σ1 (σ3.put σ.next ⟨1, 30, 0, [.slice (some ⟨lb, 0, none⟩) L0.length cap], []⟩) :=
      ((EX.sub (by simp)).trans (EY.sub (by simp))).put (by simp) _
    have EF : ExtX [tb] σ (σ3.put σ.next ⟨1, 30, 0, [.slice (some ⟨lb, 0, none⟩) L0.length cap], []⟩) := (ExtX.of E0).drop (lb := lb) EZ (by simp; omega)
    have GF := (GN.box (B := ⟨1, 30, 0, [.slice (some ⟨lb, 0, none⟩) L0.length cap], []⟩) BR (by omega) (by omega)).up (m' := 600) (by omega)
    have TF := (TP.box (B := ⟨1, 30, 0, [.slice (some ⟨lb, 0, none⟩) L0.length cap], []⟩) BR (by omega) (by intro x h; cases h)).up (k' := k + 2000) (by omega)
    have BF : BoxAt (σ3.put σ.next ⟨1, 30, 0, [.slice (some ⟨lb, 0, none⟩) L0.length cap], []⟩) σ.next (.slice (some ⟨lb, 0, none⟩) L0.length cap) := ⟨BR.lt, by rw [AS.get_put, if_pos rfl]⟩
    generalize σ3.put σ.next ⟨1, 30, 0, [.slice (some ⟨lb, 0, none⟩) L0.length cap], []⟩ = σF at EF GF TF BF
    refine W_ret ⟨Nat.le_refl _, [.agg #[.slice (some ⟨lb, 0, none⟩) L0.length cap]], ?_, ?_⟩
    · simp +decide only [aResults, rget_rput, if_false, h4, BF.load]
    · exact ⟨lb, L, cap, by rw [hL]; rfl, by omega, TF, EF, GF, by omega, by omega⟩
  have d1 : decide ((i : Int) < (L0.length : Int)) = true := decide_eq_true (by omega)
  repeat apply W_assoc
  apply W_reg
  · intro callf
    simp +decide only [aOps, aWanted, ↓bite_eq, ↓reduceIte, aStep_eq, aStepOld, aOp, opBin, opCall, opFieldAddr, opLoad, aev, aevs, ann, aPut, rget_rput, aBuiltin, aLen, List.getElem?_toArray, List.getElem?_cons_zero, h5, h6, d1, fldL, BX.out, Try.underlying28, goInt, aBin, aInts, aInt_eq]
    rfl
  repeat apply W_assoc
  refine W_if (b := true) ?_ ?_ ?_
  · simp +decide only [aev, rget_rput, if_true, if_false]
  rotate_left
  · intro h; cases h
  intro _
  apply W_skipq
  refine W_blk ?_
  obtain ⟨v, l, hl, hlm, hg, hld⟩ := GN.at (i := i) (by omega)
  obtain ⟨vb, vc, rfl⟩ := hg.slice
  have hrs := hg.shown.rs
  have hll := (GN.row l hlm).1
  repeat apply W_assoc
  apply W_reg
  · intro callf
    simp +decide only [aOps, aWanted, ↓bite_eq, ↓reduceIte, aStep_eq, aStepOld, aOp, aev, ann, aPut]
    rfl
  repeat apply W_assoc
  apply W_reg
  · intro callf
    simp +decide only [aOps, aWanted, ↓bite_eq, ↓reduceIte, aStep_eq, aStepOld, aOp, aev, ann, aPut]
    rfl
  repeat apply W_assoc
  refine W_forM (fun (x : Nat × List Arc) r σ' => x.1 ≤ l.length ∧ x.2.length ≤ x.1 ∧ (∀ y ∈ x.2, y ∈ l) ∧ Ext σ3 σ' ∧ rget r 4 = .pointer (some ⟨σ.next, 0, none⟩) ∧ rget r 5 = .pointer (some ⟨b5, 0, none⟩) ∧ rget r 6 = .int .i64 (i : Int) ∧ rget r 8 = .int .i64 (x.1 : Int) ∧ ∃ v, rget r 7 = v ∧ OutN σ3 σ' v x.2)
    (fun x => l.length - x.1) (fun r σ' => ∃ m : List Arc, m.length ≤ l.length ∧ (∀ y ∈ m, y ∈ l) ∧ Ext σ3 σ' ∧ rget r 4 = .pointer (some ⟨σ.next, 0, none⟩) ∧ rget r 5 = .pointer (some ⟨b5, 0, none⟩) ∧ rget r 6 = .int .i64 (i : Int) ∧ ∃ v, rget r 7 = v ∧ OutN σ3 σ' v m) ?_ ?_ (0, []) ?_
  rotate_left 2
  · simp +decide only [rget_rput, if_true, if_false, h4, h5, h6]
    refine ⟨?_, ?_, ?_, Ext.refl _, ?_, ?_, ?_, ?_, _, rfl, .inl ⟨rfl, rfl⟩⟩ <;> first | exact True.intro | rfl | simp
  rotate_left
  · clear h4 h5 h6
    rintro r σ4 ⟨m, hm, hml, e4, h4, h5, h6, ov, h7, hO⟩
    have hO2 := hO.row (X := [tb, lb]) (by have := TP.lt; have := GN.lt; simp; omega)
    have BX4 := BX.ext e4
    have GN4 := GN.ext e4
    obtain ⟨ob, oc, hov⟩ := hO2.slice
    obtain ⟨rows, hr1, hr2, hr3, hr4⟩ := GN4.set (i := i) hO2 (by omega) (fun a ha => (GN.row l hlm).2 a (hml a ha))
    have hst := store22 hov hr1 (i := i) (by omega)
    have TP4 := (TP.ext e4).put (B := ⟨1, 22, 0, rows.set i ov, []⟩) GN4.ne GN4.ints
    refine W_tail ?_
    repeat apply W_assoc
    apply W_reg
    · intro callf
      simp +decide only [aOps, aWanted, ↓bite_eq, ↓reduceIte, aStep_eq, aStepOld, aOp, opIndexAddr, opFieldAddr, opLoad, opStore, aev, ann, unn, aPut, rget_rput, Nat.zero_add, h5, h6, h7, fldL, BX4.out, idx28g (show i < L0.length by omega), Nat.zero_add, hst]
      rfl
    have BX5 := BX4.extX hr4 (by simp; omega)
    have BR5 := (BR.ext e4).extX hr4 (by simp; omega)
    generalize σ4.put lb ⟨1, 22, 0, rows.set i ov, []⟩ = σ5 at hr3 hr4 TP4 BX5 BR5
    refine W_skip ⟨fun _ => ?_, fun h => absurd rfl h⟩
    refine W_tail ?_
    repeat apply W_assoc
    apply W_reg
    · intro callf
      simp +decide only [aOps, aWanted, ↓bite_eq, ↓reduceIte, aStep_eq, aStepOld, aOp, opBin, aev, ann, aPut, rget_rput, h6, w1, aBin, aInts, aInt_eq]
      rfl
    refine W_skip ⟨fun _ => ⟨(i + 1, L.set i m), ?_, ?_⟩, fun h => (nomatch h), fun h => absurd rfl h⟩
    · show L0.length - (i + 1) < L0.length - i
      omega
    · refine ⟨by show i + 1 ≤ L0.length; omega, by show (L.set i m).length = _; rw [List.length_set]; exact hL, ?_, ?_, ?_, TP4, hr3, BX5, BR5, (EY.trans (ExtX.of e4)).trans hr4⟩
      all_goals simp +decide only [rget_rput, if_true, if_false, h4, h5]
  clear h4 h5 h6
  rintro ⟨j, m⟩ r σ4 ⟨hj, hm, hml, e4, h4, h5, h6, h8, ov, h7, hO⟩
  dsimp only at hj hm hml h8 hO
  have BX4 := BX.ext e4
  have hld4 := hld _ (ExtX.of e4)
  have w2 : IntKind.i64.wrap ((j : Int) + 1) = ((j + 1 : Nat) : Int) := by rw [wrap64_id _ (by omega) (by omega)]; omega
  by_cases hjl : j < l.length
  rotate_left
  · have d2 : decide ((j : Int) < (l.length : Int)) = false := decide_eq_false (by omega)
    repeat apply W_assoc
    apply W_reg
    · intro callf
      simp +decide only [aOps, aWanted, ↓bite_eq, ↓reduceIte, aStep_eq, aStepOld, aOp, opBin, opCall, opIndexAddr, opFieldAddr, opLoad, aev, aevs, ann, aPut, rget_rput, aBuiltin, aLen, List.getElem?_toArray, List.getElem?_cons_zero, Nat.zero_add, h5, h6, h8, d2, fldL, BX4.out, hld4, idx28g (show i < L0.length by omega), Nat.zero_add, Try.underlying22, goInt, aBin, aInts, aInt_eq]
      rfl
    repeat apply W_assoc
    refine W_if (b := false) ?_ ?_ ?_
    · simp +decide only [aev, rget_rput, if_true, if_false]
    · intro h; cases h
    intro _
    refine W_exitq ⟨fun h => (nomatch h), fun _ => ⟨m, by omega, hml, e4, ?_, ?_, ?_, ov, ?_, hO⟩, fun h1 h2 => absurd rfl h2⟩ <;> simp +decide only [rget_rput, if_false, h4, h5, h6, h7]
  have d2 : decide ((j : Int) < (l.length : Int)) = true := decide_eq_true (by omega)
  repeat apply W_assoc
  apply W_reg
  · intro callf
    simp +decide only [aOps, aWanted, ↓bite_eq, ↓reduceIte, aStep_eq, aStepOld, aOp, opBin, opCall, opIndexAddr, opFieldAddr, opLoad, aev, aevs, ann, aPut, rget_rput, aBuiltin, aLen, List.getElem?_toArray, List.getElem?_cons_zero, Nat.zero_add, h5, h6, h8, d2, fldL, BX4.out, hld4, idx28g (show i < L0.length by omega), Nat.zero_add, Try.underlying22, goInt, aBin, aInts, aInt_eq]
    rfl
  repeat apply W_assoc
  refine W_if (b := true) ?_ ?_ ?_
  · simp +decide only [aev, rget_rput, if_true, if_false]
  rotate_left
  · intro h; cases h
  intro _
  apply W_skipq
  refine W_blk ?_
  obtain ⟨a, ha⟩ : ∃ a, l[j]? = some a := ⟨l[j], by simp [hjl]⟩
  obtain ⟨-, ab, aoff, rfl, -, hat⟩ := arcOf hrs ha
  obtain ⟨hat1, hat2, hat3⟩ := hat _ e4
  have nextM : ∀ (r : Regs) (m' : List Arc) (σ5 : AS), Ext σ3 σ5 → m'.length ≤ j + 1 → (∀ y ∈ m', y ∈ l) → rget r 4 = .pointer (some ⟨σ.next, 0, none⟩) → rget r 5 = .pointer (some ⟨b5, 0, none⟩) → rget r 6 = .int .i64 (i : Int) → rget r 8 = .int .i64 ((j + 1 : Nat) : Int) → OutN σ3 σ5 (rget r 7) m' →
      ∃ a' : Nat × List Arc, l.length - a'.1 < l.length - j ∧ (a'.1 ≤ l.length ∧ a'.2.length ≤ a'.1 ∧ (∀ y ∈ a'.2, y ∈ l) ∧ Ext σ3 σ5 ∧ rget r 4 = .pointer (some ⟨σ.next, 0, none⟩) ∧ rget r 5 = .pointer (some ⟨b5, 0, none⟩) ∧ rget r 6 = .int .i64 (i : Int) ∧ rget r 8 = .int .i64 (a'.1 : Int) ∧ ∃ v, rget r 7 = v ∧ OutN σ3 σ5 v a'.2) :=
    fun r m' σ5 g1 g2 g3 g4 g5 g6 g8 g7 => ⟨(j + 1, m'), by show l.length - (j + 1) < _; omega, by show j + 1 ≤ _; omega, g2, g3, g1, g4, g5, g6, g8, _, rfl, g7⟩
  have hB : (σ4.new ⟨1, 27, 0, [.int .i64 a.1, .int .i64 a.2], []⟩).get σ4.next = ⟨1, 27, 0, [.int .i64 a.1, .int .i64 a.2], []⟩ := by rw [AS.get_new, if_pos rfl]
  obtain ⟨o2, σ5, ha2, O2, e5⟩ := (hO.ext (Ext.new σ4 ⟨1, 27, 0, [.int .i64 a.1, .int .i64 a.2], []⟩)).app (x := .slice (some ⟨σ4.next, 0, none⟩) 1 1) (k := [a]) (Src.of (.inr (.inr ⟨σ4.next, 0, 1, rfl, cells_at hB rfl (Nat.le_refl _)⟩))) (by simp) (by simp; omega) (e4.trans (Ext.new _ _))
  refine W_tail ?_
  by_cases hev : a.1 = 0
  rotate_left
  · have d3 : (a.1 != 0) = true := by rw [bne_iff_ne]; exact hev
    repeat apply W_assoc
    apply W_reg
    · intro callf
      simp +decide only [aOps, aWanted, ↓bite_eq, ↓reduceIte, aStep_eq, aStepOld, aOp, opBin, opIndexAddr, opFieldAddr, opLoad, opPick, aev, ann, aPut, rget_rput, List.getElem?_toArray, List.getElem?_cons_zero, List.getElem?_cons_succ, Nat.zero_add, Option.bind_some, Bool.true_beq, h5, h6, h8, d3, fldL, BX4.out, hld4, idx28g (show i < L0.length by omega), idx22 hjl, fld0, hat2, Nat.zero_add, opPick, aBin, aInts, aInt_eq]
      rfl
    repeat apply W_assoc
    refine W_if (b := true) ?_ ?_ ?_
    · simp +decide only [aev, rget_rput, if_true, if_false]
    rotate_left
    · intro h; cases h
    intro _
    repeat apply W_assoc
    apply W_reg
    · intro callf
      simp +decide only [aOps, aWanted, ↓bite_eq, ↓reduceIte, aStep_eq, aStepOld, aOp, opCall, opIndexAddr, opFieldAddr, opLoad, opBuildSlice, aev, aevs, aparts, ann, aPut, rget_rput, aBuiltin, Nat.zero_add, h5, h6, h7, h8, fldL, BX4.out, hld4, idx28g (show i < L0.length by omega), idx22 hjl, hat1, Nat.zero_add, slice22, ha2]
      rfl
    refine W_skip ⟨fun _ => ?_, fun h => absurd rfl h⟩
    refine W_tail ?_
    repeat apply W_assoc
    apply W_reg
    · intro callf
      simp +decide only [aOps, aWanted, ↓bite_eq, ↓reduceIte, aStep_eq, aStepOld, aOp, opBin, aev, ann, aPut, rget_rput, h8, w2, aBin, aInts, aInt_eq]
      rfl
    refine W_skip ⟨fun _ => nextM _ (m ++ [a]) σ5 e5 (by simp; omega) (fun y hy => ?_) ?_ ?_ ?_ ?_ ?_, fun h => (nomatch h), fun h => absurd rfl h⟩
    · rcases List.mem_append.1 hy with h | h
      · exact hml y h
      · rw [List.mem_singleton.1 h]; exact List.mem_of_getElem? ha
    all_goals simp +decide only [rget_rput, if_true, if_false, h4, h5, h6]
    exact O2
  have d3 : (a.1 != 0) = false := by rw [bne_eq_false_iff_eq]; exact hev
  by_cases hgt : a.2 > (i : Int)
  · have d4 : decide (a.2 > (i : Int)) = true := decide_eq_true hgt
    repeat apply W_assoc
    apply W_reg
    · intro callf
      simp +decide only [aOps, aWanted, ↓bite_eq, ↓reduceIte, aStep_eq, aStepOld, aOp, opBin, opIndexAddr, opFieldAddr, opLoad, opPick, aev, ann, aPut, rget_rput, List.getElem?_toArray, List.getElem?_cons_zero, List.getElem?_cons_succ, Nat.zero_add, Option.bind_some, beq_self_eq_true, h5, h6, h8, d3, d4, fldL, BX4.out, hld4, idx28g (show i < L0.length by omega), idx22 hjl, fld0, fld1, hat2, hat3, Nat.zero_add, opPick, aBin, aInts, aInt_eq]
      rfl
    repeat apply W_assoc
    refine W_if (b := true) ?_ ?_ ?_
    · simp +decide only [aev, rget_rput, if_true, if_false]
    rotate_left
    · intro h; cases h
    intro _
    repeat apply W_assoc
    apply W_reg
    · intro callf
      simp +decide only [aOps, aWanted, ↓bite_eq, ↓reduceIte, aStep_eq, aStepOld, aOp, opCall, opIndexAddr, opFieldAddr, opLoad, opBuildSlice, aev, aevs, aparts, ann, aPut, rget_rput, aBuiltin, Nat.zero_add, h5, h6, h7, h8, fldL, BX4.out, hld4, idx28g (show i < L0.length by omega), idx22 hjl, hat1, Nat.zero_add, slice22, ha2]
      rfl
    refine W_skip ⟨fun _ => ?_, fun h => absurd rfl h⟩
    refine W_tail ?_
    repeat apply W_assoc
    apply W_reg
    · intro callf
      simp +decide only [aOps, aWanted, ↓bite_eq, ↓reduceIte, aStep_eq, aStepOld, aOp, opBin, aev, ann, aPut, rget_rput, h8, w2, aBin, aInts, aInt_eq]
      rfl
    refine W_skip ⟨fun _ => nextM _ (m ++ [a]) σ5 e5 (by simp; omega) (fun y hy => ?_) ?_ ?_ ?_ ?_ ?_, fun h => (nomatch h), fun h => absurd rfl h⟩
    · rcases List.mem_append.1 hy with h | h
      · exact hml y h
      · rw [List.mem_singleton.1 h]; exact List.mem_of_getElem? ha
    all_goals simp +decide only [rget_rput, if_true, if_false, h4, h5, h6]
    exact O2
  have d4 : decide (a.2 > (i : Int)) = false := decide_eq_false hgt
  repeat apply W_assoc
  apply W_reg
  · intro callf
    simp +decide only [aOps, aWanted, ↓bite_eq, ↓reduceIte, aStep_eq, aStepOld, aOp, opBin, opIndexAddr, opFieldAddr, opLoad, opPick, aev, ann, aPut, rget_rput, List.getElem?_toArray, List.getElem?_cons_zero, List.getElem?_cons_succ, Nat.zero_add, Option.bind_some, beq_self_eq_true, h5, h6, h8, d3, d4, fldL, BX4.out, hld4, idx28g (show i < L0.length by omega), idx22 hjl, fld0, fld1, hat2, hat3, Nat.zero_add, opPick, aBin, aInts, aInt_eq]
    rfl
  repeat apply W_assoc
  refine W_if (b := false) ?_ ?_ ?_
  · simp +decide only [aev, rget_rput, if_true, if_false]
  · intro h; cases h
  intro _
  apply W_skipq
  refine W_skip ⟨fun _ => ?_, fun h => absurd rfl h⟩
  refine W_tail ?_
  repeat apply W_assoc
  apply W_reg
  · intro callf
    simp +decide only [aOps, aWanted, ↓bite_eq, ↓reduceIte, aStep_eq, aStepOld, aOp, opBin, aev, ann, aPut, rget_rput, h8, w2, aBin, aInts, aInt_eq]
    rfl
  refine W_skip ⟨fun _ => nextM _ m σ4 e4 (by omega) hml ?_ ?_ ?_ ?_ ?_, fun h => (nomatch h), fun h => absurd rfl h⟩
  all_goals simp +decide only [rget_rput, if_true, if_false, h4, h5, h6, h7]
  exact hO

end Go.Proofs.Ytbknckiapcafdaa.Nest
