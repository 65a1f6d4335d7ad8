/- A system that is generated (function 15). -/
import Derived.Test.YtbknckiapcafdaaNestP
set_option linter.unusedSimpArgs false
set_option linter.unusedVariables false
namespace Go.Proofs.Ytbknckiapcafdaa.Nest
open Abs Abs2

theorem map_range_const {α β : Type} (f : α → β) (c : β) (g : Nat → α) (h : ∀ i, f (g i) = c) (n : Nat) : (((Array.range n).map fun i => f (g i))).toList = List.replicate n c := by
  rw [Array.toList_map, List.eq_replicate_iff]
  refine ⟨by simp, fun b hb => ?_⟩
  obtain ⟨i, _, rfl⟩ := List.mem_map.1 hb
  exact h i

theorem info22 : ∃ inf, Try.prog.info? 22 = some inf ∧ inf.size = 1 ∧ inf.bytes = 24 ∧ inf.zero = some (.slice none 0 0) :=
  ⟨(Try.prog.info? 22).get!, by kernel_rfl, by kernel_rfl, by kernel_rfl, by kernel_rfl⟩

theorem make28 {σ : AS} {N : Nat} (h : N ≤ 1000000) : aMakeSlice Try.prog σ 28 (.int .i64 (N : Int)) (.int .i64 (N : Int)) = some (.slice (some ⟨σ.next, 0, none⟩) N N, σ.new ⟨1, 22, 0, List.replicate N (.slice none 0 0), []⟩) := by
  obtain ⟨inf, h1, h2, h3, h4⟩ := info22
  unfold aMakeSlice
  simp only [Try.underlying28, h1, h2, h3, h4]
  rw [if_pos ⟨by omega, by omega, by omega, by omega, rfl, by decide⟩]
  have e : ((Array.range ((N : Int).toNat * 1)).map fun i => (Value.slice none 0 0).cells[i % (Value.slice none 0 0).cells.size]!).toList = List.replicate N (.slice none 0 0) := by
    rw [Nat.mul_one]
    exact map_range_const (fun v : Value => v) (.slice none 0 0) (fun i => (Value.slice none 0 0).cells[i % (Value.slice none 0 0).cells.size]!) (fun i => by
      have : i % (Value.slice none 0 0).cells.size = 0 := Nat.mod_one i
      rw [this]; rfl) N
  rw [e]
  rfl

set_option maxHeartbeats 8000000 in
theorem lts : GenC 15 1000 400 GoodL := by
  intro σ tb k n hT hk hn1 hn2
  refine C_of (kn (by decide)) Try.func15 rfl (Nat.le_of_ble_eq_true rfl) ?_
  show W _ _ _ 46 _ _ _ _
  unfold Try.f15
  dsimp only
  repeat apply W_assoc
  apply W_reg
  · intro callf
    simp +decide only [aOps, rinit, aWanted, ↓bite_eq, ↓reduceIte, aStep_eq, aStepOld, aOp, aPut, Nat.zero_add, alloc30]
    rfl
  have E0 : Ext σ (σ.new ⟨1, 30, 0, [.slice none 0 0], []⟩) := Ext.new _ _
  have BR : BoxAt (σ.new ⟨1, 30, 0, [.slice none 0 0], []⟩) σ.next (.slice none 0 0) := ⟨Nat.lt_succ_self _, by rw [AS.get_new, if_pos rfl]⟩
  have T0 := hT.ext E0
  have htb : tb < σ.next := hT.lt
  generalize σ.new ⟨1, 30, 0, [.slice none 0 0], []⟩ = σ1 at E0 BR T0
  repeat apply W_assoc
  apply W_regL
  apply Ls_pre 2
  · intro callf
    simp +decide only [List.take, aOps, aWanted, ↓bite_eq, ↓reduceIte, aStep_eq, aStepOld, aOp, aev, ann, aPut, rget_rput]
    rfl
  dsimp only [List.drop]
  refine Ls_fn (vs := [.pointer (some ⟨tb, 0, none⟩), .int .i64 n]) (by simp +decide only [aevs, aev, rget_rput, if_true, if_false]) (by decide) (C.mono (next_tape T0 (by omega) (by omega)) ?_)
  rintro v σ' ⟨⟨m, rfl, hm⟩, TP, EX⟩
  obtain ⟨hm0, hm1⟩ := hm hn1
  obtain ⟨N, hN⟩ : ∃ N : Nat, (N : Int) = 1 + m := ⟨(1 + m).toNat, by omega⟩
  have w0 : IntKind.i64.wrap (1 + m) = (N : Int) := by rw [wrap64_id _ (by omega) (by omega)]; omega
  have BR := BR.extX EX (by simp; omega)
  generalize hlb : σ'.next = lb
  have hlb2 : σ.next < lb := by have := EX.nxt; have := BR.lt; omega
  have hNX : (σ'.new ⟨1, 22, 0, List.replicate N (.slice none 0 0), []⟩).next = lb + 1 := by rw [← hlb]; rfl
  have bl30 : aBuild Try.prog 30 [(0, .slice (some ⟨lb, 0, none⟩) N N)] = some (.agg #[.slice (some ⟨lb, 0, none⟩) N N]) := by kernel_rfl
  apply Ls_all
  · intro callf
    simp +decide only [aOps, aWanted, ↓bite_eq, ↓reduceIte, aStep_eq, aStepOld, aOp, opBin, opStore, opBuild, aev, aparts, ann, unn, aPut, rget_rput, opMakeSlice, w0, make28 (show N ≤ 1000000 by omega), hlb, bl30, alloc30, hNX, store30 (σ := (σ'.new ⟨1, 22, 0, List.replicate N (.slice none 0 0), []⟩).new ⟨1, 30, 0, [.slice none 0 0], []⟩) (b := lb + 1) (x := .slice none 0 0) (by rw [AS.get_new, if_pos hNX]), aBin, aInts, aInt_eq]
    rfl
  have e1 : Ext σ' (((σ'.new ⟨1, 22, 0, List.replicate N (.slice none 0 0), []⟩).new ⟨1, 30, 0, [.slice none 0 0], []⟩).put (lb + 1) ⟨1, 30, 0, [.slice (some ⟨lb, 0, none⟩) N N], []⟩) := Ext.put ((Ext.new _ _).trans (Ext.new _ _)) (by omega) _
  have BX : BoxAt (((σ'.new ⟨1, 22, 0, List.replicate N (.slice none 0 0), []⟩).new ⟨1, 30, 0, [.slice none 0 0], []⟩).put (lb + 1) ⟨1, 30, 0, [.slice (some ⟨lb, 0, none⟩) N N], []⟩) (lb + 1) (.slice (some ⟨lb, 0, none⟩) N N) := ⟨by rw [← hNX]; exact Nat.lt_succ_self _, by rw [AS.get_put, if_pos rfl]⟩
  have GN : Gen tb lb (((σ'.new ⟨1, 22, 0, List.replicate N (.slice none 0 0), []⟩).new ⟨1, 30, 0, [.slice none 0 0], []⟩).put (lb + 1) ⟨1, 30, 0, [.slice (some ⟨lb, 0, none⟩) N N], []⟩) (List.replicate N []) 0 := by
    refine ⟨by have := BX.lt; omega, by have := TP.lt; omega, ⟨List.replicate N (.slice none 0 0), ?_, by simp, fun i v l hv hl => ?_⟩, fun l hl => ?_⟩
    · rw [AS.get_put, if_neg (by omega), AS.get_new, if_neg (by omega), AS.get_new, if_pos hlb]
    · have h1 := List.eq_of_mem_replicate (List.mem_of_getElem? hv)
      have h2 := List.eq_of_mem_replicate (List.mem_of_getElem? hl)
      exact .inl ⟨h1, h2⟩
    · have h2 := List.eq_of_mem_replicate hl
      subst h2
      exact ⟨Nat.le_refl _, by simp⟩
  have BR := BR.ext e1
  have TP := TP.ext e1
  have EX := EX.trans (ExtX.of e1)
  have hlt0 := e1.nxt
  have hL0 : (List.replicate N ([] : List Arc)).length = N := by simp
  have hGd : GoodL (List.replicate N ([] : List Arc)) := fun l hl => by
    have h2 := List.eq_of_mem_replicate hl
    subst h2
    exact ⟨rfl, by simp⟩
  generalize hb5 : lb + 1 = b5 at e1 BX BR TP GN EX hlt0
  generalize ((σ'.new ⟨1, 22, 0, List.replicate N (.slice none 0 0), []⟩).new ⟨1, 30, 0, [.slice none 0 0], []⟩).put b5 ⟨1, 30, 0, [.slice (some ⟨lb, 0, none⟩) N N], []⟩ = σ2 at e1 BX BR TP GN EX hlt0
  generalize List.replicate N ([] : List Arc) = L0 at GN hL0 hGd
  repeat apply W_assoc
  apply W_reg
  · intro callf
    simp +decide only [aOps, aWanted, ↓bite_eq, ↓reduceIte, aStep_eq, aStepOld, aOp, aev, ann, aPut]
    rfl
  repeat apply W_assoc
  refine W_for (fun (x : Nat × Lts) r σ' => x.1 ≤ N ∧ x.2.length = N ∧ rget r 0 = .pointer (some ⟨tb, 0, none⟩) ∧ rget r 4 = .pointer (some ⟨σ.next, 0, none⟩) ∧ rget r 5 = .pointer (some ⟨b5, 0, none⟩) ∧ rget r 6 = .int .i64 (x.1 : Int) ∧
      Tape tb σ' (k + 1 + 7 * x.1) ∧ Gen tb lb σ' x.2 (3 * x.1) ∧ BoxAt σ' b5 (.slice (some ⟨lb, 0, none⟩) N N) ∧ BoxAt σ' σ.next (.slice none 0 0) ∧ ExtX [tb, lb] σ2 σ' ∧ GoodL x.2)
    (fun x => N - x.1) ?_ (0, L0) ?_
  rotate_left
  · simp +decide only [rget_rput, if_true, if_false]
    refine ⟨Nat.zero_le _, hL0, ?_, ?_, ?_, ?_, TP, GN, BX, BR, ExtX.refl _ _, hGd⟩ <;> first | exact True.intro | (exact congrArg (Value.int .i64) Int.natCast_zero.symm) | rfl
  rintro ⟨i, L⟩ r σ3 ⟨hi, hL, h0, h4, h5, h6, TP, GN, BX, BR, EY, hGd⟩
  dsimp only at hi hL h6 TP GN hGd
  repeat apply W_assoc
  apply W_reg
  · intro callf
    simp +decide only [aOps, aWanted, ↓bite_eq, ↓reduceIte, aStep_eq, aStepOld, aOp, opBin, opCall, opFieldAddr, opLoad, aev, aevs, ann, aPut, rget_rput, aBuiltin, aLen, List.getElem?_toArray, List.getElem?_cons_zero, h5, h6, fldL, BX.out, Try.underlying28, goInt, aBin, aInts, aInt_eq]
    rfl
  repeat apply W_assoc
  refine W_if (b := decide ((i : Int) < (N : Int))) ?_ ?_ ?_
  · simp +decide only [aev, rget_rput, if_true, if_false]
  rotate_left
  · intro hb
    refine W_exitq ⟨fun h => (nomatch h), fun _ => ?_, fun h1 h2 => absurd rfl h2⟩
    repeat apply W_assoc
    apply W_reg
    · intro callf
      simp +decide only [aOps, aWanted, ↓bite_eq, ↓reduceIte, aStep_eq, aStepOld, aOp, opLoad, opStore, aev, ann, unn, aPut, rget_rput, h4, h5, BX.load, store30 BR.get]
      rfl
    have EZ : ExtX [tb, lb, σ.next] σ1 (σ3.put σ.next ⟨1, 30, 0, [.slice (some ⟨lb, 0, none⟩) N N], []⟩) :=
      ((EX.sub (by simp)).trans (EY.sub (by simp))).put (by simp) _
    have EF : ExtX [tb] σ (σ3.put σ.next ⟨1, 30, 0, [.slice (some ⟨lb, 0, none⟩) N N], []⟩) := (ExtX.of E0).drop (lb := lb) EZ (by simp; omega)
    have GF := (GN.box (B := ⟨1, 30, 0, [.slice (some ⟨lb, 0, none⟩) N N], []⟩) BR (by omega) (by omega)).up (m' := 400) (by omega)
    have TF := (TP.box (B := ⟨1, 30, 0, [.slice (some ⟨lb, 0, none⟩) N N], []⟩) BR (by omega) (by intro x h; cases h)).up (k' := k + 1000) (by omega)
    have BF : BoxAt (σ3.put σ.next ⟨1, 30, 0, [.slice (some ⟨lb, 0, none⟩) N N], []⟩) σ.next (.slice (some ⟨lb, 0, none⟩) N N) := ⟨BR.lt, by rw [AS.get_put, if_pos rfl]⟩
    generalize σ3.put σ.next ⟨1, 30, 0, [.slice (some ⟨lb, 0, none⟩) N N], []⟩ = σF at EF GF TF BF
    refine W_ret ⟨Nat.le_refl _, [.agg #[.slice (some ⟨lb, 0, none⟩) N N]], ?_, ?_⟩
    · simp +decide only [aResults, rget_rput, if_false, h4, BF.load]
    · exact ⟨lb, L, N, by rw [hL]; rfl, by omega, TF, EF, GF, by omega, by omega, hGd, by omega⟩
  intro hb
  have hb0 : i < N := by
    have := of_decide_eq_true hb
    omega
  apply W_skipq
  refine W_blk ?_
  repeat apply W_assoc
  apply W_regL
  apply Ls_pre 1
  · intro callf
    simp +decide only [List.take, aOps, aWanted, ↓bite_eq, ↓reduceIte, aStep_eq, aStepOld, aOp, aev, ann, aPut, rget_rput, h0]
    rfl
  dsimp only [List.drop]
  refine Ls_fn (vs := [.pointer (some ⟨tb, 0, none⟩), .int .i64 4]) (by simp +decide only [aevs, aev, rget_rput, if_true, if_false]) (by decide) (C.mono (next_tape TP (by omega) (n := 4) (by omega)) ?_)
  rintro v σ' ⟨⟨m4, rfl, hm4⟩, TP, E4⟩
  obtain ⟨hm40, hm41⟩ := hm4 (by omega)
  obtain ⟨M, rfl⟩ : ∃ M : Nat, m4 = (M : Int) := ⟨m4.toNat, by omega⟩
  have GN := GN.extX E4
  have BX := BX.extX E4 (by simp; omega)
  have BR := BR.extX E4 (by simp; omega)
  have EY := EY.trans (E4.sub (by simp))
  apply Ls_all
  · intro callf
    simp +decide only [aOps, aWanted, ↓bite_eq, ↓reduceIte, aStep_eq, aStepOld, aOp, aev, ann, aPut, rget_rput]
    rfl
  generalize σ' = σ3 at TP GN BX BR EY
  repeat apply W_assoc
  refine W_tail ?_
  repeat apply W_assoc
  refine W_for (fun (x : Nat × Nat × Lts) r σ' => x.1 + x.2.1 ≤ 3 ∧ x.2.2.length = N ∧ rget r 0 = .pointer (some ⟨tb, 0, none⟩) ∧ rget r 4 = .pointer (some ⟨σ.next, 0, none⟩) ∧ rget r 5 = .pointer (some ⟨b5, 0, none⟩) ∧ rget r 6 = .int .i64 (i : Int) ∧ rget r 7 = .int .i64 (x.1 : Int) ∧
      Tape tb σ' (k + 1 + 7 * i + 1 + 2 * x.2.1) ∧ Gen tb lb σ' x.2.2 (3 * i + x.2.1) ∧ BoxAt σ' b5 (.slice (some ⟨lb, 0, none⟩) N N) ∧ BoxAt σ' σ.next (.slice none 0 0) ∧ ExtX [tb, lb] σ2 σ' ∧ GoodL x.2.2)
    (fun x => x.1) ?_ (M, 0, L) ?_
  rotate_left
  · simp +decide only [rget_rput, if_true, if_false]
    refine ⟨by omega, hL, ?_, ?_, ?_, ?_, ?_, TP, GN, BX, BR, EY, hGd⟩ <;> first | exact True.intro | assumption | rfl
  clear TP GN BX BR EY hGd h0 h4 h5 h6 hL
  rintro ⟨c, j, L⟩ r σ3 ⟨hcj, hL, h0, h4, h5, h6, h7, TP, GN, BX, BR, EY, hGd⟩
  dsimp only at hcj hL h7 TP GN hGd
  repeat apply W_assoc
  apply W_reg
  · intro callf
    simp +decide only [aOps, aWanted, ↓bite_eq, ↓reduceIte, aStep_eq, aStepOld, aOp, opBin, aev, ann, aPut, rget_rput, h7, aBin, aInts, aInt_eq]
    rfl
  repeat apply W_assoc
  refine W_if (b := decide ((0 : Int) < (c : Int))) ?_ ?_ ?_
  · simp +decide only [aev, rget_rput, if_true, if_false]
  rotate_left
  · intro hb
    have hb : c = 0 := by
      have := of_decide_eq_false hb
      omega
    refine W_exitq ⟨fun h => (nomatch h), fun _ => ?_, fun h1 h2 => absurd rfl h2⟩
    refine W_skip ⟨fun _ => ?_, fun h => absurd rfl h⟩
    refine W_tail ?_
    repeat apply W_assoc
    apply W_reg
    · intro callf
      simp +decide only [aOps, aWanted, ↓bite_eq, ↓reduceIte, aStep_eq, aStepOld, aOp, opBin, aev, ann, aPut, rget_rput, h6, wrap_add hb0 (show N ≤ 2 ^ 62 by omega), aBin, aInts, aInt_eq]
      rfl
    refine W_skip ⟨fun _ => ⟨(i + 1, L), ?_, ?_⟩, fun h => (nomatch h), fun h => absurd rfl h⟩
    · show N - (i + 1) < N - i
      omega
    · refine ⟨by show i + 1 ≤ N; omega, hL, ?_, ?_, ?_, ?_, TP.up (k' := k + 1 + 7 * (i + 1)) (by omega), GN.up (by show 3 * i + j ≤ 3 * (i + 1); omega), BX, BR, EY, hGd⟩
      all_goals simp +decide only [rget_rput, if_true, if_false, h0, h4, h5]
  intro hb
  have hb : 0 < c := by
    have := of_decide_eq_true hb
    omega
  apply W_skipq
  refine W_blk ?_
  refine W_tail ?_
  obtain ⟨v, l, hl, hlm, hg, hld⟩ := GN.at (i := i) (by omega)
  obtain ⟨vb, vc, hv⟩ := hg.slice
  have hE : ExtX [tb] σ3 σ3 := ExtX.refl _ _
  repeat apply W_assoc
  refine W_drw [1, 4, 7, 12] [b5, lb] (by kernel_rfl) (by kernel_rfl) ?_
  apply Lg_pre 1
  · intro callf
    simp +decide only [List.take, aQ, memb, List.any_nil, List.any_cons, Bool.or_false, Bool.true_and, reset_low, ble_self, aWanted, ↓bite_eq, ↓reduceIte, aStep_eq, aStepOld, aOp, opFieldAddr, aev, ann, aPut, rget_rput, h5, fldL]
    rfl
  dsimp only [List.drop, List.take, List.length]
  have e0 : Ext σ3 (σ3.merge σ3.reset) := (Ext.refl _).merge
  have TP := TP.ext e0
  have GN := GN.ext e0
  have BX := BX.ext e0
  have BR := BR.ext e0
  have hE := hE.trans (ExtX.of e0)
  generalize σ3.merge σ3.reset = σ4 at e0 TP GN BX BR hE
  refine Lg_load (b := b5) (off := 0) (v := .slice (some ⟨lb, 0, none⟩) N N) (by simp +decide only [aev, rget_rput, if_true, if_false]) BX.reset.out (sv_slice GN.lt) BX.lt (by simp [memb]) (by decide) ?_
  have e0 : Ext σ4 (σ4.merge σ4.reset) := (Ext.refl _).merge
  have TP := TP.ext e0
  have GN := GN.ext e0
  have BX := BX.ext e0
  have BR := BR.ext e0
  have hE := hE.trans (ExtX.of e0)
  generalize σ4.merge σ4.reset = σ5 at e0 TP GN BX BR hE
  apply Lg_pre 2
  · intro callf
    simp +decide only [List.take, aQ, memb, List.any_nil, List.any_cons, Bool.or_false, Bool.true_and, reset_merge, reset_reset, reset_next, reset_low, merge_next, merge_idem, ble_self, aWanted, ↓bite_eq, ↓reduceIte, aStep_eq, aStepOld, aOp, opFieldAddr, aev, ann, aPut, rget_rput, Nat.zero_add, h5, h6, fldL]
    rfl
  dsimp only [List.drop, List.take, List.length]
  have e0 : Ext σ5 (σ5.merge σ5.reset) := (Ext.refl _).merge
  have TP := TP.ext e0
  have GN := GN.ext e0
  have BX := BX.ext e0
  have BR := BR.ext e0
  have hE := hE.trans (ExtX.of e0)
  generalize σ5.merge σ5.reset = σ6 at e0 TP GN BX BR hE
  refine Lg_load (b := b5) (off := 0) (v := .slice (some ⟨lb, 0, none⟩) N N) (by simp +decide only [aev, rget_rput, if_true, if_false]) BX.reset.out (sv_slice GN.lt) BX.lt (by simp [memb]) (by decide) ?_
  have e0 : Ext σ6 (σ6.merge σ6.reset) := (Ext.refl _).merge
  have TP := TP.ext e0
  have GN := GN.ext e0
  have BX := BX.ext e0
  have BR := BR.ext e0
  have hE := hE.trans (ExtX.of e0)
  generalize σ6.merge σ6.reset = σ7 at e0 TP GN BX BR hE
  apply Lg_pre 2
  · intro callf
    simp +decide only [List.take, aQ, memb, List.any_nil, List.any_cons, Bool.or_false, Bool.true_and, reset_merge, reset_reset, reset_next, reset_low, merge_next, merge_idem, ble_self, aWanted, ↓bite_eq, ↓reduceIte, aStep_eq, aStepOld, aOp, opIndexAddr, aev, ann, aPut, rget_rput, Nat.zero_add, h6, idx28g (show i < N by omega), Nat.zero_add]
    rfl
  dsimp only [List.drop, List.take, List.length]
  have e0 : Ext σ7 (σ7.merge σ7.reset) := (Ext.refl _).merge
  have TP := TP.ext e0
  have GN := GN.ext e0
  have BX := BX.ext e0
  have BR := BR.ext e0
  have hE := hE.trans (ExtX.of e0)
  generalize σ7.merge σ7.reset = σ8 at e0 TP GN BX BR hE
  have hlm' : l ∈ L := hlm
  have HG := hg.ext (hE.sub (Y := [tb, lb]) (by simp)).hid
  refine Lg_load (b := lb) (off := i) (v := v) (by simp +decide only [aev, rget_rput, if_true, if_false]) (hld _ (hE.trans (ExtX.of (Ext.reset _)))) HG.sv GN.lt (by simp [memb]) (by decide) ?_
  have e0 : Ext σ8 (σ8.merge σ8.reset) := (Ext.refl _).merge
  have TP := TP.ext e0
  have GN := GN.ext e0
  have BX := BX.ext e0
  have BR := BR.ext e0
  have hE := hE.trans (ExtX.of e0)
  generalize σ8.merge σ8.reset = σ9 at e0 TP GN BX BR hE
  apply Lg_pre 1
  · intro callf
    simp +decide only [List.take, aQ, memb, List.any_nil, List.any_cons, Bool.or_false, Bool.true_and, reset_low, ble_self, aWanted, ↓bite_eq, ↓reduceIte, aStep_eq, aStepOld, aOp, aev, ann, aPut, rget_rput, Nat.zero_add, h0]
    rfl
  dsimp only [List.drop, List.take, List.length]
  have e0 : Ext σ9 (σ9.merge σ9.reset) := (Ext.refl _).merge
  have TP := TP.ext e0
  have GN := GN.ext e0
  have BX := BX.ext e0
  have BR := BR.ext e0
  have hE := hE.trans (ExtX.of e0)
  generalize σ9.merge σ9.reset = σ10 at e0 TP GN BX BR hE
  refine Lg_bar (vs := [.pointer (some ⟨tb, 0, none⟩)]) (by simp +decide only [aevs, aev, rget_rput, if_true, if_false]) (by decide) (by kernel_rfl) (by kernel_rfl) (C.mono (event (TP.ext (Ext.reset _)) (by omega)) ?_)
  rintro v2 s1 ⟨⟨ev, rfl, hev⟩, T1, E1⟩
  refine ⟨fun x hx hlt => E1.get x hlt (by simp at hx ⊢; rcases hx with rfl | rfl <;> omega), ?_⟩
  have T1 : Tape tb (σ10.merge s1) (k + 1 + 7 * i + 1 + 2 * j + 1) := T1.same rfl fun _ => rfl
  have E1 : ExtX [tb] σ10 (σ10.merge s1) := E1.merge
  have GN := GN.extX E1
  have BX := BX.extX E1 (by simp; omega)
  have BR := BR.extX E1 (by simp; omega)
  have hE := hE.trans E1
  clear TP
  have TP := T1
  generalize σ10.merge s1 = σ11 at TP GN BX BR hE
  apply Lg_pre 2
  · intro callf
    simp +decide only [List.take, aQ, memb, List.any_nil, List.any_cons, Bool.or_false, Bool.true_and, reset_merge, reset_reset, reset_next, reset_low, merge_next, merge_idem, ble_self, aWanted, ↓bite_eq, ↓reduceIte, aStep_eq, aStepOld, aOp, opFieldAddr, aev, ann, aPut, rget_rput, Nat.zero_add, h0, h5, fldL]
    rfl
  dsimp only [List.drop, List.take, List.length]
  have e0 : Ext σ11 (σ11.merge σ11.reset) := (Ext.refl _).merge
  have TP := TP.ext e0
  have GN := GN.ext e0
  have BX := BX.ext e0
  have BR := BR.ext e0
  have hE := hE.trans (ExtX.of e0)
  generalize σ11.merge σ11.reset = σ12 at e0 TP GN BX BR hE
  refine Lg_load (b := b5) (off := 0) (v := .slice (some ⟨lb, 0, none⟩) N N) (by simp +decide only [aev, rget_rput, if_true, if_false]) BX.reset.out (sv_slice GN.lt) BX.lt (by simp [memb]) (by decide) ?_
  have e0 : Ext σ12 (σ12.merge σ12.reset) := (Ext.refl _).merge
  have TP := TP.ext e0
  have GN := GN.ext e0
  have BX := BX.ext e0
  have BR := BR.ext e0
  have hE := hE.trans (ExtX.of e0)
  generalize σ12.merge σ12.reset = σ13 at e0 TP GN BX BR hE
  apply Lg_pre 1
  · intro callf
    simp +decide only [List.take, aQ, memb, List.any_nil, List.any_cons, Bool.or_false, Bool.true_and, reset_low, ble_self, aWanted, ↓bite_eq, ↓reduceIte, aStep_eq, aStepOld, aOp, opCall, aev, aevs, aPut, rget_rput, aBuiltin, aLen, List.getElem?_toArray, List.getElem?_cons_zero, Nat.zero_add, Try.underlying28, goInt]
    rfl
  dsimp only [List.drop, List.take, List.length]
  have e0 : Ext σ13 (σ13.merge σ13.reset) := (Ext.refl _).merge
  have TP := TP.ext e0
  have GN := GN.ext e0
  have BX := BX.ext e0
  have BR := BR.ext e0
  have hE := hE.trans (ExtX.of e0)
  generalize σ13.merge σ13.reset = σ14 at e0 TP GN BX BR hE
  refine Lg_bar (vs := [.pointer (some ⟨tb, 0, none⟩), .int .i64 (N : Int)]) (by simp +decide only [aevs, aev, rget_rput, if_true, if_false]) (by decide) (by kernel_rfl) (by kernel_rfl) (C.mono (next_tape (TP.ext (Ext.reset _)) (by omega) (n := (N : Int)) (by omega)) ?_)
  rintro v2 s1 ⟨⟨to, rfl, hto⟩, T1, E1⟩
  refine ⟨fun x hx hlt => E1.get x hlt (by simp at hx ⊢; rcases hx with rfl | rfl <;> omega), ?_⟩
  have T1 : Tape tb (σ14.merge s1) (k + 1 + 7 * i + 1 + 2 * j + 1 + 1) := T1.same rfl fun _ => rfl
  have E1 : ExtX [tb] σ14 (σ14.merge s1) := E1.merge
  have GN := GN.extX E1
  have BX := BX.extX E1 (by simp; omega)
  have BR := BR.extX E1 (by simp; omega)
  have hE := hE.trans E1
  clear TP
  have TP := T1
  generalize σ14.merge s1 = σ15 at TP GN BX BR hE
  obtain ⟨hto0, hto1⟩ := hto (by omega)
  apply Lg_pre 1
  · intro callf
    simp +decide only [List.take, aQ, memb, List.any_nil, List.any_cons, Bool.or_false, Bool.true_and, reset_low, ble_self, aWanted, ↓bite_eq, ↓reduceIte, aStep_eq, aStepOld, aOp, opBuild, aev, aparts, ann, aPut, rget_rput, Nat.zero_add, build27]
    rfl
  dsimp only [List.drop, List.take, List.length]
  have e0 : Ext σ15 (σ15.merge σ15.reset) := (Ext.refl _).merge
  have TP := TP.ext e0
  have GN := GN.ext e0
  have BX := BX.ext e0
  have BR := BR.ext e0
  have hE := hE.trans (ExtX.of e0)
  generalize σ15.merge σ15.reset = σ16 at e0 TP GN BX BR hE
  have hlm' : l ∈ L := hlm
  have HG := hg.ext (hE.sub (Y := [tb, lb]) (by simp)).hid
  refine Lg_fn (vs := [v, vArc (ev, to)]) (by simp +decide only [aevs, aev, rget_rput, if_true, if_false]) (by decide) (by kernel_rfl) (C.mono (insert (X := [tb, lb]) (HG.ext (Ext.hid (Ext.reset _))) (by have := (GN.row l hlm').1; omega) (by simp; exact ⟨TP.lt, GN.lt⟩)) ?_)
  rintro v' s2 ⟨E2, l', hg2, hl2, ha2, hal, hac⟩
  refine ⟨E2.quiet, ?_⟩
  have E2 : Ext σ16 (σ16.merge s2) := E2.merge
  have hg2 : GRow (hid [tb, lb] (σ16.merge s2)) v' l' := hg2.same rfl fun _ => rfl
  have TP := TP.ext E2
  have GN := GN.ext E2
  have BX := BX.ext E2
  have BR := BR.ext E2
  have hE := hE.trans (ExtX.of E2)
  generalize σ16.merge s2 = σ17 at TP GN BX BR hE hg2
  apply Lg_pre 1
  · intro callf
    simp +decide only [List.take, aQ, memb, List.any_nil, List.any_cons, Bool.or_false, Bool.true_and, reset_low, ble_self, aWanted, ↓bite_eq, ↓reduceIte, aStep_eq, aStepOld, aOp, opIndexAddr, aev, ann, aPut, rget_rput, Nat.zero_add, idx28g (show i < N by omega), Nat.zero_add]
    rfl
  dsimp only [List.drop, List.take, List.length]
  have e0 : Ext σ17 (σ17.merge σ17.reset) := (Ext.refl _).merge
  have TP := TP.ext e0
  have GN := GN.ext e0
  have BX := BX.ext e0
  have BR := BR.ext e0
  have hE := hE.trans (ExtX.of e0)
  have hg2 := hg2.ext (Ext.hid e0)
  generalize σ17.merge σ17.reset = σ18 at e0 TP GN BX BR hE hg2
  have hmx : ∀ x ∈ l', 0 ≤ x.2 ∧ x.2 < (L.length : Int) := fun x hx => by
    rcases ha2 x hx with rfl | h9
    · exact ⟨hto0, by show to < _; omega⟩
    · exact (GN.row l hlm').2 x h9
  have hll := (GN.row l hlm').1
  obtain ⟨rows, hr1, hr2, hr3, hr4⟩ := ((GN.ext (Ext.reset σ18)).up (m' := 3 * i + (j + 1)) (by omega)).set (i := i) (hg2.ext (Ext.hid (Ext.reset _))) (by omega) hmx
  obtain ⟨vb2, vc2, hv2⟩ := hg2.slice
  refine Lg_store (b := lb) (off := i) (v := v') (by simp +decide only [aev, rget_rput, if_true, if_false]) (by simp +decide only [aev, rget_rput, if_true, if_false]) (store22 hv2 hr1 (by omega)) (fun y hy => by rw [AS.get_put, if_neg (fun e => hy e.symm)]; rfl) (by kernel_rfl) (by kernel_rfl) (by kernel_rfl) ?_
  have EM : ExtX [tb, lb] σ18 (σ18.merge (σ18.reset.put lb ⟨1, 22, 0, rows.set i v', []⟩)) := hr4.merge
  have TP : Tape tb (σ18.merge (σ18.reset.put lb ⟨1, 22, 0, rows.set i v', []⟩)) (k + 1 + 7 * i + 1 + 2 * (j + 1)) := ((TP.ext (Ext.reset σ18)).put (B := ⟨1, 22, 0, rows.set i v', []⟩) GN.ne (GN.ext (Ext.reset σ18)).ints).same rfl fun _ => rfl
  have GN : Gen tb lb (σ18.merge (σ18.reset.put lb ⟨1, 22, 0, rows.set i v', []⟩)) (L.set i l') (3 * i + (j + 1)) := hr3.same rfl fun _ => rfl
  have BX := BX.extX EM (by simp; omega)
  have BR := BR.extX EM (by simp; omega)
  have EY := EY.trans ((hE.sub (by simp)).trans EM)
  generalize σ18.merge (σ18.reset.put lb ⟨1, 22, 0, rows.set i v', []⟩) = σ19 at TP GN BX BR EY
  show W _ _ _ 46 _ _ _ _
  refine W_skip ⟨fun _ => ?_, fun h => absurd rfl h⟩
  refine W_tail ?_
  have w1 : IntKind.i64.wrap ((c : Int) - 1) = ((c - 1 : Nat) : Int) := by rw [wrap64_id _ (by omega) (by omega)]; omega
  repeat apply W_assoc
  apply W_reg
  · intro callf
    simp +decide only [aOps, aWanted, ↓bite_eq, ↓reduceIte, aStep_eq, aStepOld, aOp, opBin, aev, ann, aPut, rget_rput, h7, w1, aBin, aInts, aInt_eq]
    rfl
  refine W_skip ⟨fun _ => ⟨(c - 1, j + 1, L.set i l'), ?_, ?_⟩, fun h => (nomatch h), fun h => absurd rfl h⟩
  · show c - 1 < c
    omega
  · refine ⟨by show c - 1 + (j + 1) ≤ 3; omega, by show (L.set i l').length = _; rw [List.length_set]; exact hL, ?_, ?_, ?_, ?_, ?_, TP, GN, BX, BR, EY, hGd.set hlm' ha2 hac hev⟩
    all_goals simp +decide only [rget_rput, if_true, if_false, h0, h4, h5, h6]

end Go.Proofs.Ytbknckiapcafdaa.Nest
