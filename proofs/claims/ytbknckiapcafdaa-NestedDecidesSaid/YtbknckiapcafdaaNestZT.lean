/- Reach of the graph (22); looping (39). -/
import Derived.Test.YtbknckiapcafdaaNestZS
set_option linter.unusedSimpArgs false
set_option linter.unusedVariables false
namespace Go.Proofs.Ytbknckiapcafdaa.Nest
open Abs Abs2

theorem Gen.small {tb lb m : Nat} {σ : AS} {L : Lts} (h : Gen tb lb σ L m) (hm : m ≤ 1000) (hn : L.length ≤ 100) : Small L := ⟨by omega, fun r hr => by have := (h.row r hr).1; omega⟩

set_option maxHeartbeats 8000000 in
theorem graphReach_c {σ : AS} {tb lb cap m fb : Nat} {L : Lts} (hG : Gen tb lb σ L m) (hm : m ≤ 1000) (hn : L.length ≤ 12) (hv : validB L = true) (hch : ChainTo L (L.length - 1)) (hfb : fb < σ.next) (hf : σ.get fb = ⟨1, 3, 0, [.int .i64 0], []⟩) :
    C Try.prog Kn 0 22 [.agg #[.slice (some ⟨lb, 0, none⟩) L.length cap], .slice (some ⟨fb, 0, none⟩) 1 1, .bool false] σ fun v σ' =>
      ∃ out, RS 1 RInt σ' v out ∧ Ext σ σ' ∧ (∃ a c, v = .slice a out.length c) ∧ (∀ y ∈ out, 0 ≤ y ∧ y < (L.length : Int)) ∧ out.length ≤ 12 ∧ 0 < out.length ∧ ∀ s : Nat, s < L.length → (s : Int) ∈ out := by
  have hpos := loose_pos (valid_loose hv)
  refine C_of (kn (by decide)) Try.func22 rfl (Nat.le_of_ble_eq_true rfl) ?_
  show W _ _ _ 16 _ _ _ _
  unfold Try.f22
  dsimp only
  repeat apply W_assoc
  apply W_reg
  · intro callf
    simp +decide only [aOps, rinit, aWanted, ↓bite_eq, ↓reduceIte, aStep_eq, aStepOld, aOp, opBox, aRow, aev, ann, aPut, rget_rput, Nat.zero_add]
    rfl
  have E0 := Ext.new σ ⟨1, 30, 0, (Value.agg #[.slice (some ⟨lb, 0, none⟩) L.length cap]).cells.toList, []⟩
  have BX : BoxAt (σ.new ⟨1, 30, 0, (Value.agg #[.slice (some ⟨lb, 0, none⟩) L.length cap]).cells.toList, []⟩) σ.next (.slice (some ⟨lb, 0, none⟩) L.length cap) := ⟨Nat.lt_succ_self _, by rw [AS.get_new, if_pos rfl]; rfl⟩
  generalize σ.new ⟨1, 30, 0, (Value.agg #[.slice (some ⟨lb, 0, none⟩) L.length cap]).cells.toList, []⟩ = σ1 at E0 BX
  have G1 := hG.ext E0
  repeat apply W_assoc
  apply W_regL
  apply Ls_pre 2
  · intro callf
    simp +decide only [List.take, aOps, aWanted, ↓bite_eq, ↓reduceIte, aStep_eq, aStepOld, aOp, opLoad, aev, ann, aPut, rget_rput, BX.load]
    rfl
  dsimp only [List.drop]
  refine Ls_fn (vs := [.agg #[.slice (some ⟨lb, 0, none⟩) L.length cap], .slice (some ⟨fb, 0, none⟩) 1 1]) (by simp +decide only [aevs, aev, rget_rput, if_true, if_false]) (by decide) (C.mono (states_c (RS.shown RRow.shown G1.rs) (hG.small hm (by omega)) hv (E0.lt hfb) ((E0.get fb hfb).trans hf)) ?_)
  rintro v σ' ⟨rfl, e1⟩
  apply Ls_all
  · intro callf
    simp +decide only [aOps, aWanted, ↓bite_eq, ↓reduceIte, aStep_eq, aStepOld, aOp, opUn, aev, ann, aPut, rget_rput, Bool.not_true, not_b]
    rfl
  repeat apply W_assoc
  refine W_if (b := false) ?_ ?_ ?_
  · simp +decide only [aev, rget_rput, if_true, if_false]
  · intro h; cases h
  intro _
  apply W_skipq
  have BX := BX.ext e1
  have E1 := E0.trans e1
  have G2 := hG.ext E1
  generalize σ' = σ2 at BX E1 G2
  repeat apply W_assoc
  apply W_regL
  apply Ls_pre 1
  · intro callf
    simp +decide only [List.take, aOps, aWanted, ↓bite_eq, ↓reduceIte, aStep_eq, aStepOld, aOp, opLoad, aev, ann, aPut, rget_rput, BX.load]
    rfl
  dsimp only [List.drop]
  refine Ls_fn (vs := [.agg #[.slice (some ⟨lb, 0, none⟩) L.length cap]]) (by simp +decide only [aevs, aev, rget_rput, if_true, if_false]) (by decide) (C.mono (newWalker_c (σ := σ2) (s := some ⟨lb, 0, none⟩) (n := L.length) (c := cap) (by omega)) ?_)
  rintro v σ' ⟨wb, sv, rfl, K3⟩
  generalize σ' = σ3 at K3
  apply Ls_pre 2
  · intro callf
    simp +decide only [List.take, aOps, aWanted, ↓bite_eq, ↓reduceIte, aStep_eq, aStepOld, aOp, aev, ann, aPut, rget_rput]
    rfl
  dsimp only [List.drop]
  refine Ls_fn (vs := [.pointer (some ⟨wb, 0, none⟩), .slice (some ⟨fb, 0, none⟩) 1 1, .bool false]) (by simp +decide only [aevs, aev, rget_rput, if_true, if_false]) (by decide) (C.mono (reach_c G2 hm hpos hn (E1.lt hfb) ((E1.get fb hfb).trans hf) K3) ?_)
  rintro v σ' ⟨out, R1, R2, R3, R4, R5, R6, R7⟩
  apply Ls_all
  · intro callf
    simp +decide only [aOps, aWanted, ↓bite_eq, ↓reduceIte, aStep_eq, aStepOld, aOp, aev, ann, aPut, rget_rput]
    rfl
  refine W_ret ⟨Nat.le_refl _, [v], ?_, out, R1, E1.trans R2, R3, R4, R5, List.length_pos_iff.2 (fun e => by rw [e] at R6; cases R6), fun s => ?_⟩
  · simp +decide only [aResults, rget_rput, if_true, if_false]
  · induction s with
    | zero => intro _; exact R6
    | succ s ih =>
      intro hs
      obtain ⟨row, h1, a, h2, h3⟩ := hch s (by omega)
      have := R7 s row a (ih (by omega)) h1 h2
      rw [h3] at this
      exact this

theorem make43_bl {σ : AS} {N lo : Nat} (hl : lo ≤ σ.next) : BL lo (σ.new ⟨1, 4, 0, List.replicate N (.bool false), []⟩) (.slice (some ⟨σ.next, 0, none⟩) N N) (List.replicate N false) :=
  ⟨σ.next, by simp, hl, Nat.lt_succ_self _, by rw [AS.get_new, if_pos rfl, List.map_replicate]⟩
theorem BL.ext {lo : Nat} {σ σ' : AS} {v : Value} {l : List Bool} (h : BL lo σ v l) (e : Ext σ σ') : BL lo σ' v l := h.keep e.nxt fun i _ hi => e.get i hi

/-- A silent arc inside a component, among those told so far. -/
def LoopTo (L : Lts) (comp : List Int) (i j : Nat) : Prop := ∃ (s k : Nat), ∃ a c, (s < i ∨ s = i ∧ k < j) ∧ (tauRow L s)[k]? = some a ∧ comp[s]? = some c ∧ comp[a.2.toNat]? = some c
def LoopAt (L : Lts) (comp : List Int) : Prop := ∃ s : Nat, ∃ a c, a ∈ tauRow L s ∧ comp[s]? = some c ∧ comp[a.2.toNat]? = some c

theorem takeWhile_all {p : Arc → Bool} : ∀ {l : List Arc} {a : Arc}, a ∈ l.takeWhile p → p a = true
  | [], a, h => by simp at h
  | x :: l, a, h => by
    rw [List.takeWhile_cons] at h
    split at h
    · rename_i hp
      rcases List.mem_cons.1 h with rfl | h
      · exact hp
      · exact takeWhile_all h
    · cases h
theorem tau_mem {L : Lts} {s : Nat} {a : Arc} (h : a ∈ tauRow L s) : a ∈ L.getD s [] ∧ a.1 = 0 := by
  unfold tauRow at h
  have h1 := takeWhile_all h
  exact ⟨(List.takeWhile_sublist _).subset h, by simpa using h1⟩
theorem tau_len {L : Lts} {s : Nat} : (tauRow L s).length ≤ (L.getD s []).length := (List.takeWhile_sublist _).length_le
theorem tau_out {L : Lts} {s : Nat} (h : L.length ≤ s) : tauRow L s = [] := by
  unfold tauRow
  rw [List.getD_eq_getElem?_getD, List.getElem?_eq_none h]; rfl

set_option maxHeartbeats 16000000 in
theorem looping_c {σ : AS} {tb lb cap m : Nat} {L : Lts} {cv : Value} {comp : List Int} (hG : Gen tb lb σ L m) (hm : m ≤ 1000) (hn : L.length ≤ 12) (hc : RS 1 RInt σ cv comp) (hcl : comp.length = L.length) :
    C Try.prog Kn 0 39 [.agg #[.slice (some ⟨lb, 0, none⟩) L.length cap], cv] σ fun v σ' => ∃ bs, BL σ.next σ' v bs ∧ Ext σ σ' ∧ bs.length = L.length ∧ ((∃ s : Nat, bs[s]? = some true) ↔ LoopAt L comp) := by
  obtain ⟨ca, cc, hcv, -⟩ := id hc
  refine C_of (kn (by decide)) Try.func39 rfl (Nat.le_of_ble_eq_true rfl) ?_
  show W _ _ _ 43 _ _ _ _
  unfold Try.f39
  dsimp only
  repeat apply W_assoc
  apply W_reg
  · intro callf
    simp +decide only [aOps, rinit, aWanted, ↓bite_eq, ↓reduceIte, aStep_eq, aStepOld, aOp, opBox, aRow, aev, ann, aPut, rget_rput, Nat.zero_add]
    rfl
  have E0 := Ext.new σ ⟨1, 30, 0, (Value.agg #[.slice (some ⟨lb, 0, none⟩) L.length cap]).cells.toList, []⟩
  have BX : BoxAt (σ.new ⟨1, 30, 0, (Value.agg #[.slice (some ⟨lb, 0, none⟩) L.length cap]).cells.toList, []⟩) σ.next (.slice (some ⟨lb, 0, none⟩) L.length cap) := ⟨Nat.lt_succ_self _, by rw [AS.get_new, if_pos rfl]; rfl⟩
  generalize σ.new ⟨1, 30, 0, (Value.agg #[.slice (some ⟨lb, 0, none⟩) L.length cap]).cells.toList, []⟩ = σ1 at E0 BX
  have e1 := Ext.new σ1 ⟨1, 4, 0, List.replicate L.length (.bool false), []⟩
  have hM := make43_bl (σ := σ1) (N := L.length) (lo := σ.next) E0.nxt
  generalize hob : σ1.next = ob at hM
  repeat apply W_assoc
  apply W_reg
  · intro callf
    simp +decide only [aOps, aWanted, ↓bite_eq, ↓reduceIte, aStep_eq, aStepOld, aOp, opCall, opFieldAddr, opLoad, aev, aevs, ann, aPut, rget_rput, aBuiltin, aLen, List.getElem?_toArray, List.getElem?_cons_zero, fldL, BX.out, Try.underlying28, goInt, opMakeSlice, make43 (show L.length ≤ 1000000 by omega), hob]
    rfl
  have E1 := E0.trans e1
  have BX := BX.ext e1
  generalize σ1.new ⟨1, 4, 0, List.replicate L.length (.bool false), []⟩ = σ2 at E1 hM BX
  repeat apply W_assoc
  apply W_reg
  · intro callf
    simp +decide only [aOps, aWanted, ↓bite_eq, ↓reduceIte, aStep_eq, aStepOld, aOp, opCall, opFieldAddr, opLoad, aev, aevs, ann, aPut, rget_rput, aBuiltin, aLen, List.getElem?_toArray, List.getElem?_cons_zero, fldL, BX.out, Try.underlying28, goInt]
    rfl
  repeat apply W_assoc
  refine W_forM (fun (i : Nat) r s => i ≤ L.length ∧ (∃ bs, BL σ.next s (.slice (some ⟨ob, 0, none⟩) L.length L.length) bs ∧ Ext σ s ∧ BoxAt s σ.next (.slice (some ⟨lb, 0, none⟩) L.length cap) ∧ bs.length = L.length ∧ ((∃ s : Nat, bs[s]? = some true) ↔ LoopTo L comp i 0)) ∧ rget r 1 = cv ∧ rget r 2 = .pointer (some ⟨σ.next, 0, none⟩) ∧ rget r 5 = .slice (some ⟨ob, 0, none⟩) L.length L.length ∧ rget r 15 = .int .i64 (L.length : Int) ∧ rget r 16 = .int .i64 (i : Int))
    (fun i => L.length - i) (fun r s => (∃ bs, BL σ.next s (.slice (some ⟨ob, 0, none⟩) L.length L.length) bs ∧ Ext σ s ∧ bs.length = L.length ∧ ((∃ s : Nat, bs[s]? = some true) ↔ LoopAt L comp)) ∧ rget r 5 = .slice (some ⟨ob, 0, none⟩) L.length L.length) ?_ ?_ 0 ?_
  rotate_left 2
  · refine ⟨Nat.zero_le _, ⟨_, hM, E1, BX, by simp, ?_⟩, ?_, ?_, ?_, ?_, ?_⟩
    · constructor
      · rintro ⟨s, hs⟩
        rw [List.getElem?_replicate] at hs
        split at hs <;> cases hs
      · rintro ⟨s, k, a, c, h | ⟨-, h⟩, -⟩ <;> omega
    all_goals simp +decide only [rget_rput, if_true, if_false]
    all_goals first | exact True.intro | rfl
  rotate_left
  · clear hM E1 BX
    rintro r σ3 ⟨⟨bs, B3, e3, hl3, hiff⟩, h5⟩
    repeat apply W_assoc
    apply W_reg
    · intro callf
      simp +decide only [aOps, aWanted, ↓bite_eq, ↓reduceIte, aStep_eq, aStepOld, aOp, aev, ann, aPut, rget_rput, h5]
      rfl
    refine W_ret ⟨Nat.le_refl _, [_], ?_, bs, B3, e3, hl3, hiff⟩
    simp +decide only [aResults, rget_rput, if_true, if_false]
  clear hM E1 BX e1 E0
  rintro i r σ3 ⟨hi, ⟨bs, B3, e3, BX, hl3, hiff⟩, h1, h2, h5, h15, h16⟩
  by_cases hlt : i < L.length
  rotate_left
  · have d1 : decide ((i : Int) < (L.length : Int)) = false := decide_eq_false (by omega)
    repeat apply W_assoc
    apply W_reg
    · intro callf
      simp +decide only [aOps, aWanted, ↓bite_eq, ↓reduceIte, aStep_eq, aStepOld, aOp, opBin, aev, ann, aPut, h15, h16, d1, aBin, aInts, aInt_eq]
      rfl
    repeat apply W_assoc
    refine W_if (b := false) ?_ ?_ ?_
    · simp +decide only [aev, rget_rput, if_true]
    · intro h; cases h
    intro _
    refine W_exitq ⟨fun h => (nomatch h), fun _ => ⟨⟨bs, B3, e3, hl3, hiff.trans ⟨?_, ?_⟩⟩, ?_⟩, fun h1 h2 => absurd rfl h2⟩
    · rintro ⟨s, k, a, c, -, h3, h4, h6⟩
      exact ⟨s, a, c, List.mem_of_getElem? h3, h4, h6⟩
    · rintro ⟨s, a, c, h3, h4, h6⟩
      obtain ⟨k, hk⟩ := List.mem_iff_getElem?.1 h3
      have := (List.getElem?_eq_some_iff.1 h4).1
      exact ⟨s, k, a, c, .inl (by omega), hk, h4, h6⟩
    · simp +decide only [rget_rput, if_false, h5]
  have d1 : decide ((i : Int) < (L.length : Int)) = true := decide_eq_true (by omega)
  repeat apply W_assoc
  apply W_reg
  · intro callf
    simp +decide only [aOps, aWanted, ↓bite_eq, ↓reduceIte, aStep_eq, aStepOld, aOp, opBin, aev, ann, aPut, h15, h16, d1, aBin, aInts, aInt_eq]
    rfl
  repeat apply W_assoc
  refine W_if (b := true) ?_ ?_ ?_
  · simp +decide only [aev, rget_rput, if_true]
  rotate_left
  · intro h; cases h
  intro _
  apply W_skipq
  refine W_blk ?_
  repeat apply W_assoc
  apply W_reg
  · intro callf
    simp +decide only [aOps, aWanted, ↓bite_eq, ↓reduceIte, aStep_eq, aStepOld, aOp, aev, ann, aPut, rget_rput, h16]
    rfl
  repeat apply W_assoc
  apply W_regL
  apply Ls_pre 2
  · intro callf
    simp +decide only [List.take, aOps, aWanted, ↓bite_eq, ↓reduceIte, aStep_eq, aStepOld, aOp, opLoad, aev, ann, aPut, rget_rput, h2, BX.load]
    rfl
  dsimp only [List.drop]
  refine Ls_fn (vs := [.agg #[.slice (some ⟨lb, 0, none⟩) L.length cap], .int .i64 (i : Int), .bool true]) (by simp +decide only [aevs, aev, rget_rput, if_true, if_false]) (by decide) (C.mono (tau_c hG e3 hm hlt) ?_)
  rintro v σ' ⟨e4, ⟨ta, tc, rfl⟩, hrs⟩
  apply Ls_all
  · intro callf
    simp +decide only [aOps, aWanted, ↓bite_eq, ↓reduceIte, aStep_eq, aStepOld, aOp, opCall, aev, aevs, ann, aPut, rget_rput, aBuiltin, aLen, List.getElem?_toArray, List.getElem?_cons_zero, Try.underlying22, goInt]
    rfl
  have B4 := B3.ext e4
  have BX4 := BX.ext e4
  have e4 := e3.trans e4
  have hrowm : (L.getD i []) ∈ L := by rw [List.getD_eq_getElem?_getD, List.getElem?_eq_getElem hlt]; exact List.getElem_mem hlt
  have htl : (tauRow L i).length ≤ 1000 := Nat.le_trans tau_len (Nat.le_trans (hG.row _ hrowm).1 hm)
  generalize σ' = σ4 at B4 BX4 e4
  clear B3 BX e3
  refine W_tail ?_
  repeat apply W_assoc
  refine W_for (fun (j : Nat) r s => j ≤ (tauRow L i).length ∧ (∃ bs, BL σ.next s (.slice (some ⟨ob, 0, none⟩) L.length L.length) bs ∧ Ext σ s ∧ BoxAt s σ.next (.slice (some ⟨lb, 0, none⟩) L.length cap) ∧ bs.length = L.length ∧ ((∃ s : Nat, bs[s]? = some true) ↔ LoopTo L comp i j)) ∧ rget r 1 = cv ∧ rget r 2 = .pointer (some ⟨σ.next, 0, none⟩) ∧ rget r 5 = .slice (some ⟨ob, 0, none⟩) L.length L.length ∧ rget r 6 = .int .i64 (i : Int) ∧ rget r 15 = .int .i64 (L.length : Int) ∧ rget r 16 = .int .i64 (i : Int) ∧ rget r 21 = .slice ta (tauRow L i).length tc ∧ rget r 22 = .int .i64 ((tauRow L i).length : Int) ∧ rget r 23 = .int .i64 (j : Int))
    (fun j => (tauRow L i).length - j) ?_ 0 ?_
  rotate_left
  · refine ⟨Nat.zero_le _, ⟨bs, B4, e4, BX4, hl3, hiff⟩, ?_, ?_, ?_, ?_, ?_, ?_, ?_, ?_, ?_⟩ <;> simp +decide only [rget_rput, if_true, if_false, h1, h2, h5, h15, h16] <;> first | exact True.intro | rfl
  clear h1 h2 h5 h15 h16 B4 BX4 e4 hl3 hiff
  rintro j r σ5 ⟨hj, ⟨bs, B5, e5, BX5, hl5, hiff⟩, h1, h2, h5, h6, h15, h16, h21, h22, h23⟩
  by_cases hjl : j < (tauRow L i).length
  rotate_left
  · have d2 : decide ((j : Int) < ((tauRow L i).length : Int)) = false := decide_eq_false (by omega)
    repeat apply W_assoc
    apply W_reg
    · intro callf
      simp +decide only [aOps, aWanted, ↓bite_eq, ↓reduceIte, aStep_eq, aStepOld, aOp, opBin, aev, ann, aPut, h22, h23, d2, aBin, aInts, aInt_eq]
      rfl
    repeat apply W_assoc
    refine W_if (b := false) ?_ ?_ ?_
    · simp +decide only [aev, rget_rput, if_true]
    · intro h; cases h
    intro _
    refine W_exitq ⟨fun h => (nomatch h), fun _ => ?_, fun h1 h2 => absurd rfl h2⟩
    refine W_skip ⟨fun _ => ?_, fun h => absurd rfl h⟩
    refine W_tail ?_
    have w2 : IntKind.i64.wrap ((i : Int) + 1) = ((i + 1 : Nat) : Int) := by rw [wrap64_id _ (by omega) (by omega)]; omega
    repeat apply W_assoc
    apply W_reg
    · intro callf
      simp +decide only [aOps, aWanted, ↓bite_eq, ↓reduceIte, aStep_eq, aStepOld, aOp, opBin, aev, ann, aPut, rget_rput, h16, w2, aBin, aInts, aInt_eq]
      rfl
    refine W_skip ⟨fun _ => ⟨i + 1, ?_, ?_⟩, fun h => (nomatch h), fun h => absurd rfl h⟩
    · show L.length - (i + 1) < L.length - i
      omega
    · refine ⟨by omega, ⟨bs, B5, e5, BX5, hl5, hiff.trans ⟨?_, ?_⟩⟩, ?_, ?_, ?_, ?_, ?_⟩
      · rintro ⟨s, k, a, c, h7, h8⟩
        exact ⟨s, k, a, c, .inl (by omega), h8⟩
      · rintro ⟨s, k, a, c, h7, h8, h9⟩
        have hk := (List.getElem?_eq_some_iff.1 h8).1
        refine ⟨s, k, a, c, ?_, h8, h9⟩
        by_cases e : s = i
        · subst e; exact .inr ⟨rfl, by omega⟩
        · exact .inl (by omega)
      all_goals simp +decide only [rget_rput, if_true, if_false, h1, h2, h5, h15]
  have d2 : decide ((j : Int) < ((tauRow L i).length : Int)) = true := decide_eq_true (by omega)
  repeat apply W_assoc
  apply W_reg
  · intro callf
    simp +decide only [aOps, aWanted, ↓bite_eq, ↓reduceIte, aStep_eq, aStepOld, aOp, opBin, aev, ann, aPut, h22, h23, d2, aBin, aInts, aInt_eq]
    rfl
  repeat apply W_assoc
  refine W_if (b := true) ?_ ?_ ?_
  · simp +decide only [aev, rget_rput, if_true]
  rotate_left
  · intro h; cases h
  intro _
  apply W_skipq
  refine W_blk ?_
  obtain ⟨a, ha⟩ : ∃ a, (tauRow L i)[j]? = some a := ⟨(tauRow L i)[j], by simp [hjl]⟩
  obtain ⟨hat0, hat1⟩ := (hG.row _ hrowm).2 a (tau_mem (List.mem_of_getElem? ha)).1
  obtain ⟨T, hT⟩ : ∃ T : Nat, a.2 = (T : Int) := ⟨a.2.toNat, by omega⟩
  obtain ⟨-, ab, aoff, rfl, -, hat⟩ := arcOf (hrs σ5 e5) ha
  repeat apply W_assoc
  apply W_reg
  · intro callf
    simp +decide only [aOps, aWanted, ↓bite_eq, ↓reduceIte, aStep_eq, aStepOld, aOp, opIndexAddr, opLoad, opStore, aev, ann, unn, aPut, rget_rput, h21, h23, idx22 hjl, (hat _ (Ext.refl _)).1, alloc27, store27]
    rfl
  have AY := decl_at σ5 a
  have ed := decl_ext σ5 a
  generalize hab : σ5.next = nb at AY
  generalize decl σ5 a = σ6 at AY ed
  have B6 := B5.ext ed
  have BX6 := BX5.ext ed
  have e6 := e5.trans ed
  obtain ⟨x, hx⟩ : ∃ x, comp[T]? = some x := ⟨comp[T]'(by omega), by simp [show T < comp.length by omega]⟩
  obtain ⟨y, hy⟩ : ∃ y, comp[i]? = some y := ⟨comp[i]'(by omega), by simp [show i < comp.length by omega]⟩
  have eQ := e6.trans (Ext.reset σ6)
  have AQ := AY.ext (Ext.reset σ6)
  obtain ⟨hcl2, cb, coff, hce, hcb, hcat⟩ := intOf (by rw [hcv] at hc; exact hc) hx
  obtain ⟨-, cb2, coff2, hce2, -, hcat2⟩ := intOf (by rw [hcv] at hc; exact hc) hy
  rw [hce] at hce2
  obtain ⟨rfl, rfl⟩ : cb = cb2 ∧ coff = coff2 := by cases hce2; exact ⟨rfl, rfl⟩
  have lx : aLoad Try.prog σ6.reset 3 (.pointer (some ⟨cb, coff + T * 1, none⟩)) = some (.int .i64 x) := load1 Try.underlying3 rfl (by rw [eQ.cells (a := ⟨cb, coff + T * 1, none⟩) hcb]; exact hcat)
  have ly : aLoad Try.prog σ6.reset 3 (.pointer (some ⟨cb, coff + i * 1, none⟩)) = some (.int .i64 y) := load1 Try.underlying3 rfl (by rw [eQ.cells (a := ⟨cb, coff + i * 1, none⟩) hcb]; exact hcat2)
  have h1' := h1
  rw [hcv, hce] at h1'
  have w3 : IntKind.i64.wrap ((j : Int) + 1) = ((j + 1 : Nat) : Int) := by rw [wrap64_id _ (by omega) (by omega)]; omega
  repeat apply W_assoc
  refine W_drw [] [] (by kernel_rfl) (by kernel_rfl) ?_
  apply Lg_all
  · intro callf
    simp +decide only [aQ, memb, List.any_nil, Bool.true_or, Bool.and_true, reset_merge, reset_reset, reset_next, reset_low, merge_next, merge_idem, ble_self, aWanted, ↓bite_eq, ↓reduceIte, aStep_eq, aStepOld, aOp, opBin, opIndexAddr, opFieldAddr, opLoad, aev, ann, aPut, rget_rput, Nat.zero_add, Bool.not_false, h1', h6, fld1, AQ.to, hT, idx33 (show T < comp.length by omega), idx33 (show i < comp.length by omega), lx, ly, aBin, aInts, aInt_eq]
    rfl
  have e7 : Ext σ6 (σ6.merge σ6.reset) := (Ext.refl _).merge
  generalize σ6.merge σ6.reset = σ7 at e7
  have B7 := B6.ext e7
  have BX7 := BX6.ext e7
  have e7 := e6.trans e7
  refine W_tail ?_
  have hstep : LoopTo L comp i (j + 1) ↔ LoopTo L comp i j ∨ x = y := by
    constructor
    · rintro ⟨s, k, a', c, h7, h8, h9, h10⟩
      by_cases e : s = i ∧ k = j
      · obtain ⟨rfl, rfl⟩ := e
        rw [ha] at h8
        cases h8
        rw [hT] at h10
        rw [hy] at h9
        rw [show ((T : Int)).toNat = T from rfl, hx] at h10
        cases h9; cases h10
        exact .inr rfl
      · exact .inl ⟨s, k, a', c, by omega, h8, h9, h10⟩
    · rintro (⟨s, k, a', c, h7, h8, h9⟩ | e)
      · exact ⟨s, k, a', c, by omega, h8, h9⟩
      · exact ⟨i, j, a, y, .inr ⟨rfl, by omega⟩, ha, hy, by rw [hT, show ((T : Int)).toNat = T from rfl, hx, e]⟩
  by_cases hxy : x = y
  · have d4 : (x == y) = true := beq_iff_eq.2 hxy
    repeat apply W_assoc
    refine W_if (b := true) ?_ ?_ ?_
    · simp +decide only [aev, rget_rput, if_true, if_false, d4]
    rotate_left
    · intro h; cases h
    intro _
    obtain ⟨ob', e0, h7, h8, h9, h10, h11, h12⟩ := B7.at (i := i) (by omega)
    rw [hl5] at e0
    cases e0
    repeat apply W_assoc
    apply W_reg
    · intro callf
      simp +decide only [aOps, aWanted, ↓bite_eq, ↓reduceIte, aStep_eq, aStepOld, aOp, opIndexAddr, opStore, aev, ann, unn, aPut, rget_rput, h5, h6, h10, h12]
      rfl
    have hne : ob ≠ σ.next := fun e => by
      have h20 := BX7.2
      rw [← e, h9] at h20
      simp at h20
    repeat first | apply W_skipq | apply W_assoc
    refine W_skip ⟨fun _ => ?_, fun h => absurd rfl h⟩
    refine W_tail ?_
    repeat apply W_assoc
    apply W_reg
    · intro callf
      simp +decide only [aOps, aWanted, ↓bite_eq, ↓reduceIte, aStep_eq, aStepOld, aOp, opBin, aev, ann, aPut, rget_rput, h23, w3, aBin, aInts, aInt_eq]
      rfl
    refine W_skip ⟨fun _ => ⟨j + 1, ?_, ?_⟩, fun h => (nomatch h), fun h => absurd rfl h⟩
    · show (tauRow L i).length - (j + 1) < (tauRow L i).length - j
      omega
    · refine ⟨by omega, ⟨bs.set i true, ⟨ob, by rw [List.length_set, hl5], h7, h8, by rw [AS.get_put, if_pos rfl]⟩, e7.put h7 _, ⟨BX7.1, by rw [AS.get_put, if_neg hne]; exact BX7.2⟩, by rw [List.length_set]; exact hl5, ?_⟩, ?_, ?_, ?_, ?_, ?_, ?_, ?_, ?_, ?_⟩
      · rw [hstep]
        exact ⟨fun _ => .inr hxy, fun _ => ⟨i, by rw [List.getElem?_set_self (by omega)]⟩⟩
      all_goals simp +decide only [rget_rput, if_true, if_false, h1, h2, h5, h6, h15, h16, h21, h22]
  · have d4 : (x == y) = false := by simpa using hxy
    repeat apply W_assoc
    refine W_if (b := false) ?_ ?_ ?_
    · simp +decide only [aev, rget_rput, if_true, if_false, d4]
    · intro h; cases h
    intro _
    repeat first | apply W_skipq | apply W_assoc
    refine W_skip ⟨fun _ => ?_, fun h => absurd rfl h⟩
    refine W_tail ?_
    repeat apply W_assoc
    apply W_reg
    · intro callf
      simp +decide only [aOps, aWanted, ↓bite_eq, ↓reduceIte, aStep_eq, aStepOld, aOp, opBin, aev, ann, aPut, rget_rput, h23, w3, aBin, aInts, aInt_eq]
      rfl
    refine W_skip ⟨fun _ => ⟨j + 1, ?_, ?_⟩, fun h => (nomatch h), fun h => absurd rfl h⟩
    · show (tauRow L i).length - (j + 1) < (tauRow L i).length - j
      omega
    · refine ⟨by omega, ⟨bs, B7, e7, BX7, hl5, ?_⟩, ?_, ?_, ?_, ?_, ?_, ?_, ?_, ?_, ?_⟩
      · rw [hiff, hstep]
        exact ⟨.inl, fun h => h.resolve_right hxy⟩
      all_goals simp +decide only [rget_rput, if_true, if_false, h1, h2, h5, h6, h15, h16, h21, h22]

end Go.Proofs.Ytbknckiapcafdaa.Nest
