/- A system is renumbered: the walk. -/
import Derived.Test.YtacpdefmnijhnaaGreatUP
set_option linter.unusedSimpArgs false
set_option linter.unusedVariables false
namespace Go.Proofs.YtacpdefmnijhnaaGreat.U
open Abs

theorem take_meets {l : List Arc} {j : Nat} {x : Arc} (h : l[j]? = some x) (olds : List Nat) : Can.meets olds (l.take (j + 1)) = Can.meet (Can.meets olds (l.take j)) x.2 := by
  have app : ∀ (a : List Arc) (o : List Nat), Can.meets o (a ++ [x]) = Can.meet (Can.meets o a) x.2 := by
    intro a
    induction a with
    | nil => intro o; rfl
    | cons y a ih => intro o; exact ih _
  rw [List.take_add_one, h]
  exact app _ _
theorem take_ren {l : List Arc} {j : Nat} {x : Arc} (h : l[j]? = some x) (olds : List Nat) : Can.ren (Can.meets olds (l.take (j + 1))) (l.take (j + 1)) = Can.ren (Can.meets olds (l.take j)) (l.take j) ++ [(x.1, Can.num (Can.meets olds (l.take (j + 1))) x.2)] := by
  have h1 : Can.ren (Can.meets olds (l.take (j + 1))) (l.take j) = Can.ren (Can.meets olds (l.take j)) (l.take j) := by
    refine Can.ren_pre ?_ fun a ha => Can.mem_meets.2 (.inr ⟨a, ha, rfl⟩)
    rw [take_meets h]
    exact Can.meet_pre _ _
  rw [← h1]
  have h2 : l.take (j + 1) = l.take j ++ [x] := by rw [List.take_add_one, h]; rfl
  conv => lhs; arg 2; rw [h2]
  unfold Can.ren
  rw [List.map_append]
  rfl
theorem ren_length (n : List Nat) (l : List Arc) : (Can.ren n l).length = l.length := List.length_map _

set_option maxHeartbeats 64000000 in
theorem canon_c {σ : AS} {vL : Value} {L : List (List Arc)} (h : OutR σ vL L) (hs : Small L) : C Tryz.prog KA 0 16 [.agg #[vL]] σ fun u σ' => Ext σ σ' ∧ ∃ ov nv K, u = .tuple #[.agg #[ov], nv, .int .i64 0] ∧ Can.Done L K ∧ OutR σ' ov (Can.rounds L K).2 ∧ IntsV σ' nv (Can.rounds L K).1 := by
  have hL0 : 0 < L.length := List.length_pos_iff.2 hs.pos
  have hL10 := hs.len
  refine C_of (ka rfl rfl) Tryz.func16 rfl (Nat.le_of_ble_eq_true rfl) ?_
  show W _ _ _ 82 _ _ _ _
  unfold Tryz.f16
  dsimp only
  repeat apply W_assoc
  apply W_reg
  · intro callf
    simp +decide only [aOps, rinit, aWanted, ↓bite_eq, ↓reduceIte, aStep_eq, aStepOld, aOp, opBox, opBin, opUn, opCall, opIndexAddr, opFieldAddr, opLoad, opStore, opPick, opExtract, opSlice, opBuildSlice, opBuild, aRow, aev, aevs, aparts, ann, unn, aPut, if_true, if_false, rget_rput, flat, flat1, Nat.blt_eq, aBuiltin, aLen, List.getElem?_toArray, List.getElem?_cons_zero, List.getElem?_cons_succ, Nat.zero_add, Option.bind_some, beq_self_eq_true, Bool.not_true, Bool.not_false, Bool.true_beq, Bool.false_beq, allocL]
    rfl
  have e1 : Ext σ (σ.new ⟨1, 54, 0, (Value.agg #[vL]).cells.toList, []⟩) := Ext.new σ _
  have B1 := BoxAt.new σ vL
  change BoxAt (σ.new ⟨1, 54, 0, (Value.agg #[vL]).cells.toList, []⟩) σ.next vL at B1
  have hb2 : (σ.new ⟨1, 54, 0, (Value.agg #[vL]).cells.toList, []⟩).next = σ.next + 1 := rfl
  generalize hb1 : σ.next = b1 at B1 hb2
  generalize σ.new ⟨1, 54, 0, (Value.agg #[vL]).cells.toList, []⟩ = σ1 at e1 B1 hb2
  have e2 := Ext.new σ1 ⟨1, 54, 0, [.slice none 0 0], []⟩
  have B2 := BoxAt.new σ1 (.slice none 0 0)
  have B1 := B1.ext e2
  have e1 := e1.trans e2
  generalize σ1.next = b2 at B2 hb2
  generalize σ1.new ⟨1, 54, 0, [.slice none 0 0], []⟩ = σ2 at e1 B1 B2
  clear e2
  repeat apply W_assoc
  apply W_regL
  apply Ls_pre 1
  · intro callf
    simp +decide only [List.take, aOps, rinit, aWanted, ↓bite_eq, ↓reduceIte, aStep_eq, aStepOld, aOp, opBox, opBin, opUn, opCall, opIndexAddr, opFieldAddr, opLoad, opStore, opPick, opExtract, opSlice, opBuildSlice, opBuild, aRow, aev, aevs, aparts, ann, unn, aPut, if_true, if_false, rget_rput, flat, flat1, Nat.blt_eq, aBuiltin, aLen, List.getElem?_toArray, List.getElem?_cons_zero, List.getElem?_cons_succ, Nat.zero_add, Option.bind_some, beq_self_eq_true, Bool.not_true, Bool.not_false, Bool.true_beq, Bool.false_beq, B1.load]
    rfl
  dsimp only [List.drop]
  refine Ls_fn (vs := [.agg #[vL]]) (by simp +decide only [aevs, aev, aResults, rget_rput, if_true, if_false]) (by decide) (C.mono (formed_c (h.ext e1) hs) ?_)
  rintro v σ' ⟨rfl, E0⟩
  apply Ls_all
  · intro callf
    simp +decide only [aOps, rinit, aWanted, ↓bite_eq, ↓reduceIte, aStep_eq, aStepOld, aOp, opBox, opBin, opUn, opCall, opIndexAddr, opFieldAddr, opLoad, opStore, opPick, opExtract, opSlice, opBuildSlice, opBuild, aRow, aev, aevs, aparts, ann, unn, aPut, if_true, if_false, rget_rput, flat, flat1, Nat.blt_eq, aBuiltin, aLen, List.getElem?_toArray, List.getElem?_cons_zero, List.getElem?_cons_succ, Nat.zero_add, Option.bind_some, beq_self_eq_true, Bool.not_true, Bool.not_false, Bool.true_beq, Bool.false_beq, not_b]
    rfl
  have B1 := B1.ext E0
  have B2 := B2.ext E0
  have e1 := e1.trans E0
  clear E0
  generalize σ' = σ2 at e1 B1 B2
  repeat apply W_assoc
  refine W_if (b := false) ?_ ?_ ?_
  · simp +decide only [aevs, aev, aResults, rget_rput, if_true, if_false]
  · intro h; cases h
  intro _
  apply W_skipq
  repeat apply W_assoc
  apply W_reg
  · intro callf
    simp +decide only [aOps, rinit, aWanted, ↓bite_eq, ↓reduceIte, aStep_eq, aStepOld, aOp, opBox, opBin, opUn, opCall, opIndexAddr, opFieldAddr, opLoad, opStore, opPick, opExtract, opSlice, opBuildSlice, opBuild, aRow, aev, aevs, aparts, ann, unn, aPut, if_true, if_false, rget_rput, flat, flat1, Nat.blt_eq, aBuiltin, aLen, List.getElem?_toArray, List.getElem?_cons_zero, List.getElem?_cons_succ, Nat.zero_add, Option.bind_some, beq_self_eq_true, Bool.not_true, Bool.not_false, Bool.true_beq, Bool.false_beq, sliceI1]
    rfl
  have e3 := Ext.new σ2 ⟨1, 3, 0, [.int .i64 0], []⟩
  have O : StkC σ.next 3 1 (σ2.new ⟨1, 3, 0, [.int .i64 0], []⟩) (.slice (some ⟨σ2.next, 0, none⟩) 1 1) [0].length (cI [0]) := .inl ⟨rfl, rfl, rfl, σ2.next, rfl, e1.nxt, Nat.lt_succ_self _, by rw [AS.get_new, if_pos rfl]; rfl⟩
  have B1 := B1.ext e3
  have B2 := B2.ext e3
  have e1 := e1.trans e3
  clear e3
  generalize Value.slice (some ⟨σ2.next, 0, none⟩) 1 1 = ov at O
  generalize σ2.new ⟨1, 3, 0, [.int .i64 0], []⟩ = σ3 at e1 B1 B2 O
  have M0 : MapAt σ.next (σ3.new ⟨3, 0, 0, [], []⟩) (.map (some σ3.next)) (fun _ => none) := ⟨σ3.next, [], rfl, e1.nxt, Nat.lt_succ_self _, by rw [AS.get_new, if_pos rfl], by rw [AS.get_new, if_pos rfl]; rfl, List.nodup_nil, fun _ => rfl⟩
  obtain ⟨mr, MB, hmr, -, hmu, hM⟩ := M0.upd (T := 91) (E := 3) Tryz.underlying91 0 (.int .i64 0)
  obtain rfl : mr = σ3.next := by cases hmr; rfl
  rw [numF_zero] at hM
  repeat apply W_assoc
  apply W_reg
  · intro callf
    simp +decide only [aOps, rinit, aWanted, ↓bite_eq, ↓reduceIte, aStep_eq, aStepOld, aOp, opBox, opBin, opUn, opCall, opIndexAddr, opFieldAddr, opLoad, opStore, opPick, opExtract, opSlice, opBuildSlice, opBuild, aRow, aev, aevs, aparts, ann, unn, aPut, if_true, if_false, rget_rput, flat, flat1, Nat.blt_eq, aBuiltin, aLen, List.getElem?_toArray, List.getElem?_cons_zero, List.getElem?_cons_succ, Nat.zero_add, Option.bind_some, beq_self_eq_true, Bool.not_true, Bool.not_false, Bool.true_beq, Bool.false_beq, opMakeMap, opUpdate, hmu]
    rfl
  have e3 : Ext σ3 ((σ3.new ⟨3, 0, 0, [], []⟩).put σ3.next MB) := Ext.put (Ext.new σ3 _) (Nat.le_refl _) MB
  have B1 := B1.ext e3
  have B2 := B2.ext e3
  have e1 := e1.trans e3
  have O := O.keep e3.nxt fun i _ hi => e3.get i hi
  clear e3 hmu M0 hmr
  generalize Value.map (some σ3.next) = mv at hM
  generalize (σ3.new ⟨3, 0, 0, [], []⟩).put σ3.next MB = σ4 at e1 B1 B2 O hM
  repeat apply W_assoc
  apply W_reg
  · intro callf
    simp +decide only [aOps, rinit, aWanted, ↓bite_eq, ↓reduceIte, aStep_eq, aStepOld, aOp, opBox, opBin, opUn, opCall, opIndexAddr, opFieldAddr, opLoad, opStore, opPick, opExtract, opSlice, opBuildSlice, opBuild, aRow, aev, aevs, aparts, ann, unn, aPut, if_true, if_false, rget_rput, flat, flat1, Nat.blt_eq, aBuiltin, aLen, List.getElem?_toArray, List.getElem?_cons_zero, List.getElem?_cons_succ, Nat.zero_add, Option.bind_some, beq_self_eq_true, Bool.not_true, Bool.not_false, Bool.true_beq, Bool.false_beq, allocL]
    rfl
  have hx1 := B1.lt
  have hx2 := B2.lt
  have e3 := Ext.new σ4 ⟨1, 54, 0, [.slice none 0 0], []⟩
  have BX := BoxAt.new σ4 (.slice none 0 0)
  have B1 := B1.ext e3
  have B2 := B2.ext e3
  have nx1 : σ4.next ≠ b1 := by omega
  have nx2 : σ4.next ≠ b2 := by omega
  have e4 := e1.trans e3
  have O := O.keep e3.nxt fun i _ hi => e3.get i hi
  have hM := hM.keep e3.nxt fun i _ hi => e3.get i hi
  have hxl := e1.nxt
  clear e3 hx1 hx2
  generalize σ4.next = bx at BX nx1 nx2 hxl
  generalize σ4.new ⟨1, 54, 0, [.slice none 0 0], []⟩ = σ5 at e4 B1 B2 BX O hM
  have G : Cn σ b1 b2 bx σ5.next vL σ5 ov mv (.slice none 0 0) [] [0] (numF [0]) [] := { ext := e4, old := O, num := hM, out := ⟨rfl, rfl, .inl ⟨rfl, rfl⟩⟩, done := RowsB.nil, bxg := BX, b1g := B1, b2g := B2, lrn := Nat.le_refl _, lr0 := e4.nxt, bx0 := hxl, b20 := by omega, nx1 := nx1, nx2 := nx2 }
  clear e1 e4 O hM BX B1 B2 nx1 nx2 hxl
  repeat apply W_assoc
  apply W_reg
  · intro callf
    simp +decide only [aOps, rinit, aWanted, ↓bite_eq, ↓reduceIte, aStep_eq, aStepOld, aOp, opBox, opBin, opUn, opCall, opIndexAddr, opFieldAddr, opLoad, opStore, opPick, opExtract, opSlice, opBuildSlice, opBuild, aRow, aev, aevs, aparts, ann, unn, aPut, if_true, if_false, rget_rput, flat, flat1, Nat.blt_eq, aBuiltin, aLen, List.getElem?_toArray, List.getElem?_cons_zero, List.getElem?_cons_succ, Nat.zero_add, Option.bind_some, beq_self_eq_true, Bool.not_true, Bool.not_false, Bool.true_beq, Bool.false_beq]
    rfl
  repeat apply W_assoc
  refine W_for (fun (x : Nat × Value × Value × List Value) r s => x.1 ≤ 10 ∧ (Can.rounds L x.1).2.length = x.1 ∧ Cn σ b1 b2 bx s.next vL s x.2.1 mv x.2.2.1 x.2.2.2 (Can.rounds L x.1).1 (numF (Can.rounds L x.1).1) (Can.rounds L x.1).2 ∧
      rget r 1 = .pointer (some ⟨b1, 0, none⟩) ∧ rget r 2 = .pointer (some ⟨b2, 0, none⟩) ∧ rget r 5 = x.2.1 ∧ rget r 6 = mv ∧ rget r 7 = .pointer (some ⟨bx, 0, none⟩) ∧ rget r 8 = .int .i64 (x.1 : Int))
    (fun x => 10 - x.1) ?_ (0, ov, .slice none 0 0, []) ?_
  rotate_left
  · refine ⟨Nat.zero_le _, rfl, G, ?_, ?_, ?_, ?_, ?_, ?_⟩ <;> simp +decide only [rget_rput, rinit, if_true, if_false, goInt, hb1] <;> first | exact True.intro | rfl
  clear G
  rintro ⟨k, ov, uv, rows⟩ r s ⟨hk10, hkl, G, h1, h2, h5, h6, h7, h8⟩
  dsimp only at hk10 hkl G h5 h8
  have hI := Can.Inv.rounds L k
  have hLt := Can.rounds_lt hL0 hs.to k
  have hD : (Can.rounds L k).1.length ≤ k → Can.Done L k := fun h => ⟨hkl, by have := hI.done; omega⟩
  have hstep : Can.rounds L (k + 1) = Can.round L (Can.rounds L k) := rfl
  generalize hst : Can.rounds L k = st at hkl G hI hLt hD hstep
  obtain ⟨olds, outs⟩ := st
  dsimp only at hkl G hLt hD
  have hnd := Can.nodup_bound hI.nodup hLt
  dsimp only at hnd
  have hz := hI.zero
  dsimp only at hz
  have hol : 0 < olds.length := (List.getElem?_eq_some_iff.1 hz).1
  have hrl : rows.length = k := by rw [G.done.len, hkl]
  obtain ⟨oa, oc, hov⟩ := G.old.len
  by_cases hlt : k < olds.length
  rotate_left
  · have d1 : decide ((k : Int) < (olds.length : Int)) = false := decide_eq_false (by omega)
    have hdone := hD (by omega)
    have hne : outs ≠ [] := fun e => by rw [e] at hkl; simp at hkl; omega
    repeat apply W_assoc
    apply W_reg
    · intro callf
      simp +decide only [aOps, rinit, aWanted, ↓bite_eq, ↓reduceIte, aStep_eq, aStepOld, aOp, opBox, opBin, opUn, opCall, opIndexAddr, opFieldAddr, opLoad, opStore, opPick, opExtract, opSlice, opBuildSlice, opBuild, aRow, aev, aevs, aparts, ann, unn, aPut, if_true, if_false, rget_rput, flat, flat1, Nat.blt_eq, aBuiltin, aLen, List.getElem?_toArray, List.getElem?_cons_zero, List.getElem?_cons_succ, Nat.zero_add, Option.bind_some, beq_self_eq_true, Bool.not_true, Bool.not_false, Bool.true_beq, Bool.false_beq, h5, h8, hov, Tryz.underlying40, goInt, lssI, d1]
      rfl
    repeat apply W_assoc
    refine W_if (b := false) ?_ ?_ ?_
    · simp +decide only [aevs, aev, aResults, rget_rput, if_true, if_false]
    · intro h; cases h
    intro _
    refine W_exitq ⟨fun h => (nomatch h), fun _ => ?_, fun h1 h2 => absurd rfl h2⟩
    repeat apply W_assoc
    refine W_drw [0] [bx] (by kernel_rfl) (by kernel_rfl) ?_
    refine Lg_load (b := bx) (off := 0) (v := .agg #[uv]) (by simp +decide only [aevs, aev, aResults, rget_rput, if_true, if_false, h7]) (G.to (Ext.reset s)).bxg.load (Stk.svA G.out).2 G.bxg.lt (by simp [memb]) (by decide) ?_
    have e0 : Ext s (s.merge s.reset) := (Ext.refl _).merge (σ := s)
    have G := G.to e0
    clear e0
    generalize s.merge s.reset = s2 at G
    apply Lg_pre 1
    · intro callf
      simp +decide only [List.take, aQ, memb, List.any_nil, List.any_cons, Bool.true_or, Bool.or_false, Bool.and_true, Bool.or_true, Bool.false_or, Bool.true_and, reset_merge, reset_reset, reset_next, reset_low, merge_next, merge_idem, new_low, ble_self, aOps, rinit, aWanted, ↓bite_eq, ↓reduceIte, aStep_eq, aStepOld, aOp, opBox, opBin, opUn, opCall, opIndexAddr, opFieldAddr, opLoad, opStore, opPick, opExtract, opSlice, opBuildSlice, opBuild, aRow, aev, aevs, aparts, ann, unn, aPut, if_true, if_false, rget_rput, flat, flat1, Nat.blt_eq, aBuiltin, aLen, List.getElem?_toArray, List.getElem?_cons_zero, List.getElem?_cons_succ, Nat.zero_add, Option.bind_some, beq_self_eq_true, Bool.not_true, Bool.not_false, Bool.true_beq, Bool.false_beq, h5]
      rfl
    dsimp only [List.drop, List.take, List.length]
    have e0 : Ext s2 (s2.merge s2.reset) := (Ext.refl _).merge (σ := s2)
    have G := G.to e0
    clear e0
    generalize s2.merge s2.reset = s3 at G
    refine Lg_fn (vs := [ov]) (by simp +decide only [aevs, aev, aResults, rget_rput, if_true, if_false, h5]) (by decide) (by kernel_rfl) (C.mono (clipI_c (G.to (Ext.reset s3)).old (fun e => by rw [e] at hol; simp at hol) (by omega)) ?_)
    rintro nv s4 ⟨rfl, N4, o4⟩
    refine ⟨Nat.le_refl _, ?_⟩
    have e0 := (Ext.refl _).merge (σ := s3)
    have G := G.to e0
    have N4 : IntsV (s3.merge s3.reset) nv olds := by
      obtain ⟨n0, b, off, c, n1, n2, n3⟩ := N4
      exact ⟨n0, b, off, c, n1, n2, n3⟩
    clear e0
    generalize s3.merge s3.reset = s4 at G N4
    obtain ⟨ua, uc, hu⟩ := Stk.len G.out
    have hsto := storeL (p := ua) (n := rows.length) (c := uc) (G.to (Ext.reset s4)).b2g.get
    rw [← hu] at hsto
    refine Lg_store (b := b2) (off := 0) (v := .agg #[uv]) (by simp +decide only [aevs, aev, aResults, rget_rput, if_true, if_false, h2]) (by simp +decide only [aevs, aev, aResults, rget_rput, if_true, if_false]) hsto (fun y hy => by rw [AS.get_put, if_neg (fun e => hy e.symm)]; rfl) (by kernel_rfl) (by kernel_rfl) (by kernel_rfl) ?_
    have eS : Ext σ (s4.merge (s4.reset.put b2 ⟨1, 54, 0, [uv], []⟩)) := ext_merge G.ext (Ext.put (G.ext.trans (Ext.reset s4)) G.b20 _)
    have gS : ∀ i, i ≠ b2 → (s4.merge (s4.reset.put b2 ⟨1, 54, 0, [uv], []⟩)).get i = s4.get i := fun i hi => by rw [get_merge, AS.get_put, if_neg (fun e => hi e.symm)]; rfl
    have B2 : BoxAt (s4.merge (s4.reset.put b2 ⟨1, 54, 0, [uv], []⟩)) b2 uv := ⟨G.b2g.lt, by rw [get_merge, AS.get_put, if_pos rfl]⟩
    have hk2 : (s4.get b2).kind = 1 ∧ (s4.get b2).elem = 54 := by rw [G.b2g.get]; exact ⟨rfl, rfl⟩
    have O2 : OutR (s4.merge (s4.reset.put b2 ⟨1, 54, 0, [uv], []⟩)) uv outs := Stk.outR (lo := σ.next) (lr := s.next) (rows := rows)
      (G.out.keep (Nat.le_refl _) fun i ho hi => gS i fun e => by have := (G.out.own ho).2.2.1; rw [e, hk2.1] at this; cases this)
      (G.done.keep (Nat.le_refl _) fun b hb hi hk _ => gS b fun e => by rw [e, hk2.1] at hk; cases hk) hne
    have N2 : IntsV (s4.merge (s4.reset.put b2 ⟨1, 54, 0, [uv], []⟩)) nv olds := by
      obtain ⟨n0, b, off, c, n1, n2, n3⟩ := N4
      refine ⟨n0, b, off, c, n1, n2, ?_⟩
      rw [← n3]
      have hb := gS b fun e => by
        have := (G.old.own (o4 b ⟨_, _, _, n1⟩)).2.2
        rw [e, hk2.2] at this
        exact absurd this (by decide)
      unfold aCells
      simp only [hb]
    generalize s4.merge (s4.reset.put b2 ⟨1, 54, 0, [uv], []⟩) = s5 at eS B2 O2 N2
    apply Lg_all
    · intro callf
      simp +decide only [aQ, memb, List.any_nil, List.any_cons, Bool.true_or, Bool.or_false, Bool.and_true, Bool.or_true, Bool.false_or, Bool.true_and, reset_merge, reset_reset, reset_next, reset_low, merge_next, merge_idem, new_low, ble_self, aOps, rinit, aWanted, ↓bite_eq, ↓reduceIte, aStep_eq, aStepOld, aOp, opBox, opBin, opUn, opCall, opIndexAddr, opFieldAddr, opLoad, opStore, opPick, opExtract, opSlice, opBuildSlice, opBuild, aRow, aev, aevs, aparts, ann, unn, aPut, if_true, if_false, rget_rput, flat, flat1, Nat.blt_eq, aBuiltin, aLen, List.getElem?_toArray, List.getElem?_cons_zero, List.getElem?_cons_succ, Nat.zero_add, Option.bind_some, beq_self_eq_true, Bool.not_true, Bool.not_false, Bool.true_beq, Bool.false_beq]
      rfl
    have e0 := (Ext.refl _).merge (σ := s5)
    have B2 := B2.ext e0
    have O2 := O2.ext e0
    have N2 := N2.ext e0
    have eS := eS.trans e0
    clear e0
    generalize s5.merge s5.reset = s6 at eS B2 O2 N2
    refine W_ret ⟨Nat.le_refl _, [.agg #[uv], nv, .int .i64 0], ?_, eS, uv, nv, k, rfl, hdone, by rw [hst]; exact O2, by rw [hst]; exact N2⟩
    simp +decide only [aResults, rget_rput, if_true, if_false, h2, B2.load]
  have d1 : decide ((k : Int) < (olds.length : Int)) = true := decide_eq_true (by omega)
  repeat apply W_assoc
  apply W_reg
  · intro callf
    simp +decide only [aOps, rinit, aWanted, ↓bite_eq, ↓reduceIte, aStep_eq, aStepOld, aOp, opBox, opBin, opUn, opCall, opIndexAddr, opFieldAddr, opLoad, opStore, opPick, opExtract, opSlice, opBuildSlice, opBuild, aRow, aev, aevs, aparts, ann, unn, aPut, if_true, if_false, rget_rput, flat, flat1, Nat.blt_eq, aBuiltin, aLen, List.getElem?_toArray, List.getElem?_cons_zero, List.getElem?_cons_succ, Nat.zero_add, Option.bind_some, beq_self_eq_true, Bool.not_true, Bool.not_false, Bool.true_beq, Bool.false_beq, h5, h8, hov, Tryz.underlying40, goInt, lssI, d1]
    rfl
  repeat apply W_assoc
  refine W_if (b := true) ?_ ?_ ?_
  · simp +decide only [aevs, aev, aResults, rget_rput, if_true, if_false]
  rotate_left
  · intro h; cases h
  intro _
  apply W_skipq
  refine W_blk ?_
  refine W_tail ?_
  obtain ⟨o, ho⟩ : ∃ o, olds[k]? = some o := ⟨olds[k], by simp [hlt]⟩
  have hoL := hLt o (List.mem_of_getElem? ho)
  obtain ⟨l, hl⟩ : ∃ l, L[o]? = some l := ⟨L[o], by simp [hoL]⟩
  have hlm := List.mem_of_getElem? hl
  have hll := hs.rows l hlm
  have hgl : L.getD o [] = l := by rw [List.getD_eq_getElem?_getD, hl]; rfl
  obtain ⟨ob, oc', hov', hob, hoi, hold⟩ := G.oldAt ho
  obtain ⟨rb, roff, rc, w, hvr, hrb, hri, hrld, hrow⟩ := (h.ext G.ext).at hl
  repeat apply W_assoc
  apply W_reg
  · intro callf
    simp +decide only [aOps, rinit, aWanted, ↓bite_eq, ↓reduceIte, aStep_eq, aStepOld, aOp, opBox, opBin, opUn, opCall, opIndexAddr, opFieldAddr, opLoad, opStore, opPick, opExtract, opSlice, opBuildSlice, opBuild, aRow, aev, aevs, aparts, ann, unn, aPut, if_true, if_false, rget_rput, flat, flat1, Nat.blt_eq, aBuiltin, aLen, List.getElem?_toArray, List.getElem?_cons_zero, List.getElem?_cons_succ, Nat.zero_add, Option.bind_some, beq_self_eq_true, Bool.not_true, Bool.not_false, Bool.true_beq, Bool.false_beq]
    rfl
  have f1 := (G.to (Ext.reset s)).b1g.out
  have f2 := hold s.reset rfl
  have f3 := hrld s.reset rfl
  repeat apply W_assoc
  refine W_drw [] [] (by kernel_rfl) (by kernel_rfl) ?_
  apply Lg_pre 8
  · intro callf
    simp +decide only [List.take, aQ, memb, List.any_nil, List.any_cons, Bool.true_or, Bool.or_false, Bool.and_true, Bool.or_true, Bool.false_or, Bool.true_and, reset_merge, reset_reset, reset_next, reset_low, merge_next, merge_idem, new_low, ble_self, aOps, rinit, aWanted, ↓bite_eq, ↓reduceIte, aStep_eq, aStepOld, aOp, opBox, opBin, opUn, opCall, opIndexAddr, opFieldAddr, opLoad, opStore, opPick, opExtract, opSlice, opBuildSlice, opBuild, aRow, aev, aevs, aparts, ann, unn, aPut, if_true, if_false, rget_rput, flat, flat1, Nat.blt_eq, aBuiltin, aLen, List.getElem?_toArray, List.getElem?_cons_zero, List.getElem?_cons_succ, Nat.zero_add, Option.bind_some, beq_self_eq_true, Bool.not_true, Bool.not_false, Bool.true_beq, Bool.false_beq, h1, fldL, f1, h5, h8, hoi, f2, hri, f3]
    rfl
  dsimp only [List.drop, List.take, List.length]
  have e0 : Ext s (s.merge s.reset) := (Ext.refl _).merge (σ := s)
  have G := G.to e0
  have hrow := hrow.ext e0
  clear e0
  generalize s.merge s.reset = s2 at G hrow
  have G := G.mono
  refine Lg_fn (vs := [w]) (by simp +decide only [aevs, aev, aResults, rget_rput, if_true, if_false]) (by decide) rfl (C.mono (cloneS (hrow.ext (Ext.reset _)) (by omega)) ?_)
  rintro v s1 ⟨A1, E1⟩
  refine ⟨E1.quiet, ?_⟩
  have e0 := E1.merge
  have G := G.to e0
  have A1 : ALn s2.next (s2.merge s1) v l := A1.keep (Nat.le_refl _) fun _ _ _ => rfl
  have hlr : s2.next ≤ (s2.merge s1).next := e0.nxt
  have hlr0 := G.lr0
  clear e0 E1
  generalize s2.merge s1 = s3 at G A1 hlr
  generalize s2.next = lr at G A1 hlr hlr0
  refine Lg_bar (vs := [v]) (by simp +decide only [aevs, aev, aResults, rget_rput, if_true, if_false]) (by decide) (by kernel_rfl) (by kernel_rfl) (C.mono (sortedS (A1.ext (Ext.reset s3)) hlr hll) ?_)
  rintro tv s4 ⟨T4, o4, c4⟩
  refine ⟨fun x hx => (nomatch hx), ?_⟩
  have c4 := c4.merge hlr
  have G := G.chg A1.al c4
  have T4 : RowB (s3.merge s4).next (s3.merge s4) tv (Can.srt l) := T4.keep (Nat.le_refl _) fun _ _ _ _ _ => rfl
  clear c4 o4
  generalize s3.merge s4 = s5 at G T4
  obtain ⟨tb, tc, htv⟩ := T4.row.len
  subst htv
  apply Lg_all
  · intro callf
    simp +decide only [aQ, memb, List.any_nil, List.any_cons, Bool.true_or, Bool.or_false, Bool.and_true, Bool.or_true, Bool.false_or, Bool.true_and, reset_merge, reset_reset, reset_next, reset_low, merge_next, merge_idem, new_low, ble_self, aOps, rinit, aWanted, ↓bite_eq, ↓reduceIte, aStep_eq, aStepOld, aOp, opBox, opBin, opUn, opCall, opIndexAddr, opFieldAddr, opLoad, opStore, opPick, opExtract, opSlice, opBuildSlice, opBuild, aRow, aev, aevs, aparts, ann, unn, aPut, if_true, if_false, rget_rput, flat, flat1, Nat.blt_eq, aBuiltin, aLen, List.getElem?_toArray, List.getElem?_cons_zero, List.getElem?_cons_succ, Nat.zero_add, Option.bind_some, beq_self_eq_true, Bool.not_true, Bool.not_false, Bool.true_beq, Bool.false_beq, Tryz.underlying60, goInt]
    rfl
  have e0 : Ext s5 (s5.merge s5.reset) := (Ext.refl _).merge (σ := s5)
  have G := (G.to e0).mono
  have T4 := (T4.ext e0).mono e0.nxt
  clear e0 A1 hlr hlr0 hrow f1 f2 f3 hoi hold hri hrld hov' hvr
  generalize s5.merge s5.reset = s6 at G T4
  generalize hT : Can.srt l = T at T4
  have hTl : T.length ≤ 3 := by rw [← hT]; exact Nat.le_trans (Can.srt_length l) hll
  have hTn : ∀ a ∈ T, a.2 < L.length := fun a ha => by rw [← hT] at ha; exact hs.to l hlm a (Can.mem_srt.1 ha)
  have hlr0 := G.lr0
  have hlrn := G.lrn
  generalize hlr : s6.next = lr at G T4 hlr0 hlrn
  have hmn : ∀ j, (Can.meets olds (T.take j)).length ≤ 10 := fun j => Nat.le_trans (Can.nodup_bound (n := L.length) (Can.nodup_meets hI.nodup) fun o ho => by
    rcases Can.mem_meets.1 ho with h1 | ⟨a, ha, rfl⟩
    · exact hLt o h1
    · exact hTn a (List.mem_of_mem_take ha)) hL10
  repeat apply W_assoc
  refine W_for (fun (x : Nat × Value × Value) r s => x.1 ≤ T.length ∧ Cn σ b1 b2 bx lr vL s x.2.1 mv uv rows (Can.meets olds (T.take x.1)) (numF (Can.meets olds (T.take x.1))) outs ∧ ALn lr s x.2.2 (Can.ren (Can.meets olds (T.take x.1)) (T.take x.1)) ∧ RowB lr s (.slice tb T.length tc) T ∧
      rget r 1 = .pointer (some ⟨b1, 0, none⟩) ∧ rget r 2 = .pointer (some ⟨b2, 0, none⟩) ∧ rget r 5 = x.2.1 ∧ rget r 6 = mv ∧ rget r 7 = .pointer (some ⟨bx, 0, none⟩) ∧ rget r 8 = .int .i64 (k : Int) ∧ rget r 9 = x.2.2 ∧ rget r 36 = .slice tb T.length tc ∧ rget r 37 = .int .i64 (T.length : Int) ∧ rget r 38 = .int .i64 (x.1 : Int))
    (fun x => T.length - x.1) ?_ (0, ov, .slice none 0 0) ?_
  rotate_left
  · refine ⟨Nat.zero_le _, G, .inl ⟨rfl, rfl⟩, T4, ?_, ?_, ?_, ?_, ?_, ?_, ?_, ?_, ?_, ?_⟩ <;> simp +decide only [rget_rput, rinit, if_true, if_false, goInt, h1, h2, h5, h6, h7, h8, hT] <;> first | exact True.intro | rfl
  clear G T4 h1 h2 h5 h6 h7 h8 hov hlrn hlr
  rintro ⟨j, ov, rv⟩ r s ⟨hj, G, A, T4, h1, h2, h5, h6, h7, h8, h9, h36, h37, h38⟩
  dsimp only at hj G A h5 h9 h38
  have hlrn := G.lrn
  by_cases hjl : j < T.length
  rotate_left
  · have d2 : decide ((j : Int) < (T.length : Int)) = false := decide_eq_false (by omega)
    obtain rfl : j = T.length := by omega
    repeat apply W_assoc
    apply W_reg
    · intro callf
      simp +decide only [aOps, rinit, aWanted, ↓bite_eq, ↓reduceIte, aStep_eq, aStepOld, aOp, opBox, opBin, opUn, opCall, opIndexAddr, opFieldAddr, opLoad, opStore, opPick, opExtract, opSlice, opBuildSlice, opBuild, aRow, aev, aevs, aparts, ann, unn, aPut, if_true, if_false, rget_rput, flat, flat1, Nat.blt_eq, aBuiltin, aLen, List.getElem?_toArray, List.getElem?_cons_zero, List.getElem?_cons_succ, Nat.zero_add, Option.bind_some, beq_self_eq_true, Bool.not_true, Bool.not_false, Bool.true_beq, Bool.false_beq, h37, h38, lssI, d2]
      rfl
    repeat apply W_assoc
    refine W_if (b := false) ?_ ?_ ?_
    · simp +decide only [aevs, aev, aResults, rget_rput, if_true, if_false]
    · intro h; cases h
    intro _
    refine W_exitq ⟨fun h => (nomatch h), fun _ => ?_, fun h1 h2 => absurd rfl h2⟩
    rw [List.take_of_length_le (Nat.le_refl _)] at G A
    have hrow3 : (Can.ren (Can.meets olds T) T).length ≤ 3 := by rw [ren_length]; exact hTl
    generalize hrow : Can.ren (Can.meets olds T) T = row at A hrow3
    repeat apply W_assoc
    refine W_drw [1] [bx] (by kernel_rfl) (by kernel_rfl) ?_
    apply Lg_pre 1
    · intro callf
      simp +decide only [List.take, aQ, memb, List.any_nil, List.any_cons, Bool.true_or, Bool.or_false, Bool.and_true, Bool.or_true, Bool.false_or, Bool.true_and, reset_merge, reset_reset, reset_next, reset_low, merge_next, merge_idem, new_low, ble_self, aOps, rinit, aWanted, ↓bite_eq, ↓reduceIte, aStep_eq, aStepOld, aOp, opBox, opBin, opUn, opCall, opIndexAddr, opFieldAddr, opLoad, opStore, opPick, opExtract, opSlice, opBuildSlice, opBuild, aRow, aev, aevs, aparts, ann, unn, aPut, if_true, if_false, rget_rput, flat, flat1, Nat.blt_eq, aBuiltin, aLen, List.getElem?_toArray, List.getElem?_cons_zero, List.getElem?_cons_succ, Nat.zero_add, Option.bind_some, beq_self_eq_true, Bool.not_true, Bool.not_false, Bool.true_beq, Bool.false_beq, h7, fldL]
      rfl
    dsimp only [List.drop, List.take, List.length]
    have e0 : Ext s (s.merge s.reset) := (Ext.refl _).merge (σ := s)
    have G := G.to e0
    have A := A.ext e0
    clear e0
    generalize s.merge s.reset = sa at G A
    refine Lg_load (b := bx) (off := 0) (v := uv) (by simp +decide only [aevs, aev, aResults, rget_rput, if_true, if_false]) (G.to (Ext.reset sa)).bxg.out (Stk.svA G.out).1 G.bxg.lt (by simp [memb]) (by decide) ?_
    have e0 : Ext sa (sa.merge sa.reset) := (Ext.refl _).merge (σ := sa)
    have G := G.to e0
    have A := A.ext e0
    clear e0
    generalize sa.merge sa.reset = sb at G A
    apply Lg_pre 1
    · intro callf
      simp +decide only [List.take, aQ, memb, List.any_nil, List.any_cons, Bool.true_or, Bool.or_false, Bool.and_true, Bool.or_true, Bool.false_or, Bool.true_and, reset_merge, reset_reset, reset_next, reset_low, merge_next, merge_idem, new_low, ble_self, aOps, rinit, aWanted, ↓bite_eq, ↓reduceIte, aStep_eq, aStepOld, aOp, opBox, opBin, opUn, opCall, opIndexAddr, opFieldAddr, opLoad, opStore, opPick, opExtract, opSlice, opBuildSlice, opBuild, aRow, aev, aevs, aparts, ann, unn, aPut, if_true, if_false, rget_rput, flat, flat1, Nat.blt_eq, aBuiltin, aLen, List.getElem?_toArray, List.getElem?_cons_zero, List.getElem?_cons_succ, Nat.zero_add, Option.bind_some, beq_self_eq_true, Bool.not_true, Bool.not_false, Bool.true_beq, Bool.false_beq, h9]
      rfl
    dsimp only [List.drop, List.take, List.length]
    have e0 : Ext sb (sb.merge sb.reset) := (Ext.refl _).merge (σ := sb)
    have G := G.to e0
    have A := A.ext e0
    clear e0
    generalize sb.merge sb.reset = sc at G A
    refine Lg_bar (vs := [rv]) (by simp +decide only [aevs, aev, aResults, rget_rput, if_true, if_false]) (by decide) (by kernel_rfl) (by kernel_rfl) (C.mono (sortedS (A.ext (Ext.reset sc)) G.lrn hrow3) ?_)
    rintro wv s4 ⟨W4, o4, c4⟩
    refine ⟨fun y hy hlt => c4.get y hlt fun ho => ?_, ?_⟩
    · obtain rfl : y = bx := by simpa using hy
      have := (A.own ho).2.2.1
      rw [G.bxg.get] at this
      cases this
    have G := (G.chg A.al (c4.merge G.lrn)).mono
    have W4 : RowB (sc.merge s4).next (sc.merge s4) wv (Can.srt row) := W4.keep (Nat.le_refl _) fun _ _ _ _ _ => rfl
    clear c4 o4 A
    generalize sc.merge s4 = sd at G W4
    obtain ⟨wb, wc, hw⟩ := W4.row.len
    generalize (Can.srt row).length = wn at hw
    subst hw
    refine Lg_qopX (v := .slice (some ⟨sd.next, 0, none⟩) 1 1) (s1 := sd.reset.new ⟨1, 60, 0, [.slice wb wn wc], []⟩) (by intro callf; simp +decide only [aOps, rinit, aWanted, ↓bite_eq, ↓reduceIte, aStep_eq, aStepOld, aOp, opBox, opBin, opUn, opCall, opIndexAddr, opFieldAddr, opLoad, opStore, opPick, opExtract, opSlice, opBuildSlice, opBuild, aRow, aev, aevs, aparts, ann, unn, aPut, if_true, if_false, rget_rput, flat, flat1, Nat.blt_eq, aBuiltin, aLen, List.getElem?_toArray, List.getElem?_cons_zero, List.getElem?_cons_succ, Nat.zero_add, Option.bind_some, beq_self_eq_true, Bool.not_true, Bool.not_false, Bool.true_beq, Bool.false_beq, sliceR1]; rfl) (by decide) (by kernel_rfl) (Nat.le_refl _) ?_
    have hbb : (sd.merge (sd.reset.new ⟨1, 60, 0, [.slice wb wn wc], []⟩)).reset.get sd.next = ⟨1, 60, 0, [.slice wb wn wc], []⟩ := by
      show (sd.reset.new ⟨1, 60, 0, [.slice wb wn wc], []⟩).get sd.next = _
      rw [AS.get_new]; exact if_pos rfl
    have e0 := Ext.merge (Ext.new sd.reset ⟨1, 60, 0, [.slice wb wn wc], []⟩)
    have G := G.to e0
    have W4 := W4.ext e0
    clear e0
    generalize sd.merge (sd.reset.new ⟨1, 60, 0, [.slice wb wn wc], []⟩) = se at G W4 hbb
    obtain ⟨uv2, sf, ga, gne, ⟨p, n, c, hu2⟩, ged, gl⟩ := (G.to (Ext.reset se)).add hbb (W4.ext (Ext.reset se)) (by omega)
    refine Lg_opX (v := uv2) (s1 := sf) (by intro callf; simp +decide only [aOps, rinit, aWanted, ↓bite_eq, ↓reduceIte, aStep_eq, aStepOld, aOp, opBox, opBin, opUn, opCall, opIndexAddr, opFieldAddr, opLoad, opStore, opPick, opExtract, opSlice, opBuildSlice, opBuild, aRow, aev, aevs, aparts, ann, unn, aPut, if_true, if_false, rget_rput, flat, flat1, Nat.blt_eq, aBuiltin, aLen, List.getElem?_toArray, List.getElem?_cons_zero, List.getElem?_cons_succ, Nat.zero_add, Option.bind_some, beq_self_eq_true, Bool.not_true, Bool.not_false, Bool.true_beq, Bool.false_beq, ga]) (by decide) (by kernel_rfl) (by kernel_rfl) (fun y hy hlt => gne y hlt (by
      obtain rfl : y = bx := by simpa using hy
      rw [(G.to (Ext.reset se)).bxg.get]
      exact (by decide : (54 : Nat) ≠ 60))) ?_
    have eG : Ext σ (se.merge sf) := ext_merge G.ext ged
    have gn : (se.merge sf).next = sf.next := rfl
    have gg : ∀ i, (se.merge sf).get i = sf.get i := fun _ => rfl
    have gb : (se.merge sf).get bx = ⟨1, 54, 0, [uv], []⟩ := (gne bx G.bxg.lt (by
      rw [(G.to (Ext.reset se)).bxg.get]
      exact (by decide : (54 : Nat) ≠ 60))).trans G.bxg.get
    have hbx0 := G.bx0
    generalize se.merge sf = sg at eG gn gg gb
    apply Lg_pre 1
    · intro callf
      simp +decide only [List.take, aQ, memb, List.any_nil, List.any_cons, Bool.true_or, Bool.or_false, Bool.and_true, Bool.or_true, Bool.false_or, Bool.true_and, reset_merge, reset_reset, reset_next, reset_low, merge_next, merge_idem, new_low, ble_self, aOps, rinit, aWanted, ↓bite_eq, ↓reduceIte, aStep_eq, aStepOld, aOp, opBox, opBin, opUn, opCall, opIndexAddr, opFieldAddr, opLoad, opStore, opPick, opExtract, opSlice, opBuildSlice, opBuild, aRow, aev, aevs, aparts, ann, unn, aPut, if_true, if_false, rget_rput, flat, flat1, Nat.blt_eq, aBuiltin, aLen, List.getElem?_toArray, List.getElem?_cons_zero, List.getElem?_cons_succ, Nat.zero_add, Option.bind_some, beq_self_eq_true, Bool.not_true, Bool.not_false, Bool.true_beq, Bool.false_beq, h7, fldL]
      rfl
    dsimp only [List.drop, List.take, List.length]
    have e0 := (Ext.refl _).merge (σ := sg)
    have eG := eG.trans e0
    have gn : (sg.merge sg.reset).next = sf.next := gn
    have gg : ∀ i, (sg.merge sg.reset).get i = sf.get i := gg
    have gb : (sg.merge sg.reset).get bx = ⟨1, 54, 0, [uv], []⟩ := gb
    clear e0
    generalize sg.merge sg.reset = sh at eG gn gg gb
    have hsto := storeO (p := p) (n := n) (c := c) (show sh.reset.get bx = _ from gb)
    rw [← hu2] at hsto
    refine Lg_store (b := bx) (off := 0) (v := uv2) (by simp +decide only [aevs, aev, aResults, rget_rput, if_true, if_false]) (by simp +decide only [aevs, aev, aResults, rget_rput, if_true, if_false]) hsto (fun y hy => by rw [AS.get_put, if_neg (fun e => hy e.symm)]; rfl) (by kernel_rfl) (by kernel_rfl) (by kernel_rfl) ?_
    have G := gl (sh.merge (sh.reset.put bx ⟨1, 54, 0, [uv2], []⟩)) gn (fun i hi => by rw [get_merge, AS.get_put, if_neg (fun e => hi e.symm)]; exact gg i) (by rw [get_merge, AS.get_put, if_pos rfl]) (ext_merge eG (Ext.put (eG.trans (Ext.reset sh)) hbx0 _))
    clear gl ged gne ga eG gn gg gb hsto hbb W4
    generalize sh.merge (sh.reset.put bx ⟨1, 54, 0, [uv2], []⟩) = si at G
    show W _ _ _ 82 _ _ _ _
    refine W_skip ⟨fun _ => ?_, fun h => absurd rfl h⟩
    refine W_tail ?_
    have w6 : IntKind.i64.wrap ((k : Int) + 1) = ((k + 1 : Nat) : Int) := by rw [wrap64_id _ (by omega) (by omega)]; omega
    repeat apply W_assoc
    apply W_reg
    · intro callf
      simp +decide only [aOps, rinit, aWanted, ↓bite_eq, ↓reduceIte, aStep_eq, aStepOld, aOp, opBox, opBin, opUn, opCall, opIndexAddr, opFieldAddr, opLoad, opStore, opPick, opExtract, opSlice, opBuildSlice, opBuild, aRow, aev, aevs, aparts, ann, unn, aPut, if_true, if_false, rget_rput, flat, flat1, Nat.blt_eq, aBuiltin, aLen, List.getElem?_toArray, List.getElem?_cons_zero, List.getElem?_cons_succ, Nat.zero_add, Option.bind_some, beq_self_eq_true, Bool.not_true, Bool.not_false, Bool.true_beq, Bool.false_beq, h8, w6, aBin, aInts, aInt_eq]
      rfl
    have hround : Can.rounds L (k + 1) = (Can.meets olds T, outs ++ [Can.srt row]) := by
      rw [hstep]
      unfold Can.round
      simp only [hkl, ho, hgl, hT, hrow]
    refine W_skip ⟨fun _ => ⟨(k + 1, ov, uv2, rows ++ [.slice wb wn wc]), ?_, ?_⟩, fun h => (nomatch h), fun h => absurd rfl h⟩
    · show 10 - (k + 1) < 10 - k
      omega
    · refine ⟨by show k + 1 ≤ 10; omega, by show (Can.rounds L (k + 1)).2.length = k + 1; rw [hround]; simp [hkl], ?_, ?_, ?_, ?_, ?_, ?_, ?_⟩
      · show Cn σ b1 b2 bx si.next vL si ov mv uv2 (rows ++ [.slice wb wn wc]) (Can.rounds L (k + 1)).1 (numF (Can.rounds L (k + 1)).1) (Can.rounds L (k + 1)).2
        rw [hround]
        exact G.mono
      all_goals simp +decide only [rget_rput, if_true, if_false, h1, h2, h5, h6, h7]
  have d2 : decide ((j : Int) < (T.length : Int)) = true := decide_eq_true (by omega)
  repeat apply W_assoc
  apply W_reg
  · intro callf
    simp +decide only [aOps, rinit, aWanted, ↓bite_eq, ↓reduceIte, aStep_eq, aStepOld, aOp, opBox, opBin, opUn, opCall, opIndexAddr, opFieldAddr, opLoad, opStore, opPick, opExtract, opSlice, opBuildSlice, opBuild, aRow, aev, aevs, aparts, ann, unn, aPut, if_true, if_false, rget_rput, flat, flat1, Nat.blt_eq, aBuiltin, aLen, List.getElem?_toArray, List.getElem?_cons_zero, List.getElem?_cons_succ, Nat.zero_add, Option.bind_some, beq_self_eq_true, Bool.not_true, Bool.not_false, Bool.true_beq, Bool.false_beq, h37, h38, lssI, d2]
    rfl
  repeat apply W_assoc
  refine W_if (b := true) ?_ ?_ ?_
  · simp +decide only [aevs, aev, aResults, rget_rput, if_true, if_false]
  rotate_left
  · intro h; cases h
  intro _
  apply W_skipq
  refine W_blk ?_
  obtain ⟨x, hx⟩ : ∃ x, T[j]? = some x := ⟨T[j], by simp [hjl]⟩
  obtain ⟨xb, xo, xc, hxe, hxb, hxi, hxl, -⟩ := T4.row.at hx
  have f1 := hxl s rfl
  repeat apply W_assoc
  apply W_reg
  · intro callf
    simp +decide only [aOps, rinit, aWanted, ↓bite_eq, ↓reduceIte, aStep_eq, aStepOld, aOp, opBox, opBin, opUn, opCall, opIndexAddr, opFieldAddr, opLoad, opStore, opPick, opExtract, opSlice, opBuildSlice, opBuild, aRow, aev, aevs, aparts, ann, unn, aPut, if_true, if_false, rget_rput, flat, flat1, Nat.blt_eq, aBuiltin, aLen, List.getElem?_toArray, List.getElem?_cons_zero, List.getElem?_cons_succ, Nat.zero_add, Option.bind_some, beq_self_eq_true, Bool.not_true, Bool.not_false, Bool.true_beq, Bool.false_beq, h36, h38, hxi, f1, allocA, storeA]
    rfl
  have D := decl_at s x
  have e0 := decl_ext s x
  have G := G.to e0
  have A := A.ext e0
  have T4 := T4.ext e0
  clear e0 f1 hxl hxi
  generalize s.next = bd at D
  generalize decl s x = s at D G A T4 hlrn
  have hmk : ∃ (val : Int) (kn : Bool), aLookup Tryz.prog s 91 mv (.int .i64 (x.2 : Int)) true = some (.tuple #[.int .i64 val, .bool kn]) ∧ (kn = true ↔ x.2 ∈ Can.meets olds (T.take j)) := by
    have hq := G.look (x.2 : Int) true
    by_cases hm : x.2 ∈ Can.meets olds (T.take j)
    · rw [numF_in hm] at hq
      exact ⟨_, true, hq, by simp [hm]⟩
    · rw [numF_out hm] at hq
      exact ⟨_, false, hq, by simp [hm]⟩
  obtain ⟨val, kn, hlook, hkn⟩ := hmk
  repeat apply W_assoc
  apply W_reg
  · intro callf
    simp +decide only [aOps, rinit, aWanted, ↓bite_eq, ↓reduceIte, aStep_eq, aStepOld, aOp, opBox, opBin, opUn, opCall, opIndexAddr, opFieldAddr, opLoad, opStore, opPick, opExtract, opSlice, opBuildSlice, opBuild, aRow, aev, aevs, aparts, ann, unn, aPut, if_true, if_false, rget_rput, flat, flat1, Nat.blt_eq, aBuiltin, aLen, List.getElem?_toArray, List.getElem?_cons_zero, List.getElem?_cons_succ, Nat.zero_add, Option.bind_some, beq_self_eq_true, Bool.not_true, Bool.not_false, Bool.true_beq, Bool.false_beq, h6, fldA1, D.to, hlook, opLookup]
    rfl
  repeat apply W_assoc
  apply W_reg
  · intro callf
    simp +decide only [aOps, rinit, aWanted, ↓bite_eq, ↓reduceIte, aStep_eq, aStepOld, aOp, opBox, opBin, opUn, opCall, opIndexAddr, opFieldAddr, opLoad, opStore, opPick, opExtract, opSlice, opBuildSlice, opBuild, aRow, aev, aevs, aparts, ann, unn, aPut, if_true, if_false, rget_rput, flat, flat1, Nat.blt_eq, aBuiltin, aLen, List.getElem?_toArray, List.getElem?_cons_zero, List.getElem?_cons_succ, Nat.zero_add, Option.bind_some, beq_self_eq_true, Bool.not_true, Bool.not_false, Bool.true_beq, Bool.false_beq, not_b]
    rfl
  clear hlook
  repeat apply W_assoc
  refine W_join (b := !kn) (fun r s => ∃ ov, Cn σ b1 b2 bx lr vL s ov mv uv rows (Can.meets olds (T.take (j + 1))) (numF (Can.meets olds (T.take (j + 1)))) outs ∧ ALn lr s rv (Can.ren (Can.meets olds (T.take j)) (T.take j)) ∧ RowB lr s (.slice tb T.length tc) T ∧ ArcAt s bd x ∧
      rget r 1 = .pointer (some ⟨b1, 0, none⟩) ∧ rget r 2 = .pointer (some ⟨b2, 0, none⟩) ∧ rget r 5 = ov ∧ rget r 6 = mv ∧ rget r 7 = .pointer (some ⟨bx, 0, none⟩) ∧ rget r 8 = .int .i64 (k : Int) ∧ rget r 9 = rv ∧ rget r 11 = .pointer (some ⟨bd, 0, none⟩) ∧ rget r 36 = .slice tb T.length tc ∧ rget r 37 = .int .i64 (T.length : Int) ∧ rget r 38 = .int .i64 (j : Int)) (by simp +decide only [aevs, aev, aResults, rget_rput, if_true, if_false]) ?_ ?_ ?_
  · intro hb
    have hm : x.2 ∉ Can.meets olds (T.take j) := fun hm => by rw [hkn.2 hm] at hb; cases hb
    have hnew : Can.meets olds (T.take (j + 1)) = Can.meets olds (T.take j) ++ [x.2] := by rw [take_meets hx]; unfold Can.meet; rw [if_neg hm]
    have hlen10 := hmn j
    obtain ⟨ja, jc, hov⟩ := G.old.len
    obtain ⟨mr, MB, hmu, hsm, G⟩ := G.enter (x.2 : Int) (.int .i64 ((Can.meets olds (T.take j)).length : Int))
    rw [numF_app hm, ← hnew] at G
    refine W_tail ?_
    repeat apply W_assoc
    apply W_reg
    · intro callf
      simp +decide only [aOps, rinit, aWanted, ↓bite_eq, ↓reduceIte, aStep_eq, aStepOld, aOp, opBox, opBin, opUn, opCall, opIndexAddr, opFieldAddr, opLoad, opStore, opPick, opExtract, opSlice, opBuildSlice, opBuild, aRow, aev, aevs, aparts, ann, unn, aPut, if_true, if_false, rget_rput, flat, flat1, Nat.blt_eq, aBuiltin, aLen, List.getElem?_toArray, List.getElem?_cons_zero, List.getElem?_cons_succ, Nat.zero_add, Option.bind_some, beq_self_eq_true, Bool.not_true, Bool.not_false, Bool.true_beq, Bool.false_beq, h6, fldA1, D.to, h5, hov, Tryz.underlying40, goInt, opUpdate, hmu]
      rfl
    have A := A.same hsm
    have T4 := T4.same hsm
    have D := D.same hsm
    clear hsm hmu hov
    generalize s.put mr MB = s1 at G A T4 D
    have e0 := Ext.new s1 ⟨1, 3, 0, [.int .i64 (x.2 : Int)], []⟩
    have G := G.to e0
    have A := A.ext e0
    have T4 := T4.ext e0
    have D2 := D.ext e0
    obtain ⟨ov2, s3, ha, hsm, G⟩ := G.meet (t := x.2) (b := s1.next) (by rw [AS.get_new, if_pos rfl]) (by omega)
    repeat apply W_assoc
    apply W_reg
    · intro callf
      simp +decide only [aOps, rinit, aWanted, ↓bite_eq, ↓reduceIte, aStep_eq, aStepOld, aOp, opBox, opBin, opUn, opCall, opIndexAddr, opFieldAddr, opLoad, opStore, opPick, opExtract, opSlice, opBuildSlice, opBuild, aRow, aev, aevs, aparts, ann, unn, aPut, if_true, if_false, rget_rput, flat, flat1, Nat.blt_eq, aBuiltin, aLen, List.getElem?_toArray, List.getElem?_cons_zero, List.getElem?_cons_succ, Nat.zero_add, Option.bind_some, beq_self_eq_true, Bool.not_true, Bool.not_false, Bool.true_beq, Bool.false_beq, h5, fldA1, D.to, sliceI1, ha]
      rfl
    rw [← hnew] at G
    refine W_skip ⟨rfl, ov2, G, A.same hsm, T4.same hsm, D2.same hsm, ?_, ?_, ?_, ?_, ?_, ?_, ?_, ?_, ?_, ?_, ?_⟩ <;> simp +decide only [rget_rput, if_true, if_false, h1, h2, h6, h7, h8, h9, h36, h37, h38]
  · intro hb
    have hm : x.2 ∈ Can.meets olds (T.take j) := hkn.1 (by cases kn <;> simp_all)
    have hnew : Can.meets olds (T.take (j + 1)) = Can.meets olds (T.take j) := by rw [take_meets hx]; unfold Can.meet; rw [if_pos hm]
    rw [← hnew] at G
    refine W_skip ⟨rfl, ov, G, A, T4, D, ?_, ?_, ?_, ?_, ?_, ?_, ?_, ?_, ?_, ?_, ?_⟩ <;> simp +decide only [rget_rput, if_true, if_false, h1, h2, h5, h6, h7, h8, h9, h36, h37, h38]
  clear G A T4 D h1 h2 h5 h6 h7 h8 h9 h36 h37 h38 hkn hlrn
  rintro r s ⟨ov, G, A, T4, D, h1, h2, h5, h6, h7, h8, h9, h11, h36, h37, h38⟩
  have hmem : x.2 ∈ Can.meets olds (T.take (j + 1)) := by rw [take_meets hx]; exact Can.mem_meet.2 (.inr rfl)
  have hlook : aLookup Tryz.prog s 91 mv (.int .i64 (x.2 : Int)) false = some (.int .i64 (Can.num (Can.meets olds (T.take (j + 1))) x.2 : Int)) := by
    have hq := G.look (x.2 : Int) false
    rw [numF_in hmem] at hq
    exact hq
  have hlenj : (Can.ren (Can.meets olds (T.take j)) (T.take j)).length ≤ 3 := by rw [ren_length, List.length_take]; omega
  have hren := take_ren hx olds
  have hlrn := G.lrn
  generalize Can.num (Can.meets olds (T.take (j + 1))) x.2 = nm at hlook hren
  have e0 := Ext.new s ⟨1, 62, 0, [.int .i64 (x.1 : Int), .int .i64 (nm : Int)], []⟩
  have G := G.to e0
  have A := A.ext e0
  have T4 := T4.ext e0
  obtain ⟨rv2, s2, ha, A2, c2, -⟩ := A.al.push (x := (x.1, nm)) G.lrn (b := s.next) (by rw [AS.get_new, if_pos rfl]) (by omega)
  refine W_tail ?_
  repeat apply W_assoc
  apply W_reg
  · intro callf
    simp +decide only [aOps, rinit, aWanted, ↓bite_eq, ↓reduceIte, aStep_eq, aStepOld, aOp, opBox, opBin, opUn, opCall, opIndexAddr, opFieldAddr, opLoad, opStore, opPick, opExtract, opSlice, opBuildSlice, opBuild, aRow, aev, aevs, aparts, ann, unn, aPut, if_true, if_false, rget_rput, flat, flat1, Nat.blt_eq, aBuiltin, aLen, List.getElem?_toArray, List.getElem?_cons_zero, List.getElem?_cons_succ, Nat.zero_add, Option.bind_some, beq_self_eq_true, Bool.not_true, Bool.not_false, Bool.true_beq, Bool.false_beq, h9, fldA0, D.ev, h11, h6, fldA1, D.to, hlook, opLookup, buildA, sliceA1, ha]
    rfl
  have G := G.chg A.al c2
  have T4 : RowB lr s2 (.slice tb T.length tc) T := T4.keep c2.nxt fun b hb hl _ _ => c2.get b hl fun ho => by have := (A.own ho).1; omega
  rw [← hren] at A2
  clear A ha c2 D hlook e0
  generalize s2 = s2 at G A2 T4
  refine W_skip ⟨fun _ => ?_, fun h => absurd rfl h⟩
  refine W_tail ?_
  have w6 : IntKind.i64.wrap ((j : Int) + 1) = ((j + 1 : Nat) : Int) := by rw [wrap64_id _ (by omega) (by omega)]; omega
  repeat apply W_assoc
  apply W_reg
  · intro callf
    simp +decide only [aOps, rinit, aWanted, ↓bite_eq, ↓reduceIte, aStep_eq, aStepOld, aOp, opBox, opBin, opUn, opCall, opIndexAddr, opFieldAddr, opLoad, opStore, opPick, opExtract, opSlice, opBuildSlice, opBuild, aRow, aev, aevs, aparts, ann, unn, aPut, if_true, if_false, rget_rput, flat, flat1, Nat.blt_eq, aBuiltin, aLen, List.getElem?_toArray, List.getElem?_cons_zero, List.getElem?_cons_succ, Nat.zero_add, Option.bind_some, beq_self_eq_true, Bool.not_true, Bool.not_false, Bool.true_beq, Bool.false_beq, h38, w6, aBin, aInts, aInt_eq]
    rfl
  refine W_skip ⟨fun _ => ⟨(j + 1, ov, rv2), ?_, ?_⟩, fun h => (nomatch h), fun h => absurd rfl h⟩
  · show T.length - (j + 1) < T.length - j
    omega
  · refine ⟨by show j + 1 ≤ _; omega, G, A2, T4, ?_, ?_, ?_, ?_, ?_, ?_, ?_, ?_, ?_, ?_⟩ <;> simp +decide only [rget_rput, if_true, if_false, h1, h2, h5, h6, h7, h8, h36, h37]

end Go.Proofs.YtacpdefmnijhnaaGreat.U
