/- The law: the walk. -/
import Derived.Test.YtacpdefmnijhnaaGreatSH
import Derived.Test.YtacpdefmnijhnaaGreatAbsQ
set_option linter.unusedSimpArgs false
set_option linter.unusedVariables false
namespace Go.Proofs.YtacpdefmnijhnaaGreat.U
open Abs U19

theorem buildT {a : Option Addr} {n c : Nat} : aBuild Tryz.prog 77 [(0, .slice a n c)] = some (.agg #[.slice a n c, .int .i64 0]) := by kernel_rfl

theorem new_c {σ : AS} {lv : Value} {ints : List Int} (h : RS 1 RInt σ lv ints) (hl : ints.length ≤ 2 ^ 62) : C Tryz.prog KA 0 11 [lv] σ fun u σ' => u = .pointer (some ⟨σ.next, 0, none⟩) ∧ Tape σ.next σ' lv ints ∧ Ext σ σ' := by
  obtain ⟨base, cap, rfl, -⟩ := id h
  refine C_of (ka rfl rfl) Tryz.func11 rfl (Nat.le_of_ble_eq_true rfl) ?_
  show W _ _ _ 6 _ _ _ _
  unfold Tryz.f11
  dsimp only
  repeat apply W_assoc
  apply W_reg
  · intro callf
    simp +decide only [aOps, rinit, aWanted, ↓bite_eq, ↓reduceIte, aStep_eq, aStepOld, aOp, opBox, opBin, opUn, opCall, opIndexAddr, opFieldAddr, opLoad, opStore, opPick, opExtract, opSlice, opBuildSlice, opBuild, aRow, aev, aevs, aparts, ann, unn, aPut, if_true, if_false, rget_rput, flat, flat1, Nat.blt_eq, aBuiltin, aLen, List.getElem?_toArray, List.getElem?_cons_zero, List.getElem?_cons_succ, Nat.zero_add, Option.bind_some, beq_self_eq_true, Bool.not_true, Bool.not_false, Bool.true_beq, Bool.false_beq]
    rfl
  repeat apply W_assoc
  apply W_reg
  · intro callf
    simp +decide only [aOps, rinit, aWanted, ↓bite_eq, ↓reduceIte, aStep_eq, aStepOld, aOp, opBox, opBin, opUn, opCall, opIndexAddr, opFieldAddr, opLoad, opStore, opPick, opExtract, opSlice, opBuildSlice, opBuild, aRow, aev, aevs, aparts, ann, unn, aPut, if_true, if_false, rget_rput, flat, flat1, Nat.blt_eq, aBuiltin, aLen, List.getElem?_toArray, List.getElem?_cons_zero, List.getElem?_cons_succ, Nat.zero_add, Option.bind_some, beq_self_eq_true, Bool.not_true, Bool.not_false, Bool.true_beq, Bool.false_beq, buildT]
    rfl
  refine W_ret ⟨Nat.le_refl _, [.pointer (some ⟨σ.next, 0, none⟩)], ?_, rfl, ?_, Ext.new _ _⟩
  · simp +decide only [aevs, aev, aResults, rget_rput, if_true, if_false]
  · have e : Ext σ (hid [σ.next] (σ.new ⟨1, 77, 0, [.slice base ints.length cap, .int .i64 ((0 : Nat) : Int)], []⟩)) := Ext.put (Ext.new _ _) (Nat.le_refl _) _
    exact ⟨Nat.lt_succ_self _, ⟨0, by rw [AS.get_new, if_pos rfl]; rfl⟩, h.ext RInt.keeps e, hl⟩


theorem opB2 (a b : Int) : aBuild Tryz.prog 23 [(0, .int .i64 a), (1, .int .i64 b)] = some (ag3 a b 0) := by kernel_rfl
theorem opB1 (a : Int) : aBuild Tryz.prog 23 [(0, .int .i64 a)] = some (ag3 a 0 0) := by kernel_rfl
theorem opS1 {σ : AS} (a b c : Int) : aBuildSlice Tryz.prog σ 24 1 [(0, ag3 a b c)] = some (s1 σ.next, σ.new (opB [.int .i64 a, .int .i64 b, .int .i64 c])) := by kernel_rfl
theorem opS0 {σ : AS} : aBuildSlice Tryz.prog σ 24 0 [] = some (.slice (some ⟨σ.next, 0, none⟩) 0 0, σ.new (opB [])) := by kernel_rfl

/-- Behind the core. -/
def PreB (σ : AS) (lv : Value) (kd : Int) (r : Regs) (s : AS) : Prop := ∃ tb bk bf bn be p n c, r = regs lv kd (.pointer (some ⟨tb, 0, none⟩)) (agc bf bn be) (.pointer (some ⟨bk, 0, none⟩)) ∧ Laid σ s tb bk bf bn be (.slice p n c)

theorem StkX.at1 {lo E z : Nat} {σ : AS} {v : Value} {k : Nat} {cs : List Value} (h : StkX lo E z σ v (k + 1) cs) : ∃ b, v = sl b (k + 1) ∧ lo ≤ b ∧ b < σ.next ∧ σ.get b = ⟨2, E, z, cs, []⟩ := by
  obtain ⟨_, _, ⟨_, h3⟩ | ⟨b, h4, h5, h6, h7⟩⟩ := h
  · cases h3
  · exact ⟨b, h4, h5, h6, h7⟩

set_option maxHeartbeats 64000000 in
theorem sos_pre {σ : AS} {lv : Value} {ints : List Int} {kd : Int} (h : RS 1 RInt σ lv ints) (hl : ints.length ≤ 2 ^ 62) (hlow : σ.next ≤ σ.low) :
    W Tryz.prog KA 0 114 (seqs [sq1 bdy, sq1 (sq2 bdy), sq1 (sq2 (sq2 bdy))] .skip) (rinit [lv, .int .u8 kd] 0 .e) σ fun x r' s' => x = 0 ∧ PreB σ lv kd r' s' := by
  dsimp only [seqs, bdy, sq1, sq2, Tryz.f4, Option.getD]
  repeat apply W_assoc
  apply W_reg
  · intro callf
    simp +decide only [aOps, rinit, aWanted, ↓bite_eq, ↓reduceIte, aStep_eq, aStepOld, aOp, opBox, opBin, opUn, opCall, opIndexAddr, opFieldAddr, opLoad, opStore, opPick, opExtract, opSlice, opBuildSlice, opBuild, aRow, aev, aevs, aparts, ann, unn, aPut, if_true, if_false, rget_rput, flat, flat1, Nat.blt_eq, aBuiltin, aLen, List.getElem?_toArray, List.getElem?_cons_zero, List.getElem?_cons_succ, Nat.zero_add, Option.bind_some, beq_self_eq_true, Bool.not_true, Bool.not_false, Bool.true_beq, Bool.false_beq]
    rfl
  repeat apply W_assoc
  apply W_regL
  apply Ls_pre 1
  · intro callf
    simp +decide only [List.take, aOps, rinit, aWanted, ↓bite_eq, ↓reduceIte, aStep_eq, aStepOld, aOp, opBox, opBin, opUn, opCall, opIndexAddr, opFieldAddr, opLoad, opStore, opPick, opExtract, opSlice, opBuildSlice, opBuild, aRow, aev, aevs, aparts, ann, unn, aPut, if_true, if_false, rget_rput, flat, flat1, Nat.blt_eq, aBuiltin, aLen, List.getElem?_toArray, List.getElem?_cons_zero, List.getElem?_cons_succ, Nat.zero_add, Option.bind_some, beq_self_eq_true, Bool.not_true, Bool.not_false, Bool.true_beq, Bool.false_beq]
    rfl
  dsimp only [List.drop]
  refine Ls_fn (vs := [lv]) (by simp +decide only [aevs, aev, aResults, rget_rput, if_true, if_false]) (by decide) (C.mono (new_c h hl) ?_)
  rintro v s1 ⟨rfl, TP, E1⟩
  apply Ls_all
  · intro callf
    simp +decide only [aOps, rinit, aWanted, ↓bite_eq, ↓reduceIte, aStep_eq, aStepOld, aOp, opBox, opBin, opUn, opCall, opIndexAddr, opFieldAddr, opLoad, opStore, opPick, opExtract, opSlice, opBuildSlice, opBuild, aRow, aev, aevs, aparts, ann, unn, aPut, if_true, if_false, rget_rput, flat, flat1, Nat.blt_eq, aBuiltin, aLen, List.getElem?_toArray, List.getElem?_cons_zero, List.getElem?_cons_succ, Nat.zero_add, Option.bind_some, beq_self_eq_true, Bool.not_true, Bool.not_false, Bool.true_beq, Bool.false_beq]
    rfl
  repeat apply W_assoc
  apply W_regL
  apply Ls_pre 1
  · intro callf
    simp +decide only [List.take, aOps, rinit, aWanted, ↓bite_eq, ↓reduceIte, aStep_eq, aStepOld, aOp, opBox, opBin, opUn, opCall, opIndexAddr, opFieldAddr, opLoad, opStore, opPick, opExtract, opSlice, opBuildSlice, opBuild, aRow, aev, aevs, aparts, ann, unn, aPut, if_true, if_false, rget_rput, flat, flat1, Nat.blt_eq, aBuiltin, aLen, List.getElem?_toArray, List.getElem?_cons_zero, List.getElem?_cons_succ, Nat.zero_add, Option.bind_some, beq_self_eq_true, Bool.not_true, Bool.not_false, Bool.true_beq, Bool.false_beq]
    rfl
  dsimp only [List.drop]
  refine Ls_fn (vs := [.pointer (some ⟨σ.next, 0, none⟩), .int .i64 1, .bool true]) (by simp +decide only [aevs, aev, aResults, rget_rput, if_true, if_false]) (by decide) (C.mono (core_c TP) ?_)
  rintro v s2 ⟨fv, nv, ev, pB, nB, cB, rfl, E2, F2, N2, V2⟩
  have ht := TP.lt
  have hx := E2.nxt
  have ht2 : σ.next < s2.next := Nat.lt_of_lt_of_le ht hx
  have hw : σ.next ≤ s2.low := E2.low σ.next (E1.low _ hlow (Nat.le_refl _)) (Nat.le_of_lt ht) (fun x hx => by rw [List.mem_singleton.1 hx]; exact Nat.le_refl _)
  obtain ⟨bf, rfl, f1, f2, f3⟩ := F2.at1
  obtain ⟨bn, rfl, n1, n2, n3⟩ := N2.at1
  obtain ⟨be, rfl, v1, v2, v3⟩ := V2.at1
  have hsto : aStore Tryz.prog (s2.new ⟨1, 34, 0, [.slice none 0 0, .slice none 0 0, .slice none 0 0, .slice none 0 0], []⟩) 34 (.agg #[sl bf (0 + 1), sl bn (3 + 1), .slice none 0 0, sl be (3 + 1)]) (.pointer (some ⟨s2.next, 0, none⟩)) = some ((s2.new ⟨1, 34, 0, [.slice none 0 0, .slice none 0 0, .slice none 0 0, .slice none 0 0], []⟩).put s2.next (boxB (sl bf 1) (sl bn 4) (sl be 4))) :=
    storeCo (p := some ⟨bf, 0, none⟩) (q := some ⟨bn, 0, none⟩) (t := some ⟨be, 0, none⟩) (by rw [AS.get_new, if_pos rfl])
  apply Ls_all
  · intro callf
    simp +decide only [aOps, rinit, aWanted, ↓bite_eq, ↓reduceIte, aStep_eq, aStepOld, aOp, opBox, opBin, opUn, opCall, opIndexAddr, opFieldAddr, opLoad, opStore, opPick, opExtract, opSlice, opBuildSlice, opBuild, aRow, aev, aevs, aparts, ann, unn, aPut, if_true, if_false, rget_rput, flat, flat1, Nat.blt_eq, aBuiltin, aLen, List.getElem?_toArray, List.getElem?_cons_zero, List.getElem?_cons_succ, Nat.zero_add, Option.bind_some, beq_self_eq_true, Bool.not_true, Bool.not_false, Bool.true_beq, Bool.false_beq, allocK, hsto]
    rfl
  refine W_skip ⟨rfl, σ.next, s2.next, bf, bn, be, pB, nB, cB, rfl, ?_⟩
  have g : ∀ i, i < s2.next → ((s2.new ⟨1, 34, 0, [.slice none 0 0, .slice none 0 0, .slice none 0 0, .slice none 0 0], []⟩).put s2.next (boxB (sl bf 1) (sl bn 4) (sl be 4))).get i = s2.get i := fun i hi => by
    rw [AS.get_put, if_neg (by omega), AS.get_new, if_neg (by omega)]
  have hE : ∀ {i j : Nat}, (s2.get i).elem ≠ (s2.get j).elem → i ≠ j := fun hh e => hh (by rw [e])
  exact { box := by rw [AS.get_put, if_pos rfl], fs := (g bf f2).trans f3, ns := (g bn n2).trans n3, es := (g be v2).trans v3, low := Nat.le_min.2 ⟨hw, Nat.le_of_lt ht2⟩, lo := by omega, ne := ⟨by omega, by omega, by omega, by omega, by omega, by omega, by omega, hE (by rw [f3, n3]; show (47 : Nat) ≠ 80; decide), hE (by rw [f3, v3]; show (47 : Nat) ≠ 25; decide), hE (by rw [n3, v3]; show (80 : Nat) ≠ 25; decide)⟩ }

set_option maxHeartbeats 64000000 in
theorem sos_rest (v0 bv : Value) {kd : Int} (hk : 0 ≤ kd) : W Tryz.prog KS 0 114 c3 (regs v0 kd pt2 (agc 5 6 7) pk4) (σc bv) fun x r' _ => x = 1 ∧ rget r' 4 = .bool true := by
  have hr := fun xo yo => aRem (P := Tryz.prog) (t := 5) (k := .u8) (a := kd) (b := 8) xo yo (by decide)
  have hq0 : 0 ≤ kd.tmod 8 := Int.tmod_nonneg _ hk
  have hq8 : kd.tmod 8 < 8 := Int.tmod_lt_of_pos _ (by decide)
  have key := ran v0 bv kd (kd.tmod 8) hq0 hq8
  generalize kd.tmod 8 = q at hr key
  dsimp only [c3, bdy, sq1, sq2, Tryz.f4, Option.getD]
  unfold regs
  repeat apply W_assoc
  apply W_reg
  · intro callf
    simp +decide only [aOps, rinit, aWanted, ↓bite_eq, ↓reduceIte, aStep_eq, aStepOld, aOp, opBox, opBin, opUn, opCall, opIndexAddr, opFieldAddr, opLoad, opStore, opPick, opExtract, opSlice, opBuildSlice, opBuild, aRow, aev, aevs, aparts, ann, unn, aPut, if_true, if_false, rget_rput, flat, flat1, Nat.blt_eq, aBuiltin, aLen, List.getElem?_toArray, List.getElem?_cons_zero, List.getElem?_cons_succ, Nat.zero_add, Option.bind_some, beq_self_eq_true, Bool.not_true, Bool.not_false, Bool.true_beq, Bool.false_beq, opB2, opB1, opS1, opS0]
    rfl
  repeat apply W_assoc
  apply W_reg
  · intro callf
    simp +decide only [aOps, rinit, aWanted, ↓bite_eq, ↓reduceIte, aStep_eq, aStepOld, aOp, opBox, opBin, opUn, opCall, opIndexAddr, opFieldAddr, opLoad, opStore, opPick, opExtract, opSlice, opBuildSlice, opBuild, aRow, aev, aevs, aparts, ann, unn, aPut, if_true, if_false, rget_rput, flat, flat1, Nat.blt_eq, aBuiltin, aLen, List.getElem?_toArray, List.getElem?_cons_zero, List.getElem?_cons_succ, Nat.zero_add, Option.bind_some, beq_self_eq_true, Bool.not_true, Bool.not_false, Bool.true_beq, Bool.false_beq, opB2, opB1, opS1, opS0]
    rfl
  repeat apply W_assoc
  apply W_reg
  · intro callf
    simp +decide only [aOps, rinit, aWanted, ↓bite_eq, ↓reduceIte, aStep_eq, aStepOld, aOp, opBox, opBin, opUn, opCall, opIndexAddr, opFieldAddr, opLoad, opStore, opPick, opExtract, opSlice, opBuildSlice, opBuild, aRow, aev, aevs, aparts, ann, unn, aPut, if_true, if_false, rget_rput, flat, flat1, Nat.blt_eq, aBuiltin, aLen, List.getElem?_toArray, List.getElem?_cons_zero, List.getElem?_cons_succ, Nat.zero_add, Option.bind_some, beq_self_eq_true, Bool.not_true, Bool.not_false, Bool.true_beq, Bool.false_beq, opB2, opB1, opS1, opS0]
    rfl
  repeat apply W_assoc
  apply W_reg
  · intro callf
    simp +decide only [aOps, rinit, aWanted, ↓bite_eq, ↓reduceIte, aStep_eq, aStepOld, aOp, opBox, opBin, opUn, opCall, opIndexAddr, opFieldAddr, opLoad, opStore, opPick, opExtract, opSlice, opBuildSlice, opBuild, aRow, aev, aevs, aparts, ann, unn, aPut, if_true, if_false, rget_rput, flat, flat1, Nat.blt_eq, aBuiltin, aLen, List.getElem?_toArray, List.getElem?_cons_zero, List.getElem?_cons_succ, Nat.zero_add, Option.bind_some, beq_self_eq_true, Bool.not_true, Bool.not_false, Bool.true_beq, Bool.false_beq, opB2, opB1, opS1, opS0]
    rfl
  repeat apply W_assoc
  apply W_reg
  · intro callf
    simp +decide only [aOps, rinit, aWanted, ↓bite_eq, ↓reduceIte, aStep_eq, aStepOld, aOp, opBox, opBin, opUn, opCall, opIndexAddr, opFieldAddr, opLoad, opStore, opPick, opExtract, opSlice, opBuildSlice, opBuild, aRow, aev, aevs, aparts, ann, unn, aPut, if_true, if_false, rget_rput, flat, flat1, Nat.blt_eq, aBuiltin, aLen, List.getElem?_toArray, List.getElem?_cons_zero, List.getElem?_cons_succ, Nat.zero_add, Option.bind_some, beq_self_eq_true, Bool.not_true, Bool.not_false, Bool.true_beq, Bool.false_beq, opB2, opB1, opS1, opS0]
    rfl
  repeat apply W_assoc
  apply W_reg
  · intro callf
    simp +decide only [aOps, rinit, aWanted, ↓bite_eq, ↓reduceIte, aStep_eq, aStepOld, aOp, opBox, opBin, opUn, opCall, opIndexAddr, opFieldAddr, opLoad, opStore, opPick, opExtract, opSlice, opBuildSlice, opBuild, aRow, aev, aevs, aparts, ann, unn, aPut, if_true, if_false, rget_rput, flat, flat1, Nat.blt_eq, aBuiltin, aLen, List.getElem?_toArray, List.getElem?_cons_zero, List.getElem?_cons_succ, Nat.zero_add, Option.bind_some, beq_self_eq_true, Bool.not_true, Bool.not_false, Bool.true_beq, Bool.false_beq, hr]
    rfl
  repeat apply W_assoc
  exact W_ran key

set_option maxHeartbeats 64000000 in
theorem law_calls {W : World} {lp : Option Addr} {ln lc : Nat} {ints : List Int} {kd : Int} (hs : VRel (idRen W.heap.size) (.slice lp ln lc) (.slice lp ln lc)) (h : RS 1 RInt (mirror W) (.slice lp ln lc) ints) (hl : ints.length ≤ 2 ^ 62) (hk : 0 ≤ kd) :
    Calls Tryz.prog 4 #[.slice lp ln lc, .int .u8 kd] W fun e W' => e = .returned (.bool true) ∧ (∀ b, b < W.heap.size → W'.heap[b]? = W.heap[b]?) ∧ W.heap.size ≤ W'.heap.size ∧ W'.os = W.os ∧ W'.output = W.output := by
  have hlp : ∀ a, lp = some a → a.spot = none → a.block < (mirror W).next := fun a ha hsp => by
    subst ha
    rcases vrel_slice.1 hs with ⟨b, c', h1, _⟩ | ⟨h1, _⟩
    · exact (idRen_bl.1 h1).1
    · exact absurd hsp h1
  have hi : VRel (idRen W.heap.size) (.int .u8 kd) (.int .u8 kd) := vrel_int.2 rfl
  have hb : Tryz.f4.body = some bdy := by kernel_rfl
  refine (calls_of_M (args := [.slice lp ln lc, .int .u8 kd]) (args' := [.slice lp ln lc, .int .u8 kd]) (n := 114) (ρ := idRen W.heap.size) (σ := mirror W) Tryz.func4 hb rfl (mirror_R 0 W (Nat.zero_le _)) ⟨hs, hi, trivial⟩ (Nat.le_of_ble_eq_true rfl)
    (Post := fun v' W' => v' = .bool true ∧ (∀ b, b < W.heap.size → W'.heap[b]? = W.heap[b]?) ∧ W.heap.size ≤ W'.heap.size ∧ W'.os = W.os ∧ W'.output = W.output) ?_).mono fun e W' ⟨v', he, hv', hp⟩ => ⟨by rw [he, hv'], hp⟩
  rw [bdy_seqs]
  refine (M.ahead progOk KA_ok (ρ0 := idRen W.heap.size) (σ0 := mirror W) (w0 := W) (B := PreB (mirror W) (.slice lp ln lc) kd) ?_ _).mono fun τ r s w ⟨h1, h2, h3, h4⟩ => by
    subst h1 h2 h3 h4
    exact ⟨Sim.refl (mirror_R 0 _ (Nat.zero_le _)), sos_pre h hl (Nat.le_refl _)⟩
  refine M.change (S2 := fun τ r s w => ∃ ρ2 v0 bv, Sim 0 ρ2 (deadMem 2) W τ s w ∧ r = regs v0 kd pt2 (agc 5 6 7) pk4 ∧ s = σc bv) ?_ ?_
  · rintro τ r s w ⟨hsim, tb, bk, bf, bn, be, p, n, c, rfl, L⟩
    obtain ⟨l1, l2, l3, l4, l5⟩ := L.lo
    obtain ⟨pre, v0, bv, hp, hv0, hbv⟩ := pre_of (ln := ln) (lc := lc) (bn' := n) (bc := c) (bp := p) l1 l2 l3 l4 l5 hlp
    obtain ⟨τc, g1, g2⟩ := Sim.conv hsim L.low (L.conv hp hbv)
    have vp : ∀ i j, passoc (pairs tb bk bf bn be pre) i = some j → vm 0 (pairs tb bk bf bn be pre) 9 (.pointer (some ⟨i, 0, none⟩)) (.pointer (some ⟨j, 0, none⟩)) = true := fun i j hij => by
      simp [vm, bto, bite_eq, onB, hij]
    have vsl : ∀ i j k, passoc (pairs tb bk bf bn be pre) i = some j → vm 0 (pairs tb bk bf bn be pre) 8 (sl i k) (sl j k) = true := fun i j k hij => by
      simp [sl, vm, bto, bite_eq, onB, hij]
    have vi : vm 0 (pairs tb bk bf bn be pre) 9 (.int .u8 kd) (.int .u8 kd) = true := by simp [vm, flat1, veq]
    have vb : vm 0 (pairs tb bk bf bn be pre) 9 (.bool false) (.bool false) = true := rfl
    have vag : vm 0 (pairs tb bk bf bn be pre) 9 (agc 5 6 7) (agc bf bn be) = true := by
      show veqL (vm 0 (pairs tb bk bf bn be pre) 8) [sl 5 1, sl 6 4, .slice none 0 0, sl 7 4] [sl bf 1, sl bn 4, .slice none 0 0, sl be 4] = true
      simp only [veqL, vsl 5 bf 1 rfl, vsl 6 bn 4 rfl, vsl 7 be 4 rfl]
      rfl
    refine ⟨τc, _, _, ⟨_, v0, bv, g1, rfl, rfl⟩, fun tmps hr => RegOk.rel (β := pairs tb bk bf bn be pre) ?_ g2 hr⟩
    unfold regs
    exact RegOk.put 6 (vp 4 bk rfl) (RegOk.put 17 vag (RegOk.put 16 (vp 2 tb rfl) (RegOk.put 5 (vp 2 tb rfl) (RegOk.put 15 (vp 2 tb rfl) (RegOk.put 14 hv0 (RegOk.put 4 vb (RegOk.put 1 vi (RegOk.put 0 hv0 RegOk.nil))))))))
  · refine M.run progOk KS_ok fun τ r s w ⟨ρ2, v0, bv, hsim, hr, hs2⟩ => ⟨hsim.rel, ?_⟩
    subst hr hs2
    obtain ⟨x, r', s', N, h1, h2, h3⟩ := sos_rest v0 bv hk
    refine ⟨N, x, r', s', h1 N (Nat.le_refl _), fun τ' w' hs' => ?_⟩
    have hall := hsim.trans hs'
    refine ⟨by omega, hall.rel, [.bool true], ?_, fun v' hv' => ⟨vrel_bool.1 hv', fun b hb => hall.frame b hb fun i hi => rfl, hall.hsz, hall.out⟩⟩
    show aResults Tryz.prog s' r' [.tmp 4] = _
    simp only [aResults, h3]

end Go.Proofs.YtacpdefmnijhnaaGreat.U
