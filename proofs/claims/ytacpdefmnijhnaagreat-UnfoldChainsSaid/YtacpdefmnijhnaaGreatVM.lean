/- Law 18: Eval at a function of a chain. -/
import Derived.Test.YtacpdefmnijhnaaGreatVJ
import Derived.Test.YtacpdefmnijhnaaGreatVK
import Derived.Test.YtacpdefmnijhnaaGreatConv
set_option linter.unusedSimpArgs false
set_option linter.unusedVariables false
namespace Go.Proofs.YtacpdefmnijhnaaGreat.U18
open Abs U

theorem seqs_inv {P : Program} {K : Tbl} {G n : Nat} {r : Regs} {σ : AS} {c d : Code} {Q : Nat → Regs → AS → Prop} (h : W P K G n (.seq c d) r σ Q) : W P K G n c r σ fun e r' σ' => (e = 0 → W P K G n d r' σ' Q) ∧ (e ≠ 0 → Q e r' σ') := by
  obtain ⟨x, r', σ', N, h1, h2⟩ := h
  have hN : ∀ fuel, N ≤ fuel → cSeq (aCode P K G fuel) n d (aCode P K G fuel n c r σ) = some (x, r', σ') := fun fuel hf => h1 (fuel + 1) (by omega)
  have h3 := hN N (Nat.le_refl _)
  cases hc : aCode P K G N n c r σ with
  | none => rw [hc] at h3; cases h3
  | some y =>
    obtain ⟨e, r1, σ1⟩ := y
    have hup : ∀ fuel, N ≤ fuel → aCode P K G fuel n c r σ = some (e, r1, σ1) := fun fuel hf => by
      induction hf with
      | refl => exact hc
      | step _ ih => exact aCode_more _ _ _ _ _ _ ih
    refine ⟨e, r1, σ1, N, hup, fun he => ?_, fun he => ?_⟩
    · subst he
      exact ⟨x, r', σ', N, fun fuel hf => by have := hN fuel hf; rw [hup fuel hf] at this; exact this, h2⟩
    · rw [hc] at h3
      unfold cSeq at h3
      dsimp only at h3
      rw [if_neg (fun h => he (Nat.eq_of_beq_eq_true h))] at h3
      cases h3; exact h2

/-- Two pieces by the rules, then on in the machine. -/
theorem ahead2 {P : Program} {K : Tbl} {n : Nat} (hp : ProgOk P) (hk : KOk P K) {c1 c2 d : Code} {B : Regs → AS → Prop} {Q : Nat → Ren → Regs → AS → World → Prop} {ρ0 : Ren} {σ0 : AS} {w0 : World} (hM : M P n d (fun τ r s w => Sim 0 ρ0 σ0 w0 τ s w ∧ B r s) Q) :
    M P n (.seq c1 (.seq c2 d)) (fun τ r s w => Sim 0 ρ0 σ0 w0 τ s w ∧ W P K 0 n (.seq c1 (.seq c2 .skip)) r s fun x r' s' => x = 0 ∧ B r' s') Q := by
  refine M.seq (T := fun τ r s w => Sim 0 ρ0 σ0 w0 τ s w ∧ W P K 0 n (.seq c2 .skip) r s fun x r' s' => x = 0 ∧ B r' s') (M.run hp hk fun τ r s w ⟨hs, hW⟩ => ⟨hs.rel, ?_⟩) (M.seq (M.run hp hk fun τ r s w ⟨hs, hW⟩ => ⟨hs.rel, ?_⟩) hM)
  · obtain ⟨x, r', s', N, h1, h2, h3⟩ := seqs_inv hW
    exact ⟨N, x, r', s', h1 N (Nat.le_refl _), fun τ' w' hs' => ⟨fun hx => ⟨hs.trans hs', h2 hx⟩, fun hx => absurd (h3 hx).1 hx⟩⟩
  · obtain ⟨x, r', s', N, h1, h2, h3⟩ := seqs_inv hW
    refine ⟨N, x, r', s', h1 N (Nat.le_refl _), fun τ' w' hs' => ⟨fun hx => ⟨hs.trans hs', ?_⟩, fun hx => absurd (h3 hx).1 hx⟩⟩
    obtain ⟨x2, r2, s2, N2, g1, g2, g3⟩ := h2 hx
    have := g1 (N2 + 1) (Nat.le_succ _)
    have e : some (0, r', s') = some (x2, r2, s2) := this
    cases e
    exact g3

theorem bdyE_eq : bdyE = .seq (sq1 bdyE) (.seq (sq1 (sq2 bdyE)) restE) := by kernel_rfl
theorem notT : flatO (asPure Tryz.prog (Op.unary UnOp.not (.bool true))) = some (.bool false) := by kernel_rfl
theorem ltI {xo yo : Operand} {t : TypeId} {a b : Int} : aBin Tryz.prog .lss t xo yo (.int .i64 a) (.int .i64 b) = some (.bool (decide (a < b))) := by simp only [aBin, aInts, aInt_eq, if_true]
theorem geI {xo yo : Operand} {t : TypeId} {a b : Int} : aBin Tryz.prog .geq t xo yo (.int .i64 a) (.int .i64 b) = some (.bool (decide (a ≥ b))) := by simp only [aBin, aInts, aInt_eq, if_true]
theorem gtI {xo yo : Operand} {t : TypeId} {a b : Int} : aBin Tryz.prog .gtr t xo yo (.int .i64 a) (.int .i64 b) = some (.bool (decide (a > b))) := by simp only [aBin, aInts, aInt_eq, if_true]
theorem neI {xo yo : Operand} {t : TypeId} {a b : Int} : aBin Tryz.prog .neq t xo yo (.int .i64 a) (.int .i64 b) = some (.bool (a != b)) := by simp only [aBin, aInts, aInt_eq, if_true]
theorem lenV {σ : AS} {p : Option Addr} {n c : Nat} : aLen Tryz.prog σ 32 (.slice p n c) = some (goInt (n : Int)) := by
  unfold aLen
  rw [Tryz.underlying32]
set_option maxRecDepth 20000 in
set_option maxHeartbeats 64000000 in
theorem ev_pre {σ : AS} {bf bn be k i pa : Nat} {bl : Nat → Nat} {op ar : Nat → Int} (h : Chn σ bf bn be k bl op ar) (hg : ∀ i, i ≤ k → good k (op i) (ar i)) (hi : i ≤ k) :
    W Tryz.prog K1 0 90 (.seq (sq1 bdyE) (.seq (sq1 (sq2 bdyE)) .skip)) (rinit [coreV bf bn be k, .int .i64 (i : Int), .slice (some ⟨pa, 0, none⟩) 0 0, .int .i64 16384] 0 .e) σ
      fun x r s => x = 0 ∧ r = regsF bf bn be pa σ.next (σ.next + 1) i (k + 1) ∧ Ext σ s ∧ s.get σ.next = coreB bf bn be (k + 1) ∧ s.get (σ.next + 1) = intB i ∧ σ.next + 2 ≤ s.next := by
  dsimp only [bdyE, sq1, sq2, Tryz.f46, Option.getD]
  have hk := h.hk
  repeat apply W_assoc
  apply W_regL
  apply Ls_pre 1
  · intro callf
    simp +decide only [List.take, aOps, rinit, aWanted, ↓bite_eq, ↓reduceIte, aStep_eq, aStepOld, aOp, opBox, opBin, opUn, opCall, opIndexAddr, opFieldAddr, opLoad, opStore, opPick, opExtract, opSlice, opBuildSlice, opBuild, aRow, aev, aevs, aparts, ann, unn, aPut, if_true, if_false, rget_rput, flat, flat1, Nat.blt_eq, aBuiltin, List.getElem?_toArray, List.getElem?_cons_zero, List.getElem?_cons_succ, Nat.zero_add, Option.bind_some, beq_self_eq_true, Bool.not_true, Bool.not_false, Bool.true_beq, Bool.false_beq, opNil]
    rfl
  dsimp only [List.drop]
  show Ls _ _ _ _ _ _ _ (σ.new ⟨1, 34, 0, [slo bf (k + 1), slo bn 4, .slice none 0 0, slo be 4], []⟩) _
  have e1 := Ext.new σ ⟨1, 34, 0, [slo bf (k + 1), slo bn 4, .slice none 0 0, slo be 4], []⟩
  have g1 : (σ.new ⟨1, 34, 0, [slo bf (k + 1), slo bn 4, .slice none 0 0, slo be 4], []⟩).get σ.next = ⟨1, 34, 0, [slo bf (k + 1), slo bn 4, .slice none 0 0, slo be 4], []⟩ := by rw [AS.get_new, if_pos rfl]
  have n1 : (σ.new ⟨1, 34, 0, [slo bf (k + 1), slo bn 4, .slice none 0 0, slo be 4], []⟩).next = σ.next + 1 := rfl
  generalize σ.new ⟨1, 34, 0, [slo bf (k + 1), slo bn 4, .slice none 0 0, slo be 4], []⟩ = s1 at e1 g1 n1 ⊢
  apply Ls_pre 1
  · intro callf
    simp +decide only [List.take, aOps, rinit, aWanted, ↓bite_eq, ↓reduceIte, aStep_eq, aStepOld, aOp, opBox, opBin, opUn, opCall, opIndexAddr, opFieldAddr, opLoad, opStore, opPick, opExtract, opSlice, opBuildSlice, opBuild, aRow, aev, aevs, aparts, ann, unn, aPut, if_true, if_false, rget_rput, flat, flat1, Nat.blt_eq, aBuiltin, List.getElem?_toArray, List.getElem?_cons_zero, List.getElem?_cons_succ, Nat.zero_add, Option.bind_some, beq_self_eq_true, Bool.not_true, Bool.not_false, Bool.true_beq, Bool.false_beq, opNil]
    rfl
  dsimp only [List.drop]
  show Ls _ _ _ _ _ _ _ (s1.new (intB i)) _
  rw [n1]
  have e2 := Ext.new s1 (intB i)
  have g2 : (s1.new (intB i)).get (σ.next + 1) = intB i := by rw [← n1, AS.get_new, if_pos rfl]
  have n2 : (s1.new (intB i)).next = σ.next + 2 := by show s1.next + 1 = _; omega
  have g1 := (e2.get σ.next (by omega)).trans g1
  have e12 := e1.trans e2
  generalize s1.new (intB i) = s2 at e2 g1 g2 n2 e12 ⊢
  apply Ls_all
  · intro callf
    simp +decide only [aOps, rinit, aWanted, ↓bite_eq, ↓reduceIte, aStep_eq, aStepOld, aOp, opBox, opBin, opUn, opCall, opIndexAddr, opFieldAddr, opLoad, opStore, opPick, opExtract, opSlice, opBuildSlice, opBuild, aRow, aev, aevs, aparts, ann, unn, aPut, if_true, if_false, rget_rput, flat, flat1, Nat.blt_eq, aBuiltin, List.getElem?_toArray, List.getElem?_cons_zero, List.getElem?_cons_succ, Nat.zero_add, Option.bind_some, beq_self_eq_true, Bool.not_true, Bool.not_false, Bool.true_beq, Bool.false_beq, opNil]
    rfl
  have H2 := h.ext e12
  have lc2 := loadCo g1
  repeat apply W_assoc
  apply W_regL
  apply Ls_pre 1
  · intro callf
    simp +decide only [List.take, aOps, rinit, aWanted, ↓bite_eq, ↓reduceIte, aStep_eq, aStepOld, aOp, opBox, opBin, opUn, opCall, opIndexAddr, opFieldAddr, opLoad, opStore, opPick, opExtract, opSlice, opBuildSlice, opBuild, aRow, aev, aevs, aparts, ann, unn, aPut, if_true, if_false, rget_rput, flat, flat1, Nat.blt_eq, aBuiltin, List.getElem?_toArray, List.getElem?_cons_zero, List.getElem?_cons_succ, Nat.zero_add, Option.bind_some, beq_self_eq_true, Bool.not_true, Bool.not_false, Bool.true_beq, Bool.false_beq, opNil, lc2]
    rfl
  dsimp only [List.drop]
  refine Ls_fn (vs := [coreV bf bn be k]) (by simp +decide only [aevs, aev, aResults, rget_rput, if_true, if_false]) (by decide) (C.mono (valid_c H2 hg) ?_)
  rintro v s3 ⟨rfl, e3⟩
  have e13 := e12.trans e3
  have x3 := e3.nxt
  have g1 := (e3.get σ.next (by omega)).trans g1
  have g2 := (e3.get (σ.next + 1) (by omega)).trans g2
  have H3 := h.ext e13
  have lf := loadCo0 g1
  have li : aLoad Tryz.prog s3 3 (.pointer (some ⟨σ.next + 1, 0, none⟩)) = some (.int .i64 (i : Int)) := loadI g2 (.inl rfl) rfl
  have la : aLoad Tryz.prog s3 3 (.pointer (some ⟨bf, i * 6 + 1, none⟩)) = some (.int .i64 0) :=
    load1 Tryz.underlying3 rfl (cellsK H3.fs (.inr rfl) (by
      have := fcs_at (bl := bl) hi
      rw [← List.drop_drop, show ((fcs k bl).drop (i * 6)).drop 1 = ((fcs k bl).drop (i * 6)).drop 1 from rfl]
      have h2 : (((fcs k bl).drop (i * 6)).drop 1).take 1 = ((((fcs k bl).drop (i * 6)).take 6).drop 1).take 1 := by
        rw [List.drop_take, List.take_take]; rfl
      rw [h2, this]
      rfl) (by rw [fcs_len]; omega))
  have ix := idxFs (b := bf) (k := k + 1) (i := i) (by omega)
  have dA : decide ((i : Int) < 0) = false := decide_eq_false (by omega)
  have dB : decide ((i : Int) ≥ ((k + 1 : Nat) : Int)) = false := decide_eq_false (by omega)
  have dC : (((0 : Nat) : Int) != 0) = false := by decide
  have dD : decide ((16384 : Int) < 1) = false := by decide
  have dE : decide ((16384 : Int) > 16384) = false := by decide
  apply Ls_pre 13
  · intro callf
    simp +decide only [List.take, aOps, rinit, aWanted, ↓bite_eq, ↓reduceIte, aStep_eq, aStepOld, aOp, opBox, opBin, opUn, opCall, opIndexAddr, opFieldAddr, opLoad, opStore, opPick, opExtract, opSlice, opBuildSlice, opBuild, aRow, aev, aevs, aparts, ann, unn, aPut, if_true, if_false, rget_rput, flat, flat1, Nat.blt_eq, aBuiltin, List.getElem?_toArray, List.getElem?_cons_zero, List.getElem?_cons_succ, Nat.zero_add, Option.bind_some, beq_self_eq_true, Bool.not_true, Bool.not_false, Bool.true_beq, Bool.false_beq, opNil, notT, li, fldC0, lf, lenFs, goInt, ltI, geI, dA, dB, opPick]
    rfl
  dsimp only [List.drop]
  apply Ls_pre 12
  · intro callf
    simp +decide only [List.take, aOps, rinit, aWanted, ↓bite_eq, ↓reduceIte, aStep_eq, aStepOld, aOp, opBox, opBin, opUn, opCall, opIndexAddr, opFieldAddr, opLoad, opStore, opPick, opExtract, opSlice, opBuildSlice, opBuild, aRow, aev, aevs, aparts, ann, unn, aPut, if_true, if_false, rget_rput, flat, flat1, Nat.blt_eq, aBuiltin, List.getElem?_toArray, List.getElem?_cons_zero, List.getElem?_cons_succ, Nat.zero_add, Option.bind_some, beq_self_eq_true, Bool.not_true, Bool.not_false, Bool.true_beq, Bool.false_beq, opNil, li, fldC0, lf, lenV, ix, fldF1, la, goInt, neI, dC, opPick]
    rfl
  dsimp only [List.drop]
  refine Ls_fnG (vs := [.slice (some ⟨pa, 0, none⟩) 0 0, .func (.func 90) #[] #[]]) (by simp +decide only [aWanted, List.getElem?_toArray, List.getElem?_cons_zero, List.getElem?_cons_succ, Option.bind_some, rget_rput, if_true, if_false, Bool.not_true, Bool.not_false, Bool.true_beq, Bool.false_beq, beq_self_eq_true, bite_eq]) (by simp +decide only [aevs, aev, aResults, rget_rput, if_true, if_false]) (by decide) (C_known k1_89 ?_)
  apply Ls_all
  · intro callf
    simp +decide only [aOps, rinit, aWanted, ↓bite_eq, ↓reduceIte, aStep_eq, aStepOld, aOp, opBox, opBin, opUn, opCall, opIndexAddr, opFieldAddr, opLoad, opStore, opPick, opExtract, opSlice, opBuildSlice, opBuild, aRow, aev, aevs, aparts, ann, unn, aPut, if_true, if_false, rget_rput, flat, flat1, Nat.blt_eq, aBuiltin, List.getElem?_toArray, List.getElem?_cons_zero, List.getElem?_cons_succ, Nat.zero_add, Option.bind_some, beq_self_eq_true, Bool.not_true, Bool.not_false, Bool.true_beq, Bool.false_beq, opNil, ltI, gtI, dD, dE, opPick]
    rfl
  repeat apply W_assoc
  refine W_if (b := false) ?_ ?_ ?_
  · simp +decide only [aevs, aev, aResults, rget_rput, if_true, if_false, decide_true, decide_false, Bool.not_true, Bool.not_false]
  · intro h; cases h
  intro _
  apply W_skipq
  exact W_skip ⟨rfl, rfl, e13, g1, g2, by omega⟩


/-! ### From the memory to the known one -/

def evP (bf bn be bb pa b4 : Nat) : Pairs := [(0, bf), (1, bn), (2, be), (3, bb), (4, pa), (5, b4), (6, b4 + 1)]
theorem evP_at {bf bn be bb pa b4 i j : Nat} (h : passoc (evP bf bn be bb pa b4) i = some j) : (i = 0 ∧ j = bf) ∨ (i = 1 ∧ j = bn) ∨ (i = 2 ∧ j = be) ∨ (i = 3 ∧ j = bb) ∨ (i = 4 ∧ j = pa) ∨ (i = 5 ∧ j = b4) ∨ (i = 6 ∧ j = b4 + 1) := by
  unfold evP at h
  simp only [passoc, bite_eq, Nat.beq_eq] at h
  repeat' split at h
  all_goals first
    | (cases h; omega)
    | cases h
theorem evM_get (i K : Nat) (op ar : Int) : (evalM i K op ar).get 0 = funcsP i 3 ∧ (evalM i K op ar).get 1 = ⟨2, 80, 4, ncl, []⟩ ∧ (evalM i K op ar).get 2 = ⟨2, 25, 1, ecl, []⟩ ∧ (evalM i K op ar).get 3 = codeB op ar ∧ (evalM i K op ar).get 4 = Blk.dead ∧ (evalM i K op ar).get 5 = coreB 0 1 2 K ∧ (evalM i K op ar).get 6 = intB i := by
  have h := (lay0_at (evalBs i K op ar) ⟨0, 0, .e⟩).2.2.2
  have z : (⟨0, 0, .e⟩ : AS).next = 0 := rfl
  rw [z] at h
  exact ⟨h 0 _ rfl, h 1 _ rfl, h 2 _ rfl, h 3 _ rfl, h 4 _ rfl, h 5 _ rfl, h 6 _ rfl⟩
def evE : Nat → Nat
  | 0 => 47
  | 1 => 80
  | 2 => 25
  | 3 => 23
  | 5 => 34
  | 6 => 3
  | _ => 1000000
theorem evE_inj : ∀ i, i < 7 → ∀ l, l < 7 → evE i = evE l → i = l := by decide

section
variable {σ s : AS} {bf bn be k i pa : Nat} {bl : Nat → Nat} {op ar : Nat → Int}
theorem vm_sl {bb : Nat} {i j n c : Nat} (hij : passoc (evP bf bn be bb pa σ.next) i = some j) : ∀ d, vm 0 (evP bf bn be bb pa σ.next) (d + 1) (.slice (some ⟨i, 0, none⟩) n c) (.slice (some ⟨j, 0, none⟩) n c) = true := fun d => by
  simp [vm, bto, bite_eq, onB, hij]
theorem ev_conv (h : Chn σ bf bn be k bl op ar) (hi : i ≤ k) (e : Ext σ s) (g4 : s.get σ.next = coreB bf bn be (k + 1)) (g5 : s.get (σ.next + 1) = intB i) : ConvR 5 σ.reset s (evP bf bn be (bl i) pa σ.next) (evalM i (k + 1) (op i) (ar i)) := by
  obtain ⟨c0, c1, c2, c3, c4, c5, c6⟩ := evM_get i (k + 1) (op i) (ar i)
  have H := h.ext e
  refine ⟨fun a x hi => ?_, fun a x hi hm => ?_, fun a l x ha hl ka kl => ?_, fun a x ha => ?_⟩
  · show a < 7
    rcases evP_at hi with h | h | h | h | h | h | h <;> omega
  · show σ.next ≤ x
    rcases evP_at hi with h | h | h | h | h | h | h <;> omega
  · have el : ∀ a x, passoc (evP bf bn be (bl i) pa σ.next) a = some x → ((evalM i (k + 1) (op i) (ar i)).get a).kind ≠ 0 → a < 7 ∧ (s.get x).elem = evE a := fun a x ha hk => by
      rcases evP_at ha with ⟨rfl, rfl⟩ | ⟨rfl, rfl⟩ | ⟨rfl, rfl⟩ | ⟨rfl, rfl⟩ | ⟨rfl, rfl⟩ | ⟨rfl, rfl⟩ | ⟨rfl, rfl⟩
      · rw [H.fs]; exact ⟨by decide, rfl⟩
      · rw [H.ns]; exact ⟨by decide, rfl⟩
      · rw [H.es]; exact ⟨by decide, rfl⟩
      · rw [H.bs i hi]; exact ⟨by decide, rfl⟩
      · rw [c4] at hk; exact absurd rfl hk
      · rw [g4]; exact ⟨by decide, rfl⟩
      · rw [g5]; exact ⟨by decide, rfl⟩
    obtain ⟨a1, a2⟩ := el a x ha ka
    obtain ⟨l1, l2⟩ := el l x hl kl
    exact evE_inj a a1 l l1 (a2.symm.trans l2)
  · rcases evP_at ha with ⟨rfl, rfl⟩ | ⟨rfl, rfl⟩ | ⟨rfl, rfl⟩ | ⟨rfl, rfl⟩ | ⟨rfl, rfl⟩ | ⟨rfl, rfl⟩ | ⟨rfl, rfl⟩
    · right
      rw [c0, H.fs]
      refine ⟨rfl, .inr rfl, rfl, fun n v hv hk => ?_⟩
      obtain ⟨m, rfl, hm⟩ := cellsAt_look hv hk
      have hc := fcs_at (bl := bl) hi
      have hlt : m < 6 := (List.getElem?_eq_some_iff.1 hm).1
      have hu : (fcs k bl)[i * 6 + m]? = (fcl (sl1 (bl i)))[m]? := by
        rw [← hc, List.getElem?_take_of_lt hlt, List.getElem?_drop]
      show ∃ u, (fcs k bl)[i * 6 + m]? = some u ∧ _
      rw [hu]
      match m, hlt, hm with
      | 0, _, hm => exact ⟨_, rfl, by cases hm; rfl⟩
      | 1, _, hm => exact ⟨_, rfl, by cases hm; rfl⟩
      | 2, _, hm => exact ⟨_, rfl, by cases hm; rfl⟩
      | 3, _, hm => exact ⟨_, rfl, by cases hm; rfl⟩
      | 4, _, hm => exact ⟨_, rfl, by cases hm; rfl⟩
      | 5, _, hm => exact ⟨_, rfl, by cases hm; exact vm_sl rfl 8⟩
    · left
      rw [c1, H.ns]
      exact ⟨rfl, fun hk => by rcases hk with hk | hk <;> cases hk⟩
    · left
      rw [c2, H.es]
      exact ⟨rfl, fun hk => by rcases hk with hk | hk <;> cases hk⟩
    · left
      rw [c3, H.bs i hi]
      refine ⟨?_, fun hk => by rcases hk with hk | hk <;> cases hk⟩
      simp [bm, codeB, veqL, vm, vmE, flat1, veq]
      rfl
    · left
      rw [c4]
      exact ⟨rfl, fun hk => by rcases hk with hk | hk <;> cases hk⟩
    · left
      rw [c5, g4]
      refine ⟨?_, fun hk => by rcases hk with hk | hk <;> cases hk⟩
      unfold coreB slo
      simp only [bm, veqL, vm_sl (bf := bf) (bn := bn) (be := be) (pa := pa) (σ := σ) (bb := bl i) (i := 0) (j := bf) rfl 8, vm_sl (bf := bf) (bn := bn) (be := be) (pa := pa) (σ := σ) (bb := bl i) (i := 1) (j := bn) rfl 8, vm_sl (bf := bf) (bn := bn) (be := be) (pa := pa) (σ := σ) (bb := bl i) (i := 2) (j := be) rfl 8]
      rfl
    · left
      rw [c6, g5]
      refine ⟨?_, fun hk => by rcases hk with hk | hk <;> cases hk⟩
      simp [bm, intB, veqL, vm, vmE, flat1, veq]
      rfl

theorem ev_regs : RegOk (evP bf bn be (bl i) pa σ.next) (regsF 0 1 2 4 5 6 i (k + 1)) (regsF bf bn be pa σ.next (σ.next + 1) i (k + 1)) := by
  let β := evP bf bn be (bl i) pa σ.next
  have vp : ∀ a x o, passoc β a = some x → vm 0 β 9 (.pointer (some ⟨a, o, none⟩)) (.pointer (some ⟨x, o, none⟩)) = true := fun a x o h => by
    simp [vm, bto, bite_eq, onB, h]
  have vint : ∀ n : Int, vm 0 β 9 (.int .i64 n) (.int .i64 n) = true := fun n => by simp [vm, flat1, veq]
  have vf : vm 0 β 9 (.bool false) (.bool false) = true := rfl
  have vt : vm 0 β 9 (.bool true) (.bool true) = true := rfl
  have vs : vm 0 β 9 (.string ⟨#[]⟩) (.string ⟨#[]⟩) = true := rfl
  have vF : vm 0 β 9 (slo 0 (k + 1)) (slo bf (k + 1)) = true := vm_sl rfl 8
  have va : vm 0 β 9 (.slice (some ⟨4, 0, none⟩) 0 0) (.slice (some ⟨pa, 0, none⟩) 0 0) = true := vm_sl rfl 8
  have v4 := vp 5 σ.next 0 rfl
  have v5 := vp 6 (σ.next + 1) 0 rfl
  have vp' := vp 0 bf (i * 6) rfl
  have vq := vp 0 bf (i * 6 + 1) rfl
  have vn := vint (i : Int)
  have vl := vint 16384
  have vz := vint 0
  have vk := vint ((k + 1 : Nat) : Int)
  have vc : vm 0 β 9 (.agg #[slo 0 (k + 1), slo 1 4, .slice none 0 0, slo 2 4]) (.agg #[slo bf (k + 1), slo bn 4, .slice none 0 0, slo be 4]) = true := by
    show veqL (vm 0 β 8) [slo 0 (k + 1), slo 1 4, .slice none 0 0, slo 2 4] [slo bf (k + 1), slo bn 4, .slice none 0 0, slo be 4] = true
    have a0 : vm 0 β 8 (slo 0 (k + 1)) (slo bf (k + 1)) = true := vm_sl rfl 7
    have a1 : vm 0 β 8 (slo 1 4) (slo bn 4) = true := vm_sl rfl 7
    have a2 : vm 0 β 8 (slo 2 4) (slo be 4) = true := vm_sl rfl 7
    simp only [veqL, a0, a1, a2]
    rfl
  exact (RegOk.put 53 vf (RegOk.put 52 vf (RegOk.put 51 vl (RegOk.put 50 vf (RegOk.put 49 vf (RegOk.put 48 vf (RegOk.put 47 vl (RegOk.put 46 vf (RegOk.put 45 vf (RegOk.put 44 vf (RegOk.put 43 va (RegOk.put 42 vf (RegOk.put 41 vf (RegOk.put 40 vf (RegOk.put 39 vz (RegOk.put 38 vq (RegOk.put 37 vp' (RegOk.put 36 vn (RegOk.put 35 vF (RegOk.put 34 v4 (RegOk.put 33 vz (RegOk.put 32 va (RegOk.put 31 vf (RegOk.put 30 vf (RegOk.put 29 vf (RegOk.put 28 vk (RegOk.put 27 vF (RegOk.put 26 v4 (RegOk.put 25 vn (RegOk.put 24 vf (RegOk.put 23 vf (RegOk.put 22 vf (RegOk.put 21 vn (RegOk.put 20 vf (RegOk.put 19 vf (RegOk.put 18 vt (RegOk.put 17 vc (RegOk.put 10 vz (RegOk.put 9 vz (RegOk.put 8 vs (RegOk.put 5 v5 (RegOk.put 4 v4 (RegOk.put 3 vl (RegOk.put 2 va (RegOk.put 1 vn (RegOk.put 0 vc RegOk.nil))))))))))))))))))))))))))))))))))))))))))))))
end

/-! ### The known call -/

def okEv (e : Option Nat) (xs : List Value) (σ : AS) : Prop := ∃ bf bn be k bl op ar i pa, Chn σ bf bn be k bl op ar ∧ (∀ n, n ≤ k → good k (op n) (ar n)) ∧ i ≤ k ∧ i < 32 ∧
  xs = [coreV bf bn be k, .int .i64 ((i : Nat) : Int), .slice (some ⟨pa, 0, none⟩) 0 0, .int .i64 16384] ∧
  match e with
  | none => op i = 54 ∧ ar i = 1
  | some j => op i = 7 ∧ ar i = ((j : Nat) : Int) ∧ j ≤ i + 1
def strE : Option Nat → ByteArray
  | none => stopS
  | some j => cs j
def vEv (e : Option Nat) : Value := .tuple #[.string (strE e), .int .i64 1, .int .i64 0]

end Go.Proofs.YtacpdefmnijhnaaGreat.U18
