/- The code of a process. -/
import Derived.Test.YtacpdefmnijhnaaGreatSB
set_option linter.unusedSimpArgs false
set_option linter.unusedVariables false
namespace Go.Proofs.YtacpdefmnijhnaaGreat.U
open Abs

section
variable {P : Program} {K : Tbl} {G n : Nat} {r : Regs} {σ : AS} {c d : Code} {Q : Nat → Regs → AS → Prop}
/-- What holds between two pieces. -/
theorem W_mid (M : Regs → AS → Prop) (h : W P K G n c r σ fun e r' σ' => e = 0 ∧ M r' σ') (hM : ∀ r' σ', M r' σ' → W P K G n d r' σ' Q) : W P K G n (.seq c d) r σ Q :=
  W_seq (h.mono fun x r' σ' ⟨h1, h2⟩ => ⟨fun _ => hM _ _ h2, fun h => absurd h1 h⟩)
end

/-- How many nodes a body has at the most. -/
def bd : Nat → Nat
  | 0 => 2000
  | d + 1 => 1 + 3 * bd d
theorem bd_ge : ∀ d, 2000 ≤ bd d
  | 0 => Nat.le_refl _
  | d + 1 => by have := bd_ge d; show 2000 ≤ 1 + 3 * bd d; omega
theorem bd_mono : ∀ {a b : Nat}, a ≤ b → bd a ≤ bd b
  | a, 0, h => by obtain rfl : a = 0 := by omega
                  exact Nat.le_refl _
  | a, b + 1, h => by
    by_cases e : a = b + 1
    · rw [e]; exact Nat.le_refl _
    · have := bd_mono (a := a) (b := b) (by omega)
      show bd a ≤ 1 + 3 * bd b
      omega

def BodyC (d : Nat) (g : Bool) : Prop := ∀ {σ : AS} {tb : Nat} {lv : Value} {ints : List Int}, Tape tb σ lv ints → C Tryz.prog KA 0 30 [.pointer (some ⟨tb, 0, none⟩), .int .i64 (d : Int), .int .i64 1, .bool g] σ fun u σ' => (∃ m, CodeV σ' u m ∧ m ≤ bd d) ∧ Tape tb σ' lv ints ∧ ExtX [tb] σ σ'

theorem sliceO4 {σ : AS} : aBuildSlice Tryz.prog σ 40 4 [(0, .int .i64 7), (1, .int .i64 8), (2, .int .i64 10), (3, .int .i64 11)] = some (.slice (some ⟨σ.next, 0, none⟩) 4 4, σ.new ⟨1, 3, 0, [.int .i64 7, .int .i64 8, .int .i64 10, .int .i64 11], []⟩) := by kernel_rfl

set_option maxHeartbeats 64000000 in
theorem body_step (d : Nat) (hd3 : d ≤ 3) (g : Bool) (h0g : d = 0 → g = false) (IH : (2 ≤ d ∨ g = true) → ∀ g', (d ≤ 1 → g' = false) → BodyC (d - 1) g') : BodyC d g := by
  intro σ tb lv ints hT
  refine C_of (ka rfl rfl) Tryz.func30 rfl (Nat.le_of_ble_eq_true rfl) ?_
  show W _ _ _ 156 _ _ _ _
  unfold Tryz.f30
  dsimp only
  repeat apply W_assoc
  apply W_reg
  · intro callf
    simp +decide only [aOps, rinit, aWanted, ↓bite_eq, ↓reduceIte, aStep_eq, aStepOld, aOp, opBox, opBin, opUn, opCall, opIndexAddr, opFieldAddr, opLoad, opStore, opPick, opExtract, opSlice, opBuildSlice, opBuild, aRow, aev, aevs, aparts, ann, unn, aPut, if_true, if_false, rget_rput, flat, flat1, Nat.blt_eq, aBuiltin, aLen, List.getElem?_toArray, List.getElem?_cons_zero, List.getElem?_cons_succ, Nat.zero_add, Option.bind_some, beq_self_eq_true, Bool.not_true, Bool.not_false, Bool.true_beq, Bool.false_beq]
    rfl
  repeat apply W_assoc
  apply W_regL
  apply Ls_pre 1
  · intro callf
    simp +decide only [List.take, aOps, rinit, aWanted, ↓bite_eq, ↓reduceIte, aStep_eq, aStepOld, aOp, opBox, opBin, opUn, opCall, opIndexAddr, opFieldAddr, opLoad, opStore, opPick, opExtract, opSlice, opBuildSlice, opBuild, aRow, aev, aevs, aparts, ann, unn, aPut, if_true, if_false, rget_rput, flat, flat1, Nat.blt_eq, aBuiltin, aLen, List.getElem?_toArray, List.getElem?_cons_zero, List.getElem?_cons_succ, Nat.zero_add, Option.bind_some, beq_self_eq_true, Bool.not_true, Bool.not_false, Bool.true_beq, Bool.false_beq]
    rfl
  dsimp only [List.drop]
  refine Ls_fn (vs := [.pointer (some ⟨tb, 0, none⟩), .int .i64 14]) (by simp +decide only [aevs, aev, aResults, rget_rput, if_true, if_false]) (by decide) (C.mono (next_c hT (n := 14) (by omega) (by omega)) ?_)
  rintro yq s1 ⟨⟨kz, rfl, hk0, hk1⟩, TP, EX⟩
  obtain ⟨k, rfl⟩ : ∃ k : Nat, kz = (k : Int) := ⟨kz.toNat, by omega⟩
  apply Ls_all
  · intro callf
    simp +decide only [aOps, rinit, aWanted, ↓bite_eq, ↓reduceIte, aStep_eq, aStepOld, aOp, opBox, opBin, opUn, opCall, opIndexAddr, opFieldAddr, opLoad, opStore, opPick, opExtract, opSlice, opBuildSlice, opBuild, aRow, aev, aevs, aparts, ann, unn, aPut, if_true, if_false, rget_rput, flat, flat1, Nat.blt_eq, aBuiltin, aLen, List.getElem?_toArray, List.getElem?_cons_zero, List.getElem?_cons_succ, Nat.zero_add, Option.bind_some, beq_self_eq_true, Bool.not_true, Bool.not_false, Bool.true_beq, Bool.false_beq]
    rfl
  repeat apply W_assoc
  apply W_reg
  · intro callf
    simp +decide only [aOps, rinit, aWanted, ↓bite_eq, ↓reduceIte, aStep_eq, aStepOld, aOp, opBox, opBin, opUn, opCall, opIndexAddr, opFieldAddr, opLoad, opStore, opPick, opExtract, opSlice, opBuildSlice, opBuild, aRow, aev, aevs, aparts, ann, unn, aPut, if_true, if_false, rget_rput, flat, flat1, Nat.blt_eq, aBuiltin, aLen, List.getElem?_toArray, List.getElem?_cons_zero, List.getElem?_cons_succ, Nat.zero_add, Option.bind_some, beq_self_eq_true, Bool.not_true, Bool.not_false, Bool.true_beq, Bool.false_beq, leqI]
    rfl
  repeat apply W_assoc
  refine W_join (b := decide ((d : Int) ≤ 1)) (fun r s => s = s1 ∧ ∃ k : Nat, k < 14 ∧ (d ≤ 1 → k < 4) ∧ rget r 9 = .int .i64 (k : Int) ∧ rget r 0 = .pointer (some ⟨tb, 0, none⟩) ∧ rget r 1 = .int .i64 (d : Int) ∧ rget r 2 = .int .i64 1 ∧ rget r 3 = .bool g) (by simp +decide only [aevs, aev, aResults, rget_rput, if_true, if_false]) ?_ ?_ ?_
  · intro _
    have hr := fun xo yo => aRem (P := Tryz.prog) (t := 3) (k := .i64) (a := (k : Int)) (b := 4) xo yo (by decide)
    have ht : ((k : Int)).tmod 4 = ((k % 4 : Nat) : Int) := rfl
    refine W_tail ?_
    repeat apply W_assoc
    apply W_reg
    · intro callf
      simp +decide only [aOps, rinit, aWanted, ↓bite_eq, ↓reduceIte, aStep_eq, aStepOld, aOp, opBox, opBin, opUn, opCall, opIndexAddr, opFieldAddr, opLoad, opStore, opPick, opExtract, opSlice, opBuildSlice, opBuild, aRow, aev, aevs, aparts, ann, unn, aPut, if_true, if_false, rget_rput, flat, flat1, Nat.blt_eq, aBuiltin, aLen, List.getElem?_toArray, List.getElem?_cons_zero, List.getElem?_cons_succ, Nat.zero_add, Option.bind_some, beq_self_eq_true, Bool.not_true, Bool.not_false, Bool.true_beq, Bool.false_beq, hr, ht]
      rfl
    refine W_skip ⟨rfl, rfl, k % 4, by omega, fun _ => by omega, ?_, ?_, ?_, ?_, ?_⟩ <;> simp +decide only [rget_rput, rinit, if_true, if_false] <;> first | exact True.intro | rfl
  · intro hb
    have hdd : ¬ (d ≤ 1) := fun h => by
      have := of_decide_eq_false hb
      omega
    refine W_skip ⟨rfl, rfl, k, by omega, fun h => absurd h hdd, ?_, ?_, ?_, ?_, ?_⟩ <;> simp +decide only [rget_rput, rinit, if_true, if_false] <;> first | exact True.intro | rfl
  clear hk0 hk1 k
  rintro r s ⟨rfl, k, hk14, hk4, h9, h0, h1, h2, h3⟩
  repeat apply W_assoc
  refine W_mid (fun r s' => s' = s ∧ ∃ b : Bool, rget r 24 = .bool b ∧ (b = true → g = true) ∧ rget r 9 = .int .i64 (k : Int) ∧ rget r 0 = .pointer (some ⟨tb, 0, none⟩) ∧ rget r 1 = .int .i64 (d : Int) ∧ rget r 2 = .int .i64 1 ∧ rget r 3 = .bool g) ?_ ?_
  · refine W_tail ?_
    cases g with
    | false =>
      repeat apply W_assoc
      apply W_reg
      · intro callf
        simp +decide only [aOps, rinit, aWanted, ↓bite_eq, ↓reduceIte, aStep_eq, aStepOld, aOp, opBox, opBin, opUn, opCall, opIndexAddr, opFieldAddr, opLoad, opStore, opPick, opExtract, opSlice, opBuildSlice, opBuild, aRow, aev, aevs, aparts, ann, unn, aPut, if_true, if_false, rget_rput, flat, flat1, Nat.blt_eq, aBuiltin, aLen, List.getElem?_toArray, List.getElem?_cons_zero, List.getElem?_cons_succ, Nat.zero_add, Option.bind_some, beq_self_eq_true, Bool.not_true, Bool.not_false, Bool.true_beq, Bool.false_beq, h3, opPick]
        rfl
      refine W_skip ⟨rfl, rfl, false, ?_, fun h => h, ?_, ?_, ?_, ?_, ?_⟩ <;> simp +decide only [rget_rput, if_true, if_false, h9, h0, h1, h2, h3]
    | true =>
      by_cases hk0 : k = 0
      · have e0 : ((k : Int) == 0) = true := by rw [hk0]; rfl
        repeat apply W_assoc
        apply W_reg
        · intro callf
          simp +decide only [aOps, rinit, aWanted, ↓bite_eq, ↓reduceIte, aStep_eq, aStepOld, aOp, opBox, opBin, opUn, opCall, opIndexAddr, opFieldAddr, opLoad, opStore, opPick, opExtract, opSlice, opBuildSlice, opBuild, aRow, aev, aevs, aparts, ann, unn, aPut, if_true, if_false, rget_rput, flat, flat1, Nat.blt_eq, aBuiltin, aLen, List.getElem?_toArray, List.getElem?_cons_zero, List.getElem?_cons_succ, Nat.zero_add, Option.bind_some, beq_self_eq_true, Bool.not_true, Bool.not_false, Bool.true_beq, Bool.false_beq, h3, h9, eqII, e0, opPick]
          rfl
        refine W_skip ⟨rfl, rfl, true, ?_, fun h => h, ?_, ?_, ?_, ?_, ?_⟩ <;> simp +decide only [rget_rput, if_true, if_false, h9, h0, h1, h2, h3]
      · have e0 : ((k : Int) == 0) = false := by
          have : ¬ ((k : Int) = 0) := by omega
          simpa using this
        repeat apply W_assoc
        apply W_reg
        · intro callf
          simp +decide only [aOps, rinit, aWanted, ↓bite_eq, ↓reduceIte, aStep_eq, aStepOld, aOp, opBox, opBin, opUn, opCall, opIndexAddr, opFieldAddr, opLoad, opStore, opPick, opExtract, opSlice, opBuildSlice, opBuild, aRow, aev, aevs, aparts, ann, unn, aPut, if_true, if_false, rget_rput, flat, flat1, Nat.blt_eq, aBuiltin, aLen, List.getElem?_toArray, List.getElem?_cons_zero, List.getElem?_cons_succ, Nat.zero_add, Option.bind_some, beq_self_eq_true, Bool.not_true, Bool.not_false, Bool.true_beq, Bool.false_beq, h3, h9, eqII, e0, opPick]
          rfl
        refine W_skip ⟨rfl, rfl, ((k : Int) == 3), ?_, fun _ => rfl, ?_, ?_, ?_, ?_, ?_⟩ <;> simp +decide only [rget_rput, if_true, if_false, h9, h0, h1, h2, h3]
  clear h9 h0 h1 h2 h3
  rintro r s1 ⟨rfl, b, h24, hbg, h9, h0, h1, h2, h3⟩
  repeat apply W_assoc
  refine W_join (b := b) (fun r s => s = s1 ∧ ∃ k : Nat, k < 14 ∧ (d ≤ 1 → k < 4 ∨ (k = 4 ∧ g = true)) ∧ rget r 9 = .int .i64 (k : Int) ∧ rget r 0 = .pointer (some ⟨tb, 0, none⟩) ∧ rget r 1 = .int .i64 (d : Int) ∧ rget r 2 = .int .i64 1 ∧ rget r 3 = .bool g) (by simp +decide only [aevs, aev, aResults, rget_rput, if_true, if_false, h24]) ?_ ?_ ?_
  · intro hb
    refine W_tail ?_
    repeat apply W_assoc
    apply W_reg
    · intro callf
      simp +decide only [aOps, rinit, aWanted, ↓bite_eq, ↓reduceIte, aStep_eq, aStepOld, aOp, opBox, opBin, opUn, opCall, opIndexAddr, opFieldAddr, opLoad, opStore, opPick, opExtract, opSlice, opBuildSlice, opBuild, aRow, aev, aevs, aparts, ann, unn, aPut, if_true, if_false, rget_rput, flat, flat1, Nat.blt_eq, aBuiltin, aLen, List.getElem?_toArray, List.getElem?_cons_zero, List.getElem?_cons_succ, Nat.zero_add, Option.bind_some, beq_self_eq_true, Bool.not_true, Bool.not_false, Bool.true_beq, Bool.false_beq]
      rfl
    refine W_skip ⟨rfl, rfl, 4, by omega, fun _ => .inr ⟨rfl, hbg hb⟩, ?_, ?_, ?_, ?_, ?_⟩ <;> simp +decide only [rget_rput, if_true, if_false, h0, h1, h2, h3]
    all_goals first | exact True.intro | rfl
  · intro _
    exact W_skip ⟨rfl, rfl, k, hk14, fun h => .inl (hk4 h), h9, h0, h1, h2, h3⟩
  clear h24 h9 h0 h1 h2 h3 hbg hk4 hk14 k b
  rintro r s ⟨rfl, k, hk14, hk4, h9, h0, h1, h2, h3⟩
  have hbd3 : bd (d - 1) ≤ 18004 := bd_mono (b := 2) (by omega)
  have hbdd : 1 ≤ d → bd d = 1 + 3 * bd (d - 1) := fun h => by
    obtain ⟨e, rfl⟩ : ∃ e, d = e + 1 := ⟨d - 1, by omega⟩
    rfl
  have w1 : 1 ≤ d → IntKind.i64.wrap ((d : Int) - 1) = ((d - 1 : Nat) : Int) := fun h => by rw [wrap64_id _ (by omega) (by omega)]; omega
  have ha : 4 ≤ k → 1 ≤ d := fun h => by
    by_cases h1 : d ≤ 1
    · rcases hk4 h1 with h2 | ⟨h2, h3⟩
      · omega
      · by_cases hd0 : d = 0
        · have := h0g hd0
          rw [h3] at this
          cases this
        · omega
    · omega
  repeat apply W_assoc
  apply W_reg
  · intro callf
    simp +decide only [aOps, rinit, aWanted, ↓bite_eq, ↓reduceIte, aStep_eq, aStepOld, aOp, opBox, opBin, opUn, opCall, opIndexAddr, opFieldAddr, opLoad, opStore, opPick, opExtract, opSlice, opBuildSlice, opBuild, aRow, aev, aevs, aparts, ann, unn, aPut, if_true, if_false, rget_rput, flat, flat1, Nat.blt_eq, aBuiltin, aLen, List.getElem?_toArray, List.getElem?_cons_zero, List.getElem?_cons_succ, Nat.zero_add, Option.bind_some, beq_self_eq_true, Bool.not_true, Bool.not_false, Bool.true_beq, Bool.false_beq, h9]
    rfl
  refine W_blk ?_
  refine W_tail ?_
  by_cases hk0 : k = 0
  · have ek : ((k : Int) == 0) = true := by rw [hk0]; rfl
    repeat apply W_assoc
    apply W_reg
    · intro callf
      simp +decide only [aOps, rinit, aWanted, ↓bite_eq, ↓reduceIte, aStep_eq, aStepOld, aOp, opBox, opBin, opUn, opCall, opIndexAddr, opFieldAddr, opLoad, opStore, opPick, opExtract, opSlice, opBuildSlice, opBuild, aRow, aev, aevs, aparts, ann, unn, aPut, if_true, if_false, rget_rput, flat, flat1, Nat.blt_eq, aBuiltin, aLen, List.getElem?_toArray, List.getElem?_cons_zero, List.getElem?_cons_succ, Nat.zero_add, Option.bind_some, beq_self_eq_true, Bool.not_true, Bool.not_false, Bool.true_beq, Bool.false_beq, eqII, ek]
      rfl
    repeat apply W_assoc
    refine W_if (b := true) ?_ ?_ ?_
    · simp +decide only [aevs, aev, aResults, rget_rput, if_true, if_false]
    rotate_left
    · intro h; cases h
    intro _
    repeat apply W_assoc
    apply W_regL
    apply Ls_pre 2
    · intro callf
      simp +decide only [List.take, aOps, rinit, aWanted, ↓bite_eq, ↓reduceIte, aStep_eq, aStepOld, aOp, opBox, opBin, opUn, opCall, opIndexAddr, opFieldAddr, opLoad, opStore, opPick, opExtract, opSlice, opBuildSlice, opBuild, aRow, aev, aevs, aparts, ann, unn, aPut, if_true, if_false, rget_rput, flat, flat1, Nat.blt_eq, aBuiltin, aLen, List.getElem?_toArray, List.getElem?_cons_zero, List.getElem?_cons_succ, Nat.zero_add, Option.bind_some, beq_self_eq_true, Bool.not_true, Bool.not_false, Bool.true_beq, Bool.false_beq, h0, h1, h2, h3, subI, w1]
      rfl
    dsimp only [List.drop]
    refine Ls_fn (vs := [.pointer (some ⟨tb, 0, none⟩), .int .i64 1]) (by simp +decide only [aevs, aev, aResults, rget_rput, if_true, if_false, h0, h2]) (by decide) (C.mono (next_c TP (n := 1) (by omega) (by omega)) ?_)
    rintro yq sq ⟨⟨q, rfl, q0, q1⟩, TP2, E1⟩
    have EX := EX.trans E1
    have TP := TP2
    clear TP2 E1
    refine Ls_fn (vs := [.int .i64 7, .int .i64 q, .slice none 0 0]) (by simp +decide only [aevs, aev, aResults, rget_rput, if_true, if_false]) (by decide) (C.mono (code_c (B := 0) 7 q (.inl ⟨rfl, rfl⟩) (fun v hv => (nomatch hv)) (by simp) (by decide) (by simp)) ?_)
    rintro y1 sq ⟨⟨m1, C1, hm1⟩, E1⟩
    have EX := EX.trans (ExtX.of E1)
    have TP := TP.ext E1
    have hm1 : m1 ≤ 1 := by simpa using hm1
    apply Ls_all
    · intro callf
      simp +decide only [aOps, rinit, aWanted, ↓bite_eq, ↓reduceIte, aStep_eq, aStepOld, aOp, opBox, opBin, opUn, opCall, opIndexAddr, opFieldAddr, opLoad, opStore, opPick, opExtract, opSlice, opBuildSlice, opBuild, aRow, aev, aevs, aparts, ann, unn, aPut, if_true, if_false, rget_rput, flat, flat1, Nat.blt_eq, aBuiltin, aLen, List.getElem?_toArray, List.getElem?_cons_zero, List.getElem?_cons_succ, Nat.zero_add, Option.bind_some, beq_self_eq_true, Bool.not_true, Bool.not_false, Bool.true_beq, Bool.false_beq]
      rfl
    refine W_retq ⟨fun h => h.elim (fun h => (nomatch h)) (fun h => (nomatch h)), fun _ _ => ⟨Nat.le_refl _, [y1], ?_, ⟨m1, C1, Nat.le_trans hm1 (Nat.le_trans (by decide) (bd_ge _))⟩, TP, EX⟩⟩
    simp +decide only [aevs, aev, aResults, rget_rput, if_true, if_false]
  have ek : ((k : Int) == 0) = false := by
    have : ¬ ((k : Int) = 0) := by omega
    simpa using this
  repeat apply W_assoc
  apply W_reg
  · intro callf
    simp +decide only [aOps, rinit, aWanted, ↓bite_eq, ↓reduceIte, aStep_eq, aStepOld, aOp, opBox, opBin, opUn, opCall, opIndexAddr, opFieldAddr, opLoad, opStore, opPick, opExtract, opSlice, opBuildSlice, opBuild, aRow, aev, aevs, aparts, ann, unn, aPut, if_true, if_false, rget_rput, flat, flat1, Nat.blt_eq, aBuiltin, aLen, List.getElem?_toArray, List.getElem?_cons_zero, List.getElem?_cons_succ, Nat.zero_add, Option.bind_some, beq_self_eq_true, Bool.not_true, Bool.not_false, Bool.true_beq, Bool.false_beq, eqII, ek]
    rfl
  repeat apply W_assoc
  refine W_if (b := false) ?_ ?_ ?_
  · simp +decide only [aevs, aev, aResults, rget_rput, if_true, if_false]
  · intro h; cases h
  intro _
  clear ek
  by_cases hk1 : k = 1
  · have ek : ((k : Int) == 1) = true := by rw [hk1]; rfl
    repeat apply W_assoc
    apply W_reg
    · intro callf
      simp +decide only [aOps, rinit, aWanted, ↓bite_eq, ↓reduceIte, aStep_eq, aStepOld, aOp, opBox, opBin, opUn, opCall, opIndexAddr, opFieldAddr, opLoad, opStore, opPick, opExtract, opSlice, opBuildSlice, opBuild, aRow, aev, aevs, aparts, ann, unn, aPut, if_true, if_false, rget_rput, flat, flat1, Nat.blt_eq, aBuiltin, aLen, List.getElem?_toArray, List.getElem?_cons_zero, List.getElem?_cons_succ, Nat.zero_add, Option.bind_some, beq_self_eq_true, Bool.not_true, Bool.not_false, Bool.true_beq, Bool.false_beq, eqII, ek]
      rfl
    repeat apply W_assoc
    refine W_if (b := true) ?_ ?_ ?_
    · simp +decide only [aevs, aev, aResults, rget_rput, if_true, if_false]
    rotate_left
    · intro h; cases h
    intro _
    repeat apply W_assoc
    apply W_regL
    refine Ls_fn (vs := [.int .i64 54, .int .i64 1, .slice none 0 0]) (by simp +decide only [aevs, aev, aResults, rget_rput, if_true, if_false]) (by decide) (C.mono (code_c (B := 0) 54 1 (.inl ⟨rfl, rfl⟩) (fun v hv => (nomatch hv)) (by simp) (by decide) (by simp)) ?_)
    rintro y1 sq ⟨⟨m1, C1, hm1⟩, E1⟩
    have EX := EX.trans (ExtX.of E1)
    have TP := TP.ext E1
    have hm1 : m1 ≤ 1 := by simpa using hm1
    apply Ls_all
    · intro callf
      simp +decide only [aOps, rinit, aWanted, ↓bite_eq, ↓reduceIte, aStep_eq, aStepOld, aOp, opBox, opBin, opUn, opCall, opIndexAddr, opFieldAddr, opLoad, opStore, opPick, opExtract, opSlice, opBuildSlice, opBuild, aRow, aev, aevs, aparts, ann, unn, aPut, if_true, if_false, rget_rput, flat, flat1, Nat.blt_eq, aBuiltin, aLen, List.getElem?_toArray, List.getElem?_cons_zero, List.getElem?_cons_succ, Nat.zero_add, Option.bind_some, beq_self_eq_true, Bool.not_true, Bool.not_false, Bool.true_beq, Bool.false_beq]
      rfl
    refine W_retq ⟨fun h => h.elim (fun h => (nomatch h)) (fun h => (nomatch h)), fun _ _ => ⟨Nat.le_refl _, [y1], ?_, ⟨m1, C1, Nat.le_trans hm1 (Nat.le_trans (by decide) (bd_ge _))⟩, TP, EX⟩⟩
    simp +decide only [aevs, aev, aResults, rget_rput, if_true, if_false]
  have ek : ((k : Int) == 1) = false := by
    have : ¬ ((k : Int) = 1) := by omega
    simpa using this
  repeat apply W_assoc
  apply W_reg
  · intro callf
    simp +decide only [aOps, rinit, aWanted, ↓bite_eq, ↓reduceIte, aStep_eq, aStepOld, aOp, opBox, opBin, opUn, opCall, opIndexAddr, opFieldAddr, opLoad, opStore, opPick, opExtract, opSlice, opBuildSlice, opBuild, aRow, aev, aevs, aparts, ann, unn, aPut, if_true, if_false, rget_rput, flat, flat1, Nat.blt_eq, aBuiltin, aLen, List.getElem?_toArray, List.getElem?_cons_zero, List.getElem?_cons_succ, Nat.zero_add, Option.bind_some, beq_self_eq_true, Bool.not_true, Bool.not_false, Bool.true_beq, Bool.false_beq, eqII, ek]
    rfl
  repeat apply W_assoc
  refine W_if (b := false) ?_ ?_ ?_
  · simp +decide only [aevs, aev, aResults, rget_rput, if_true, if_false]
  · intro h; cases h
  intro _
  clear ek
  by_cases hk2 : k = 2
  · have ek : ((k : Int) == 2) = true := by rw [hk2]; rfl
    repeat apply W_assoc
    apply W_reg
    · intro callf
      simp +decide only [aOps, rinit, aWanted, ↓bite_eq, ↓reduceIte, aStep_eq, aStepOld, aOp, opBox, opBin, opUn, opCall, opIndexAddr, opFieldAddr, opLoad, opStore, opPick, opExtract, opSlice, opBuildSlice, opBuild, aRow, aev, aevs, aparts, ann, unn, aPut, if_true, if_false, rget_rput, flat, flat1, Nat.blt_eq, aBuiltin, aLen, List.getElem?_toArray, List.getElem?_cons_zero, List.getElem?_cons_succ, Nat.zero_add, Option.bind_some, beq_self_eq_true, Bool.not_true, Bool.not_false, Bool.true_beq, Bool.false_beq, eqII, ek]
      rfl
    repeat apply W_assoc
    refine W_if (b := true) ?_ ?_ ?_
    · simp +decide only [aevs, aev, aResults, rget_rput, if_true, if_false]
    rotate_left
    · intro h; cases h
    intro _
    repeat apply W_assoc
    apply W_regL
    refine Ls_fn (vs := [.int .i64 54, .int .i64 2, .slice none 0 0]) (by simp +decide only [aevs, aev, aResults, rget_rput, if_true, if_false]) (by decide) (C.mono (code_c (B := 0) 54 2 (.inl ⟨rfl, rfl⟩) (fun v hv => (nomatch hv)) (by simp) (by decide) (by simp)) ?_)
    rintro y1 sq ⟨⟨m1, C1, hm1⟩, E1⟩
    have EX := EX.trans (ExtX.of E1)
    have TP := TP.ext E1
    have hm1 : m1 ≤ 1 := by simpa using hm1
    apply Ls_all
    · intro callf
      simp +decide only [aOps, rinit, aWanted, ↓bite_eq, ↓reduceIte, aStep_eq, aStepOld, aOp, opBox, opBin, opUn, opCall, opIndexAddr, opFieldAddr, opLoad, opStore, opPick, opExtract, opSlice, opBuildSlice, opBuild, aRow, aev, aevs, aparts, ann, unn, aPut, if_true, if_false, rget_rput, flat, flat1, Nat.blt_eq, aBuiltin, aLen, List.getElem?_toArray, List.getElem?_cons_zero, List.getElem?_cons_succ, Nat.zero_add, Option.bind_some, beq_self_eq_true, Bool.not_true, Bool.not_false, Bool.true_beq, Bool.false_beq]
      rfl
    refine W_retq ⟨fun h => h.elim (fun h => (nomatch h)) (fun h => (nomatch h)), fun _ _ => ⟨Nat.le_refl _, [y1], ?_, ⟨m1, C1, Nat.le_trans hm1 (Nat.le_trans (by decide) (bd_ge _))⟩, TP, EX⟩⟩
    simp +decide only [aevs, aev, aResults, rget_rput, if_true, if_false]
  have ek : ((k : Int) == 2) = false := by
    have : ¬ ((k : Int) = 2) := by omega
    simpa using this
  repeat apply W_assoc
  apply W_reg
  · intro callf
    simp +decide only [aOps, rinit, aWanted, ↓bite_eq, ↓reduceIte, aStep_eq, aStepOld, aOp, opBox, opBin, opUn, opCall, opIndexAddr, opFieldAddr, opLoad, opStore, opPick, opExtract, opSlice, opBuildSlice, opBuild, aRow, aev, aevs, aparts, ann, unn, aPut, if_true, if_false, rget_rput, flat, flat1, Nat.blt_eq, aBuiltin, aLen, List.getElem?_toArray, List.getElem?_cons_zero, List.getElem?_cons_succ, Nat.zero_add, Option.bind_some, beq_self_eq_true, Bool.not_true, Bool.not_false, Bool.true_beq, Bool.false_beq, eqII, ek]
    rfl
  repeat apply W_assoc
  refine W_if (b := false) ?_ ?_ ?_
  · simp +decide only [aevs, aev, aResults, rget_rput, if_true, if_false]
  · intro h; cases h
  intro _
  clear ek
  by_cases hk3 : k = 3
  · have ek : ((k : Int) == 3) = true := by rw [hk3]; rfl
    repeat apply W_assoc
    apply W_reg
    · intro callf
      simp +decide only [aOps, rinit, aWanted, ↓bite_eq, ↓reduceIte, aStep_eq, aStepOld, aOp, opBox, opBin, opUn, opCall, opIndexAddr, opFieldAddr, opLoad, opStore, opPick, opExtract, opSlice, opBuildSlice, opBuild, aRow, aev, aevs, aparts, ann, unn, aPut, if_true, if_false, rget_rput, flat, flat1, Nat.blt_eq, aBuiltin, aLen, List.getElem?_toArray, List.getElem?_cons_zero, List.getElem?_cons_succ, Nat.zero_add, Option.bind_some, beq_self_eq_true, Bool.not_true, Bool.not_false, Bool.true_beq, Bool.false_beq, eqII, ek]
      rfl
    repeat apply W_assoc
    refine W_if (b := true) ?_ ?_ ?_
    · simp +decide only [aevs, aev, aResults, rget_rput, if_true, if_false]
    rotate_left
    · intro h; cases h
    intro _
    repeat apply W_assoc
    apply W_regL
    apply Ls_pre 2
    · intro callf
      simp +decide only [List.take, aOps, rinit, aWanted, ↓bite_eq, ↓reduceIte, aStep_eq, aStepOld, aOp, opBox, opBin, opUn, opCall, opIndexAddr, opFieldAddr, opLoad, opStore, opPick, opExtract, opSlice, opBuildSlice, opBuild, aRow, aev, aevs, aparts, ann, unn, aPut, if_true, if_false, rget_rput, flat, flat1, Nat.blt_eq, aBuiltin, aLen, List.getElem?_toArray, List.getElem?_cons_zero, List.getElem?_cons_succ, Nat.zero_add, Option.bind_some, beq_self_eq_true, Bool.not_true, Bool.not_false, Bool.true_beq, Bool.false_beq, h0, h1, h2, h3, subI, w1]
      rfl
    dsimp only [List.drop]
    refine Ls_fn (vs := [.pointer (some ⟨tb, 0, none⟩), .int .i64 1]) (by simp +decide only [aevs, aev, aResults, rget_rput, if_true, if_false, h0, h2]) (by decide) (C.mono (next_c TP (n := 1) (by omega) (by omega)) ?_)
    rintro yq sq ⟨⟨q, rfl, q0, q1⟩, TP2, E1⟩
    have EX := EX.trans E1
    have TP := TP2
    clear TP2 E1
    refine Ls_fn (vs := [.int .i64 7, .int .i64 q, .slice none 0 0]) (by simp +decide only [aevs, aev, aResults, rget_rput, if_true, if_false]) (by decide) (C.mono (code_c (B := 0) 7 q (.inl ⟨rfl, rfl⟩) (fun v hv => (nomatch hv)) (by simp) (by decide) (by simp)) ?_)
    rintro y1 sq ⟨⟨m1, C1, hm1⟩, E1⟩
    have EX := EX.trans (ExtX.of E1)
    have TP := TP.ext E1
    have hm1 : m1 ≤ 1 := by simpa using hm1
    apply Ls_all
    · intro callf
      simp +decide only [aOps, rinit, aWanted, ↓bite_eq, ↓reduceIte, aStep_eq, aStepOld, aOp, opBox, opBin, opUn, opCall, opIndexAddr, opFieldAddr, opLoad, opStore, opPick, opExtract, opSlice, opBuildSlice, opBuild, aRow, aev, aevs, aparts, ann, unn, aPut, if_true, if_false, rget_rput, flat, flat1, Nat.blt_eq, aBuiltin, aLen, List.getElem?_toArray, List.getElem?_cons_zero, List.getElem?_cons_succ, Nat.zero_add, Option.bind_some, beq_self_eq_true, Bool.not_true, Bool.not_false, Bool.true_beq, Bool.false_beq]
      rfl
    refine W_retq ⟨fun h => h.elim (fun h => (nomatch h)) (fun h => (nomatch h)), fun _ _ => ⟨Nat.le_refl _, [y1], ?_, ⟨m1, C1, Nat.le_trans hm1 (Nat.le_trans (by decide) (bd_ge _))⟩, TP, EX⟩⟩
    simp +decide only [aevs, aev, aResults, rget_rput, if_true, if_false]
  have ek : ((k : Int) == 3) = false := by
    have : ¬ ((k : Int) = 3) := by omega
    simpa using this
  repeat apply W_assoc
  apply W_reg
  · intro callf
    simp +decide only [aOps, rinit, aWanted, ↓bite_eq, ↓reduceIte, aStep_eq, aStepOld, aOp, opBox, opBin, opUn, opCall, opIndexAddr, opFieldAddr, opLoad, opStore, opPick, opExtract, opSlice, opBuildSlice, opBuild, aRow, aev, aevs, aparts, ann, unn, aPut, if_true, if_false, rget_rput, flat, flat1, Nat.blt_eq, aBuiltin, aLen, List.getElem?_toArray, List.getElem?_cons_zero, List.getElem?_cons_succ, Nat.zero_add, Option.bind_some, beq_self_eq_true, Bool.not_true, Bool.not_false, Bool.true_beq, Bool.false_beq, eqII, ek]
    rfl
  repeat apply W_assoc
  refine W_if (b := false) ?_ ?_ ?_
  · simp +decide only [aevs, aev, aResults, rget_rput, if_true, if_false]
  · intro h; cases h
  intro _
  clear ek
  have hk4' : 4 ≤ k := by omega
  have hd1 := ha hk4'
  have w1 := w1 hd1
  have hbdd := hbdd hd1
  clear ha
  repeat apply W_assoc
  apply W_reg
  · intro callf
    simp +decide only [aOps, rinit, aWanted, ↓bite_eq, ↓reduceIte, aStep_eq, aStepOld, aOp, opBox, opBin, opUn, opCall, opIndexAddr, opFieldAddr, opLoad, opStore, opPick, opExtract, opSlice, opBuildSlice, opBuild, aRow, aev, aevs, aparts, ann, unn, aPut, if_true, if_false, rget_rput, flat, flat1, Nat.blt_eq, aBuiltin, aLen, List.getElem?_toArray, List.getElem?_cons_zero, List.getElem?_cons_succ, Nat.zero_add, Option.bind_some, beq_self_eq_true, Bool.not_true, Bool.not_false, Bool.true_beq, Bool.false_beq, eqII]
    rfl
  repeat apply W_assoc
  refine W_join (b := ((k : Int) == 4)) (fun r s' => s' = s ∧ rget r 44 = .bool (decide (k ≤ 7)) ∧ rget r 25 = .int .i64 (k : Int) ∧ rget r 0 = .pointer (some ⟨tb, 0, none⟩) ∧ rget r 1 = .int .i64 (d : Int) ∧ rget r 2 = .int .i64 1 ∧ rget r 3 = .bool g) (by simp +decide only [aevs, aev, aResults, rget_rput, if_true, if_false]) ?_ ?_ ?_
  · intro hb
    have hk : k = 4 := by
      have := eq_of_beq hb
      omega
    refine W_skip ⟨rfl, rfl, ?_, ?_, ?_, ?_, ?_, ?_⟩ <;> simp +decide only [rget_rput, if_true, if_false, h0, h1, h2, h3, hb]
    rw [decide_eq_true (show k ≤ 7 by omega)]
  · intro hb
    have hk : k ≠ 4 := fun e => by rw [e] at hb; exact absurd hb (by decide)
    refine W_tail ?_
    by_cases hk5 : k = 5
    · have ek : ((k : Int) == 5) = true := by rw [hk5]; rfl
      repeat apply W_assoc
      apply W_reg
      · intro callf
        simp +decide only [aOps, rinit, aWanted, ↓bite_eq, ↓reduceIte, aStep_eq, aStepOld, aOp, opBox, opBin, opUn, opCall, opIndexAddr, opFieldAddr, opLoad, opStore, opPick, opExtract, opSlice, opBuildSlice, opBuild, aRow, aev, aevs, aparts, ann, unn, aPut, if_true, if_false, rget_rput, flat, flat1, Nat.blt_eq, aBuiltin, aLen, List.getElem?_toArray, List.getElem?_cons_zero, List.getElem?_cons_succ, Nat.zero_add, Option.bind_some, beq_self_eq_true, Bool.not_true, Bool.not_false, Bool.true_beq, Bool.false_beq, eqII, ek]
        rfl
      repeat apply W_assoc
      refine W_if (b := true) ?_ ?_ ?_
      · simp +decide only [aevs, aev, aResults, rget_rput, if_true, if_false]
      rotate_left
      · intro h; cases h
      intro _
      refine W_skipq ?_
      refine W_skip ⟨rfl, rfl, ?_, ?_, ?_, ?_, ?_, ?_⟩ <;> simp +decide only [rget_rput, if_true, if_false, h0, h1, h2, h3]
      rw [decide_eq_true (show k ≤ 7 by omega)]
    have ek : ((k : Int) == 5) = false := by
      have : ¬ ((k : Int) = 5) := by omega
      simpa using this
    repeat apply W_assoc
    apply W_reg
    · intro callf
      simp +decide only [aOps, rinit, aWanted, ↓bite_eq, ↓reduceIte, aStep_eq, aStepOld, aOp, opBox, opBin, opUn, opCall, opIndexAddr, opFieldAddr, opLoad, opStore, opPick, opExtract, opSlice, opBuildSlice, opBuild, aRow, aev, aevs, aparts, ann, unn, aPut, if_true, if_false, rget_rput, flat, flat1, Nat.blt_eq, aBuiltin, aLen, List.getElem?_toArray, List.getElem?_cons_zero, List.getElem?_cons_succ, Nat.zero_add, Option.bind_some, beq_self_eq_true, Bool.not_true, Bool.not_false, Bool.true_beq, Bool.false_beq, eqII, ek]
      rfl
    repeat apply W_assoc
    refine W_if (b := false) ?_ ?_ ?_
    · simp +decide only [aevs, aev, aResults, rget_rput, if_true, if_false]
    · intro h; cases h
    intro _
    clear ek
    by_cases hk6 : k = 6
    · have ek : ((k : Int) == 6) = true := by rw [hk6]; rfl
      repeat apply W_assoc
      apply W_reg
      · intro callf
        simp +decide only [aOps, rinit, aWanted, ↓bite_eq, ↓reduceIte, aStep_eq, aStepOld, aOp, opBox, opBin, opUn, opCall, opIndexAddr, opFieldAddr, opLoad, opStore, opPick, opExtract, opSlice, opBuildSlice, opBuild, aRow, aev, aevs, aparts, ann, unn, aPut, if_true, if_false, rget_rput, flat, flat1, Nat.blt_eq, aBuiltin, aLen, List.getElem?_toArray, List.getElem?_cons_zero, List.getElem?_cons_succ, Nat.zero_add, Option.bind_some, beq_self_eq_true, Bool.not_true, Bool.not_false, Bool.true_beq, Bool.false_beq, eqII, ek]
        rfl
      repeat apply W_assoc
      refine W_if (b := true) ?_ ?_ ?_
      · simp +decide only [aevs, aev, aResults, rget_rput, if_true, if_false]
      rotate_left
      · intro h; cases h
      intro _
      refine W_skipq ?_
      refine W_skip ⟨rfl, rfl, ?_, ?_, ?_, ?_, ?_, ?_⟩ <;> simp +decide only [rget_rput, if_true, if_false, h0, h1, h2, h3]
      rw [decide_eq_true (show k ≤ 7 by omega)]
    have ek : ((k : Int) == 6) = false := by
      have : ¬ ((k : Int) = 6) := by omega
      simpa using this
    repeat apply W_assoc
    apply W_reg
    · intro callf
      simp +decide only [aOps, rinit, aWanted, ↓bite_eq, ↓reduceIte, aStep_eq, aStepOld, aOp, opBox, opBin, opUn, opCall, opIndexAddr, opFieldAddr, opLoad, opStore, opPick, opExtract, opSlice, opBuildSlice, opBuild, aRow, aev, aevs, aparts, ann, unn, aPut, if_true, if_false, rget_rput, flat, flat1, Nat.blt_eq, aBuiltin, aLen, List.getElem?_toArray, List.getElem?_cons_zero, List.getElem?_cons_succ, Nat.zero_add, Option.bind_some, beq_self_eq_true, Bool.not_true, Bool.not_false, Bool.true_beq, Bool.false_beq, eqII, ek]
      rfl
    repeat apply W_assoc
    refine W_if (b := false) ?_ ?_ ?_
    · simp +decide only [aevs, aev, aResults, rget_rput, if_true, if_false]
    · intro h; cases h
    intro _
    clear ek
    repeat apply W_assoc
    apply W_reg
    · intro callf
      simp +decide only [aOps, rinit, aWanted, ↓bite_eq, ↓reduceIte, aStep_eq, aStepOld, aOp, opBox, opBin, opUn, opCall, opIndexAddr, opFieldAddr, opLoad, opStore, opPick, opExtract, opSlice, opBuildSlice, opBuild, aRow, aev, aevs, aparts, ann, unn, aPut, if_true, if_false, rget_rput, flat, flat1, Nat.blt_eq, aBuiltin, aLen, List.getElem?_toArray, List.getElem?_cons_zero, List.getElem?_cons_succ, Nat.zero_add, Option.bind_some, beq_self_eq_true, Bool.not_true, Bool.not_false, Bool.true_beq, Bool.false_beq, eqII]
      rfl
    refine W_skip ⟨rfl, rfl, ?_, ?_, ?_, ?_, ?_, ?_⟩ <;> simp +decide only [rget_rput, if_true, if_false, h0, h1, h2, h3]
    congr 1
    by_cases h7 : k = 7
    · rw [h7]; rfl
    · rw [decide_eq_false (show ¬ k ≤ 7 by omega)]
      have : ¬ ((k : Int) = 7) := by omega
      simpa using this
  clear h0 h1 h2 h3 h9
  rintro r s1 ⟨rfl, h44, h25, h0, h1, h2, h3⟩
  by_cases hk7 : k ≤ 7
  · have ek : decide (k ≤ 7) = true := decide_eq_true hk7
    rw [ek] at h44
    have hI := IH (by
      by_cases h1 : d ≤ 1
      · rcases hk4 h1 with h2 | ⟨h2, h3⟩
        · omega
        · exact .inr h3
      · exact .inl (by omega))
    repeat apply W_assoc
    refine W_if (b := true) ?_ ?_ ?_
    · simp +decide only [aevs, aev, aResults, rget_rput, if_true, if_false, h44]
    rotate_left
    · intro h; cases h
    intro _
    repeat apply W_assoc
    apply W_regL
    apply Ls_pre 1
    · intro callf
      simp +decide only [List.take, aOps, rinit, aWanted, ↓bite_eq, ↓reduceIte, aStep_eq, aStepOld, aOp, opBox, opBin, opUn, opCall, opIndexAddr, opFieldAddr, opLoad, opStore, opPick, opExtract, opSlice, opBuildSlice, opBuild, aRow, aev, aevs, aparts, ann, unn, aPut, if_true, if_false, rget_rput, flat, flat1, Nat.blt_eq, aBuiltin, aLen, List.getElem?_toArray, List.getElem?_cons_zero, List.getElem?_cons_succ, Nat.zero_add, Option.bind_some, beq_self_eq_true, Bool.not_true, Bool.not_false, Bool.true_beq, Bool.false_beq, h0, h1, h2, h3, subI, w1]
      rfl
    dsimp only [List.drop]
    refine Ls_fn (vs := [.pointer (some ⟨tb, 0, none⟩), .int .i64 4]) (by simp +decide only [aevs, aev, aResults, rget_rput, if_true, if_false, h0, h2]) (by decide) (C.mono (next_c TP (n := 4) (by omega) (by omega)) ?_)
    rintro yq sq ⟨⟨q, rfl, q0, q1⟩, TP2, E1⟩
    have EX := EX.trans E1
    have TP := TP2
    clear TP2 E1
    refine Ls_fn (vs := [.int .i64 4, .int .i64 q, .slice none 0 0]) (by simp +decide only [aevs, aev, aResults, rget_rput, if_true, if_false]) (by decide) (C.mono (code_c (B := 0) 4 q (.inl ⟨rfl, rfl⟩) (fun v hv => (nomatch hv)) (by simp) (by decide) (by simp)) ?_)
    rintro y1 sq ⟨⟨m1, C1, hm1⟩, E1⟩
    have EX := EX.trans (ExtX.of E1)
    have TP := TP.ext E1
    have hm1 : m1 ≤ 1 := by simpa using hm1
    have hm1 : m1 ≤ bd (d - 1) := Nat.le_trans hm1 (Nat.le_trans (by decide) (bd_ge _))
    apply Ls_pre 4
    · intro callf
      simp +decide only [List.take, aOps, rinit, aWanted, ↓bite_eq, ↓reduceIte, aStep_eq, aStepOld, aOp, opBox, opBin, opUn, opCall, opIndexAddr, opFieldAddr, opLoad, opStore, opPick, opExtract, opSlice, opBuildSlice, opBuild, aRow, aev, aevs, aparts, ann, unn, aPut, if_true, if_false, rget_rput, flat, flat1, Nat.blt_eq, aBuiltin, aLen, List.getElem?_toArray, List.getElem?_cons_zero, List.getElem?_cons_succ, Nat.zero_add, Option.bind_some, beq_self_eq_true, Bool.not_true, Bool.not_false, Bool.true_beq, Bool.false_beq, h0, h1, h2, h3, subI, w1]
      rfl
    dsimp only [List.drop]
    refine Ls_fn (vs := [.pointer (some ⟨tb, 0, none⟩), .int .i64 ((d - 1 : Nat) : Int), .int .i64 1, .bool false]) (by simp +decide only [aevs, aev, aResults, rget_rput, if_true, if_false, h0, h2, h3]) (by decide) (C.mono (hI false (fun _ => rfl) TP) ?_)
    rintro y2 sq ⟨⟨m2, C2, hm2⟩, TP2, E1⟩
    have C1 := C1.extT TP E1
    have EX := EX.trans E1
    have TP := TP2
    clear TP2 E1
    obtain ⟨p1, n1, k1, rfl⟩ := C1.sl
    obtain ⟨p2, n2, k2, rfl⟩ := C2.sl
    have E1 := Ext.new sq ⟨1, 24, 0, [.slice p1 n1 k1, .slice p2 n2 k2], []⟩
    have KV : KidsV (sq.new ⟨1, 24, 0, [.slice p1 n1 k1, .slice p2 n2 k2], []⟩) (.slice (some ⟨sq.next, 0, none⟩) 2 2) [.slice p1 n1 k1, .slice p2 n2 k2] := KidsV.block (by rw [AS.get_new, if_pos rfl]) (Nat.lt_succ_self _) rfl
    apply Ls_pre 1
    · intro callf
      simp +decide only [List.take, aOps, rinit, aWanted, ↓bite_eq, ↓reduceIte, aStep_eq, aStepOld, aOp, opBox, opBin, opUn, opCall, opIndexAddr, opFieldAddr, opLoad, opStore, opPick, opExtract, opSlice, opBuildSlice, opBuild, aRow, aev, aevs, aparts, ann, unn, aPut, if_true, if_false, rget_rput, flat, flat1, Nat.blt_eq, aBuiltin, aLen, List.getElem?_toArray, List.getElem?_cons_zero, List.getElem?_cons_succ, Nat.zero_add, Option.bind_some, beq_self_eq_true, Bool.not_true, Bool.not_false, Bool.true_beq, Bool.false_beq, sliceK2]
      rfl
    dsimp only [List.drop]
    have C1 := C1.ext E1
    have C2 := C2.ext E1
    have EX := EX.trans (ExtX.of E1)
    have TP := TP.ext E1
    clear E1
    have hk : ∀ v ∈ ([.slice p1 n1 k1, .slice p2 n2 k2] : List Value), ∃ m, CodeV (sq.new ⟨1, 24, 0, [.slice p1 n1 k1, .slice p2 n2 k2], []⟩) v m ∧ m ≤ bd (d - 1) := by
      intro v hv
      simp only [List.mem_cons, List.not_mem_nil, or_false] at hv
      rcases hv with rfl | rfl
      · exact ⟨_, C1, hm1⟩
      · exact ⟨_, C2, hm2⟩
    refine Ls_fn (vs := [.int .i64 50, .int .i64 0, .slice (some ⟨sq.next, 0, none⟩) 2 2]) (by simp +decide only [aevs, aev, aResults, rget_rput, if_true, if_false]) (by decide) (C.mono (code_c (B := bd (d - 1)) 50 0 KV hk (by simp) (Nat.le_trans hbd3 (by decide)) (by simp; omega)) ?_)
    rintro y9 s9 ⟨⟨m9, C9, hm9⟩, E1⟩
    have EX := EX.trans (ExtX.of E1)
    have TP := TP.ext E1
    have hm9 : m9 ≤ bd d := Nat.le_trans hm9 (by rw [hbdd]; simp <;> omega)
    apply Ls_all
    · intro callf
      simp +decide only [aOps, rinit, aWanted, ↓bite_eq, ↓reduceIte, aStep_eq, aStepOld, aOp, opBox, opBin, opUn, opCall, opIndexAddr, opFieldAddr, opLoad, opStore, opPick, opExtract, opSlice, opBuildSlice, opBuild, aRow, aev, aevs, aparts, ann, unn, aPut, if_true, if_false, rget_rput, flat, flat1, Nat.blt_eq, aBuiltin, aLen, List.getElem?_toArray, List.getElem?_cons_zero, List.getElem?_cons_succ, Nat.zero_add, Option.bind_some, beq_self_eq_true, Bool.not_true, Bool.not_false, Bool.true_beq, Bool.false_beq]
      rfl
    refine W_retq ⟨fun h => h.elim (fun h => (nomatch h)) (fun h => (nomatch h)), fun _ _ => ⟨Nat.le_refl _, [y9], ?_, ⟨m9, C9, hm9⟩, TP, EX⟩⟩
    simp +decide only [aevs, aev, aResults, rget_rput, if_true, if_false]
  have ek : decide (k ≤ 7) = false := decide_eq_false hk7
  rw [ek] at h44
  repeat apply W_assoc
  refine W_if (b := false) ?_ ?_ ?_
  · simp +decide only [aevs, aev, aResults, rget_rput, if_true, if_false, h44]
  · intro h; cases h
  intro _
  clear ek
  have hd2 : 2 ≤ d := by
    by_cases h1 : d ≤ 1
    · rcases hk4 h1 with h2 | ⟨h2, h3⟩ <;> omega
    · omega
  have hI := IH (.inl hd2)
  by_cases hk8 : k = 8
  · have ek : ((k : Int) == 8) = true := by rw [hk8]; rfl
    repeat apply W_assoc
    apply W_reg
    · intro callf
      simp +decide only [aOps, rinit, aWanted, ↓bite_eq, ↓reduceIte, aStep_eq, aStepOld, aOp, opBox, opBin, opUn, opCall, opIndexAddr, opFieldAddr, opLoad, opStore, opPick, opExtract, opSlice, opBuildSlice, opBuild, aRow, aev, aevs, aparts, ann, unn, aPut, if_true, if_false, rget_rput, flat, flat1, Nat.blt_eq, aBuiltin, aLen, List.getElem?_toArray, List.getElem?_cons_zero, List.getElem?_cons_succ, Nat.zero_add, Option.bind_some, beq_self_eq_true, Bool.not_true, Bool.not_false, Bool.true_beq, Bool.false_beq, eqII, ek, h25]
      rfl
    repeat apply W_assoc
    refine W_if (b := true) ?_ ?_ ?_
    · simp +decide only [aevs, aev, aResults, rget_rput, if_true, if_false]
    rotate_left
    · intro h; cases h
    intro _
    repeat apply W_assoc
    refine W_drw [4] [s1.next] (by kernel_rfl) (by kernel_rfl) ?_
    refine Lg_qopX (v := .slice (some ⟨s1.next, 0, none⟩) 4 4) (s1 := s1.reset.new ⟨1, 3, 0, [.int .i64 7, .int .i64 8, .int .i64 10, .int .i64 11], []⟩) (by intro callf; simp +decide only [aOps, rinit, aWanted, ↓bite_eq, ↓reduceIte, aStep_eq, aStepOld, aOp, opBox, opBin, opUn, opCall, opIndexAddr, opFieldAddr, opLoad, opStore, opPick, opExtract, opSlice, opBuildSlice, opBuild, aRow, aev, aevs, aparts, ann, unn, aPut, if_true, if_false, rget_rput, flat, flat1, Nat.blt_eq, aBuiltin, aLen, List.getElem?_toArray, List.getElem?_cons_zero, List.getElem?_cons_succ, Nat.zero_add, Option.bind_some, beq_self_eq_true, Bool.not_true, Bool.not_false, Bool.true_beq, Bool.false_beq, sliceO4]; rfl) (by decide) (by kernel_rfl) (Nat.le_refl _) ?_
    have E1 := Ext.merge (Ext.new s1.reset ⟨1, 3, 0, [.int .i64 7, .int .i64 8, .int .i64 10, .int .i64 11], []⟩)
    have EX := EX.trans (ExtX.of E1)
    have hqt : tb < s1.next := TP.lt
    have TP := TP.ext E1
    have hq : (s1.merge (s1.reset.new ⟨1, 3, 0, [.int .i64 7, .int .i64 8, .int .i64 10, .int .i64 11], []⟩)).get s1.next = ⟨1, 3, 0, [.int .i64 7, .int .i64 8, .int .i64 10, .int .i64 11], []⟩ := by
      show (s1.reset.new ⟨1, 3, 0, [.int .i64 7, .int .i64 8, .int .i64 10, .int .i64 11], []⟩).get s1.next = _
      rw [AS.get_new]; exact if_pos rfl
    have hql : s1.next < (s1.merge (s1.reset.new ⟨1, 3, 0, [.int .i64 7, .int .i64 8, .int .i64 10, .int .i64 11], []⟩)).next := Nat.lt_succ_self _
    clear E1
    generalize s1.merge (s1.reset.new ⟨1, 3, 0, [.int .i64 7, .int .i64 8, .int .i64 10, .int .i64 11], []⟩) = s2 at EX TP hq hql
    generalize hqb : s1.next = qb at hq hql hqt
    apply Lg_pre 1
    · intro callf
      simp +decide only [List.take, aQ, memb, List.any_nil, List.any_cons, Bool.true_or, Bool.or_false, Bool.and_true, Bool.or_true, Bool.false_or, Bool.true_and, reset_merge, reset_reset, reset_next, reset_low, merge_next, merge_idem, new_low, ble_self, aOps, rinit, aWanted, ↓bite_eq, ↓reduceIte, aStep_eq, aStepOld, aOp, opBox, opBin, opUn, opCall, opIndexAddr, opFieldAddr, opLoad, opStore, opPick, opExtract, opSlice, opBuildSlice, opBuild, aRow, aev, aevs, aparts, ann, unn, aPut, if_true, if_false, rget_rput, flat, flat1, Nat.blt_eq, aBuiltin, aLen, List.getElem?_toArray, List.getElem?_cons_zero, List.getElem?_cons_succ, Nat.zero_add, Option.bind_some, beq_self_eq_true, Bool.not_true, Bool.not_false, Bool.true_beq, Bool.false_beq, h0]
      rfl
    dsimp only [List.drop, List.take, List.length]
    have E1 : Ext s2 (s2.merge s2.reset) := (Ext.refl _).merge (σ := s2)
    have EX := EX.trans (ExtX.of E1)
    have TP := TP.ext E1
    have hq := (E1.get qb hql).trans hq
    have hql := E1.lt hql
    clear E1
    generalize s2.merge s2.reset = s3 at EX TP hq hql 
    refine Lg_bar (vs := [.pointer (some ⟨tb, 0, none⟩), .int .i64 4]) (by simp +decide only [aevs, aev, aResults, rget_rput, if_true, if_false, h0, h2, h3]) (by decide) (by kernel_rfl) (by kernel_rfl) (C.mono (next_c (TP.ext (Ext.reset s3)) (n := 4) (by omega) (by omega)) ?_)
    rintro yq sm ⟨⟨q, rfl, hq0, hq1⟩, TP2, E1⟩
    refine ⟨fun x hx hlt => E1.get x hlt (by simp at hx ⊢; omega), ?_⟩
    have E1 : ExtX [tb] s3 (s3.merge sm) := E1.merge
    have TP3 : Tape tb (s3.merge sm) lv ints := by
      obtain ⟨p, hp⟩ := TP2.own
      exact TP.keep E1 (pos := p) hp
    have hq := (E1.get qb hql (by simp; omega)).trans hq
    have hql := E1.lt hql
    have EX := EX.trans E1
    clear TP E1 TP2
    have TP := TP3
    clear TP3
    generalize s3.merge sm = s4 at EX TP hq hql 
    obtain ⟨qn, rfl⟩ : ∃ qn : Nat, q = (qn : Int) := ⟨q.toNat, by omega⟩
    obtain ⟨ox, hox⟩ : ∃ ox : Int, [Value.int .i64 7, .int .i64 8, .int .i64 10, .int .i64 11][qn]? = some (.int .i64 ox) := by
      have : qn < 4 := by omega
      match qn, this with
      | 0, _ => exact ⟨_, rfl⟩
      | 1, _ => exact ⟨_, rfl⟩
      | 2, _ => exact ⟨_, rfl⟩
      | 3, _ => exact ⟨_, rfl⟩
    have hqi : aIndexAddr Tryz.prog 40 (.slice (some ⟨qb, 0, none⟩) 4 4) (.int .i64 (qn : Int)) = some (.pointer (some ⟨qb, qn, none⟩)) := by
      rw [idxI (show qn < 4 by omega), Nat.mul_one, Nat.zero_add]
    apply Lg_pre 1
    · intro callf
      simp +decide only [List.take, aQ, memb, List.any_nil, List.any_cons, Bool.true_or, Bool.or_false, Bool.and_true, Bool.or_true, Bool.false_or, Bool.true_and, reset_merge, reset_reset, reset_next, reset_low, merge_next, merge_idem, new_low, ble_self, aOps, rinit, aWanted, ↓bite_eq, ↓reduceIte, aStep_eq, aStepOld, aOp, opBox, opBin, opUn, opCall, opIndexAddr, opFieldAddr, opLoad, opStore, opPick, opExtract, opSlice, opBuildSlice, opBuild, aRow, aev, aevs, aparts, ann, unn, aPut, if_true, if_false, rget_rput, flat, flat1, Nat.blt_eq, aBuiltin, aLen, List.getElem?_toArray, List.getElem?_cons_zero, List.getElem?_cons_succ, Nat.zero_add, Option.bind_some, beq_self_eq_true, Bool.not_true, Bool.not_false, Bool.true_beq, Bool.false_beq, hqb, hqi]
      rfl
    dsimp only [List.drop, List.take, List.length]
    have E1 : Ext s4 (s4.merge s4.reset) := (Ext.refl _).merge (σ := s4)
    have EX := EX.trans (ExtX.of E1)
    have TP := TP.ext E1
    have hq := (E1.get qb hql).trans hq
    have hql := E1.lt hql
    clear E1
    generalize s4.merge s4.reset = s5 at EX TP hq hql 
    refine Lg_load (b := qb) (off := qn) (v := .int .i64 ox) (by simp +decide only [aevs, aev, aResults, rget_rput, if_true, if_false]) (load1 Tryz.underlying3 rfl (cells_at (σ := s5.reset) hq (by
      obtain ⟨h1, h2⟩ := List.getElem?_eq_some_iff.1 hox
      rw [List.drop_eq_getElem_cons h1, h2]; rfl) (by simp; omega))) sv_int hql (by simp [memb]) (by decide) ?_
    have E1 : Ext s5 (s5.merge s5.reset) := (Ext.refl _).merge (σ := s5)
    have EX := EX.trans (ExtX.of E1)
    have TP := TP.ext E1
    have hq := (E1.get qb hql).trans hq
    have hql := E1.lt hql
    clear E1
    generalize s5.merge s5.reset = s6 at EX TP hq hql 
    apply Lg_pre 5
    · intro callf
      simp +decide only [List.take, aQ, memb, List.any_nil, List.any_cons, Bool.true_or, Bool.or_false, Bool.and_true, Bool.or_true, Bool.false_or, Bool.true_and, reset_merge, reset_reset, reset_next, reset_low, merge_next, merge_idem, new_low, ble_self, aOps, rinit, aWanted, ↓bite_eq, ↓reduceIte, aStep_eq, aStepOld, aOp, opBox, opBin, opUn, opCall, opIndexAddr, opFieldAddr, opLoad, opStore, opPick, opExtract, opSlice, opBuildSlice, opBuild, aRow, aev, aevs, aparts, ann, unn, aPut, if_true, if_false, rget_rput, flat, flat1, Nat.blt_eq, aBuiltin, aLen, List.getElem?_toArray, List.getElem?_cons_zero, List.getElem?_cons_succ, Nat.zero_add, Option.bind_some, beq_self_eq_true, Bool.not_true, Bool.not_false, Bool.true_beq, Bool.false_beq, h0, h1, h2, h3, subI, w1]
      rfl
    dsimp only [List.drop, List.take, List.length]
    have E1 : Ext s6 (s6.merge s6.reset) := (Ext.refl _).merge (σ := s6)
    have EX := EX.trans (ExtX.of E1)
    have TP := TP.ext E1
    have hq := (E1.get qb hql).trans hq
    have hql := E1.lt hql
    clear E1
    generalize s6.merge s6.reset = s7 at EX TP hq hql 
    refine Lg_bar (vs := [.pointer (some ⟨tb, 0, none⟩), .int .i64 ((d - 1 : Nat) : Int), .int .i64 1, .bool g]) (by simp +decide only [aevs, aev, aResults, rget_rput, if_true, if_false, h0, h2, h3]) (by decide) (by kernel_rfl) (by kernel_rfl) (C.mono (hI g (fun h => by omega) (TP.ext (Ext.reset s7))) ?_)
    rintro y1 sm ⟨⟨m1, C1, hm1⟩, TP2, E1⟩
    refine ⟨fun x hx hlt => E1.get x hlt (by simp at hx ⊢; omega), ?_⟩
    have E1 : ExtX [tb] s7 (s7.merge sm) := E1.merge
    have TP3 : Tape tb (s7.merge sm) lv ints := by
      obtain ⟨p, hp⟩ := TP2.own
      exact TP.keep E1 (pos := p) hp
    have hq := (E1.get qb hql (by simp; omega)).trans hq
    have hql := E1.lt hql
    have C1 : CodeV (s7.merge sm) y1 m1 := C1.keep (Nat.le_refl _) fun _ _ _ => rfl
    have EX := EX.trans E1
    clear TP E1 TP2
    have TP := TP3
    clear TP3
    generalize s7.merge sm = s8 at EX TP hq hql C1
    apply Lg_pre 5
    · intro callf
      simp +decide only [List.take, aQ, memb, List.any_nil, List.any_cons, Bool.true_or, Bool.or_false, Bool.and_true, Bool.or_true, Bool.false_or, Bool.true_and, reset_merge, reset_reset, reset_next, reset_low, merge_next, merge_idem, new_low, ble_self, aOps, rinit, aWanted, ↓bite_eq, ↓reduceIte, aStep_eq, aStepOld, aOp, opBox, opBin, opUn, opCall, opIndexAddr, opFieldAddr, opLoad, opStore, opPick, opExtract, opSlice, opBuildSlice, opBuild, aRow, aev, aevs, aparts, ann, unn, aPut, if_true, if_false, rget_rput, flat, flat1, Nat.blt_eq, aBuiltin, aLen, List.getElem?_toArray, List.getElem?_cons_zero, List.getElem?_cons_succ, Nat.zero_add, Option.bind_some, beq_self_eq_true, Bool.not_true, Bool.not_false, Bool.true_beq, Bool.false_beq, h0, h1, h2, h3, subI, w1]
      rfl
    dsimp only [List.drop, List.take, List.length]
    have E1 : Ext s8 (s8.merge s8.reset) := (Ext.refl _).merge (σ := s8)
    have EX := EX.trans (ExtX.of E1)
    have TP := TP.ext E1
    have hq := (E1.get qb hql).trans hq
    have hql := E1.lt hql
    have C1 := C1.ext E1
    clear E1
    generalize s8.merge s8.reset = s9 at EX TP hq hql C1
    refine Lg_bar (vs := [.pointer (some ⟨tb, 0, none⟩), .int .i64 ((d - 1 : Nat) : Int), .int .i64 1, .bool g]) (by simp +decide only [aevs, aev, aResults, rget_rput, if_true, if_false, h0, h2, h3]) (by decide) (by kernel_rfl) (by kernel_rfl) (C.mono (hI g (fun h => by omega) (TP.ext (Ext.reset s9))) ?_)
    rintro y2 sm ⟨⟨m2, C2, hm2⟩, TP2, E1⟩
    refine ⟨fun x hx hlt => E1.get x hlt (by simp at hx ⊢; omega), ?_⟩
    have E1 : ExtX [tb] s9 (s9.merge sm) := E1.merge
    have TP3 : Tape tb (s9.merge sm) lv ints := by
      obtain ⟨p, hp⟩ := TP2.own
      exact TP.keep E1 (pos := p) hp
    have hq := (E1.get qb hql (by simp; omega)).trans hq
    have hql := E1.lt hql
    have C1 := C1.extT TP E1
    have C2 : CodeV (s9.merge sm) y2 m2 := C2.keep (Nat.le_refl _) fun _ _ _ => rfl
    have EX := EX.trans E1
    clear TP E1 TP2
    have TP := TP3
    clear TP3
    generalize s9.merge sm = s10 at EX TP hq hql C1 C2
    obtain ⟨p1, n1, k1, rfl⟩ := C1.sl
    obtain ⟨p2, n2, k2, rfl⟩ := C2.sl
    refine Lg_qopX (v := .slice (some ⟨s10.next, 0, none⟩) 2 2) (s1 := s10.reset.new ⟨1, 24, 0, [.slice p1 n1 k1, .slice p2 n2 k2], []⟩) (by intro callf; simp +decide only [aOps, rinit, aWanted, ↓bite_eq, ↓reduceIte, aStep_eq, aStepOld, aOp, opBox, opBin, opUn, opCall, opIndexAddr, opFieldAddr, opLoad, opStore, opPick, opExtract, opSlice, opBuildSlice, opBuild, aRow, aev, aevs, aparts, ann, unn, aPut, if_true, if_false, rget_rput, flat, flat1, Nat.blt_eq, aBuiltin, aLen, List.getElem?_toArray, List.getElem?_cons_zero, List.getElem?_cons_succ, Nat.zero_add, Option.bind_some, beq_self_eq_true, Bool.not_true, Bool.not_false, Bool.true_beq, Bool.false_beq, sliceK2]; rfl) (by decide) (by kernel_rfl) (Nat.le_refl _) ?_
    have E1 := Ext.merge (Ext.new s10.reset ⟨1, 24, 0, [.slice p1 n1 k1, .slice p2 n2 k2], []⟩)
    have EX := EX.trans (ExtX.of E1)
    have TP := TP.ext E1
    have C1 := C1.ext E1
    have C2 := C2.ext E1
    have hkb : (s10.merge (s10.reset.new ⟨1, 24, 0, [.slice p1 n1 k1, .slice p2 n2 k2], []⟩)).get s10.next = ⟨1, 24, 0, [.slice p1 n1 k1, .slice p2 n2 k2], []⟩ := by
      show (s10.reset.new ⟨1, 24, 0, [.slice p1 n1 k1, .slice p2 n2 k2], []⟩).get s10.next = _
      rw [AS.get_new]; exact if_pos rfl
    have hkl : s10.next < (s10.merge (s10.reset.new ⟨1, 24, 0, [.slice p1 n1 k1, .slice p2 n2 k2], []⟩)).next := Nat.lt_succ_self _
    clear E1 hq hql
    generalize s10.merge (s10.reset.new ⟨1, 24, 0, [.slice p1 n1 k1, .slice p2 n2 k2], []⟩) = s11 at EX TP C1 C2 hkb hkl
    have KV : KidsV s11.reset (.slice (some ⟨s10.next, 0, none⟩) 2 2) [.slice p1 n1 k1, .slice p2 n2 k2] := KidsV.block (show s11.reset.get s10.next = _ from hkb) hkl rfl
    have hk : ∀ v ∈ ([.slice p1 n1 k1, .slice p2 n2 k2] : List Value), ∃ m, CodeV s11.reset v m ∧ m ≤ bd (d - 1) := by
      intro v hv
      simp only [List.mem_cons, List.not_mem_nil, or_false] at hv
      rcases hv with rfl | rfl
      · exact ⟨_, C1.ext (Ext.reset s11), hm1⟩
      · exact ⟨_, C2.ext (Ext.reset s11), hm2⟩
    refine Lg_fn (vs := [.int .i64 54, .int .i64 ox, .slice (some ⟨s10.next, 0, none⟩) 2 2]) (by simp +decide only [aevs, aev, aResults, rget_rput, if_true, if_false]) (by decide) (by kernel_rfl) (C.mono (code_c (B := bd (d - 1)) 54 ox KV hk (by simp) (Nat.le_trans hbd3 (by decide)) (by simp; omega)) ?_)
    rintro y9 s12 ⟨⟨m9, C9, hm9⟩, E1⟩
    refine ⟨E1.quiet, ?_⟩
    have hm9 : m9 ≤ bd d := Nat.le_trans hm9 (by rw [hbdd]; simp <;> omega)
    have E1 : Ext s11 (s11.merge s12) := E1.merge
    have C9 : CodeV (s11.merge s12) y9 m9 := C9.keep (Nat.le_refl _) fun _ _ _ => rfl
    have EX := EX.trans (ExtX.of E1)
    have TP := TP.ext E1
    clear E1
    generalize s11.merge s12 = s13 at EX TP C9
    apply Lg_all
    · intro callf
      simp +decide only [aQ, memb, List.any_nil, List.any_cons, Bool.true_or, Bool.or_false, Bool.and_true, Bool.or_true, Bool.false_or, Bool.true_and, reset_merge, reset_reset, reset_next, reset_low, merge_next, merge_idem, new_low, ble_self, aOps, rinit, aWanted, ↓bite_eq, ↓reduceIte, aStep_eq, aStepOld, aOp, opBox, opBin, opUn, opCall, opIndexAddr, opFieldAddr, opLoad, opStore, opPick, opExtract, opSlice, opBuildSlice, opBuild, aRow, aev, aevs, aparts, ann, unn, aPut, if_true, if_false, rget_rput, flat, flat1, Nat.blt_eq, aBuiltin, aLen, List.getElem?_toArray, List.getElem?_cons_zero, List.getElem?_cons_succ, Nat.zero_add, Option.bind_some, beq_self_eq_true, Bool.not_true, Bool.not_false, Bool.true_beq, Bool.false_beq]
      rfl
    have E1 : Ext s13 (s13.merge s13.reset) := (Ext.refl _).merge (σ := s13)
    have EX := EX.trans (ExtX.of E1)
    have TP := TP.ext E1
    have C9 := C9.ext E1
    clear E1
    generalize s13.merge s13.reset = s14 at EX TP C9
    refine W_retq ⟨fun h => h.elim (fun h => (nomatch h)) (fun h => (nomatch h)), fun _ _ => ⟨Nat.le_refl _, [y9], ?_, ⟨m9, C9, hm9⟩, TP, EX⟩⟩
    simp +decide only [aevs, aev, aResults, rget_rput, if_true, if_false]
  have ek : ((k : Int) == 8) = false := by
    have : ¬ ((k : Int) = 8) := by omega
    simpa using this
  repeat apply W_assoc
  apply W_reg
  · intro callf
    simp +decide only [aOps, rinit, aWanted, ↓bite_eq, ↓reduceIte, aStep_eq, aStepOld, aOp, opBox, opBin, opUn, opCall, opIndexAddr, opFieldAddr, opLoad, opStore, opPick, opExtract, opSlice, opBuildSlice, opBuild, aRow, aev, aevs, aparts, ann, unn, aPut, if_true, if_false, rget_rput, flat, flat1, Nat.blt_eq, aBuiltin, aLen, List.getElem?_toArray, List.getElem?_cons_zero, List.getElem?_cons_succ, Nat.zero_add, Option.bind_some, beq_self_eq_true, Bool.not_true, Bool.not_false, Bool.true_beq, Bool.false_beq, eqII, ek, h25]
    rfl
  repeat apply W_assoc
  refine W_if (b := false) ?_ ?_ ?_
  · simp +decide only [aevs, aev, aResults, rget_rput, if_true, if_false]
  · intro h; cases h
  intro _
  clear ek
  by_cases hk9 : k = 9
  · have ek : ((k : Int) == 9) = true := by rw [hk9]; rfl
    repeat apply W_assoc
    apply W_reg
    · intro callf
      simp +decide only [aOps, rinit, aWanted, ↓bite_eq, ↓reduceIte, aStep_eq, aStepOld, aOp, opBox, opBin, opUn, opCall, opIndexAddr, opFieldAddr, opLoad, opStore, opPick, opExtract, opSlice, opBuildSlice, opBuild, aRow, aev, aevs, aparts, ann, unn, aPut, if_true, if_false, rget_rput, flat, flat1, Nat.blt_eq, aBuiltin, aLen, List.getElem?_toArray, List.getElem?_cons_zero, List.getElem?_cons_succ, Nat.zero_add, Option.bind_some, beq_self_eq_true, Bool.not_true, Bool.not_false, Bool.true_beq, Bool.false_beq, eqII, ek, h25]
      rfl
    repeat apply W_assoc
    refine W_if (b := true) ?_ ?_ ?_
    · simp +decide only [aevs, aev, aResults, rget_rput, if_true, if_false]
    rotate_left
    · intro h; cases h
    intro _
    repeat apply W_assoc
    apply W_regL
    apply Ls_pre 5
    · intro callf
      simp +decide only [List.take, aOps, rinit, aWanted, ↓bite_eq, ↓reduceIte, aStep_eq, aStepOld, aOp, opBox, opBin, opUn, opCall, opIndexAddr, opFieldAddr, opLoad, opStore, opPick, opExtract, opSlice, opBuildSlice, opBuild, aRow, aev, aevs, aparts, ann, unn, aPut, if_true, if_false, rget_rput, flat, flat1, Nat.blt_eq, aBuiltin, aLen, List.getElem?_toArray, List.getElem?_cons_zero, List.getElem?_cons_succ, Nat.zero_add, Option.bind_some, beq_self_eq_true, Bool.not_true, Bool.not_false, Bool.true_beq, Bool.false_beq, h0, h1, h2, h3, subI, w1]
      rfl
    dsimp only [List.drop]
    refine Ls_fn (vs := [.pointer (some ⟨tb, 0, none⟩), .int .i64 ((d - 1 : Nat) : Int), .int .i64 1, .bool g]) (by simp +decide only [aevs, aev, aResults, rget_rput, if_true, if_false, h0, h2, h3]) (by decide) (C.mono (hI g (fun h => by omega) TP) ?_)
    rintro y1 sq ⟨⟨m1, C1, hm1⟩, TP2, E1⟩
    have EX := EX.trans E1
    have TP := TP2
    clear TP2 E1
    apply Ls_pre 5
    · intro callf
      simp +decide only [List.take, aOps, rinit, aWanted, ↓bite_eq, ↓reduceIte, aStep_eq, aStepOld, aOp, opBox, opBin, opUn, opCall, opIndexAddr, opFieldAddr, opLoad, opStore, opPick, opExtract, opSlice, opBuildSlice, opBuild, aRow, aev, aevs, aparts, ann, unn, aPut, if_true, if_false, rget_rput, flat, flat1, Nat.blt_eq, aBuiltin, aLen, List.getElem?_toArray, List.getElem?_cons_zero, List.getElem?_cons_succ, Nat.zero_add, Option.bind_some, beq_self_eq_true, Bool.not_true, Bool.not_false, Bool.true_beq, Bool.false_beq, h0, h1, h2, h3, subI, w1]
      rfl
    dsimp only [List.drop]
    refine Ls_fn (vs := [.pointer (some ⟨tb, 0, none⟩), .int .i64 ((d - 1 : Nat) : Int), .int .i64 1, .bool g]) (by simp +decide only [aevs, aev, aResults, rget_rput, if_true, if_false, h0, h2, h3]) (by decide) (C.mono (hI g (fun h => by omega) TP) ?_)
    rintro y2 sq ⟨⟨m2, C2, hm2⟩, TP2, E1⟩
    have C1 := C1.extT TP E1
    have EX := EX.trans E1
    have TP := TP2
    clear TP2 E1
    obtain ⟨p1, n1, k1, rfl⟩ := C1.sl
    obtain ⟨p2, n2, k2, rfl⟩ := C2.sl
    have E1 := Ext.new sq ⟨1, 24, 0, [.slice p1 n1 k1, .slice p2 n2 k2], []⟩
    have KV : KidsV (sq.new ⟨1, 24, 0, [.slice p1 n1 k1, .slice p2 n2 k2], []⟩) (.slice (some ⟨sq.next, 0, none⟩) 2 2) [.slice p1 n1 k1, .slice p2 n2 k2] := KidsV.block (by rw [AS.get_new, if_pos rfl]) (Nat.lt_succ_self _) rfl
    apply Ls_pre 1
    · intro callf
      simp +decide only [List.take, aOps, rinit, aWanted, ↓bite_eq, ↓reduceIte, aStep_eq, aStepOld, aOp, opBox, opBin, opUn, opCall, opIndexAddr, opFieldAddr, opLoad, opStore, opPick, opExtract, opSlice, opBuildSlice, opBuild, aRow, aev, aevs, aparts, ann, unn, aPut, if_true, if_false, rget_rput, flat, flat1, Nat.blt_eq, aBuiltin, aLen, List.getElem?_toArray, List.getElem?_cons_zero, List.getElem?_cons_succ, Nat.zero_add, Option.bind_some, beq_self_eq_true, Bool.not_true, Bool.not_false, Bool.true_beq, Bool.false_beq, sliceK2]
      rfl
    dsimp only [List.drop]
    have C1 := C1.ext E1
    have C2 := C2.ext E1
    have EX := EX.trans (ExtX.of E1)
    have TP := TP.ext E1
    clear E1
    have hk : ∀ v ∈ ([.slice p1 n1 k1, .slice p2 n2 k2] : List Value), ∃ m, CodeV (sq.new ⟨1, 24, 0, [.slice p1 n1 k1, .slice p2 n2 k2], []⟩) v m ∧ m ≤ bd (d - 1) := by
      intro v hv
      simp only [List.mem_cons, List.not_mem_nil, or_false] at hv
      rcases hv with rfl | rfl
      · exact ⟨_, C1, hm1⟩
      · exact ⟨_, C2, hm2⟩
    refine Ls_fn (vs := [.int .i64 54, .int .i64 7, .slice (some ⟨sq.next, 0, none⟩) 2 2]) (by simp +decide only [aevs, aev, aResults, rget_rput, if_true, if_false]) (by decide) (C.mono (code_c (B := bd (d - 1)) 54 7 KV hk (by simp) (Nat.le_trans hbd3 (by decide)) (by simp; omega)) ?_)
    rintro y9 s9 ⟨⟨m9, C9, hm9⟩, E1⟩
    have EX := EX.trans (ExtX.of E1)
    have TP := TP.ext E1
    have hm9 : m9 ≤ bd d := Nat.le_trans hm9 (by rw [hbdd]; simp <;> omega)
    apply Ls_all
    · intro callf
      simp +decide only [aOps, rinit, aWanted, ↓bite_eq, ↓reduceIte, aStep_eq, aStepOld, aOp, opBox, opBin, opUn, opCall, opIndexAddr, opFieldAddr, opLoad, opStore, opPick, opExtract, opSlice, opBuildSlice, opBuild, aRow, aev, aevs, aparts, ann, unn, aPut, if_true, if_false, rget_rput, flat, flat1, Nat.blt_eq, aBuiltin, aLen, List.getElem?_toArray, List.getElem?_cons_zero, List.getElem?_cons_succ, Nat.zero_add, Option.bind_some, beq_self_eq_true, Bool.not_true, Bool.not_false, Bool.true_beq, Bool.false_beq]
      rfl
    refine W_retq ⟨fun h => h.elim (fun h => (nomatch h)) (fun h => (nomatch h)), fun _ _ => ⟨Nat.le_refl _, [y9], ?_, ⟨m9, C9, hm9⟩, TP, EX⟩⟩
    simp +decide only [aevs, aev, aResults, rget_rput, if_true, if_false]
  have ek : ((k : Int) == 9) = false := by
    have : ¬ ((k : Int) = 9) := by omega
    simpa using this
  repeat apply W_assoc
  apply W_reg
  · intro callf
    simp +decide only [aOps, rinit, aWanted, ↓bite_eq, ↓reduceIte, aStep_eq, aStepOld, aOp, opBox, opBin, opUn, opCall, opIndexAddr, opFieldAddr, opLoad, opStore, opPick, opExtract, opSlice, opBuildSlice, opBuild, aRow, aev, aevs, aparts, ann, unn, aPut, if_true, if_false, rget_rput, flat, flat1, Nat.blt_eq, aBuiltin, aLen, List.getElem?_toArray, List.getElem?_cons_zero, List.getElem?_cons_succ, Nat.zero_add, Option.bind_some, beq_self_eq_true, Bool.not_true, Bool.not_false, Bool.true_beq, Bool.false_beq, eqII, ek, h25]
    rfl
  repeat apply W_assoc
  refine W_if (b := false) ?_ ?_ ?_
  · simp +decide only [aevs, aev, aResults, rget_rput, if_true, if_false]
  · intro h; cases h
  intro _
  clear ek
  by_cases hk10 : k = 10
  · have ek : ((k : Int) == 10) = true := by rw [hk10]; rfl
    repeat apply W_assoc
    apply W_reg
    · intro callf
      simp +decide only [aOps, rinit, aWanted, ↓bite_eq, ↓reduceIte, aStep_eq, aStepOld, aOp, opBox, opBin, opUn, opCall, opIndexAddr, opFieldAddr, opLoad, opStore, opPick, opExtract, opSlice, opBuildSlice, opBuild, aRow, aev, aevs, aparts, ann, unn, aPut, if_true, if_false, rget_rput, flat, flat1, Nat.blt_eq, aBuiltin, aLen, List.getElem?_toArray, List.getElem?_cons_zero, List.getElem?_cons_succ, Nat.zero_add, Option.bind_some, beq_self_eq_true, Bool.not_true, Bool.not_false, Bool.true_beq, Bool.false_beq, eqII, ek, h25]
      rfl
    repeat apply W_assoc
    refine W_if (b := true) ?_ ?_ ?_
    · simp +decide only [aevs, aev, aResults, rget_rput, if_true, if_false]
    rotate_left
    · intro h; cases h
    intro _
    repeat apply W_assoc
    apply W_regL
    apply Ls_pre 5
    · intro callf
      simp +decide only [List.take, aOps, rinit, aWanted, ↓bite_eq, ↓reduceIte, aStep_eq, aStepOld, aOp, opBox, opBin, opUn, opCall, opIndexAddr, opFieldAddr, opLoad, opStore, opPick, opExtract, opSlice, opBuildSlice, opBuild, aRow, aev, aevs, aparts, ann, unn, aPut, if_true, if_false, rget_rput, flat, flat1, Nat.blt_eq, aBuiltin, aLen, List.getElem?_toArray, List.getElem?_cons_zero, List.getElem?_cons_succ, Nat.zero_add, Option.bind_some, beq_self_eq_true, Bool.not_true, Bool.not_false, Bool.true_beq, Bool.false_beq, h0, h1, h2, h3, subI, w1]
      rfl
    dsimp only [List.drop]
    refine Ls_fn (vs := [.pointer (some ⟨tb, 0, none⟩), .int .i64 ((d - 1 : Nat) : Int), .int .i64 1, .bool g]) (by simp +decide only [aevs, aev, aResults, rget_rput, if_true, if_false, h0, h2, h3]) (by decide) (C.mono (hI g (fun h => by omega) TP) ?_)
    rintro y1 sq ⟨⟨m1, C1, hm1⟩, TP2, E1⟩
    have EX := EX.trans E1
    have TP := TP2
    clear TP2 E1
    apply Ls_pre 4
    · intro callf
      simp +decide only [List.take, aOps, rinit, aWanted, ↓bite_eq, ↓reduceIte, aStep_eq, aStepOld, aOp, opBox, opBin, opUn, opCall, opIndexAddr, opFieldAddr, opLoad, opStore, opPick, opExtract, opSlice, opBuildSlice, opBuild, aRow, aev, aevs, aparts, ann, unn, aPut, if_true, if_false, rget_rput, flat, flat1, Nat.blt_eq, aBuiltin, aLen, List.getElem?_toArray, List.getElem?_cons_zero, List.getElem?_cons_succ, Nat.zero_add, Option.bind_some, beq_self_eq_true, Bool.not_true, Bool.not_false, Bool.true_beq, Bool.false_beq, h0, h1, h2, h3, subI, w1]
      rfl
    dsimp only [List.drop]
    refine Ls_fn (vs := [.pointer (some ⟨tb, 0, none⟩), .int .i64 ((d - 1 : Nat) : Int), .int .i64 1, .bool false]) (by simp +decide only [aevs, aev, aResults, rget_rput, if_true, if_false, h0, h2, h3]) (by decide) (C.mono (hI false (fun _ => rfl) TP) ?_)
    rintro y2 sq ⟨⟨m2, C2, hm2⟩, TP2, E1⟩
    have C1 := C1.extT TP E1
    have EX := EX.trans E1
    have TP := TP2
    clear TP2 E1
    obtain ⟨p1, n1, k1, rfl⟩ := C1.sl
    obtain ⟨p2, n2, k2, rfl⟩ := C2.sl
    have E1 := Ext.new sq ⟨1, 24, 0, [.slice p1 n1 k1, .slice p2 n2 k2], []⟩
    have KV : KidsV (sq.new ⟨1, 24, 0, [.slice p1 n1 k1, .slice p2 n2 k2], []⟩) (.slice (some ⟨sq.next, 0, none⟩) 2 2) [.slice p1 n1 k1, .slice p2 n2 k2] := KidsV.block (by rw [AS.get_new, if_pos rfl]) (Nat.lt_succ_self _) rfl
    apply Ls_pre 1
    · intro callf
      simp +decide only [List.take, aOps, rinit, aWanted, ↓bite_eq, ↓reduceIte, aStep_eq, aStepOld, aOp, opBox, opBin, opUn, opCall, opIndexAddr, opFieldAddr, opLoad, opStore, opPick, opExtract, opSlice, opBuildSlice, opBuild, aRow, aev, aevs, aparts, ann, unn, aPut, if_true, if_false, rget_rput, flat, flat1, Nat.blt_eq, aBuiltin, aLen, List.getElem?_toArray, List.getElem?_cons_zero, List.getElem?_cons_succ, Nat.zero_add, Option.bind_some, beq_self_eq_true, Bool.not_true, Bool.not_false, Bool.true_beq, Bool.false_beq, sliceK2]
      rfl
    dsimp only [List.drop]
    have C1 := C1.ext E1
    have C2 := C2.ext E1
    have EX := EX.trans (ExtX.of E1)
    have TP := TP.ext E1
    clear E1
    have hk : ∀ v ∈ ([.slice p1 n1 k1, .slice p2 n2 k2] : List Value), ∃ m, CodeV (sq.new ⟨1, 24, 0, [.slice p1 n1 k1, .slice p2 n2 k2], []⟩) v m ∧ m ≤ bd (d - 1) := by
      intro v hv
      simp only [List.mem_cons, List.not_mem_nil, or_false] at hv
      rcases hv with rfl | rfl
      · exact ⟨_, C1, hm1⟩
      · exact ⟨_, C2, hm2⟩
    refine Ls_fn (vs := [.int .i64 54, .int .i64 9, .slice (some ⟨sq.next, 0, none⟩) 2 2]) (by simp +decide only [aevs, aev, aResults, rget_rput, if_true, if_false]) (by decide) (C.mono (code_c (B := bd (d - 1)) 54 9 KV hk (by simp) (Nat.le_trans hbd3 (by decide)) (by simp; omega)) ?_)
    rintro y9 s9 ⟨⟨m9, C9, hm9⟩, E1⟩
    have EX := EX.trans (ExtX.of E1)
    have TP := TP.ext E1
    have hm9 : m9 ≤ bd d := Nat.le_trans hm9 (by rw [hbdd]; simp <;> omega)
    apply Ls_all
    · intro callf
      simp +decide only [aOps, rinit, aWanted, ↓bite_eq, ↓reduceIte, aStep_eq, aStepOld, aOp, opBox, opBin, opUn, opCall, opIndexAddr, opFieldAddr, opLoad, opStore, opPick, opExtract, opSlice, opBuildSlice, opBuild, aRow, aev, aevs, aparts, ann, unn, aPut, if_true, if_false, rget_rput, flat, flat1, Nat.blt_eq, aBuiltin, aLen, List.getElem?_toArray, List.getElem?_cons_zero, List.getElem?_cons_succ, Nat.zero_add, Option.bind_some, beq_self_eq_true, Bool.not_true, Bool.not_false, Bool.true_beq, Bool.false_beq]
      rfl
    refine W_retq ⟨fun h => h.elim (fun h => (nomatch h)) (fun h => (nomatch h)), fun _ _ => ⟨Nat.le_refl _, [y9], ?_, ⟨m9, C9, hm9⟩, TP, EX⟩⟩
    simp +decide only [aevs, aev, aResults, rget_rput, if_true, if_false]
  have ek : ((k : Int) == 10) = false := by
    have : ¬ ((k : Int) = 10) := by omega
    simpa using this
  repeat apply W_assoc
  apply W_reg
  · intro callf
    simp +decide only [aOps, rinit, aWanted, ↓bite_eq, ↓reduceIte, aStep_eq, aStepOld, aOp, opBox, opBin, opUn, opCall, opIndexAddr, opFieldAddr, opLoad, opStore, opPick, opExtract, opSlice, opBuildSlice, opBuild, aRow, aev, aevs, aparts, ann, unn, aPut, if_true, if_false, rget_rput, flat, flat1, Nat.blt_eq, aBuiltin, aLen, List.getElem?_toArray, List.getElem?_cons_zero, List.getElem?_cons_succ, Nat.zero_add, Option.bind_some, beq_self_eq_true, Bool.not_true, Bool.not_false, Bool.true_beq, Bool.false_beq, eqII, ek, h25]
    rfl
  repeat apply W_assoc
  refine W_if (b := false) ?_ ?_ ?_
  · simp +decide only [aevs, aev, aResults, rget_rput, if_true, if_false]
  · intro h; cases h
  intro _
  clear ek
  by_cases hk11 : k = 11
  · have ek : ((k : Int) == 11) = true := by rw [hk11]; rfl
    repeat apply W_assoc
    apply W_reg
    · intro callf
      simp +decide only [aOps, rinit, aWanted, ↓bite_eq, ↓reduceIte, aStep_eq, aStepOld, aOp, opBox, opBin, opUn, opCall, opIndexAddr, opFieldAddr, opLoad, opStore, opPick, opExtract, opSlice, opBuildSlice, opBuild, aRow, aev, aevs, aparts, ann, unn, aPut, if_true, if_false, rget_rput, flat, flat1, Nat.blt_eq, aBuiltin, aLen, List.getElem?_toArray, List.getElem?_cons_zero, List.getElem?_cons_succ, Nat.zero_add, Option.bind_some, beq_self_eq_true, Bool.not_true, Bool.not_false, Bool.true_beq, Bool.false_beq, eqII, ek, h25]
      rfl
    repeat apply W_assoc
    refine W_if (b := true) ?_ ?_ ?_
    · simp +decide only [aevs, aev, aResults, rget_rput, if_true, if_false]
    rotate_left
    · intro h; cases h
    intro _
    repeat apply W_assoc
    apply W_regL
    apply Ls_pre 5
    · intro callf
      simp +decide only [List.take, aOps, rinit, aWanted, ↓bite_eq, ↓reduceIte, aStep_eq, aStepOld, aOp, opBox, opBin, opUn, opCall, opIndexAddr, opFieldAddr, opLoad, opStore, opPick, opExtract, opSlice, opBuildSlice, opBuild, aRow, aev, aevs, aparts, ann, unn, aPut, if_true, if_false, rget_rput, flat, flat1, Nat.blt_eq, aBuiltin, aLen, List.getElem?_toArray, List.getElem?_cons_zero, List.getElem?_cons_succ, Nat.zero_add, Option.bind_some, beq_self_eq_true, Bool.not_true, Bool.not_false, Bool.true_beq, Bool.false_beq, h0, h1, h2, h3, subI, w1]
      rfl
    dsimp only [List.drop]
    refine Ls_fn (vs := [.pointer (some ⟨tb, 0, none⟩), .int .i64 ((d - 1 : Nat) : Int), .int .i64 1, .bool g]) (by simp +decide only [aevs, aev, aResults, rget_rput, if_true, if_false, h0, h2, h3]) (by decide) (C.mono (hI g (fun h => by omega) TP) ?_)
    rintro y1 sq ⟨⟨m1, C1, hm1⟩, TP2, E1⟩
    have EX := EX.trans E1
    have TP := TP2
    clear TP2 E1
    apply Ls_pre 1
    · intro callf
      simp +decide only [List.take, aOps, rinit, aWanted, ↓bite_eq, ↓reduceIte, aStep_eq, aStepOld, aOp, opBox, opBin, opUn, opCall, opIndexAddr, opFieldAddr, opLoad, opStore, opPick, opExtract, opSlice, opBuildSlice, opBuild, aRow, aev, aevs, aparts, ann, unn, aPut, if_true, if_false, rget_rput, flat, flat1, Nat.blt_eq, aBuiltin, aLen, List.getElem?_toArray, List.getElem?_cons_zero, List.getElem?_cons_succ, Nat.zero_add, Option.bind_some, beq_self_eq_true, Bool.not_true, Bool.not_false, Bool.true_beq, Bool.false_beq, h0, h1, h2, h3, subI, w1]
      rfl
    dsimp only [List.drop]
    refine Ls_fn (vs := [.pointer (some ⟨tb, 0, none⟩)]) (by simp +decide only [aevs, aev, aResults, rget_rput, if_true, if_false, h0]) (by decide) (C.mono (gset_c TP) ?_)
    rintro y2 sq ⟨⟨m2, C2, hm2⟩, TP2, E1⟩
    have C1 := C1.extT TP E1
    have EX := EX.trans E1
    have TP := TP2
    clear TP2 E1
    have hm2 : m2 ≤ bd (d - 1) := Nat.le_trans hm2 (Nat.le_trans (by decide) (bd_ge _))
    apply Ls_pre 5
    · intro callf
      simp +decide only [List.take, aOps, rinit, aWanted, ↓bite_eq, ↓reduceIte, aStep_eq, aStepOld, aOp, opBox, opBin, opUn, opCall, opIndexAddr, opFieldAddr, opLoad, opStore, opPick, opExtract, opSlice, opBuildSlice, opBuild, aRow, aev, aevs, aparts, ann, unn, aPut, if_true, if_false, rget_rput, flat, flat1, Nat.blt_eq, aBuiltin, aLen, List.getElem?_toArray, List.getElem?_cons_zero, List.getElem?_cons_succ, Nat.zero_add, Option.bind_some, beq_self_eq_true, Bool.not_true, Bool.not_false, Bool.true_beq, Bool.false_beq, h0, h1, h2, h3, subI, w1]
      rfl
    dsimp only [List.drop]
    refine Ls_fn (vs := [.pointer (some ⟨tb, 0, none⟩), .int .i64 ((d - 1 : Nat) : Int), .int .i64 1, .bool g]) (by simp +decide only [aevs, aev, aResults, rget_rput, if_true, if_false, h0, h2, h3]) (by decide) (C.mono (hI g (fun h => by omega) TP) ?_)
    rintro y3 sq ⟨⟨m3, C3, hm3⟩, TP2, E1⟩
    have C1 := C1.extT TP E1
    have C2 := C2.extT TP E1
    have EX := EX.trans E1
    have TP := TP2
    clear TP2 E1
    obtain ⟨p1, n1, k1, rfl⟩ := C1.sl
    obtain ⟨p2, n2, k2, rfl⟩ := C2.sl
    obtain ⟨p3, n3, k3, rfl⟩ := C3.sl
    have E1 := Ext.new sq ⟨1, 24, 0, [.slice p1 n1 k1, .slice p2 n2 k2, .slice p3 n3 k3], []⟩
    have KV : KidsV (sq.new ⟨1, 24, 0, [.slice p1 n1 k1, .slice p2 n2 k2, .slice p3 n3 k3], []⟩) (.slice (some ⟨sq.next, 0, none⟩) 3 3) [.slice p1 n1 k1, .slice p2 n2 k2, .slice p3 n3 k3] := KidsV.block (by rw [AS.get_new, if_pos rfl]) (Nat.lt_succ_self _) rfl
    apply Ls_pre 1
    · intro callf
      simp +decide only [List.take, aOps, rinit, aWanted, ↓bite_eq, ↓reduceIte, aStep_eq, aStepOld, aOp, opBox, opBin, opUn, opCall, opIndexAddr, opFieldAddr, opLoad, opStore, opPick, opExtract, opSlice, opBuildSlice, opBuild, aRow, aev, aevs, aparts, ann, unn, aPut, if_true, if_false, rget_rput, flat, flat1, Nat.blt_eq, aBuiltin, aLen, List.getElem?_toArray, List.getElem?_cons_zero, List.getElem?_cons_succ, Nat.zero_add, Option.bind_some, beq_self_eq_true, Bool.not_true, Bool.not_false, Bool.true_beq, Bool.false_beq, sliceK3]
      rfl
    dsimp only [List.drop]
    have C1 := C1.ext E1
    have C2 := C2.ext E1
    have C3 := C3.ext E1
    have EX := EX.trans (ExtX.of E1)
    have TP := TP.ext E1
    clear E1
    have hk : ∀ v ∈ ([.slice p1 n1 k1, .slice p2 n2 k2, .slice p3 n3 k3] : List Value), ∃ m, CodeV (sq.new ⟨1, 24, 0, [.slice p1 n1 k1, .slice p2 n2 k2, .slice p3 n3 k3], []⟩) v m ∧ m ≤ bd (d - 1) := by
      intro v hv
      simp only [List.mem_cons, List.not_mem_nil, or_false] at hv
      rcases hv with rfl | rfl | rfl
      · exact ⟨_, C1, hm1⟩
      · exact ⟨_, C2, hm2⟩
      · exact ⟨_, C3, hm3⟩
    refine Ls_fn (vs := [.int .i64 54, .int .i64 16, .slice (some ⟨sq.next, 0, none⟩) 3 3]) (by simp +decide only [aevs, aev, aResults, rget_rput, if_true, if_false]) (by decide) (C.mono (code_c (B := bd (d - 1)) 54 16 KV hk (by simp) (Nat.le_trans hbd3 (by decide)) (by simp; omega)) ?_)
    rintro y9 s9 ⟨⟨m9, C9, hm9⟩, E1⟩
    have EX := EX.trans (ExtX.of E1)
    have TP := TP.ext E1
    have hm9 : m9 ≤ bd d := Nat.le_trans hm9 (by rw [hbdd]; simp <;> omega)
    apply Ls_all
    · intro callf
      simp +decide only [aOps, rinit, aWanted, ↓bite_eq, ↓reduceIte, aStep_eq, aStepOld, aOp, opBox, opBin, opUn, opCall, opIndexAddr, opFieldAddr, opLoad, opStore, opPick, opExtract, opSlice, opBuildSlice, opBuild, aRow, aev, aevs, aparts, ann, unn, aPut, if_true, if_false, rget_rput, flat, flat1, Nat.blt_eq, aBuiltin, aLen, List.getElem?_toArray, List.getElem?_cons_zero, List.getElem?_cons_succ, Nat.zero_add, Option.bind_some, beq_self_eq_true, Bool.not_true, Bool.not_false, Bool.true_beq, Bool.false_beq]
      rfl
    refine W_retq ⟨fun h => h.elim (fun h => (nomatch h)) (fun h => (nomatch h)), fun _ _ => ⟨Nat.le_refl _, [y9], ?_, ⟨m9, C9, hm9⟩, TP, EX⟩⟩
    simp +decide only [aevs, aev, aResults, rget_rput, if_true, if_false]
  have ek : ((k : Int) == 11) = false := by
    have : ¬ ((k : Int) = 11) := by omega
    simpa using this
  repeat apply W_assoc
  apply W_reg
  · intro callf
    simp +decide only [aOps, rinit, aWanted, ↓bite_eq, ↓reduceIte, aStep_eq, aStepOld, aOp, opBox, opBin, opUn, opCall, opIndexAddr, opFieldAddr, opLoad, opStore, opPick, opExtract, opSlice, opBuildSlice, opBuild, aRow, aev, aevs, aparts, ann, unn, aPut, if_true, if_false, rget_rput, flat, flat1, Nat.blt_eq, aBuiltin, aLen, List.getElem?_toArray, List.getElem?_cons_zero, List.getElem?_cons_succ, Nat.zero_add, Option.bind_some, beq_self_eq_true, Bool.not_true, Bool.not_false, Bool.true_beq, Bool.false_beq, eqII, ek, h25]
    rfl
  repeat apply W_assoc
  refine W_if (b := false) ?_ ?_ ?_
  · simp +decide only [aevs, aev, aResults, rget_rput, if_true, if_false]
  · intro h; cases h
  intro _
  clear ek
  by_cases hk12 : k = 12
  · have ek : ((k : Int) == 12) = true := by rw [hk12]; rfl
    repeat apply W_assoc
    apply W_reg
    · intro callf
      simp +decide only [aOps, rinit, aWanted, ↓bite_eq, ↓reduceIte, aStep_eq, aStepOld, aOp, opBox, opBin, opUn, opCall, opIndexAddr, opFieldAddr, opLoad, opStore, opPick, opExtract, opSlice, opBuildSlice, opBuild, aRow, aev, aevs, aparts, ann, unn, aPut, if_true, if_false, rget_rput, flat, flat1, Nat.blt_eq, aBuiltin, aLen, List.getElem?_toArray, List.getElem?_cons_zero, List.getElem?_cons_succ, Nat.zero_add, Option.bind_some, beq_self_eq_true, Bool.not_true, Bool.not_false, Bool.true_beq, Bool.false_beq, eqII, ek, h25]
      rfl
    repeat apply W_assoc
    refine W_if (b := true) ?_ ?_ ?_
    · simp +decide only [aevs, aev, aResults, rget_rput, if_true, if_false]
    rotate_left
    · intro h; cases h
    intro _
    repeat apply W_assoc
    apply W_regL
    apply Ls_pre 5
    · intro callf
      simp +decide only [List.take, aOps, rinit, aWanted, ↓bite_eq, ↓reduceIte, aStep_eq, aStepOld, aOp, opBox, opBin, opUn, opCall, opIndexAddr, opFieldAddr, opLoad, opStore, opPick, opExtract, opSlice, opBuildSlice, opBuild, aRow, aev, aevs, aparts, ann, unn, aPut, if_true, if_false, rget_rput, flat, flat1, Nat.blt_eq, aBuiltin, aLen, List.getElem?_toArray, List.getElem?_cons_zero, List.getElem?_cons_succ, Nat.zero_add, Option.bind_some, beq_self_eq_true, Bool.not_true, Bool.not_false, Bool.true_beq, Bool.false_beq, h0, h1, h2, h3, subI, w1]
      rfl
    dsimp only [List.drop]
    refine Ls_fn (vs := [.pointer (some ⟨tb, 0, none⟩), .int .i64 ((d - 1 : Nat) : Int), .int .i64 1, .bool g]) (by simp +decide only [aevs, aev, aResults, rget_rput, if_true, if_false, h0, h2, h3]) (by decide) (C.mono (hI g (fun h => by omega) TP) ?_)
    rintro y1 sq ⟨⟨m1, C1, hm1⟩, TP2, E1⟩
    have EX := EX.trans E1
    have TP := TP2
    clear TP2 E1
    apply Ls_pre 1
    · intro callf
      simp +decide only [List.take, aOps, rinit, aWanted, ↓bite_eq, ↓reduceIte, aStep_eq, aStepOld, aOp, opBox, opBin, opUn, opCall, opIndexAddr, opFieldAddr, opLoad, opStore, opPick, opExtract, opSlice, opBuildSlice, opBuild, aRow, aev, aevs, aparts, ann, unn, aPut, if_true, if_false, rget_rput, flat, flat1, Nat.blt_eq, aBuiltin, aLen, List.getElem?_toArray, List.getElem?_cons_zero, List.getElem?_cons_succ, Nat.zero_add, Option.bind_some, beq_self_eq_true, Bool.not_true, Bool.not_false, Bool.true_beq, Bool.false_beq, h0, h1, h2, h3, subI, w1]
      rfl
    dsimp only [List.drop]
    refine Ls_fn (vs := [.pointer (some ⟨tb, 0, none⟩)]) (by simp +decide only [aevs, aev, aResults, rget_rput, if_true, if_false, h0]) (by decide) (C.mono (gset_c TP) ?_)
    rintro y2 sq ⟨⟨m2, C2, hm2⟩, TP2, E1⟩
    have C1 := C1.extT TP E1
    have EX := EX.trans E1
    have TP := TP2
    clear TP2 E1
    have hm2 : m2 ≤ bd (d - 1) := Nat.le_trans hm2 (Nat.le_trans (by decide) (bd_ge _))
    apply Ls_pre 4
    · intro callf
      simp +decide only [List.take, aOps, rinit, aWanted, ↓bite_eq, ↓reduceIte, aStep_eq, aStepOld, aOp, opBox, opBin, opUn, opCall, opIndexAddr, opFieldAddr, opLoad, opStore, opPick, opExtract, opSlice, opBuildSlice, opBuild, aRow, aev, aevs, aparts, ann, unn, aPut, if_true, if_false, rget_rput, flat, flat1, Nat.blt_eq, aBuiltin, aLen, List.getElem?_toArray, List.getElem?_cons_zero, List.getElem?_cons_succ, Nat.zero_add, Option.bind_some, beq_self_eq_true, Bool.not_true, Bool.not_false, Bool.true_beq, Bool.false_beq, h0, h1, h2, h3, subI, w1]
      rfl
    dsimp only [List.drop]
    refine Ls_fn (vs := [.pointer (some ⟨tb, 0, none⟩), .int .i64 ((d - 1 : Nat) : Int), .int .i64 1, .bool false]) (by simp +decide only [aevs, aev, aResults, rget_rput, if_true, if_false, h0, h2, h3]) (by decide) (C.mono (hI false (fun _ => rfl) TP) ?_)
    rintro y3 sq ⟨⟨m3, C3, hm3⟩, TP2, E1⟩
    have C1 := C1.extT TP E1
    have C2 := C2.extT TP E1
    have EX := EX.trans E1
    have TP := TP2
    clear TP2 E1
    obtain ⟨p1, n1, k1, rfl⟩ := C1.sl
    obtain ⟨p2, n2, k2, rfl⟩ := C2.sl
    obtain ⟨p3, n3, k3, rfl⟩ := C3.sl
    have E1 := Ext.new sq ⟨1, 24, 0, [.slice p1 n1 k1, .slice p2 n2 k2, .slice p3 n3 k3], []⟩
    have KV : KidsV (sq.new ⟨1, 24, 0, [.slice p1 n1 k1, .slice p2 n2 k2, .slice p3 n3 k3], []⟩) (.slice (some ⟨sq.next, 0, none⟩) 3 3) [.slice p1 n1 k1, .slice p2 n2 k2, .slice p3 n3 k3] := KidsV.block (by rw [AS.get_new, if_pos rfl]) (Nat.lt_succ_self _) rfl
    apply Ls_pre 1
    · intro callf
      simp +decide only [List.take, aOps, rinit, aWanted, ↓bite_eq, ↓reduceIte, aStep_eq, aStepOld, aOp, opBox, opBin, opUn, opCall, opIndexAddr, opFieldAddr, opLoad, opStore, opPick, opExtract, opSlice, opBuildSlice, opBuild, aRow, aev, aevs, aparts, ann, unn, aPut, if_true, if_false, rget_rput, flat, flat1, Nat.blt_eq, aBuiltin, aLen, List.getElem?_toArray, List.getElem?_cons_zero, List.getElem?_cons_succ, Nat.zero_add, Option.bind_some, beq_self_eq_true, Bool.not_true, Bool.not_false, Bool.true_beq, Bool.false_beq, sliceK3]
      rfl
    dsimp only [List.drop]
    have C1 := C1.ext E1
    have C2 := C2.ext E1
    have C3 := C3.ext E1
    have EX := EX.trans (ExtX.of E1)
    have TP := TP.ext E1
    clear E1
    have hk : ∀ v ∈ ([.slice p1 n1 k1, .slice p2 n2 k2, .slice p3 n3 k3] : List Value), ∃ m, CodeV (sq.new ⟨1, 24, 0, [.slice p1 n1 k1, .slice p2 n2 k2, .slice p3 n3 k3], []⟩) v m ∧ m ≤ bd (d - 1) := by
      intro v hv
      simp only [List.mem_cons, List.not_mem_nil, or_false] at hv
      rcases hv with rfl | rfl | rfl
      · exact ⟨_, C1, hm1⟩
      · exact ⟨_, C2, hm2⟩
      · exact ⟨_, C3, hm3⟩
    refine Ls_fn (vs := [.int .i64 54, .int .i64 12, .slice (some ⟨sq.next, 0, none⟩) 3 3]) (by simp +decide only [aevs, aev, aResults, rget_rput, if_true, if_false]) (by decide) (C.mono (code_c (B := bd (d - 1)) 54 12 KV hk (by simp) (Nat.le_trans hbd3 (by decide)) (by simp; omega)) ?_)
    rintro y9 s9 ⟨⟨m9, C9, hm9⟩, E1⟩
    have EX := EX.trans (ExtX.of E1)
    have TP := TP.ext E1
    have hm9 : m9 ≤ bd d := Nat.le_trans hm9 (by rw [hbdd]; simp <;> omega)
    apply Ls_all
    · intro callf
      simp +decide only [aOps, rinit, aWanted, ↓bite_eq, ↓reduceIte, aStep_eq, aStepOld, aOp, opBox, opBin, opUn, opCall, opIndexAddr, opFieldAddr, opLoad, opStore, opPick, opExtract, opSlice, opBuildSlice, opBuild, aRow, aev, aevs, aparts, ann, unn, aPut, if_true, if_false, rget_rput, flat, flat1, Nat.blt_eq, aBuiltin, aLen, List.getElem?_toArray, List.getElem?_cons_zero, List.getElem?_cons_succ, Nat.zero_add, Option.bind_some, beq_self_eq_true, Bool.not_true, Bool.not_false, Bool.true_beq, Bool.false_beq]
      rfl
    refine W_retq ⟨fun h => h.elim (fun h => (nomatch h)) (fun h => (nomatch h)), fun _ _ => ⟨Nat.le_refl _, [y9], ?_, ⟨m9, C9, hm9⟩, TP, EX⟩⟩
    simp +decide only [aevs, aev, aResults, rget_rput, if_true, if_false]
  have ek : ((k : Int) == 12) = false := by
    have : ¬ ((k : Int) = 12) := by omega
    simpa using this
  repeat apply W_assoc
  apply W_reg
  · intro callf
    simp +decide only [aOps, rinit, aWanted, ↓bite_eq, ↓reduceIte, aStep_eq, aStepOld, aOp, opBox, opBin, opUn, opCall, opIndexAddr, opFieldAddr, opLoad, opStore, opPick, opExtract, opSlice, opBuildSlice, opBuild, aRow, aev, aevs, aparts, ann, unn, aPut, if_true, if_false, rget_rput, flat, flat1, Nat.blt_eq, aBuiltin, aLen, List.getElem?_toArray, List.getElem?_cons_zero, List.getElem?_cons_succ, Nat.zero_add, Option.bind_some, beq_self_eq_true, Bool.not_true, Bool.not_false, Bool.true_beq, Bool.false_beq, eqII, ek, h25]
    rfl
  repeat apply W_assoc
  refine W_if (b := false) ?_ ?_ ?_
  · simp +decide only [aevs, aev, aResults, rget_rput, if_true, if_false]
  · intro h; cases h
  intro _
  clear ek
  refine W_skipq ?_
  refine W_skip ⟨fun _ => ?_, fun h => absurd rfl h⟩
  repeat apply W_assoc
  apply W_regL
  apply Ls_pre 5
  · intro callf
    simp +decide only [List.take, aOps, rinit, aWanted, ↓bite_eq, ↓reduceIte, aStep_eq, aStepOld, aOp, opBox, opBin, opUn, opCall, opIndexAddr, opFieldAddr, opLoad, opStore, opPick, opExtract, opSlice, opBuildSlice, opBuild, aRow, aev, aevs, aparts, ann, unn, aPut, if_true, if_false, rget_rput, flat, flat1, Nat.blt_eq, aBuiltin, aLen, List.getElem?_toArray, List.getElem?_cons_zero, List.getElem?_cons_succ, Nat.zero_add, Option.bind_some, beq_self_eq_true, Bool.not_true, Bool.not_false, Bool.true_beq, Bool.false_beq, h0, h1, h2, h3, subI, w1]
    rfl
  dsimp only [List.drop]
  refine Ls_fn (vs := [.pointer (some ⟨tb, 0, none⟩), .int .i64 ((d - 1 : Nat) : Int), .int .i64 1, .bool g]) (by simp +decide only [aevs, aev, aResults, rget_rput, if_true, if_false, h0, h2, h3]) (by decide) (C.mono (hI g (fun h => by omega) TP) ?_)
  rintro y1 sq ⟨⟨m1, C1, hm1⟩, TP2, E1⟩
  have EX := EX.trans E1
  have TP := TP2
  clear TP2 E1
  apply Ls_pre 1
  · intro callf
    simp +decide only [List.take, aOps, rinit, aWanted, ↓bite_eq, ↓reduceIte, aStep_eq, aStepOld, aOp, opBox, opBin, opUn, opCall, opIndexAddr, opFieldAddr, opLoad, opStore, opPick, opExtract, opSlice, opBuildSlice, opBuild, aRow, aev, aevs, aparts, ann, unn, aPut, if_true, if_false, rget_rput, flat, flat1, Nat.blt_eq, aBuiltin, aLen, List.getElem?_toArray, List.getElem?_cons_zero, List.getElem?_cons_succ, Nat.zero_add, Option.bind_some, beq_self_eq_true, Bool.not_true, Bool.not_false, Bool.true_beq, Bool.false_beq, h0, h1, h2, h3, subI, w1]
    rfl
  dsimp only [List.drop]
  refine Ls_fn (vs := [.pointer (some ⟨tb, 0, none⟩)]) (by simp +decide only [aevs, aev, aResults, rget_rput, if_true, if_false, h0]) (by decide) (C.mono (gset_c TP) ?_)
  rintro y2 sq ⟨⟨m2, C2, hm2⟩, TP2, E1⟩
  have C1 := C1.extT TP E1
  have EX := EX.trans E1
  have TP := TP2
  clear TP2 E1
  have hm2 : m2 ≤ bd (d - 1) := Nat.le_trans hm2 (Nat.le_trans (by decide) (bd_ge _))
  obtain ⟨p1, n1, k1, rfl⟩ := C1.sl
  obtain ⟨p2, n2, k2, rfl⟩ := C2.sl
  have E1 := Ext.new sq ⟨1, 24, 0, [.slice p1 n1 k1, .slice p2 n2 k2], []⟩
  have KV : KidsV (sq.new ⟨1, 24, 0, [.slice p1 n1 k1, .slice p2 n2 k2], []⟩) (.slice (some ⟨sq.next, 0, none⟩) 2 2) [.slice p1 n1 k1, .slice p2 n2 k2] := KidsV.block (by rw [AS.get_new, if_pos rfl]) (Nat.lt_succ_self _) rfl
  apply Ls_pre 1
  · intro callf
    simp +decide only [List.take, aOps, rinit, aWanted, ↓bite_eq, ↓reduceIte, aStep_eq, aStepOld, aOp, opBox, opBin, opUn, opCall, opIndexAddr, opFieldAddr, opLoad, opStore, opPick, opExtract, opSlice, opBuildSlice, opBuild, aRow, aev, aevs, aparts, ann, unn, aPut, if_true, if_false, rget_rput, flat, flat1, Nat.blt_eq, aBuiltin, aLen, List.getElem?_toArray, List.getElem?_cons_zero, List.getElem?_cons_succ, Nat.zero_add, Option.bind_some, beq_self_eq_true, Bool.not_true, Bool.not_false, Bool.true_beq, Bool.false_beq, sliceK2]
    rfl
  dsimp only [List.drop]
  have C1 := C1.ext E1
  have C2 := C2.ext E1
  have EX := EX.trans (ExtX.of E1)
  have TP := TP.ext E1
  clear E1
  have hk : ∀ v ∈ ([.slice p1 n1 k1, .slice p2 n2 k2] : List Value), ∃ m, CodeV (sq.new ⟨1, 24, 0, [.slice p1 n1 k1, .slice p2 n2 k2], []⟩) v m ∧ m ≤ bd (d - 1) := by
    intro v hv
    simp only [List.mem_cons, List.not_mem_nil, or_false] at hv
    rcases hv with rfl | rfl
    · exact ⟨_, C1, hm1⟩
    · exact ⟨_, C2, hm2⟩
  refine Ls_fn (vs := [.int .i64 54, .int .i64 14, .slice (some ⟨sq.next, 0, none⟩) 2 2]) (by simp +decide only [aevs, aev, aResults, rget_rput, if_true, if_false]) (by decide) (C.mono (code_c (B := bd (d - 1)) 54 14 KV hk (by simp) (Nat.le_trans hbd3 (by decide)) (by simp; omega)) ?_)
  rintro y9 s9 ⟨⟨m9, C9, hm9⟩, E1⟩
  have EX := EX.trans (ExtX.of E1)
  have TP := TP.ext E1
  have hm9 : m9 ≤ bd d := Nat.le_trans hm9 (by rw [hbdd]; simp <;> omega)
  apply Ls_all
  · intro callf
    simp +decide only [aOps, rinit, aWanted, ↓bite_eq, ↓reduceIte, aStep_eq, aStepOld, aOp, opBox, opBin, opUn, opCall, opIndexAddr, opFieldAddr, opLoad, opStore, opPick, opExtract, opSlice, opBuildSlice, opBuild, aRow, aev, aevs, aparts, ann, unn, aPut, if_true, if_false, rget_rput, flat, flat1, Nat.blt_eq, aBuiltin, aLen, List.getElem?_toArray, List.getElem?_cons_zero, List.getElem?_cons_succ, Nat.zero_add, Option.bind_some, beq_self_eq_true, Bool.not_true, Bool.not_false, Bool.true_beq, Bool.false_beq]
    rfl
  refine W_ret ⟨Nat.le_refl _, [y9], ?_, ⟨m9, C9, hm9⟩, TP, EX⟩
  simp +decide only [aevs, aev, aResults, rget_rput, if_true, if_false]

end Go.Proofs.YtacpdefmnijhnaaGreat.U
