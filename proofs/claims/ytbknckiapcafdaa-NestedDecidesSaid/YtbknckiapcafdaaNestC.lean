/- Contracts: Less, the searches in a row, follow. -/
import Derived.Test.YtbknckiapcafdaaNestB
set_option linter.unusedSimpArgs false
set_option linter.unusedVariables false
namespace Go.Proofs.Ytbknckiapcafdaa.Nest
open Abs

def lessA (a b : Arc) : Bool := decide (a.1 < b.1) || (decide (a.1 = b.1) && decide (a.2 < b.2))

set_option maxHeartbeats 1000000 in
theorem less_arcs {σ : AS} (a b : Arc) : C Try.prog Kn 0 49 [vArc a, vArc b] σ fun v σ' => v = .bool (lessA a b) ∧ Ext σ σ' := by
  refine C_of (kn (by decide)) Try.func49 rfl (Nat.le_of_ble_eq_true rfl) ?_
  show W _ _ _ 24 _ _ _ _
  unfold Try.f49
  dsimp only
  repeat apply W_assoc
  apply W_reg
  · intro callf
    simp +decide only [aOps, rinit, aWanted, ↓bite_eq, ↓reduceIte, aStep_eq, aStepOld, aOp, opBox, aRow, aev, ann, aPut, rget_rput, Nat.zero_add]
    rfl
  generalize hσ1 : (σ.new _).new _ = σ1
  have e1 : Ext σ σ1 := by rw [← hσ1]; exact (Ext.new _ _).trans (Ext.new _ _)
  have A : ArcAt σ1 σ.next a := by rw [← hσ1]; exact (ArcAt.new σ a).ext (Ext.new _ _)
  have B : ArcAt σ1 (σ.new ⟨1, 27, 0, (vArc a).cells.toList, []⟩).next b := by rw [← hσ1]; exact ArcAt.new _ b
  generalize (σ.new ⟨1, 27, 0, (vArc a).cells.toList, []⟩).next = n2 at B
  by_cases h1 : a.1 < b.1
  · have d1 : decide (a.1 < b.1) = true := decide_eq_true h1
    repeat apply W_assoc
    apply W_reg
    · intro callf
      simp +decide only [aOps, aWanted, ↓bite_eq, ↓reduceIte, aStep_eq, aStepOld, aOp, opBin, opFieldAddr, opLoad, opPick, aev, ann, aPut, rget_rput, List.getElem?_toArray, List.getElem?_cons_zero, List.getElem?_cons_succ, Option.bind_some, Bool.true_beq, fld0, A.ev, B.ev, aBin, aInts, aInt_eq, d1]
      rfl
    refine W_ret ⟨Nat.le_refl _, [.bool true], ?_, ?_, e1⟩
    · simp +decide only [aResults, rget_rput, if_true, if_false]
    · simp [aResult, lessA, h1]
  have d1 : decide (a.1 < b.1) = false := decide_eq_false h1
  by_cases h2 : a.1 = b.1
  · have d2 : (a.1 == b.1) = true := by rw [beq_iff_eq]; exact h2
    repeat apply W_assoc
    apply W_reg
    · intro callf
      simp +decide only [aOps, aWanted, ↓bite_eq, ↓reduceIte, aStep_eq, aStepOld, aOp, opBin, opFieldAddr, opLoad, opPick, aev, ann, aPut, rget_rput, List.getElem?_toArray, List.getElem?_cons_zero, List.getElem?_cons_succ, Nat.zero_add, Option.bind_some, beq_self_eq_true, fld0, fld1, A.ev, A.to, B.ev, B.to, aBin, aInts, aInt_eq, d1, d2]
      rfl
    refine W_ret ⟨Nat.le_refl _, [.bool (decide (a.2 < b.2))], ?_, ?_, e1⟩
    · simp +decide only [aResults, rget_rput, if_true, if_false]
    · simp [aResult, lessA, h2]
  · have d2 : (a.1 == b.1) = false := by rw [beq_eq_false_iff_ne]; exact h2
    repeat apply W_assoc
    apply W_reg
    · intro callf
      simp +decide only [aOps, aWanted, ↓bite_eq, ↓reduceIte, aStep_eq, aStepOld, aOp, opBin, opFieldAddr, opLoad, opPick, aev, ann, aPut, rget_rput, List.getElem?_toArray, List.getElem?_cons_zero, List.getElem?_cons_succ, Option.bind_some, beq_self_eq_true, Bool.not_true, Bool.false_beq, fld0, A.ev, B.ev, aBin, aInts, aInt_eq, d1, d2]
      rfl
    refine W_ret ⟨Nat.le_refl _, [.bool false], ?_, ?_, e1⟩
    · simp +decide only [aResults, rget_rput, if_true, if_false]
    · simp [aResult, lessA, h1, h2]

theorem notTau {σ : AS} (x : Arc) : C Try.prog Kn 0 35 [vArc x] σ fun v σ' => v = .bool (x.1 != 0) ∧ Ext σ σ' := by
  refine C_of (kn (by decide)) Try.func35 rfl (Nat.le_of_ble_eq_true rfl) ?_
  show W _ _ _ 6 _ _ _ _
  unfold Try.f35
  dsimp only
  repeat apply W_assoc
  apply W_reg
  · intro callf
    simp +decide only [aOps, rinit, aWanted, ↓bite_eq, ↓reduceIte, aStep_eq, aStepOld, aOp, opBox, aRow, aev, ann, aPut, rget_rput]
    rfl
  have A := ArcAt.new σ x
  have e1 := Ext.new σ ⟨1, 27, 0, (vArc x).cells.toList, []⟩
  generalize σ.new ⟨1, 27, 0, (vArc x).cells.toList, []⟩ = σ1 at A e1
  repeat apply W_assoc
  apply W_reg
  · intro callf
    simp +decide only [aOps, aWanted, ↓bite_eq, ↓reduceIte, aStep_eq, aStepOld, aOp, opBin, opFieldAddr, opLoad, aev, ann, aPut, rget_rput, fld0, A.ev, aBin, aInts, aInt_eq]
    rfl
  refine W_ret ⟨Nat.le_refl _, [.bool (x.1 != 0)], ?_, rfl, e1⟩
  simp +decide only [aResults, rget_rput, if_true, if_false]

/-- The first place whose event is not tau, or -1. -/
def idxT : List Arc → Int → Int
  | [], _ => -1
  | a :: l, i => if a.1 = 0 then idxT l (i + 1) else i

theorem idxT_none : ∀ {l : List Arc} {k : Int}, (∀ a ∈ l, a.1 = 0) → idxT l k = -1
  | [], _, _ => rfl
  | a :: l, k, h => by rw [idxT, if_pos (h a (by simp))]; exact idxT_none fun b hb => h b (by simp [hb])
theorem idxT_at : ∀ {l : List Arc} {i : Nat} {a : Arc} {k : Int}, (∀ b ∈ l.take i, b.1 = 0) → l[i]? = some a → a.1 ≠ 0 → idxT l k = k + i
  | [], i, a, _, _, h, _ => by simp at h
  | x :: l, 0, a, k, _, h, ha => by simp at h; subst h; rw [idxT, if_neg ha]; simp
  | x :: l, i + 1, a, k, h0, h, ha => by
    rw [idxT, if_pos (h0 x (by simp)), idxT_at (i := i) (fun b hb => h0 b (by rw [List.take_succ_cons]; exact List.mem_cons_of_mem _ hb)) (by simpa using h) ha]
    omega
theorem idxT_nonneg {l : List Arc} : decide (idxT l 0 ≥ 0) = l.any fun a => a.1 != 0 := by
  have : ∀ (l : List Arc) (k : Int), 0 ≤ k → decide (idxT l k ≥ 0) = l.any fun a => a.1 != 0 := by
    intro l
    induction l with
    | nil => intro k _; rfl
    | cons a l ih =>
      intro k hk
      rw [idxT, List.any_cons]
      by_cases h : a.1 = 0
      · rw [if_pos h, ih (k + 1) (by omega)]; simp [h]
      · rw [if_neg h]; simp [h, hk]
  exact this l 0 (by omega)

set_option maxHeartbeats 1000000 in
theorem indexFunc {σ : AS} {s : Value} {l : List Arc} (hs : RS 2 RArc σ s l) (hl : l.length ≤ 2 ^ 62) :
    C Try.prog Kn 0 52 [s, .func (.func 35) #[] #[]] σ fun v σ' => v = .int .i64 (idxT l 0) ∧ Ext σ σ' := by
  obtain ⟨base, cap, rfl, hbase⟩ := hs
  refine C_of (kn (by decide)) Try.func52 rfl (Nat.le_of_ble_eq_true rfl) ?_
  show W _ _ _ 19 _ _ _ _
  unfold Try.f52
  dsimp only
  repeat apply W_assoc
  apply W_reg
  · intro callf
    simp +decide only [aOps, rinit, aWanted, ↓bite_eq, ↓reduceIte, aStep_eq, aStepOld, aOp, aev, ann, aPut, Nat.zero_add]
    rfl
  repeat apply W_assoc
  apply W_reg
  · intro callf
    simp +decide only [aOps, aWanted, ↓bite_eq, ↓reduceIte, aStep_eq, aStepOld, aOp, opCall, aev, aevs, ann, aPut, rget_rput, aBuiltin, aLen, List.getElem?_toArray, List.getElem?_cons_zero, Try.underlying22]
    rfl
  repeat apply W_assoc
  refine W_for (fun (i : Nat) r σ' => i ≤ l.length ∧ Ext σ σ' ∧ rget r 0 = .slice base l.length cap ∧ rget r 1 = .func (.func 35) #[] #[] ∧ rget r 7 = .int .i64 (l.length : Int) ∧ rget r 8 = .int .i64 (i : Int) ∧ ∀ a ∈ l.take i, a.1 = 0)
    (fun i => l.length - i) ?_ 0 ?_
  rotate_left
  · simp +decide only [rget_rput, if_true, if_false, goInt]
    refine ⟨Nat.zero_le _, Ext.refl _, trivial, trivial, trivial, rfl, by simp⟩
  rintro i r σ2 ⟨hi, e2, h0, h1, h7, h8, hz⟩
  repeat apply W_assoc
  apply W_reg
  · intro callf
    simp +decide only [aOps, aWanted, ↓bite_eq, ↓reduceIte, aStep_eq, aStepOld, aOp, opBin, aev, ann, aPut, h7, h8, aBin, aInts, aInt_eq]
    rfl
  repeat apply W_assoc
  refine W_if (b := decide ((i : Int) < (l.length : Int))) ?_ ?_ ?_
  · simp +decide only [aev, rget_rput, if_true]
  rotate_left
  · intro hb
    have hb : i = l.length := by
      have := of_decide_eq_false hb
      omega
    refine W_exitq ⟨fun h => (nomatch h), fun _ => ?_, fun h1 h2 => absurd rfl h2⟩
    repeat apply W_assoc
    apply W_reg
    · intro callf
      simp +decide only [aOps, aWanted, ↓bite_eq, ↓reduceIte, aStep_eq, aStepOld, aOp, aev, ann, aPut]
      rfl
    refine W_ret ⟨Nat.le_refl _, [.int .i64 (-1)], ?_, ?_, e2⟩
    · simp +decide only [aResults, rget_rput, if_true, if_false]
    · subst hb
      simp only [aResult, idxT_none (l := l) (by simpa using hz)]
  intro hb
  have hb : i < l.length := by
    have := of_decide_eq_true hb
    omega
  apply W_skipq
  refine W_blk ?_
  obtain ⟨y, hy⟩ : ∃ y, l[i]? = some y := ⟨l[i], by simp [hb]⟩
  obtain ⟨b, off, rfl, hbl, hat⟩ := hbase (fun h => by rw [h] at hy; simp at hy)
  obtain ⟨cs, hc1, hc2⟩ := hat i y hy
  have L : aLoad Try.prog σ2 27 (.pointer (some ⟨b, off + i * 2, none⟩)) = some (vArc y) := loadArc (by rw [e2.cells (a := ⟨b, off + i * 2, none⟩) hbl]; exact hc1) hc2
  repeat apply W_assoc
  apply W_reg
  · intro callf
    simp +decide only [aOps, aWanted, ↓bite_eq, ↓reduceIte, aStep_eq, aStepOld, aOp, aev, ann, aPut, rget_rput, h8]
    rfl
  repeat apply W_assoc
  apply W_regL
  apply Ls_pre 5
  · intro callf
    simp +decide only [List.take, aOps, aWanted, ↓bite_eq, ↓reduceIte, aStep_eq, aStepOld, aOp, opIndexAddr, opLoad, aev, ann, aPut, rget_rput, h0, h1, idx22 hb, L]
    rfl
  dsimp only [List.drop]
  refine Ls_call (first := #[]) (captured := #[]) (vs := [vArc y]) (by simp +decide only [aev, rget_rput, if_true, if_false]) (by simp +decide only [aevs, aev, rget_rput, if_true, if_false]) (by decide) (C.mono (notTau y) ?_)
  rintro v σ3 ⟨rfl, e3⟩
  have e4 := e2.trans e3
  apply Ls_nil
  refine W_tail ?_
  repeat apply W_assoc
  refine W_if (b := (y.1 != 0)) ?_ ?_ ?_
  · simp +decide only [aev, rget_rput, if_true, if_false]
  · intro h
    have h : y.1 ≠ 0 := by simpa using h
    repeat apply W_assoc
    apply W_reg
    · intro callf
      simp +decide only [aOps, aWanted, ↓bite_eq, ↓reduceIte, aStep_eq, aStepOld, aOp, aev, ann, aPut, rget_rput]
      rfl
    refine W_retq ⟨fun h => (nomatch h), fun _ _ => ⟨fun h => (nomatch h), fun h => (nomatch h), fun _ _ => ⟨Nat.le_refl _, [.int .i64 (i : Int)], ?_, ?_, e4⟩⟩⟩
    · simp +decide only [aResults, rget_rput, if_true, if_false]
    · simp only [aResult, idxT_at (k := 0) hz hy h, Int.zero_add]
  · intro h
    have h : y.1 = 0 := by simpa using h
    refine W_skipq (W_skip ⟨fun _ => ?_, fun h => absurd rfl h⟩)
    refine W_tail ?_
    repeat apply W_assoc
    apply W_reg
    · intro callf
      simp +decide only [aOps, aWanted, ↓bite_eq, ↓reduceIte, aStep_eq, aStepOld, aOp, opBin, aev, ann, aPut, rget_rput, h8, wrap_add hb hl, aBin, aInts, aInt_eq]
      rfl
    refine W_skip ⟨fun _ => ⟨i + 1, ?_, ?_⟩, fun h => (nomatch h), fun h => absurd rfl h⟩
    · omega
    · simp +decide only [rget_rput, if_true, if_false, h0, h1, h7]
      refine ⟨by omega, e4, trivial, trivial, trivial, trivial, ?_⟩
      rw [List.take_add_one, hy]
      simp only [Option.toList_some, List.mem_append, List.mem_singleton]
      exact fun a ha => ha.elim (hz a) (fun e => by rw [e]; exact h)

set_option maxHeartbeats 1000000 in
theorem containsFunc {σ : AS} {s : Value} {l : List Arc} (hs : RS 2 RArc σ s l) (hl : l.length ≤ 2 ^ 62) :
    C Try.prog Kn 0 34 [s, .func (.func 35) #[] #[]] σ fun v σ' => v = .bool (l.any fun a => a.1 != 0) ∧ Ext σ σ' := by
  refine C_of (kn (by decide)) Try.func34 rfl (Nat.le_of_ble_eq_true rfl) ?_
  show W _ _ _ 9 _ _ _ _
  unfold Try.f34
  dsimp only
  repeat apply W_assoc
  apply W_reg
  · intro callf
    simp +decide only [aOps, rinit, aWanted, ↓bite_eq, ↓reduceIte, aStep_eq, aStepOld, aOp, aev, ann, aPut, Nat.zero_add]
    rfl
  repeat apply W_assoc
  apply W_regL
  apply Ls_pre 2
  · intro callf
    simp +decide only [List.take, aOps, aWanted, ↓bite_eq, ↓reduceIte, aStep_eq, aStepOld, aOp, aev, ann, aPut, rget_rput]
    rfl
  dsimp only [List.drop]
  refine Ls_fn (vs := [s, .func (.func 35) #[] #[]]) (by simp +decide only [aevs, aev, rget_rput, if_true, if_false]) (by decide) (C.mono (indexFunc hs hl) ?_)
  rintro v σ' ⟨rfl, e1⟩
  apply Ls_all
  · intro callf
    simp +decide only [aOps, aWanted, ↓bite_eq, ↓reduceIte, aStep_eq, aStepOld, aOp, opBin, aev, ann, aPut, rget_rput, aBin, aInts, aInt_eq]
    rfl
  refine W_ret ⟨Nat.le_refl _, [.bool (decide (idxT l 0 ≥ 0))], ?_, by rw [idxT_nonneg]; rfl, e1⟩
  simp +decide only [aResults, rget_rput, if_true, if_false]

set_option maxHeartbeats 1000000 in
theorem contains_arcs {σ : AS} {s : Value} {l : List Arc} {x : Arc} (hs : RS 2 RArc σ s l) (hl : l.length ≤ 2 ^ 62) :
    C Try.prog Kn 0 53 [s, vArc x] σ fun v σ' => v = .bool (decide (x ∈ l)) ∧ Ext σ σ' := by
  refine C_of (kn (by decide)) Try.func53 rfl (Nat.le_of_ble_eq_true rfl) ?_
  show W _ _ _ 9 _ _ _ _
  unfold Try.f53
  dsimp only
  repeat apply W_assoc
  apply W_reg
  · intro callf
    simp +decide only [aOps, rinit, aWanted, ↓bite_eq, ↓reduceIte, aStep_eq, aStepOld, aOp, opBox, aRow, aev, ann, aPut, rget_rput, Nat.zero_add]
    rfl
  have A := ArcAt.new σ x
  have e1 := Ext.new σ ⟨1, 27, 0, (vArc x).cells.toList, []⟩
  generalize σ.new ⟨1, 27, 0, (vArc x).cells.toList, []⟩ = σ1 at A e1
  repeat apply W_assoc
  apply W_regL
  apply Ls_pre 2
  · intro callf
    simp +decide only [List.take, aOps, aWanted, ↓bite_eq, ↓reduceIte, aStep_eq, aStepOld, aOp, opLoad, aev, ann, aPut, rget_rput, A.load]
    rfl
  dsimp only [List.drop]
  refine Ls_fn (vs := [s, vArc x]) (by simp +decide only [aevs, aev, rget_rput, if_true, if_false]) (by decide) (C.mono (index_arcs (fun _ => kn (by decide)) (x := x) (hs.ext RArc.keeps e1) hl) ?_)
  rintro v σ' ⟨rfl, e2⟩
  apply Ls_all
  · intro callf
    simp +decide only [aOps, aWanted, ↓bite_eq, ↓reduceIte, aStep_eq, aStepOld, aOp, opBin, aev, ann, aPut, rget_rput, aBin, aInts, aInt_eq]
    rfl
  refine W_ret ⟨Nat.le_refl _, [.bool (decide (idxI l x ≥ 0))], ?_, ?_, e1.trans e2⟩
  · simp +decide only [aResults, rget_rput, if_true, if_false]
  · unfold idxI
    by_cases h : x ∈ l
    · rw [if_pos h]; simp [aResult, h]
    · rw [if_neg h]; simp [aResult, h]

end Go.Proofs.Ytbknckiapcafdaa.Nest
