/- Pieces of code in a row; from the memory in which a core lies to one that is known. -/
import Derived.Test.YtacpdefmnijhnaaGreatSE
import Derived.Test.YtacpdefmnijhnaaGreatConv
set_option linter.unusedSimpArgs false
set_option linter.unusedVariables false
namespace Go.Proofs.YtacpdefmnijhnaaGreat.U
open Abs
section
variable {P : Program} {K : Tbl} {n : Nat} {r : Regs} {σ : AS} {G : Nat}
theorem W_seq_inv {c d : Code} {Q : Nat → Regs → AS → Prop} (h : W P K G n (.seq c d) r σ Q) : W P K G n c r σ fun e r' σ' => (e = 0 → W P K G n d r' σ' Q) ∧ (e ≠ 0 → Q e r' σ') := by
  obtain ⟨x, r', σ', N, h1, h2⟩ := h
  have hN : ∀ fuel, N ≤ fuel → cSeq (aCode P K G fuel) n d (aCode P K G fuel n c r σ) = some (x, r', σ') := fun fuel hf => h1 (fuel + 1) (by omega)
  have h3 := hN N (Nat.le_refl _)
  cases hc : aCode P K G N n c r σ with
  | none => rw [hc] at h3; cases h3
  | some y =>
    obtain ⟨e, r1, σ1⟩ := y
    have hup : ∀ fuel, N ≤ fuel → aCode P K G fuel n c r σ = some (e, r1, σ1) := fun fuel hf => by
      induction hf with
      | refl => exact hc
      | step _ ih => exact aCode_more _ _ _ _ _ _ ih
    refine ⟨e, r1, σ1, N, hup, fun he => ?_, fun he => ?_⟩
    · subst he
      exact ⟨x, r', σ', N, fun fuel hf => by have := hN fuel hf; rw [hup fuel hf] at this; exact this, h2⟩
    · rw [hc] at h3
      unfold cSeq at h3
      dsimp only at h3
      rw [if_neg (fun h => he (Nat.eq_of_beq_eq_true h))] at h3
      cases h3; exact h2

/-- Pieces in a row. -/
def seqs : List Code → Code → Code
  | [], d => d
  | c :: l, d => .seq c (seqs l d)

theorem M.ahead (hp : ProgOk P) (hk : KOk P K) {d : Code} {B : Regs → AS → Prop} {Q : Nat → Ren → Regs → AS → World → Prop} {ρ0 : Ren} {σ0 : AS} {w0 : World} (hM : M P n d (fun τ r s w => Sim 0 ρ0 σ0 w0 τ s w ∧ B r s) Q) :
    ∀ l, M P n (seqs l d) (fun τ r s w => Sim 0 ρ0 σ0 w0 τ s w ∧ W P K 0 n (seqs l .skip) r s fun x r' s' => x = 0 ∧ B r' s') Q
  | [] => hM.mono fun τ r s w ⟨hs, x, r', s', N, h1, h2, h3⟩ => ⟨hs, by
      have := h1 (N + 1) (Nat.le_succ _)
      have e : some (0, r, s) = some (x, r', s') := this
      cases e; exact h3⟩
  | c :: l => by
    refine M.seq (M.run hp hk fun τ r s w ⟨hs, hW⟩ => ⟨hs.rel, ?_⟩) (M.ahead hp hk hM l)
    obtain ⟨x, r', s', N, h1, h2, h3⟩ := W_seq_inv hW
    refine ⟨N, x, r', s', h1 N (Nat.le_refl _), fun τ' w' hs' => ⟨fun hx => ⟨hs.trans hs', h2 hx⟩, fun hx => ?_⟩⟩
    exact absurd (h3 hx).1 hx

/-- The end of a run that was made: it returns true in register t. -/
noncomputable def ranOk (t : Nat) (o : Option (Nat × Regs × AS)) : Bool := match o with
  | some (x, r, _) => Nat.beq x 1 && (match rget r t with | .bool b => b | _ => false)
  | none => false
theorem W_ran {t fuel : Nat} {c : Code} (h : ranOk t (aCode P K G fuel n c r σ) = true) : W P K G n c r σ fun x r' _ => x = 1 ∧ rget r' t = .bool true := by
  cases hc : aCode P K G fuel n c r σ with
  | none => rw [hc] at h; cases h
  | some y =>
    obtain ⟨x, r1, σ1⟩ := y
    rw [hc] at h
    unfold ranOk at h
    simp only [Bool.and_eq_true, Nat.beq_eq] at h
    refine ⟨x, r1, σ1, fuel, fun f hf => ?_, h.1, ?_⟩
    · induction hf with
      | refl => exact hc
      | step _ ih => exact aCode_more _ _ _ _ _ _ ih
    · have h2 := h.2
      split at h2
      · rename_i b hb; rw [hb, h2]
      · cases h2
end

/-! ### The known memory -/

def pairs (tb bk bf bn be : Nat) (pre : Pairs) : Pairs := (2, tb) :: (4, bk) :: (5, bf) :: (6, bn) :: (7, be) :: pre

theorem passoc_pairs {tb bk bf bn be i j : Nat} {pre : Pairs} (h : passoc (pairs tb bk bf bn be pre) i = some j) :
    (i = 2 ∧ j = tb) ∨ (i = 4 ∧ j = bk) ∨ (i = 5 ∧ j = bf) ∨ (i = 6 ∧ j = bn) ∨ (i = 7 ∧ j = be) ∨ passoc pre i = some j := by
  unfold pairs at h
  simp only [passoc, bite_eq, Nat.beq_eq] at h
  repeat' split at h
  all_goals first
    | (cases h; omega)
    | exact .inr (.inr (.inr (.inr (.inr h))))

structure PreOk (N : Nat) (X : List Nat) (pre : Pairs) : Prop where
  key : ∀ i j, passoc pre i = some j → ((i = 0 ∨ i = 1) ∧ j < N) ∨ (i = 3 ∧ N ≤ j)
  fresh : ∀ i j, passoc pre i = some j → j ∉ X
  inj : ∀ i k j, passoc pre i = some j → passoc pre k = some j → i = k

noncomputable def boxB (f n e : Value) : Blk := ⟨1, 34, 0, [f, n, .slice none 0 0, e], []⟩
noncomputable def sl (b k : Nat) : Value := .slice (some ⟨b, 0, none⟩) k (OPENCAP + k)
noncomputable def σc (bv : Value) : AS := ((((deadMem 4).new (boxB (sl 5 1) (sl 6 4) (sl 7 4))).new ⟨2, 47, 6, fcells bv, []⟩).new ⟨2, 80, 4, ncsOf 4, []⟩).new ⟨2, 25, 1, ecsOf 4, []⟩

theorem sc0 (bv : Value) : (σc bv).get 0 = Blk.dead := by kernel_rfl
theorem sc1 (bv : Value) : (σc bv).get 1 = Blk.dead := by kernel_rfl
theorem sc2 (bv : Value) : (σc bv).get 2 = Blk.dead := by kernel_rfl
theorem sc3 (bv : Value) : (σc bv).get 3 = Blk.dead := by kernel_rfl
theorem sc4 (bv : Value) : (σc bv).get 4 = boxB (sl 5 1) (sl 6 4) (sl 7 4) := by kernel_rfl
theorem sc5 (bv : Value) : (σc bv).get 5 = ⟨2, 47, 6, fcells bv, []⟩ := by kernel_rfl
theorem sc6 (bv : Value) : (σc bv).get 6 = ⟨2, 80, 4, ncsOf 4, []⟩ := by kernel_rfl
theorem sc7 (bv : Value) : (σc bv).get 7 = ⟨2, 25, 1, ecsOf 4, []⟩ := by kernel_rfl

/-- What is known of the memory behind the core. -/
structure Laid (σ σ2 : AS) (tb bk bf bn be : Nat) (bv : Value) : Prop where
  box : σ2.get bk = boxB (sl bf 1) (sl bn 4) (sl be 4)
  fs : σ2.get bf = ⟨2, 47, 6, fcells bv, []⟩
  ns : σ2.get bn = ⟨2, 80, 4, ncsOf 4, []⟩
  es : σ2.get be = ⟨2, 25, 1, ecsOf 4, []⟩
  low : σ.next ≤ σ2.low
  lo : σ.next ≤ tb ∧ σ.next ≤ bk ∧ σ.next ≤ bf ∧ σ.next ≤ bn ∧ σ.next ≤ be
  ne : tb ≠ bk ∧ tb ≠ bf ∧ tb ≠ bn ∧ tb ≠ be ∧ bk ≠ bf ∧ bk ≠ bn ∧ bk ≠ be ∧ bf ≠ bn ∧ bf ≠ be ∧ bn ≠ be

theorem Laid.conv {σ σ2 : AS} {tb bk bf bn be : Nat} {bv bv2 : Value} {pre : Pairs} (h : Laid σ σ2 tb bk bf bn be bv) (hp : PreOk σ.next [tb, bk, bf, bn, be] pre) (hv : vm 0 (pairs tb bk bf bn be pre) 9 bv2 bv = true) :
    Conv 2 σ σ2 (pairs tb bk bf bn be pre) (σc bv2) := by
  obtain ⟨l1, l2, l3, l4, l5⟩ := h.lo
  obtain ⟨n1, n2, n3, n4, n5, n6, n7, n8, n9, n10⟩ := h.ne
  have p5 : passoc (pairs tb bk bf bn be pre) 5 = some bf := rfl
  have p6 : passoc (pairs tb bk bf bn be pre) 6 = some bn := rfl
  have p7 : passoc (pairs tb bk bf bn be pre) 7 = some be := rfl
  have hpf : ∀ {i j : Nat}, passoc pre i = some j → j ≠ tb ∧ j ≠ bk ∧ j ≠ bf ∧ j ≠ bn ∧ j ≠ be := fun hi => by
    have := hp.fresh _ _ hi
    simp only [List.mem_cons, List.not_mem_nil, or_false, not_or] at this
    exact this
  have hnx : (σc bv2).next = 8 := rfl
  refine { low := rfl, nxt := by rw [hnx]; decide, keys := fun i j hi => ?_, old := fun i j hi hm => ?_, old0 := fun i hi => ?_, new := fun i j hi hm => ?_, inj := fun i k j hi hk => ?_, blk := fun i j hi => ?_, flat := fun i j hi hk => ?_ }
  · rw [hnx]
    rcases passoc_pairs hi with h | h | h | h | h | h
    all_goals first
      | omega
      | (rcases hp.key _ _ h with h | h <;> omega)
  · rcases passoc_pairs hi with h | h | h | h | h | h
    all_goals first
      | omega
      | (rcases hp.key _ _ h with h | h <;> omega)
  · match i, hi with
    | 0, _ => rw [sc0]; rfl
    | 1, _ => rw [sc1]; rfl
  · rcases passoc_pairs hi with h | h | h | h | h | h
    all_goals first
      | omega
      | (rcases hp.key _ _ h with h | h <;> omega)
  · rcases passoc_pairs hi with h | h | h | h | h | h <;> rcases passoc_pairs hk with g | g | g | g | g | g
    all_goals first
      | omega
      | exact hp.inj _ _ _ h g
      | (have := hpf h; omega)
      | (have := hpf g; omega)
  · have dead : (σc bv2).get i = Blk.dead → bm 0 (pairs tb bk bf bn be pre) ((σc bv2).get i) (σ2.get j) = true := fun e => by rw [e]; rfl
    rcases passoc_pairs hi with h' | h' | h' | h' | h' | h'
    · obtain ⟨rfl, rfl⟩ := h'; exact dead (sc2 _)
    · obtain ⟨rfl, rfl⟩ := h'
      rw [sc4, h.box]
      simp [bm, boxB, sl, veqL, vm, vmE, bto, bite_eq, onB, p5, p6, p7, flat1, veq, Nat.blt_eq]
      rfl
    · obtain ⟨rfl, rfl⟩ := h'
      rw [sc5, h.fs]
      simp only [bm, fcells, veqL, hv]
      rfl
    · obtain ⟨rfl, rfl⟩ := h'
      rw [sc6, h.ns]
      rfl
    · obtain ⟨rfl, rfl⟩ := h'
      rw [sc7, h.es]
      rfl
    · rcases hp.key _ _ h' with ⟨rfl | rfl, _⟩ | ⟨rfl, _⟩
      · exact dead (sc0 _)
      · exact dead (sc1 _)
      · exact dead (sc3 _)
  · exfalso
    rcases passoc_pairs hi with h' | h' | h' | h' | h' | h'
    · obtain ⟨rfl, rfl⟩ := h'; rw [sc2] at hk; exact absurd hk (by decide)
    · obtain ⟨rfl, rfl⟩ := h'; rw [sc4] at hk; exact absurd hk (by simp [boxB])
    · obtain ⟨rfl, rfl⟩ := h'; rw [sc5] at hk; exact absurd hk (by simp)
    · obtain ⟨rfl, rfl⟩ := h'; rw [sc6] at hk; exact absurd hk (by simp)
    · obtain ⟨rfl, rfl⟩ := h'; rw [sc7] at hk; exact absurd hk (by simp)
    · rcases hp.key _ _ h' with ⟨rfl | rfl, _⟩ | ⟨rfl, _⟩
      · rw [sc0] at hk; exact absurd hk (by decide)
      · rw [sc1] at hk; exact absurd hk (by decide)
      · rw [sc3] at hk; exact absurd hk (by decide)

/-- A slice that lies in an old block, or in none that is named; and any other slice. -/
theorem pre_of {N tb bk bf bn be : Nat} (l1 : N ≤ tb) (l2 : N ≤ bk) (l3 : N ≤ bf) (l4 : N ≤ bn) (l5 : N ≤ be) {lp bp : Option Addr} {ln lc bn' bc : Nat} (hl : ∀ a, lp = some a → a.spot = none → a.block < N) :
    ∃ pre v0 bv2, PreOk N [tb, bk, bf, bn, be] pre ∧ vm 0 (pairs tb bk bf bn be pre) 9 v0 (.slice lp ln lc) = true ∧ vm 0 (pairs tb bk bf bn be pre) 9 bv2 (.slice bp bn' bc) = true := by
  have flatS : ∀ (β : Pairs) (p : Option Addr) (a b : Nat), (∀ x, p = some x → x.spot ≠ none) → vm 0 β 9 (.slice p a b) (.slice p a b) = true := by
    intro β p a b h
    cases p with
    | none => simp [vm, flat1, veq]
    | some x =>
      cases hx : x.spot with
      | none => exact absurd hx (h x rfl)
      | some s => simp [vm, hx]
  have blkS : ∀ (β : Pairs) (i : Nat) (x : Addr) (a b : Nat), x.spot = none → passoc β i = some x.block → vm 0 β 9 (.slice (some ⟨i, x.off, none⟩) a b) (.slice (some x) a b) = true := by
    intro β i x a b hx hi
    simp [vm, bto, bite_eq, onB, hi, hx]
  -- the first slice
  obtain ⟨pre1, v0, hp1, hk1, hv0⟩ : ∃ pre1 : Pairs, ∃ v0, (∀ i j, passoc pre1 i = some j → i = 0 ∧ j < N) ∧ True ∧ ∀ pre2 : Pairs, vm 0 (pairs tb bk bf bn be (pre1 ++ pre2)) 9 v0 (.slice lp ln lc) = true := by
    cases lp with
    | none => exact ⟨[], _, (fun i j h => by cases h), trivial, fun _ => flatS _ none _ _ (fun x h => by cases h)⟩
    | some a =>
      cases hx : a.spot with
      | some s => exact ⟨[], _, (fun i j h => by cases h), trivial, fun _ => flatS _ (some a) _ _ (fun x h => by cases h; rw [hx]; simp)⟩
      | none =>
        refine ⟨[(0, a.block)], _, fun i j h => ?_, trivial, fun _ => blkS _ 0 a _ _ hx rfl⟩
        simp only [passoc, bite_eq, Nat.beq_eq] at h
        split at h
        · cases h; rename_i e; exact ⟨e.symm, hl a rfl hx⟩
        · cases h
  have inj1 : ∀ i k j, passoc pre1 i = some j → passoc pre1 k = some j → i = k := fun i k j h g => by rw [(hp1 i j h).1, (hp1 k j g).1]
  have base1 : PreOk N [tb, bk, bf, bn, be] pre1 := ⟨fun i j h => .inl ⟨.inl (hp1 i j h).1, (hp1 i j h).2⟩, fun i j h hm => by
    have := (hp1 i j h).2
    simp only [List.mem_cons, List.not_mem_nil, or_false] at hm
    omega, inj1⟩
  have v0' := hv0 []
  rw [List.append_nil] at v0'
  cases bp with
  | none => exact ⟨pre1, v0, _, base1, v0', flatS _ none _ _ (fun x h => by cases h)⟩
  | some a =>
    cases hx : a.spot with
    | some s => exact ⟨pre1, v0, _, base1, v0', flatS _ (some a) _ _ (fun x h => by cases h; rw [hx]; simp)⟩
    | none =>
      by_cases hex : ∃ i, passoc (pairs tb bk bf bn be pre1) i = some a.block
      · obtain ⟨i, hi⟩ := hex
        exact ⟨pre1, v0, _, base1, v0', blkS _ i a _ _ hx hi⟩
      · have hno : ∀ i, passoc (pairs tb bk bf bn be pre1) i ≠ some a.block := fun i h => hex ⟨i, h⟩
        have hf : a.block ∉ [tb, bk, bf, bn, be] := fun hm => by
          simp only [List.mem_cons, List.not_mem_nil, or_false] at hm
          rcases hm with e | e | e | e | e
          · exact hno 2 (by rw [e]; rfl)
          · exact hno 4 (by rw [e]; rfl)
          · exact hno 5 (by rw [e]; rfl)
          · exact hno 6 (by rw [e]; rfl)
          · exact hno 7 (by rw [e]; rfl)
        have h0 : passoc pre1 0 ≠ some a.block := fun h => hno 0 h
        have app : ∀ (q i : Nat), passoc (pre1 ++ [(q, a.block)]) i = (match passoc pre1 i with | some j => some j | none => if q = i then some a.block else none) := by
          intro q i
          have : ∀ l : Pairs, passoc (l ++ [(q, a.block)]) i = (match passoc l i with | some j => some j | none => if q = i then some a.block else none) := by
            intro l
            induction l with
            | nil => simp [passoc, bite_eq]
            | cons x l ih =>
              simp only [List.cons_append, passoc, bite_eq, ih]
              split <;> rfl
          exact this pre1
        have mk : ∀ q, (q = 1 ∧ a.block < N ∨ q = 3 ∧ N ≤ a.block) → ∃ pre v0 bv2, PreOk N [tb, bk, bf, bn, be] pre ∧ vm 0 (pairs tb bk bf bn be pre) 9 v0 (.slice lp ln lc) = true ∧ vm 0 (pairs tb bk bf bn be pre) 9 bv2 (.slice (some a) bn' bc) = true := by
          intro q hq
          have hq1 : passoc pre1 q = none := by
            cases h : passoc pre1 q with
            | none => rfl
            | some j => have := (hp1 q j h).1; omega
          have look : ∀ i j, passoc (pre1 ++ [(q, a.block)]) i = some j → (passoc pre1 i = some j) ∨ (i = q ∧ j = a.block) := by
            intro i j h
            rw [app] at h
            split at h
            · rename_i j' hj; rw [hj]; exact .inl h
            · split at h
              · rename_i e; cases h; exact .inr ⟨e.symm, rfl⟩
              · cases h
          refine ⟨pre1 ++ [(q, a.block)], v0, _, ⟨fun i j h => ?_, fun i j h => ?_, fun i k j h g => ?_⟩, hv0 _, blkS _ q a _ _ hx ?_⟩
          · rcases look i j h with h | ⟨rfl, rfl⟩
            · exact base1.key i j h
            · omega
          · rcases look i j h with h | ⟨rfl, rfl⟩
            · exact base1.fresh i j h
            · exact hf
          · rcases look i j h with h | ⟨e1, e2⟩ <;> rcases look k j g with g | ⟨e3, e4⟩
            · exact inj1 _ _ _ h g
            · exfalso
              have := (hp1 i j h).1
              subst this
              exact h0 (by rw [h, e4])
            · exfalso
              have := (hp1 k j g).1
              subst this
              exact h0 (by rw [g, e2])
            · rw [e1, e3]
          · have e5 : passoc (pre1 ++ [(q, a.block)]) q = some a.block := by rw [app, hq1]; simp
            rcases hq with ⟨rfl, _⟩ | ⟨rfl, _⟩ <;> exact e5
        rcases Nat.lt_or_ge a.block N with hlt | hge
        · exact mk 1 (.inl ⟨rfl, hlt⟩)
        · exact mk 3 (.inr ⟨rfl, hge⟩)

end Go.Proofs.YtacpdefmnijhnaaGreat.U
