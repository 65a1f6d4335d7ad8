/- Regions whose order is open: whatever order the tape draws, the end is the text's. -/
import Derived.Test.YtacpdefmnijhnaaGreatAbsK
import Derived.LoopN
import Derived.Scope
set_option linter.unusedSimpArgs false
set_option linter.unusedVariables false
namespace Go.Proofs.YtacpdefmnijhnaaGreat.Abs

theorem countP_lt {α : Type} {p q : α → Bool} : ∀ {l : List α} {x : α}, (∀ y ∈ l, q y = true → p y = true) → x ∈ l → p x = true → q x = false → l.countP q < l.countP p
  | [], x, _, hx, _, _ => by cases hx
  | a :: l, x, h, hx, hp, hq => by
    rw [List.countP_cons, List.countP_cons]
    have mono : l.countP q ≤ l.countP p := List.countP_mono_left fun y hy => h y (by simp [hy])
    rcases List.mem_cons.1 hx with rfl | hx
    · rw [if_pos hp, if_neg (by rw [hq]; simp)]; omega
    · have ih := countP_lt (fun y hy => h y (by simp [hy])) hx hp hq
      by_cases ha : q a = true
      · rw [if_pos ha, if_pos (h a (by simp) ha)]; omega
      · rw [if_neg ha]; split <;> omega

theorem least {p : Nat → Prop} : ∀ {n : Nat}, (∃ k, k < n ∧ ¬ p k) → ∃ k, k < n ∧ ¬ p k ∧ ∀ j, j < k → p j
  | 0, ⟨k, hk, _⟩ => by omega
  | n + 1, ⟨k, hk, hp⟩ => by
    by_cases h : ∃ k, k < n ∧ ¬ p k
    · obtain ⟨x, h1, h2, h3⟩ := least h
      exact ⟨x, by omega, h2, h3⟩
    · refine ⟨k, hk, hp, fun j hj => ?_⟩
      by_cases hj' : p j
      · exact hj'
      · exact absurd ⟨j, by omega, hj'⟩ h

/-! ### Memories laid by their blocks -/

noncomputable def mkHeap (g : Nat → Blk) : Nat → HeapT
  | 0 => .e
  | n + 1 => hput (mkHeap g n) n (g n)

theorem hget_mk (g : Nat → Blk) : ∀ (n i : Nat), hget (mkHeap g n) i = if i < n then g i else Blk.dead
  | 0, i => by rw [if_neg (Nat.not_lt_zero _)]; rfl
  | n + 1, i => by
    rw [mkHeap, hget_hput, hget_mk g n]
    by_cases e : n = i
    · subst e; rw [if_pos rfl, if_pos (Nat.lt_succ_self _)]
    · rw [if_neg e]
      by_cases h : i < n
      · rw [if_pos h, if_pos (by omega)]
      · rw [if_neg h, if_neg (by omega)]

/-- The memory in which the blocks of F alone live. -/
noncomputable def AS.only (σ : AS) (F : List Nat) : AS := ⟨σ.next, σ.next, F.foldr (fun x h => hput h x (σ.get x)) .e⟩

theorem only_get (σ : AS) (F : List Nat) (x : Nat) : (x ∈ F → (σ.only F).get x = σ.get x) ∧ (x ∉ F → (σ.only F).get x = Blk.dead) := by
  show (x ∈ F → hget (F.foldr (fun x h => hput h x (σ.get x)) .e) x = σ.get x) ∧ (x ∉ F → hget (F.foldr (fun x h => hput h x (σ.get x)) .e) x = Blk.dead)
  induction F with
  | nil => exact ⟨fun h => (nomatch h), fun _ => rfl⟩
  | cons a l ih =>
    rw [List.foldr_cons, hget_hput]
    by_cases e : a = x
    · subst e; rw [if_pos rfl]; exact ⟨fun _ => rfl, fun h => absurd (List.mem_cons_self) h⟩
    · rw [if_neg e]
      exact ⟨fun h => ih.1 ((List.mem_cons.1 h).resolve_left fun h => e h.symm), fun h => ih.2 fun h' => h (List.mem_cons_of_mem _ h')⟩

theorem get_reset (σ : AS) (i : Nat) : σ.reset.get i = σ.get i := rfl
theorem get_merge (σ s1 : AS) (i : Nat) : (σ.merge s1).get i = s1.get i := rfl

theorem merge_mono {σ s1 : AS} (h : AMono σ.reset s1) : AMono σ (σ.merge s1) where
  nxt := h.nxt
  low := Nat.min_le_left _ _
  keep i hi hl := h.keep i hi (Nat.lt_of_lt_of_le hl (Nat.min_le_right _ _))
  dead i hi h0 := h.dead i hi h0
  ro n hn hl hk := by
    obtain ⟨h1, h2⟩ := h.ro n hn hn hk
    exact ⟨Nat.le_min.2 ⟨hl, h1⟩, h2⟩

theorem below_iff {π : Ren} {n i b : Nat} : (π.below n).bl i = some b ↔ i < n ∧ π.bl i = some b := by
  simp only [Ren.below]
  split
  · rename_i h; simp [h]
  · rename_i h; simp [h]

theorem le_below {τ : Ren} {n : Nat} (h : ∀ i b, τ.bl i = some b → i < n) : τ.le (τ.below n) := fun i b hi => ⟨below_iff.2 ⟨h i b hi, hi⟩, rfl⟩

theorem Sim.congr {G : Nat} {ρ τ : Ren} {σ σ1 σ2 : AS} {w w' : World} (hn : σ2.next = σ1.next) (hl : σ2.low = σ1.low) (hg : ∀ x, x < σ1.next → σ2.get x = σ1.get x) (h : Sim G ρ σ w τ σ1 w') : Sim G ρ σ w τ σ2 w' where
  base := h.base
  le := h.le
  rel := by
    refine ⟨?_, ?_, h.rel.glob, by rw [hn]; exact h.rel.globN⟩
    · intro i b hi
      obtain ⟨h1, o, ho, hb⟩ := h.rel.blk i b hi
      exact ⟨by rw [hn]; exact h1, o, ho, by rw [hg i h1]; exact hb⟩
    · intro i j b hi hj ki kj
      rw [hg i (h.rel.blk i b hi).1] at ki
      rw [hg j (h.rel.blk j b hj).1] at kj
      exact h.rel.inj i j b hi hj ki kj
  frame := h.frame
  hsz := h.hsz
  nxt := by rw [hn]; exact h.nxt
  newid := h.newid
  newblk i b h1 h2 := by
    rcases h.newblk i b h1 h2 with h3 | ⟨j, h3, h4, h5⟩
    · exact .inl h3
    · exact .inr ⟨j, h3, h4, by rw [hg j (Nat.lt_of_lt_of_le (h.base.blk j b h3).1 h.nxt)]; exact h5⟩
  low := by rw [hl]; exact h.low
  keep i hi hlo := by rw [hg i (Nat.lt_of_lt_of_le hi h.nxt)]; exact h.keep i hi (by rw [← hl]; exact hlo)
  dead i hi h0 := by rw [hg i (Nat.lt_of_lt_of_le hi h.nxt)]; exact h.dead i hi h0
  stay i b hi hk hlo := h.stay i b hi hk (by rw [← hl]; exact hlo)
  out := h.out

section draw
variable {P : Program} {G : Nat} {callf : FuncId → List Value → AS → Option (Value × AS)} {n : Nat} {ops : Array Oper} {ds : List Deferred}
variable {ρ : Ren} {w0 : World} {rS : Nat → Regs} {sS : Nat → AS} {vS : Nat → Value} {sj : List Nat} {fS : Nat → Bool} {fp : Nat → Option (List Nat)} {Q : Exit → Act → World → Prop}

/-- Operation k may change block x. -/
def Wn (sS : Nat → AS) (fS : Nat → Bool) (fp : Nat → Option (List Nat)) (k x : Nat) : Prop := fS k = true ∧ x < (sS k).next ∧ ∀ l, fp k = some l → x ∈ l.take 1
/-- Operation k changes block x. -/
def Wr (sS : Nat → AS) (fS : Nat → Bool) (fp : Nat → Option (List Nat)) (k x : Nat) : Prop := fS k = true ∧ x < (sS k).next ∧ (∀ l, fp k = some l → x ∈ l.take 1) ∧ (sS (k + 1)).get x ≠ (sS k).get x
/-- Operation k may read block x. -/
def Rd (fp : Nat → Option (List Nat)) (k x : Nat) : Prop := ∀ l, fp k = some l → x ∈ l

theorem Wr.rd {k x : Nat} (h : Wr sS fS fp k x) : Rd fp k x := fun l hl => List.mem_of_mem_take (h.2.2.1 l hl)
theorem Wr.wn {k x : Nat} (h : Wr sS fS fp k x) : Wn sS fS fp k x := ⟨h.1, h.2.1, h.2.2.1⟩
theorem Wn.rd {k x : Nat} (h : Wn sS fS fp k x) : Rd fp k x := fun l hl => List.mem_of_mem_take (h.2.2 l hl)

theorem op_at {k : Nat} (hk : k < ops.size) : ∃ o, ops.toList[k]? = some o := ⟨ops[k], by simp [hk]⟩

/-- The facts of the text's run. -/
structure Run (P : Program) (G : Nat) (callf : FuncId → List Value → AS → Option (Value × AS)) (n : Nat) (ops : Array Oper) (sj : List Nat) (rS : Nat → Regs) (sS : Nat → AS) (vS : Nat → Value) (fS : Nat → Bool) (fp : Nat → Option (List Nat)) : Prop where
  st : Static ops
  at_ : ∀ k o, ops.toList[k]? = some o → At P G callf n ops rS sS vS fS k o
  mono : ∀ k, k < ops.size → AMono (sS k) (sS (k + 1))
  fpk : ∀ k o, ops.toList[k]? = some o → fp k = bite (stillAt P ops sj k || !aWanted ops (rS k) o) (some []) (fpOf P G (rS k) o.op)
  still : ∀ k o, ops.toList[k]? = some o → (stillAt P ops sj k = true ∨ aWanted ops (rS k) o = false) → fS k = false ∧ (sS (k + 1)).next = (sS k).next
  unch : ∀ k x, k < ops.size → x < (sS k).next → ¬ Wr sS fS fp k x → (sS (k + 1)).get x = (sS k).get x
  conf : ∀ k j, k < ops.size → j < ops.size → j ≠ k → isPred (preds ops) k j = true ∨ isPred (preds ops) j k = true ∨ ∀ x, Wn sS fS fp k x → ¬ Rd fp j x ∧ ((sS (k + 1)).get x ≠ (sS k).get x → ¬ ((sS j).next ≤ x ∧ x < (sS (j + 1)).next))
  steady : ∀ k o, ops.toList[k]? = some o → memb sj k = true → opStill o.op = true ∧ (aWanted ops (rS k) o = true → vsc (sS k).next 9 (vS k) = true ∧
    ∃ F, fpOf P G (rS k) o.op = some F ∧ (F = [] ∨ ∃ x, F = [x] ∧ ∀ m, m ≤ ops.size → x < (sS m).next → (∀ q, q < ops.size → isPred (preds ops) k q = true → Wn sS fS fp q x → q < m) →
      (∀ q, q < m → isPred (preds ops) q k = true → ¬ Wn sS fS fp q x) → ∃ s1, aStep P G callf (rS k) (sS m).reset o.op = some (vS k, s1)))

theorem still_agree {r : Regs} {σ s1 S : AS} {op : Op} {v : Value} {F : List Nat} (hb : opStill op = true) (h : aStep P G callf r σ op = some (v, s1)) (hf : fpOf P G r op = some F) (hg : ∀ x ∈ F, S.get x = σ.get x) :
    aStep P G callf r S op = some (v, S) := by
  have hA : Agree F σ ⟨σ.next, σ.low, S.heap⟩ := ⟨rfl, rfl, hg⟩
  cases op <;> (try (simp [opStill] at hb; done)) <;> simp only [fpOf] at hf <;> simp only [aStep_eq, aStepOld, aOp, opLoad, opLookup] at h ⊢
  case load t x =>
    split at h
    · rename_i u hu
      obtain rfl := fpO_some hu hf
      obtain ⟨h1, _⟩ := ann_some h
      have e : aLoad P S t u = aLoad P σ t u := aLoad_agree (S := ⟨σ.next, σ.low, S.heap⟩) hA fun x hx => hx
      rw [e, h1]; rfl
    · cases h
  case lookup t x ix ok =>
    split at h
    · rename_i u1 u2 h1 h2
      obtain rfl := fpO_some h1 hf
      obtain ⟨h3, _⟩ := ann_some h
      have e : aLookup P S t u1 u2 ok = aLookup P σ t u1 u2 ok := aLookup_agree (S := ⟨σ.next, σ.low, S.heap⟩) hA fun x hx => hx
      rw [e, h3]; rfl
    · cases h

theorem memb_iff {l : List Nat} {x : Nat} : memb l x = true ↔ x ∈ l := by
  refine ⟨memb_mem, fun h => ?_⟩
  unfold memb
  rw [List.any_eq_true]
  exact ⟨x, h, Nat.beq_refl x⟩

theorem Run.of (hcm : CallMono callf) {sj : List Nat} {fS : Nat → Bool} (st : Static ops) (at_ : ∀ k o, ops.toList[k]? = some o → At P G callf n ops rS sS vS fS k o)
    (hok : drawOk P G callf ops (preds ops) ops.size sj ((List.range ops.size).map fun i => ⟨sS i, rS i, vS i, fS i⟩) (sS ops.size) = true) :
    ∃ fp, Run P G callf n ops sj rS sS vS fS fp := by
  generalize hL : ((List.range ops.size).map fun i => (⟨sS i, rS i, vS i, fS i⟩ : Ent)) = L at hok
  have hLk : ∀ m, m < ops.size → L[m]? = some ⟨sS m, rS m, vS m, fS m⟩ := fun m hm => by
    rw [← hL, List.getElem?_map, List.getElem?_range hm]; rfl
  have hN : ∀ m, m ≤ ops.size → stateAt L (sS ops.size) m = sS m := fun m hm => by
    unfold stateAt
    rcases Nat.lt_or_ge m ops.size with h | h
    · rw [hLk m h]
    · obtain rfl : m = ops.size := by omega
      rw [List.getElem?_eq_none (by rw [← hL]; simp)]
  have hlt : ∀ {k : Nat} {o : Oper}, ops.toList[k]? = some o → k < ops.size := fun ho => by have := (List.getElem?_eq_some_iff.1 ho).1; simpa using this
  let fp : Nat → Option (List Nat) := fun k => footAt P G ops sj L k
  have fpk : ∀ k o, ops.toList[k]? = some o → fp k = bite (stillAt P ops sj k || !aWanted ops (rS k) o) (some []) (fpOf P G (rS k) o.op) := fun k o ho => by
    have ho' : ops[k]? = some o := by simpa using ho
    show footAt P G ops sj L k = _
    unfold footAt
    rw [ho', hLk k (hlt ho)]
  unfold drawOk at hok
  rw [Bool.and_eq_true, bite_eq] at hok
  have hwr : ∀ k, k < ops.size → writes L k = fS k := fun k hk => by unfold writes; rw [hLk k hk]
  have hmono : ∀ k, k < ops.size → AMono (sS k) (sS (k + 1)) := fun k hk => by
    obtain ⟨o, ho⟩ := op_at hk
    have A := at_ k o ho
    cases hw : aWanted ops (rS k) o with
    | true => obtain ⟨s1, h1, h0, h3⟩ := A.yes hw; rw [h3]; exact merge_mono (aStep_mono hcm h1)
    | false => rw [(A.no hw).2.1]; exact AMono.refl _
  have hq : ∀ k j, k < ops.size → j < ops.size → fS k = true → j ≠ k → isPred (preds ops) k j = true ∨ isPred (preds ops) j k = true ∨ clashFree P G ops sj L (sS ops.size) k j = true := fun k j hk hj hf hne => by
    have hany : L.any (·.f) = true := by
      rw [List.any_eq_true]
      exact ⟨_, List.mem_of_getElem? (hLk k hk), hf⟩
    have h1 := hok.1
    rw [if_pos hany] at h1
    unfold quietOk at h1
    have h2 := List.all_eq_true.1 h1 k (List.mem_range.2 hk)
    rw [hwr k hk, hf] at h2
    simp only [Bool.not_true, Bool.false_or] at h2
    have h3 := List.all_eq_true.1 h2 j (List.mem_range.2 hj)
    simp only [Bool.or_eq_true] at h3
    rcases h3 with ((h3 | h3) | h3) | h3
    · exact absurd (Nat.eq_of_beq_eq_true h3) hne
    · exact .inl h3
    · exact .inr (.inl h3)
    · exact .inr (.inr h3)
  have hstd : ∀ k o, ops.toList[k]? = some o → memb sj k = true → steadyOne P G callf ops (preds ops) ops.size sj L (sS ops.size) k = true := fun k o ho hm => List.all_eq_true.1 hok.2 k (memb_mem hm)
  have hsto : ∀ k o, ops.toList[k]? = some o → memb sj k = true → opStill o.op = true := fun k o ho hm => by
    have h1 := hstd k o ho hm
    have ho' : ops[k]? = some o := by simpa using ho
    unfold steadyOne at h1
    rw [hLk k (hlt ho), ho'] at h1
    simp only [Bool.and_eq_true] at h1
    exact h1.1
  have hstill : ∀ k o, ops.toList[k]? = some o → (stillAt P ops sj k = true ∨ aWanted ops (rS k) o = false) → fS k = false ∧ sS (k + 1) = (sS k).merge (sS k).reset ∨ fS k = false ∧ sS (k + 1) = sS k := fun k o ho h => by
    have A := at_ k o ho
    cases hw : aWanted ops (rS k) o with
    | true =>
      obtain ⟨s1, h1, h0, h3⟩ := A.yes hw
      have h := h.resolve_right (by rw [hw]; simp)
      have e : s1 = (sS k).reset := by
        unfold stillAt at h
        rw [Bool.or_eq_true] at h
        rcases h with h | h
        · have hbo : opBlind P o.op = true := by
            unfold blindAt at h
            have ho' : ops[k]? = some o := by simpa using ho
            rw [ho'] at h; exact h
          exact blind_same hbo h1
        · exact still_same (hsto k o ho h) h1
      refine .inl ⟨?_, by rw [h3, e]⟩
      rw [h0, e]; simp [AS.reset]
    | false => exact .inr ⟨(A.no hw).2.2, (A.no hw).2.1⟩
  refine ⟨fp, st, at_, hmono, fpk, ?_, ?_, ?_, ?_⟩
  · intro k o ho h
    rcases hstill k o ho h with ⟨h1, h2⟩ | ⟨h1, h2⟩
    · exact ⟨h1, by rw [h2]; rfl⟩
    · exact ⟨h1, by rw [h2]⟩
  · intro k x hk hx hnw
    refine Classical.byContradiction fun hch => hch ?_
    replace hnw : ¬ Wn sS fS fp k x := fun h => hnw ⟨h.1, h.2.1, h.2.2, hch⟩
    obtain ⟨o, ho⟩ := op_at hk
    have A := at_ k o ho
    by_cases hst : stillAt P ops sj k = true ∨ aWanted ops (rS k) o = false
    · rcases hstill k o ho hst with ⟨_, h2⟩ | ⟨_, h2⟩ <;> rw [h2] <;> rfl
    · have h1 : stillAt P ops sj k = false := by
        cases h : stillAt P ops sj k with
        | true => exact absurd (.inl h) hst
        | false => rfl
      have h2 : aWanted ops (rS k) o = true := by
        cases h : aWanted ops (rS k) o with
        | true => rfl
        | false => exact absurd (.inr h) hst
      obtain ⟨s1, hs1, h0, h3⟩ := A.yes h2
      rw [h3, get_merge]
      cases hf : fS k with
      | false =>
        have hb : Nat.ble (sS k).next s1.low = true := by
          rw [h0] at hf; simpa using hf
        exact (aStep_mono hcm hs1).keep x hx (Nat.lt_of_lt_of_le hx (Nat.le_of_ble_eq_true hb))
      | true =>
        have hfk := fpk k o ho
        rw [h1, h2] at hfk
        have hfk : fp k = fpOf P G (rS k) o.op := hfk
        cases hF : fp k with
        | none => exact absurd ⟨hf, hx, fun l hl => by rw [hF] at hl; cases hl⟩ hnw
        | some F =>
          rw [hF] at hfk
          obtain ⟨S1, _, M⟩ := foot_agree hfk.symm hs1 (S := (sS k).reset) ⟨rfl, rfl, fun _ _ => rfl⟩
          refine (M.rest x (fun hm => hnw ⟨hf, hx, fun l hl => ?_⟩) hx).1
          rw [hF] at hl; cases hl; exact hm
  · intro k j hk hj hne
    cases hf : fS k with
    | false => exact .inr (.inr fun x hx => by have := hx.1; rw [hf] at this; cases this)
    | true =>
      rcases hq k j hk hj hf hne with h | h | h
      · exact .inl h
      · exact .inr (.inl h)
      · refine .inr (.inr fun x hx => ?_)
        unfold clashFree at h
        split at h
        · rename_i hF
          have := hx.2.2 _ hF
          simp at this
        · rename_i y t F hF hF2
          have hxy : x = y := by have := hx.2.2 _ hF; simpa using this
          subst hxy
          simp only [Bool.and_eq_true, Bool.not_eq_true', Bool.and_eq_false_iff] at h
          refine ⟨fun hr => ?_, fun _ ⟨h1, h2⟩ => ?_⟩
          · have := memb_iff.2 (hr F hF2)
            rw [h.1] at this; cases this
          · rw [hN j (by omega), hN (j + 1) (by omega)] at h
            rcases h.2 with h3 | h3
            · rw [Nat.ble_eq_true_of_le h1] at h3; cases h3
            · rw [show Nat.blt x (sS (j + 1)).next = true from by rw [Nat.blt_eq]; exact h2] at h3; cases h3
        · rename_i hF hF2
          refine ⟨fun hr => (nomatch hr _ hF2), fun hch ⟨h1, h2⟩ => ?_⟩
          simp only [Bool.or_eq_true, Nat.blt_eq, Nat.beq_eq] at h
          rcases h with h | h | h
          · have hkj : (sS k).next ≤ (sS j).next := by
              have : ∀ i, k ≤ i → i ≤ ops.size → (sS k).next ≤ (sS i).next := fun i hki => by
                induction hki with
                | refl => intro _; exact Nat.le_refl _
                | step _ ih => intro hi; exact Nat.le_trans (ih (by omega)) (hmono _ (by omega)).nxt
              exact this j (by omega) (by omega)
            have := hx.2.1
            omega
          · rw [hN j (by omega), hN (j + 1) (by omega)] at h
            omega
          · simp only [stays, decide_eq_true_eq] at h
            rw [hN j (by omega), hN (j + 1) (by omega), hN k (by omega), hN (k + 1) (by omega)] at h
            exact hch (h x h1 h2)
        · cases h
        · cases h
  · intro k o ho hmem
    have hk := hlt ho
    have ho' : ops[k]? = some o := by simpa using ho
    have h1 := hstd k o ho hmem
    unfold steadyOne at h1
    rw [hLk k hk, ho'] at h1
    simp only [Bool.and_eq_true, Bool.or_eq_true, Bool.not_eq_true'] at h1
    refine ⟨h1.1, fun hw => ?_⟩
    have h2 := h1.2.resolve_left (by rw [hw]; simp)
    refine ⟨h2.1, ?_⟩
    have h3 := h2.2
    split at h3
    · rename_i hF; exact ⟨_, hF, .inl rfl⟩
    · rename_i x hF
      refine ⟨_, hF, .inr ⟨x, rfl, fun m hm hxm hq1 hq2 => ?_⟩⟩
      have h4 := List.all_eq_true.1 h3 m (List.mem_range.2 (by omega))
      rw [Bool.or_eq_true] at h4
      have hwrAt : ∀ q, q < ops.size → wrAt P G ops sj L (sS ops.size) q x = true → Wn sS fS fp q x := fun q hq h => by
        unfold wrAt at h
        simp only [Bool.and_eq_true, Nat.blt_eq] at h
        rw [hwr q hq, hN q (by omega)] at h
        refine ⟨h.1.1, h.1.2, fun l hl => ?_⟩
        have h5 := h.2
        have hl : footAt P G ops sj L q = some l := hl
        rw [hl] at h5
        unfold inTake at h5
        cases l with
        | nil => cases h5
        | cons y t => simp only [Nat.beq_eq] at h5; simp [h5]
      have hnp : passes P G ops (preds ops) ops.size sj L (sS ops.size) k m x = false := by
        unfold passes
        rw [Bool.or_eq_false_iff, Bool.or_eq_false_iff]
        refine ⟨⟨?_, ?_⟩, ?_⟩
        · rw [hN m hm]
          cases h5 : Nat.ble (sS m).next x with
          | false => rfl
          | true => have := Nat.le_of_ble_eq_true h5; omega
        · rw [List.any_eq_false]
          intro q hqr
          rw [List.mem_range] at hqr
          simp only [Bool.and_eq_true, Nat.ble_eq, not_and, Bool.not_eq_true]
          intro h5
          cases h6 : wrAt P G ops sj L (sS ops.size) q x with
          | false => rfl
          | true => have := hq1 q hqr h5.1 (hwrAt q hqr h6); omega
        · rw [List.any_eq_false]
          intro q hqr
          rw [List.mem_range] at hqr
          simp only [Bool.and_eq_true, not_and, Bool.not_eq_true]
          intro h5
          cases h6 : wrAt P G ops sj L (sS ops.size) q x with
          | false => rfl
          | true => exact absurd (hwrAt q (by omega) h6) (hq2 q hqr h5)
      rw [hnp] at h4
      have h6 := h4.resolve_left (by simp)
      rw [hN m hm] at h6
      unfold sameVal at h6
      split at h6
      · rename_i u s1 hu
        exact ⟨s1, by rw [hu, veq_eq _ _ _ h6]⟩
      · cases h6
    · cases h3

section run
variable (T : Run P G callf n ops sj rS sS vS fS fp)
include T

theorem Run.next_le {i j : Nat} (hij : i ≤ j) (hj : j ≤ ops.size) : (sS i).next ≤ (sS j).next := by
  induction hij with
  | refl => exact Nat.le_refl _
  | step _ ih => exact Nat.le_trans (ih (by omega)) (T.mono _ (by omega)).nxt

theorem Run.monos {i j : Nat} (hij : i ≤ j) (hj : j ≤ ops.size) : AMono (sS i) (sS j) := by
  induction hij with
  | refl => exact AMono.refl _
  | step _ ih => exact (ih (by omega)).trans (T.mono _ (by omega))

theorem Run.keeps {i m x : Nat} (him : i ≤ m) (hm : m ≤ ops.size) (hx : x < (sS i).next) (hb : ∀ j, i ≤ j → j < m → ¬ Wr sS fS fp j x) : (sS m).get x = (sS i).get x := by
  induction him with
  | refl => rfl
  | step h ih =>
    rw [T.unch _ x (by omega) (Nat.lt_of_lt_of_le hx (T.next_le h (by omega))) (hb _ h (Nat.lt_succ_self _)), ih (by omega) (fun j h1 h2 => hb j h1 (by omega))]

/-- A register at operation k: what its one writer has put there, or what it held. -/
theorem Run.reg_writer {j k : Nat} {o : Oper} {t : Tmp} (ho : ops.toList[j]? = some o) (hd : o.dst = some t) (hjk : j < k) (hk : k ≤ ops.size) : rget (rS k) t = vS j := by
  induction k with
  | zero => omega
  | succ k ih =>
    obtain ⟨ok, hok⟩ := op_at (ops := ops) (k := k) (by omega)
    have hp := (T.at_ k ok hok).put
    by_cases e : k = j
    · subst e
      obtain rfl : o = ok := by rw [ho] at hok; exact Option.some.inj hok
      rw [hd] at hp
      simp only [aPut, bite_eq] at hp
      split at hp
      · rw [← Option.some.inj hp, rget_rput, if_pos rfl]
      · cases hp
    · have hne : ok.dst ≠ some t := fun h => e (T.st.uniq j o k ok t ho hok hd h)
      rw [← ih (by omega) (by omega)]
      cases hdk : ok.dst with
      | none => rw [hdk] at hp; rw [← Option.some.inj hp]
      | some d =>
        rw [hdk] at hp
        simp only [aPut, bite_eq] at hp
        split at hp
        · rw [← Option.some.inj hp, rget_rput, if_neg (fun h => hne (by rw [hdk, h]))]
        · cases hp

theorem Run.reg_rest {k : Nat} {t : Tmp} (h : ∀ (j : Nat) (o : Oper), j < k → ops.toList[j]? = some o → o.dst ≠ some t) (hk : k ≤ ops.size) : rget (rS k) t = rget (rS 0) t := by
  induction k with
  | zero => rfl
  | succ k ih =>
    obtain ⟨ok, hok⟩ := op_at (ops := ops) (k := k) (by omega)
    have hp := (T.at_ k ok hok).put
    rw [← ih (fun j o hj => h j o (by omega)) (by omega)]
    cases hdk : ok.dst with
    | none => rw [hdk] at hp; rw [← Option.some.inj hp]
    | some d =>
      rw [hdk] at hp
      simp only [aPut, bite_eq] at hp
      split at hp
      · rw [← Option.some.inj hp, rget_rput, if_neg (fun e => h k ok (Nat.lt_succ_self _) hok (by rw [hdk, e]))]
      · cases hp

end run

theorem pred_lt (st : Static ops) {k j : Nat} {o : Oper} (ho : ops.toList[k]? = some o) (hj : isPred (preds ops) k j = true) : j < k :=
  isPred_spec (D := fun x => x < k) (fun x ox hx hlt e he => Nat.lt_trans (st.back x ox hx e he) hlt) ho (fun e he => st.back k o ho e he) hj

/-! ### The memory in which the operations D are done -/

def Cur (N : Nat) (sS : Nat → AS) (fS : Nat → Bool) (fp : Nat → Option (List Nat)) (D : Nat → Prop) (x k : Nat) : Prop :=
  k ≤ N ∧ x < (sS k).next ∧ (∀ j, j < k → Wr sS fS fp j x → D j) ∧ (∀ j, k ≤ j → j < N → Wr sS fS fp j x → ¬ D j)

/-- The same, with what each operation may change. -/
def CurN (N : Nat) (sS : Nat → AS) (fS : Nat → Bool) (fp : Nat → Option (List Nat)) (D : Nat → Prop) (x k : Nat) : Prop :=
  k ≤ N ∧ x < (sS k).next ∧ (∀ j, j < k → Wn sS fS fp j x → D j) ∧ (∀ j, k ≤ j → j < N → Wn sS fS fp j x → ¬ D j)

theorem CurN.cur {N : Nat} {D : Nat → Prop} {x k : Nat} (h : CurN N sS fS fp D x k) : Cur N sS fS fp D x k :=
  ⟨h.1, h.2.1, fun j hj hw => h.2.2.1 j hj hw.wn, fun j h1 h2 hw => h.2.2.2 j h1 h2 hw.wn⟩

open Classical in
noncomputable def curOf (N : Nat) (sS : Nat → AS) (fS : Nat → Bool) (fp : Nat → Option (List Nat)) (D : Nat → Prop) (x : Nat) : Nat := if h : ∃ k, Cur N sS fS fp D x k then Classical.choose h else 0

noncomputable def mix (N : Nat) (sS : Nat → AS) (fS : Nat → Bool) (fp : Nat → Option (List Nat)) (D : Nat → Prop) : AS :=
  ⟨(sS N).next, (sS N).low, mkHeap (fun x => (sS (curOf N sS fS fp D x)).get x) (sS N).next⟩

def Closed (ops : Array Oper) (D : Nat → Prop) : Prop := ∀ k o, ops.toList[k]? = some o → D k → ∀ e ∈ bindsOn o, D e

theorem Closed.pred {D : Nat → Prop} (h : Closed ops D) {k j : Nat} (hk : k < ops.size) (hd : D k) (hj : isPred (preds ops) k j = true) : D j := by
  obtain ⟨o, ho⟩ := op_at hk
  exact isPred_spec h ho (h k o ho hd) hj

section mixes
variable (T : Run P G callf n ops sj rS sS vS fS fp) {D : Nat → Prop}
include T

theorem Run.cur_le {x k k' : Nat} (h : Cur ops.size sS fS fp D x k) (h' : Cur ops.size sS fS fp D x k') (hkk : k ≤ k') : (sS k').get x = (sS k).get x :=
  T.keeps hkk h'.1 h.2.1 fun j h1 h2 hw => h.2.2.2 j h1 (Nat.lt_of_lt_of_le h2 h'.1) hw (h'.2.2.1 j h2 hw)

theorem Run.mix_get {x k : Nat} (h : Cur ops.size sS fS fp D x k) : (mix ops.size sS fS fp D).get x = (sS k).get x := by
  have hex : ∃ k, Cur ops.size sS fS fp D x k := ⟨k, h⟩
  have hlt : x < (sS ops.size).next := Nat.lt_of_lt_of_le h.2.1 (T.next_le h.1 (Nat.le_refl _))
  show hget (mkHeap _ _) x = _
  rw [hget_mk, if_pos hlt]
  have hc : Cur ops.size sS fS fp D x (curOf ops.size sS fS fp D x) := by
    unfold curOf; rw [dif_pos hex]; exact Classical.choose_spec hex
  rcases Nat.le_total (curOf ops.size sS fS fp D x) k with h1 | h1
  · exact (T.cur_le hc h h1).symm
  · exact T.cur_le h hc h1

theorem Run.curN_exists (hcl : Closed ops D) {x : Nat} (hx : x < (sS ops.size).next) : ∃ k, CurN ops.size sS fS fp D x k := by
  by_cases h : ∃ k, k < ops.size ∧ ¬ ¬ (¬ D k ∧ Wn sS fS fp k x)
  · obtain ⟨k, h1, h2, h3⟩ := least (p := fun k => ¬ (¬ D k ∧ Wn sS fS fp k x)) h
    have h2 : ¬ D k ∧ Wn sS fS fp k x := Classical.not_not.1 h2
    refine ⟨k, Nat.le_of_lt h1, h2.2.2.1, fun j hj hw => ?_, fun j hj hjN hw hD => ?_⟩
    · exact Classical.byContradiction fun hd => h3 j hj ⟨hd, hw⟩
    · have hne : j ≠ k := fun e => h2.1 (e ▸ hD)
      rcases T.conf k j h1 hjN hne with hp | hp | hp
      · obtain ⟨ok, hok⟩ := op_at h1
        have := pred_lt T.st hok hp
        omega
      · exact h2.1 (hcl.pred hjN hD hp)
      · exact (hp x h2.2).1 hw.rd
  · refine ⟨ops.size, Nat.le_refl _, hx, fun j hj hw => ?_, fun j hj hjN => by omega⟩
    exact Classical.byContradiction fun hd => h ⟨j, hj, fun hn => hn ⟨hd, hw⟩⟩

theorem Run.cur_exists (hcl : Closed ops D) {x : Nat} (hx : x < (sS ops.size).next) : ∃ k, Cur ops.size sS fS fp D x k :=
  let ⟨k, h⟩ := T.curN_exists hcl hx
  ⟨k, h.cur⟩

/-- An operation that is ready finds what it reads as the text's run has it. -/
theorem Run.cur_ready (hcl : Closed ops D) {k : Nat} {o : Oper} (ho : ops.toList[k]? = some o) (hnd : ¬ D k) (hready : ∀ e ∈ bindsOn o, D e) {x : Nat} (hx : x < (sS k).next) (hr : Rd fp k x) : Cur ops.size sS fS fp D x k := by
  have hk : k < ops.size := by have := (List.getElem?_eq_some_iff.1 ho).1; simpa using this
  refine ⟨Nat.le_of_lt hk, hx, fun j hj hw => ?_, fun j hj hjN hw hD => ?_⟩
  · rcases T.conf j k (by omega) hk (by omega) with hp | hp | hp
    · obtain ⟨oj, hoj⟩ := op_at (ops := ops) (k := j) (by omega)
      have := pred_lt T.st hoj hp; omega
    · exact isPred_spec hcl ho hready hp
    · exact absurd hr (hp x hw.wn).1
  · have hne : j ≠ k := fun e => hnd (e ▸ hD)
    rcases T.conf j k hjN hk (fun e => hne e.symm) with hp | hp | hp
    · exact hnd (hcl.pred hjN hD hp)
    · have := pred_lt T.st ho hp; omega
    · exact (hp x hw.wn).1 hr

omit T in
/-- What a step leaves where it does not stand. -/
theorem cur_other {k x c : Nat} (h : Cur ops.size sS fS fp D x c) (hw : ¬ Wr sS fS fp k x) : Cur ops.size sS fS fp (fun y => D y ∨ y = k) x c :=
  ⟨h.1, h.2.1, fun j hj hwj => .inl (h.2.2.1 j hj hwj), fun j hj hjN hwj hD => by
    rcases hD with hD | rfl
    · exact h.2.2.2 j hj hjN hwj hD
    · exact hw hwj⟩

/-- What a step changes or makes. -/
theorem Run.cur_step (hcl : Closed ops D) {k : Nat} {o : Oper} (ho : ops.toList[k]? = some o) (hnd : ¬ D k) (hready : ∀ e ∈ bindsOn o, D e) {x : Nat}
    (hx : Wr sS fS fp k x ∨ ((sS k).next ≤ x ∧ x < (sS (k + 1)).next)) : Cur ops.size sS fS fp (fun y => D y ∨ y = k) x (k + 1) := by
  have hk : k < ops.size := by have := (List.getElem?_eq_some_iff.1 ho).1; simpa using this
  rcases hx with hx | hx
  · have h := T.cur_ready hcl ho hnd hready hx.2.1 hx.rd
    refine ⟨hk, Nat.lt_of_lt_of_le hx.2.1 (T.mono k hk).nxt, fun j hj hw => ?_, fun j hj hjN hw hD => ?_⟩
    · rcases Nat.lt_or_ge j k with hlt | hge
      · exact .inl (h.2.2.1 j hlt hw)
      · exact .inr (by omega)
    · rcases hD with hD | hD
      · exact h.2.2.2 j (by omega) hjN hw hD
      · omega
  · refine ⟨hk, hx.2, fun j hj hw => ?_, fun j hj hjN hw hD => ?_⟩
    · have h1 := hw.2.1
      have := T.next_le (i := j) (j := k) (by omega) (Nat.le_of_lt hk)
      omega
    · rcases hD with hD | hD
      · rcases T.conf j k hjN hk (by omega) with hp | hp | hp
        · exact hnd (hcl.pred hjN hD hp)
        · have := pred_lt T.st ho hp; omega
        · exact (hp x hw.wn).2 hw.2.2.2 hx
      · omega

end mixes

/-- Where a run in some order stands: D what is done. -/
structure DInv (P : Program) (G : Nat) (n : Nat) (ops : Array Oper) (ds : List Deferred) (fS : Nat → Bool) (fp : Nat → Option (List Nat)) (ρ : Ren) (w0 : World) (rS : Nat → Regs) (sS : Nat → AS) (vS : Nat → Value) (D : Nat → Prop) (π : Ren) (a : Act) (w : World) : Prop where
  closed : Closed ops D
  sim : Sim G ρ (sS 0) w0 π (mix ops.size sS fS fp D) w
  gap : ∀ i b, π.bl i = some b → ∀ k, k < ops.size → ¬ D k → ¬ ((sS k).next ≤ i ∧ i < (sS (k + 1)).next)
  size : a.tmps.size = n
  defers : a.defers = ds
  rest : ∀ t, (∀ (k : Nat) (o : Oper), ops.toList[k]? = some o → D k → o.dst ≠ some t) → VRel (π.below (sS 0).next) (rget (rS 0) t) (a.tmps.getD t undef)
  done : ∀ (k : Nat) (o : Oper) (t : Tmp), ops.toList[k]? = some o → D k → o.dst = some t → VRel (π.below (sS (k + 1)).next) (vS k) (a.tmps.getD t undef)
  known : ∀ x b k, k ≤ ops.size → π.bl x = some b → x < (sS k).next → (∀ j, j < ops.size → D j → Wr sS fS fp j x → j < k) → BSc (π.below (sS k).next) ((mix ops.size sS fS fp D).get x)

section inv
variable {D : Nat → Prop} {π : Ren} {a : Act} {w : World}

/-- A register that operation k looks at. -/
theorem DInv.reg (T : Run P G callf n ops sj rS sS vS fS fp) (I : DInv P G n ops ds fS fp ρ w0 rS sS vS D π a w) {k : Nat} {o : Oper}
    (ho : ops.toList[k]? = some o) (hnd : ¬ D k) (hb : ∀ e ∈ bindsOn o, D e) {t : Tmp} (ht : t ∈ o.looksAt ops) : VRel (π.below (sS k).next) (rget (rS k) t) (a.tmps.getD t undef) := by
  have hk : k < ops.size := by have := (List.getElem?_eq_some_iff.1 ho).1; simpa using this
  by_cases h : ∃ (j : Nat) (o' : Oper), ops.toList[j]? = some o' ∧ o'.dst = some t
  · obtain ⟨j, o', hj, hd⟩ := h
    have hjl : j < ops.size := by have := (List.getElem?_eq_some_iff.1 hj).1; simpa using this
    by_cases hp : isPred (preds ops) k j = true
    · have hlt := pred_lt T.st ho hp
      rw [T.reg_writer hj hd hlt (by omega)]
      exact (I.done j o' t hj (isPred_spec I.closed ho hb hp) hd).ext (Ren.below_mono (Ren.le_refl π) (T.next_le (by omega) (by omega)))
    · have hkj : k ≤ j ∧ ¬ D j := by
        rcases T.st.reads k o t j o' ho ht hj hd with h1 | h1 | h1
        · exact absurd h1 hp
        · exact ⟨Nat.le_of_lt (pred_lt T.st hj h1), fun hD => hnd (I.closed.pred hjl hD h1)⟩
        · subst h1; exact ⟨Nat.le_refl _, hnd⟩
      rw [T.reg_rest (fun x ox hx hox he => by have := T.st.uniq j o' x ox t hj hox hd he; omega) (by omega)]
      refine (I.rest t fun x ox hox hD he => ?_).ext (Ren.below_mono (Ren.le_refl π) (T.next_le (Nat.zero_le _) (by omega)))
      have := T.st.uniq j o' x ox t hj hox hd he
      subst this
      exact hkj.2 hD
  · have h' : ∀ (j : Nat) (o' : Oper), ops.toList[j]? = some o' → o'.dst ≠ some t := fun j o' hj hd => h ⟨j, o', hj, hd⟩
    rw [T.reg_rest (fun j o' _ => h' j o') (by omega)]
    exact (I.rest t fun j o' hj _ => h' j o' hj).ext (Ren.below_mono (Ren.le_refl π) (T.next_le (Nat.zero_le _) (by omega)))

/-- A step that leaves memory as it is: at any time. -/
theorem DInv.stepR (T : Run P G callf n ops sj rS sS vS fS fp) (I : DInv P G n ops ds fS fp ρ w0 rS sS vS D π a w) {k : Nat} {o : Oper} (ho : ops.toList[k]? = some o) (hready : ∀ e ∈ bindsOn o, D e)
    (hf : fS k = false) (hnx : (sS (k + 1)).next = (sS k).next) {v' : Value} (hv : VRel (π.below (sS k).next) (vS k) v') (hdst : ∀ d, o.dst = some d → d < n) :
    DInv P G n ops ds fS fp ρ w0 rS sS vS (fun x => D x ∨ x = k) π (a.put o.dst v') w := by
  have hk : k < ops.size := by have := (List.getElem?_eq_some_iff.1 ho).1; simpa using this
  have hnw : ∀ x, ¬ Wr sS fS fp k x := fun x h => by have := h.1; rw [hf] at this; cases this
  have hmix : ∀ x, x < (sS ops.size).next → (mix ops.size sS fS fp fun x => D x ∨ x = k).get x = (mix ops.size sS fS fp D).get x := fun x hx => by
    obtain ⟨c, hc⟩ := T.cur_exists I.closed hx
    rw [T.mix_get hc, T.mix_get (cur_other hc (hnw x))]
  exact {
    closed := fun x ox hx hd e he => by
      rcases hd with hd | rfl
      · exact .inl (I.closed x ox hx hd e he)
      · obtain rfl : ox = o := by rw [ho] at hx; exact (Option.some.inj hx).symm
        exact .inl (hready e he)
    sim := Sim.congr (σ1 := mix ops.size sS fS fp D) rfl rfl hmix I.sim
    gap := fun i b hi x hx hd => I.gap i b hi x hx fun h => hd (.inl h)
    size := by rw [put_size]; exact I.size
    defers := by rw [put_defers]; exact I.defers
    rest := fun t ht => by
      have e : (a.put o.dst v').tmps.getD t undef = a.tmps.getD t undef := by
        cases hd : o.dst with
        | none => rfl
        | some d => rw [put_getD (by rw [I.size]; exact hdst d hd), if_neg (fun e => ht k o ho (.inr rfl) (by rw [hd, e]))]
      rw [e]
      exact I.rest t fun x ox hx hD => ht x ox hx (.inl hD)
    done := fun x ox t hx hd ht => by
      by_cases e : x = k
      · subst e
        obtain rfl : ox = o := by rw [ho] at hx; exact (Option.some.inj hx).symm
        rw [ht, put_getD (by rw [I.size]; exact hdst t ht), if_pos rfl, hnx]
        exact hv
      · have hd' := hd.resolve_right e
        have e2 : (a.put o.dst v').tmps.getD t undef = a.tmps.getD t undef := by
          cases hdo : o.dst with
          | none => rfl
          | some d => rw [put_getD (by rw [I.size]; exact hdst d hdo), if_neg (fun e3 => e (T.st.uniq k o x ox t ho hx (by rw [hdo, e3]) ht))]
        rw [e2]
        exact I.done x ox t hx hd' ht
    known := fun x b m hm hb hx hj => by
      rw [hmix x (Nat.lt_of_lt_of_le hx (T.next_le hm (Nat.le_refl _)))]
      exact I.known x b m hm hb hx fun j h1 h2 h3 => hj j h1 (.inl h2) h3 }

/-- The memory that operation k sees. -/
theorem DInv.sees (T : Run P G callf n ops sj rS sS vS fS fp) (I : DInv P G n ops ds fS fp ρ w0 rS sS vS D π a w) {k : Nat} {o : Oper} (ho : ops.toList[k]? = some o) (hnd : ¬ D k) (hready : ∀ e ∈ bindsOn o, D e)
    {S : AS} (hS : S.next = (sS k).next) (hget : ∀ x, x < (sS k).next → Rd fp k x → S.get x = (sS k).get x) (hdead : ∀ x, x < (sS k).next → ¬ Rd fp k x → (S.get x).kind = 0) : R G (π.below (sS k).next) S w := by
  have hk : k < ops.size := by have := (List.getElem?_eq_some_iff.1 ho).1; simpa using this
  refine ⟨fun i b hi => ?_, fun i j b hi hj ki kj => ?_, fun g hg => ?_, ?_⟩
  · obtain ⟨h1, h2⟩ := below_iff.1 hi
    obtain ⟨_, o', ho', hb⟩ := I.sim.rel.blk i b h2
    refine ⟨by rw [hS]; exact h1, o', ho', ?_⟩
    by_cases hr : Rd fp k i
    · have hc := T.cur_ready I.closed ho hnd hready h1 hr
      have hkn := I.known i b k (Nat.le_of_lt hk) h2 h1 fun j hj hD hw => by
        rcases Nat.lt_or_ge j k with h | h
        · exact h
        · exact absurd hD (hc.2.2.2 j h hj hw)
      rw [T.mix_get hc] at hb hkn
      rw [hget i h1 hr]
      exact hb.back (Ren.below_le π _) rfl hkn
    · unfold BRel; rw [hdead i h1 hr]; trivial
  · obtain ⟨h1, h2⟩ := below_iff.1 hi
    obtain ⟨h3, h4⟩ := below_iff.1 hj
    have hri : Rd fp k i := Classical.byContradiction fun h => ki (hdead i h1 h)
    have hrj : Rd fp k j := Classical.byContradiction fun h => kj (hdead j h3 h)
    refine I.sim.rel.inj i j b h2 h4 ?_ ?_
    · rw [T.mix_get (T.cur_ready I.closed ho hnd hready h1 hri), ← hget i h1 hri]; exact ki
    · rw [T.mix_get (T.cur_ready I.closed ho hnd hready h3 hrj), ← hget j h3 hrj]; exact kj
  · exact below_iff.2 ⟨Nat.lt_of_lt_of_le hg (Nat.le_trans I.sim.base.globN (T.next_le (Nat.zero_le _) (Nat.le_of_lt hk))), I.sim.rel.glob g hg⟩
  · rw [hS]; exact Nat.le_trans I.sim.base.globN (T.next_le (Nat.zero_le _) (Nat.le_of_lt hk))

/-- A step, in any order. -/
theorem DInv.stepX (T : Run P G callf n ops sj rS sS vS fS fp) (I : DInv P G n ops ds fS fp ρ w0 rS sS vS D π a w) {k : Nat} {o : Oper} (ho : ops.toList[k]? = some o) (hnd : ¬ D k) (hready : ∀ e ∈ bindsOn o, D e)
    {S S1 : AS} {τ : Ren} {w' : World} {v' : Value} (hsim : Sim G (π.below (sS k).next) S w τ S1 w') (hS : S.next = (sS k).next) (hS1 : S1.next = (sS (k + 1)).next)
    (hget : ∀ x, x < (sS k).next → Rd fp k x → S.get x = (sS k).get x ∧ S1.get x = (sS (k + 1)).get x) (hdead : ∀ x, x < (sS k).next → ¬ Rd fp k x → (S.get x).kind = 0)
    (hmade : ∀ x, (sS k).next ≤ x → x < (sS (k + 1)).next → S1.get x = (sS (k + 1)).get x) (hlw : (sS (k + 1)).low ≤ S1.low) (hv : VRel τ (vS k) v') (hdst : ∀ d, o.dst = some d → d < n) :
    ∃ π', DInv P G n ops ds fS fp ρ w0 rS sS vS (fun x => D x ∨ x = k) π' (a.put o.dst v') w' := by
  have hks : k < ops.size := by have := (List.getElem?_eq_some_iff.1 ho).1; simpa using this
  have hlo : (sS k).next ≤ (sS (k + 1)).next := T.next_le (Nat.le_succ _) hks
  have hhm : (sS (k + 1)).next ≤ (sS ops.size).next := T.next_le hks (Nat.le_refl _)
  have M := T.mono k hks
  let Mo := mix ops.size sS fS fp D
  let Mn := mix ops.size sS fS fp fun x => D x ∨ x = k
  have hMo : ∀ x, x < (sS k).next → Rd fp k x → Mo.get x = (sS k).get x := fun x hx hr => T.mix_get (T.cur_ready I.closed ho hnd hready hx hr)
  have hMw : ∀ x, Wr sS fS fp k x → Mn.get x = (sS (k + 1)).get x := fun x hx => T.mix_get (T.cur_step I.closed ho hnd hready (.inl hx))
  have hMm : ∀ x, (sS k).next ≤ x → x < (sS (k + 1)).next → Mn.get x = (sS (k + 1)).get x := fun x h1 h2 => T.mix_get (T.cur_step I.closed ho hnd hready (.inr ⟨h1, h2⟩))
  have hMr : ∀ x, x < (sS ops.size).next → ¬ Wr sS fS fp k x → Mn.get x = Mo.get x := fun x hx hw => by
    obtain ⟨c, hc⟩ := T.cur_exists I.closed hx
    show (mix _ _ _ _ _).get x = (mix _ _ _ _ _).get x
    rw [T.mix_get hc, T.mix_get (cur_other hc hw)]
  -- what is dead stays dead
  have hdd : ∀ x, x < (sS ops.size).next → (Mo.get x).kind = 0 → (Mn.get x).kind = 0 := fun x hx h => by
    by_cases hw : Wr sS fS fp k x
    · rw [hMw x hw]
      rw [hMo x hw.2.1 hw.rd] at h
      exact M.dead x hw.2.1 h
    · rw [hMr x hx hw]; exact h
  -- after the step, at what it reads
  have hMn : ∀ x, x < (sS k).next → Rd fp k x → Mn.get x = S1.get x := fun x hx hr => by
    rw [(hget x hx hr).2]
    by_cases hw : Wr sS fS fp k x
    · exact hMw x hw
    · rw [hMr x (by omega) hw, hMo x hx hr, T.unch k x hks hx hw]
  have hMn0 : ∀ x, ¬ ((sS k).next ≤ x ∧ x < (sS (k + 1)).next) → x < (sS ops.size).next → ¬ (x < (sS k).next ∧ Rd fp k x) → Mn.get x = Mo.get x := fun x h1 h2 h3 => hMr x h2 fun hw => h3 ⟨hw.2.1, hw.rd⟩
  let π' : Ren := ⟨fun i => if (sS k).next ≤ i ∧ i < (sS (k + 1)).next then τ.bl i else π.bl i, fun i => if (sS k).next ≤ i ∧ i < (sS (k + 1)).next then τ.sz i else π.sz i⟩
  have bl_in : ∀ i, (sS k).next ≤ i ∧ i < (sS (k + 1)).next → π'.bl i = τ.bl i ∧ π'.sz i = τ.sz i := fun i hi => ⟨if_pos hi, if_pos hi⟩
  have bl_out : ∀ i, ¬ ((sS k).next ≤ i ∧ i < (sS (k + 1)).next) → π'.bl i = π.bl i ∧ π'.sz i = π.sz i := fun i hi => ⟨if_neg hi, if_neg hi⟩
  have le1 : π.le π' := fun i b hi => by
    obtain ⟨e1, e2⟩ := bl_out i (I.gap i b hi k hks hnd)
    exact ⟨by rw [e1]; exact hi, e2⟩
  have hπlt : ∀ i b, π.bl i = some b → i < (sS ops.size).next := fun i b hi => (I.sim.rel.blk i b hi).1
  have hτlt : ∀ i b, τ.bl i = some b → i < (sS (k + 1)).next := fun i b hi => by rw [← hS1]; exact (hsim.rel.blk i b hi).1
  have hτold : ∀ i b, τ.bl i = some b → i < (sS k).next → π.bl i = some b ∧ τ.sz i = π.sz i := fun i b hi hlt => by
    cases hp : (π.below (sS k).next).bl i with
    | none => have := hsim.newid i b hi hp; rw [hS] at this; omega
    | some b' =>
      obtain ⟨e1, e2⟩ := hsim.le i b' hp
      rw [hi] at e1; cases e1
      exact ⟨(below_iff.1 hp).2, e2⟩
  have le2 : τ.le π' := fun i b hi => by
    by_cases h : (sS k).next ≤ i ∧ i < (sS (k + 1)).next
    · obtain ⟨e1, e2⟩ := bl_in i h
      exact ⟨by rw [e1]; exact hi, e2⟩
    · have hlt : i < (sS k).next := by have := hτlt i b hi; omega
      obtain ⟨e1, e2⟩ := bl_out i h
      obtain ⟨e3, e4⟩ := hτold i b hi hlt
      exact ⟨by rw [e1]; exact e3, by rw [e2, e4]⟩
  -- who lives in S reads, and lives in Mo
  have hlive : ∀ i, i < (sS k).next → (S.get i).kind ≠ 0 → Rd fp k i ∧ (Mo.get i).kind ≠ 0 := fun i hi hz => by
    have hr : Rd fp k i := Classical.byContradiction fun h => hz (hdead i hi h)
    exact ⟨hr, by rw [hMo i hi hr, ← (hget i hi hr).1]; exact hz⟩
  -- a block of w in which no name that k reads lives is as it was
  have hfr : ∀ b, b < w.heap.size → (∀ i', π.bl i' = some b → i' < (sS k).next → Rd fp k i' → (Mo.get i').kind = 0) → w'.heap[b]? = w.heap[b]? := fun b hb h =>
    hsim.frame b hb fun i' hi' => by
      obtain ⟨h1, h2⟩ := below_iff.1 hi'
      by_cases hz : (S.get i').kind = 0
      · exact hz
      · obtain ⟨hr, hz'⟩ := hlive i' h1 hz
        exact absurd (h i' h2 h1 hr) hz'
  -- where a made block lives
  have hnewb : ∀ i b, τ.bl i = some b → (sS k).next ≤ i → w.heap.size ≤ b ∨ ∃ j, j < (sS k).next ∧ π.bl j = some b ∧ (Mo.get j).kind ≠ 0 ∧ (Mn.get j).kind = 0 := fun i b hi hge => by
    have hp : (π.below (sS k).next).bl i = none := by
      simp only [Ren.below]; rw [if_neg (by omega)]
    rcases hsim.newblk i b hi hp with h | ⟨j, h1, h2, h3⟩
    · exact .inl h
    · obtain ⟨h4, h5⟩ := below_iff.1 h1
      obtain ⟨hr, hz⟩ := hlive j h4 h2
      exact .inr ⟨j, h4, h5, hz, by rw [hMn j h4 hr]; exact h3⟩
  have rel : R G π' Mn w' := by
    refine ⟨?_, ?_, fun g hg => (le1 g g (I.sim.rel.glob g hg)).1, I.sim.rel.globN⟩
    · intro i b hi
      by_cases h : (sS k).next ≤ i ∧ i < (sS (k + 1)).next
      · rw [(bl_in i h).1] at hi
        obtain ⟨h1, o', h2, h3⟩ := hsim.rel.blk i b hi
        refine ⟨Nat.lt_of_lt_of_le h.2 hhm, o', h2, ?_⟩
        rw [hMm i h.1 h.2, ← hmade i h.1 h.2]
        exact h3.ext le2 (bl_in i h).2
      · rw [(bl_out i h).1] at hi
        obtain ⟨h1, o', h2, h3⟩ := I.sim.rel.blk i b hi
        refine ⟨h1, ?_⟩
        by_cases hlt : i < (sS k).next ∧ Rd fp k i
        · have hτ := (hsim.le i b (below_iff.2 ⟨hlt.1, hi⟩)).1
          obtain ⟨_, o2, h4, h5⟩ := hsim.rel.blk i b hτ
          refine ⟨o2, h4, ?_⟩
          rw [hMn i hlt.1 hlt.2]
          exact h5.ext le2 (le2 i b hτ).2
        · rw [hMn0 i h h1 hlt]
          by_cases hz : (Mo.get i).kind = 0
          · have hb := Nat.lt_of_lt_of_le (I.sim.rel.lt hi) hsim.hsz
            refine ⟨w'.heap[b], by simp [hb], ?_⟩
            unfold BRel; rw [hz]; trivial
          · have hf := hfr b (I.sim.rel.lt hi) fun i' h4 h5 h6 => by
              by_cases hz' : (Mo.get i').kind = 0
              · exact hz'
              · have := I.sim.rel.inj i' i b h4 hi hz' hz
                subst this
                exact absurd ⟨h5, h6⟩ hlt
            exact ⟨o', by rw [hf]; exact h2, h3.ext le1 (bl_out i h).2⟩
    · have old : ∀ i j b, ((sS k).next ≤ i ∧ i < (sS (k + 1)).next) → τ.bl i = some b → π.bl j = some b → (Mn.get j).kind ≠ 0 → False := fun i j b hi h1 h2 h3 => by
        have hj0 : (Mo.get j).kind ≠ 0 := fun h => h3 (hdd j (hπlt j b h2) h)
        rcases hnewb i b h1 hi.1 with h | ⟨j', h4, h5, h6, h7⟩
        · have := I.sim.rel.lt h2; omega
        · have := I.sim.rel.inj j j' b h2 h5 hj0 h6
          subst this
          exact h3 h7
      intro i j b hi hj ki kj
      by_cases h1 : (sS k).next ≤ i ∧ i < (sS (k + 1)).next
      · rw [(bl_in i h1).1] at hi
        by_cases h2 : (sS k).next ≤ j ∧ j < (sS (k + 1)).next
        · rw [(bl_in j h2).1] at hj
          rw [hMm i h1.1 h1.2, ← hmade i h1.1 h1.2] at ki
          rw [hMm j h2.1 h2.2, ← hmade j h2.1 h2.2] at kj
          exact hsim.rel.inj i j b hi hj ki kj
        · rw [(bl_out j h2).1] at hj
          exact (old i j b h1 hi hj kj).elim
      · rw [(bl_out i h1).1] at hi
        by_cases h2 : (sS k).next ≤ j ∧ j < (sS (k + 1)).next
        · rw [(bl_in j h2).1] at hj
          exact (old j i b h2 hj hi ki).elim
        · rw [(bl_out j h2).1] at hj
          exact I.sim.rel.inj i j b hi hj (fun h => ki (hdd i (hπlt i b hi) h)) (fun h => kj (hdd j (hπlt j b hj) h))
  have bel : ∀ x, (π.below x).le (π'.below x) := fun x => Ren.below_mono le1 (Nat.le_refl _)
  have hcl : Closed ops fun x => D x ∨ x = k := fun x ox hx hd e he => by
    rcases hd with hd | rfl
    · exact .inl (I.closed x ox hx hd e he)
    · obtain rfl : ox = o := by rw [ho] at hx; exact (Option.some.inj hx).symm
      exact .inl (hready e he)
  refine ⟨π', ?_⟩
  exact {
    closed := hcl
    sim := {
      base := I.sim.base
      le := Ren.le_trans I.sim.le le1
      rel := rel
      frame := fun b hb hd => by
        rw [hfr b (Nat.lt_of_lt_of_le hb I.sim.hsz) (fun i' h4 h5 h6 => ?_), I.sim.frame b hb hd]
        cases hρ : ρ.bl i' with
        | some b' =>
          have := (I.sim.le i' b' hρ).1
          rw [h4] at this; cases this
          exact I.sim.dead i' (I.sim.base.blk i' b hρ).1 (hd i' hρ)
        | none =>
          exfalso
          rcases I.sim.newblk i' b h4 hρ with h | ⟨j, h6, h7, _⟩
          · omega
          · exact h7 (hd j h6)
      hsz := Nat.le_trans I.sim.hsz hsim.hsz
      nxt := I.sim.nxt
      newid := fun i b hi hn => by
        by_cases h : (sS k).next ≤ i ∧ i < (sS (k + 1)).next
        · exact Nat.le_trans (T.next_le (Nat.zero_le _) (Nat.le_of_lt hks)) h.1
        · rw [(bl_out i h).1] at hi; exact I.sim.newid i b hi hn
      newblk := fun i b hi hn => by
        have up : ∀ j, π.bl j = some b → (∃ l, ρ.bl l = some b ∧ ((sS 0).get l).kind ≠ 0 ∧ (Mo.get l).kind = 0) → w0.heap.size ≤ b ∨ ∃ l, ρ.bl l = some b ∧ ((sS 0).get l).kind ≠ 0 ∧ (Mn.get l).kind = 0 := fun j hj ⟨l, h1, h2, h3⟩ =>
          .inr ⟨l, h1, h2, hdd l (hπlt l b (I.sim.le l b h1).1) h3⟩
        by_cases h : (sS k).next ≤ i ∧ i < (sS (k + 1)).next
        · rw [(bl_in i h).1] at hi
          rcases hnewb i b hi h.1 with h1 | ⟨j, h2, h3, h4, h5⟩
          · exact .inl (Nat.le_trans I.sim.hsz h1)
          · cases hρ : ρ.bl j with
            | some b' =>
              have := (I.sim.le j b' hρ).1
              rw [h3] at this; cases this
              exact .inr ⟨j, hρ, fun h0 => h4 (I.sim.dead j (I.sim.base.blk j b hρ).1 h0), h5⟩
            | none =>
              rcases I.sim.newblk j b h3 hρ with h6 | h6
              · exact .inl h6
              · exact up j h3 h6
        · rw [(bl_out i h).1] at hi
          rcases I.sim.newblk i b hi hn with h6 | h6
          · exact .inl h6
          · exact up i hi h6
      low := I.sim.low
      keep := fun i hi hl => by
        obtain ⟨c, hc⟩ := T.cur_exists hcl (x := i) (Nat.lt_of_lt_of_le hi (T.next_le (Nat.zero_le _) (Nat.le_refl _)))
        rw [T.mix_get hc]
        exact (T.monos (Nat.zero_le c) hc.1).keep i hi (Nat.lt_of_lt_of_le hl (T.monos hc.1 (Nat.le_refl _)).low)
      dead := fun i hi h0 => by
        obtain ⟨c, hc⟩ := T.cur_exists hcl (x := i) (Nat.lt_of_lt_of_le hi (T.next_le (Nat.zero_le _) (Nat.le_refl _)))
        rw [T.mix_get hc]
        exact (T.monos (Nat.zero_le c) hc.1).dead i hi h0
      stay := fun i b hi hk hl => by
        have hπ := (I.sim.le i b hi).1
        have hi0 := (I.sim.base.blk i b hi).1
        have hMi : Mo.get i = (sS 0).get i := I.sim.keep i hi0 hl
        have hik : i < (sS k).next := Nat.lt_of_lt_of_le hi0 (T.next_le (Nat.zero_le _) (Nat.le_of_lt hks))
        rw [← I.sim.stay i b hi hk hl]
        by_cases hz : (S.get i).kind = 0
        · refine hfr b (I.sim.rel.lt hπ) fun i' h4 h5 h6 => ?_
          by_cases hz' : (Mo.get i').kind = 0
          · exact hz'
          · have := I.sim.rel.inj i' i b h4 hπ hz' (by show (Mo.get i).kind ≠ 0; rw [hMi]; exact hk)
            subst this
            rw [hMo i' h5 h6, ← (hget i' h5 h6).1]; exact hz
        · refine hsim.stay i b (below_iff.2 ⟨hik, hπ⟩) hz (Nat.lt_of_lt_of_le ?_ hlw)
          exact Nat.lt_of_lt_of_le hl (T.monos hks (Nat.le_refl _)).low
      out := ⟨hsim.out.1.trans I.sim.out.1, hsim.out.2.trans I.sim.out.2⟩ }
    gap := fun i b hi x hx hd => by
      by_cases h : (sS k).next ≤ i ∧ i < (sS (k + 1)).next
      · intro h2
        have hne : x ≠ k := fun e => hd (.inr e)
        rcases Nat.lt_or_ge x k with hlt | hge
        · have := T.next_le (i := x + 1) (j := k) hlt (Nat.le_of_lt hks); omega
        · have := T.next_le (i := k + 1) (j := x) (by omega) (Nat.le_of_lt hx); omega
      · rw [(bl_out i h).1] at hi
        exact I.gap i b hi x hx fun h => hd (.inl h)
    size := by rw [put_size]; exact I.size
    defers := by rw [put_defers]; exact I.defers
    rest := fun t ht => by
      have e : (a.put o.dst v').tmps.getD t undef = a.tmps.getD t undef := by
        cases hd : o.dst with
        | none => rfl
        | some d => rw [put_getD (by rw [I.size]; exact hdst d hd), if_neg (fun e => ht k o ho (.inr rfl) (by rw [hd, e]))]
      rw [e]
      exact (I.rest t fun x ox hx hD => ht x ox hx (.inl hD)).ext (bel _)
    done := fun x ox t hx hd ht => by
      by_cases e : x = k
      · subst e
        obtain rfl : ox = o := by rw [ho] at hx; exact (Option.some.inj hx).symm
        rw [ht, put_getD (by rw [I.size]; exact hdst t ht), if_pos rfl]
        exact hv.ext (Ren.le_trans (le_below hτlt) (Ren.below_mono le2 (Nat.le_refl _)))
      · have hd' := hd.resolve_right e
        have e2 : (a.put o.dst v').tmps.getD t undef = a.tmps.getD t undef := by
          cases hdo : o.dst with
          | none => rfl
          | some d => rw [put_getD (by rw [I.size]; exact hdst d hdo), if_neg (fun e3 => e (T.st.uniq k o x ox t ho hx (by rw [hdo, e3]) ht))]
        rw [e2]
        exact (I.done x ox t hx hd' ht).ext (bel _)
    known := fun x b m hm hb hx hj => by
      have up : k < m → ∀ blk, BSc τ blk → BSc (π'.below (sS m).next) blk := fun hkm blk h => h.ext (Ren.le_trans (le_below hτlt) (Ren.below_mono le2 (T.next_le hkm hm)))
      by_cases h : (sS k).next ≤ x ∧ x < (sS (k + 1)).next
      · have hkm : k < m := by
          rcases Nat.lt_or_ge k m with h3 | h3
          · exact h3
          · have := T.next_le (i := m) (j := k) h3 (Nat.le_of_lt hks); omega
        rw [(bl_in x h).1] at hb
        obtain ⟨_, o', _, h5⟩ := hsim.rel.blk x b hb
        show BSc _ (Mn.get x)
        rw [hMm x h.1 h.2, ← hmade x h.1 h.2]
        exact up hkm _ h5.sc
      · rw [(bl_out x h).1] at hb
        by_cases hw : Wr sS fS fp k x
        · have hkm : k < m := hj k hks (.inr rfl) hw
          have hτ := (hsim.le x b (below_iff.2 ⟨hw.2.1, hb⟩)).1
          obtain ⟨_, o', _, h5⟩ := hsim.rel.blk x b hτ
          show BSc _ (Mn.get x)
          rw [hMn x hw.2.1 hw.rd]
          exact up hkm _ h5.sc
        · show BSc _ (Mn.get x)
          rw [hMr x (hπlt x b hb) hw]
          exact (I.known x b m hm hb hx fun j h1 h2 h3 => hj j h1 (.inl h2) h3).ext (bel _) }

end inv

noncomputable def Dn (listed : Array Bool) (k : Nat) : Prop := listed.getD k false = true

theorem Dn_set {listed : Array Bool} {k : Nat} (hk : k < listed.size) : Dn (listed.setIfInBounds k true) = fun x => Dn listed x ∨ x = k := by
  funext x
  unfold Dn
  apply propext
  simp only [Array.getD_eq_getD_getElem?, Array.getElem?_setIfInBounds]
  by_cases e : k = x
  · subst e; simp [hk]
  · simp [e, fun h => e (Eq.symm h)]
    intro h; exact absurd h.symm e

theorem DInv.finish (T : Run P G callf n ops sj rS sS vS fS fp) {D : Nat → Prop} {π : Ren} {a : Act} {w : World} (I : DInv P G n ops ds fS fp ρ w0 rS sS vS D π a w) (hall : ∀ k, k < ops.size → D k)
    (hQ : ∀ τ a' w', RegsRel τ (rS ops.size) a'.tmps → a'.tmps.size = n → a'.defers = ds → Sim G ρ (sS 0) w0 τ (sS ops.size) w' → Q .normal a' w') : Q .normal a w := by
  refine hQ π a w (fun t => ?_) I.size I.defers (Sim.congr (σ1 := mix ops.size sS fS fp D) rfl rfl (fun x hx => ?_) I.sim)
  · by_cases h : ∃ (j : Nat) (o' : Oper), ops.toList[j]? = some o' ∧ o'.dst = some t
    · obtain ⟨j, o', hj, hd⟩ := h
      have hlt : j < ops.size := by have := (List.getElem?_eq_some_iff.1 hj).1; simpa using this
      rw [T.reg_writer hj hd hlt (Nat.le_refl _)]
      exact (I.done j o' t hj (hall j hlt) hd).ext (Ren.below_le π _)
    · have h' : ∀ (j : Nat) (o' : Oper), ops.toList[j]? = some o' → o'.dst ≠ some t := fun j o' hj hd => h ⟨j, o', hj, hd⟩
      rw [T.reg_rest (fun j o' _ => h' j o') (Nat.le_refl _)]
      exact (I.rest t fun j o' hj _ => h' j o' hj).ext (Ren.below_le π _)
  · exact (T.mix_get (D := D) ⟨Nat.le_refl _, hx, fun j hj _ => hall j hj, fun j h1 h2 => by omega⟩).symm

theorem draw_any (hc : CallSound P G callf) (hcm : CallMono callf) (T : Run P G callf n ops sj rS sS vS fS fp)
    (hQ : ∀ τ a' w', RegsRel τ (rS ops.size) a'.tmps → a'.tmps.size = n → a'.defers = ds → Sim G ρ (sS 0) w0 τ (sS ops.size) w' → Q .normal a' w') :
    ∀ (fuel : Nat) (listed : Array Bool) (π : Ren) (a : Act) (w : World), listed.size = ops.size → (List.range ops.size).countP (fun k => !listed.getD k false) ≤ fuel →
      DInv P G n ops ds fS fp ρ w0 rS sS vS (Dn listed) π a w → wpAny P .any ops Q fuel listed a w := by
  have done_of_ready : ∀ listed : Array Bool, listed.size = ops.size → Region.ready .any ops listed = [] → ∀ k, k < ops.size → Dn listed k := by
    intro listed hsz hr k hk
    by_cases h : ∃ k, k < ops.size ∧ ¬ Dn listed k
    · exfalso
      obtain ⟨x, h1, h2, h3⟩ := least h
      obtain ⟨o, ho⟩ := op_at h1
      have hmem : x ∈ Region.ready .any ops listed := by
        rw [mem_ready]
        refine ⟨?_, o, by simpa using ho, fun e he hb => ?_⟩
        · have hx : x < listed.size := by omega
          unfold Dn at h2
          simp only [Array.getD_eq_getD_getElem?, Array.getElem?_eq_getElem hx, Option.getD_some] at h2 ⊢
          simpa using h2
        · exact h3 e.on (T.st.back x o ho e.on (bindsOn_mem.2 ⟨e, he, hb, rfl⟩))
      rw [hr] at hmem; cases hmem
    · by_cases hd : Dn listed k
      · exact hd
      · exact absurd ⟨k, hk, hd⟩ h
  intro fuel
  induction fuel with
  | zero =>
    intro listed π a w hsz hcnt I
    have hall : ∀ k, k < ops.size → Dn listed k := fun k hk => by
      have h0 : (List.range ops.size).countP (fun k => !listed.getD k false) = 0 := Nat.le_zero.1 hcnt
      rw [List.countP_eq_zero] at h0
      have := h0 k (List.mem_range.2 hk)
      unfold Dn; simpa using this
    refine ⟨?_, I.finish T hall hQ⟩
    cases hr : Region.ready .any ops listed with
    | nil => rfl
    | cons x l =>
      exfalso
      have hx : x ∈ Region.ready .any ops listed := by rw [hr]; simp
      rw [mem_ready] at hx
      obtain ⟨h1, o, ho, _⟩ := hx
      have hlt : x < ops.size := (Array.getElem?_eq_some_iff.1 ho).1
      have h2 := hall x hlt
      unfold Dn at h2
      have hxl : x < listed.size := by omega
      simp only [Array.getD_eq_getD_getElem?, Array.getElem?_eq_getElem hxl, Option.getD_some] at h1 h2
      rw [h1] at h2; cases h2
  | succ fuel ih =>
    intro listed π a w hsz hcnt I
    refine ⟨fun hr => I.finish T (done_of_ready listed hsz hr) hQ, fun k hk => ?_⟩
    rw [mem_ready] at hk
    obtain ⟨h1, o, ho', hr⟩ := hk
    have hlt : k < ops.size := (Array.getElem?_eq_some_iff.1 ho').1
    have hkl : k < listed.size := by omega
    have ho : ops.toList[k]? = some o := by simpa using ho'
    have hnd : ¬ Dn listed k := by
      unfold Dn
      simp only [Array.getD_eq_getD_getElem?, Array.getElem?_eq_getElem hkl, Option.getD_some] at h1 ⊢
      rw [h1]; simp
    have hready : ∀ e ∈ bindsOn o, Dn listed e := fun e he => by
      obtain ⟨x, hx1, hx2, rfl⟩ := bindsOn_mem.1 he
      exact hr x hx1 hx2
    have hcnt' : (List.range ops.size).countP (fun j => !(listed.setIfInBounds k true).getD j false) ≤ fuel := by
      have : (List.range ops.size).countP (fun j => !(listed.setIfInBounds k true).getD j false) < (List.range ops.size).countP (fun j => !listed.getD j false) := by
        refine countP_lt (x := k) (fun j _ hj => ?_) (List.mem_range.2 hlt) (by unfold Dn at hnd; simpa using hnd) ?_
        · have h2 : ¬ Dn (listed.setIfInBounds k true) j := by unfold Dn; simpa using hj
          rw [Dn_set hkl] at h2
          have h3 : ¬ Dn listed j := fun h => h2 (.inl h)
          unfold Dn at h3; simpa using h3
        · have h2 : Dn (listed.setIfInBounds k true) k := by rw [Dn_set hkl]; exact .inr rfl
          unfold Dn at h2; simp only [h2, Bool.not_true]
      omega
    have A := T.at_ k o ho
    have hdst : ∀ d, o.dst = some d → d < n := fun d hd => by
      have hp := A.put
      rw [hd] at hp
      simp only [aPut, bite_eq] at hp
      split at hp
      · rename_i h; simpa [Nat.blt_eq] using h
      · cases hp
    -- go on with what the step leaves
    have go : ∀ π' a' w', DInv P G n ops ds fS fp ρ w0 rS sS vS (fun x => Dn listed x ∨ x = k) π' a' w' → wpAny P .any ops Q fuel (listed.setIfInBounds k true) a' w' := fun π' a' w' I' =>
      ih _ π' a' w' (by simpa using hsz) hcnt' (by rw [Dn_set hkl]; exact I')
    have hks := Nat.le_of_lt hlt
    -- the registers
    have hwt : aWanted ops (rS k) o = Region.wanted o (yielded ops a.tmps) := aWanted_eq (ρ := π.below (sS k).next) fun j b t hg hd => by
      refine I.reg T ho hnd hready ?_
      unfold Oper.looksAt
      rw [hg]
      simp [hd]
    have hopsR : ∀ {υ : Ren}, (π.below (sS k).next).le υ → (∀ g, g < G → υ.bl g = some g) → OpRel G υ (rS k) a o.op.operands := fun {υ} hle hgl x hx v hv => by
      cases x with
      | tmp t =>
        cases hv
        refine (I.reg T ho hnd hready ?_).ext hle
        unfold Oper.looksAt
        rw [List.mem_append]
        exact .inl (List.mem_filterMap.2 ⟨.tmp t, hx, rfl⟩)
      | const c =>
        simp only [aev] at hv
        split at hv
        · rename_i hf; cases hv; exact (vrel_flat hf).2 rfl
        · cases hv
      | global g =>
        simp only [aev] at hv
        split at hv
        · rename_i hg; cases hv; exact vrel_ptr.2 ⟨g, hgl g hg, rfl, rfl⟩
        · cases hv
      | func f => cases hv; exact vrel_func.2 ⟨[], [], trivial, trivial, rfl⟩
    unfold wpOp
    rw [ho']
    simp only []
    rw [← hwt]
    have hglob : ∀ g, g < G → (π.below (sS k).next).bl g = some g := fun g hg =>
      below_iff.2 ⟨Nat.lt_of_lt_of_le hg (Nat.le_trans I.sim.base.globN (T.next_le (Nat.zero_le _) hks)), I.sim.rel.glob g hg⟩
    cases hw : aWanted ops (rS k) o with
    | false =>
      rw [if_neg (by simp)]
      obtain ⟨hf, hnx⟩ := T.still k o ho (.inr hw)
      exact go π _ w (I.stepR T ho hready hf hnx (by rw [(A.no hw).1]; exact vrel_undef) hdst)
    | true =>
      rw [if_pos rfl]
      refine .inl ?_
      obtain ⟨s1, hs1, _, hs3⟩ := A.yes hw
      by_cases hblk : stillAt P ops sj k = true
      · obtain ⟨hf, hnx⟩ := T.still k o ho (.inl hblk)
        unfold Oper.wp
        have hor : blindAt P ops k = true ∨ memb sj k = true := by unfold stillAt at hblk; simpa using hblk
        rcases hor with hbl | hmem
        · -- it looks at registers alone
          have hbo : opBlind P o.op = true := by
            unfold blindAt at hbl
            rw [ho'] at hbl; exact hbl
          obtain ⟨_, v', h2, h3⟩ := blind_sound (π := π.below (sS k).next) hbo hs1 (hopsR (Ren.le_refl _) hglob) w
          rw [h2, Oper.upon_value]
          exact go π _ w (I.stepR T ho hready hf hnx h3 hdst)
        · -- it reads the same wherever it may stand
          obtain ⟨hso, hst⟩ := T.steady k o ho hmem
          obtain ⟨hsc, F, hF, hst⟩ := hst hw
          have hRm := I.sim.rel
          have hRr : R G π (mix ops.size sS fS fp (Dn listed)).reset w := ⟨hRm.blk, hRm.inj, hRm.glob, hRm.globN⟩
          have hrun : aStep P G callf (rS k) (mix ops.size sS fS fp (Dn listed)).reset o.op = some (vS k, (mix ops.size sS fS fp (Dn listed)).reset) := by
            rcases hst with rfl | ⟨x, rfl, hst⟩
            · exact still_agree hso hs1 hF fun x hx => by cases hx
            · have hxN : x < (sS ops.size).next := by
                rcases Nat.lt_or_ge x (sS ops.size).next with h | h
                · exact h
                · exfalso
                  obtain ⟨b, hb⟩ := fpOf_named (hopsR (Ren.le_refl _) hglob) hF hso hs1 x (by simp)
                  have := (I.sim.rel.blk x b (below_iff.1 hb).2).1
                  have h2 : (mix ops.size sS fS fp (Dn listed)).next = (sS ops.size).next := rfl
                  omega
              obtain ⟨c, hcurN⟩ := T.curN_exists I.closed hxN
              have hcur := hcurN.cur
              obtain ⟨s2, hs2⟩ := hst c hcur.1 hcur.2.1 (fun q hq hp hwq => by
                  rcases Nat.lt_or_ge q c with h | h
                  · exact h
                  · exact absurd (isPred_spec I.closed ho hready hp) (hcurN.2.2.2 q h hq hwq)) (fun q hq hp hwq => by
                  have hqN : q < ops.size := Nat.lt_of_lt_of_le hq hcur.1
                  exact hnd (I.closed.pred hqN (hcurN.2.2.1 q hq hwq) hp))
              refine still_agree hso hs2 hF fun y hy => ?_
              obtain rfl : y = x := by simpa using hy
              rw [get_reset, get_reset]
              exact T.mix_get hcur
          obtain ⟨v', h2, n', h3⟩ := still_sound hso hrun (hopsR (Ren.below_le π _) hRm.glob) hRr
          rw [h2, Oper.upon_value]
          exact go π _ w (I.stepR T ho hready hf hnx ⟨n', vsc_below 9 _ _ _ hsc h3⟩ hdst)
      · have hbf : stillAt P ops sj k = false := by
          cases h : stillAt P ops sj k with
          | true => exact absurd h hblk
          | false => rfl
        have hfk := T.fpk k o ho
        rw [hbf, hw] at hfk
        have hfk : fp k = fpOf P G (rS k) o.op := hfk
        cases hF : fp k with
        | none =>
          -- it may read everything
          have hrd : ∀ x, Rd fp k x := fun x l hl => by rw [hF] at hl; cases hl
          have hR := I.sees T ho hnd hready (S := (sS k).reset) rfl (fun x _ _ => rfl) (fun x _ h => absurd (hrd x) h)
          refine aStep_wp hc hs1 hR (hopsR (Ren.le_refl _) hglob) fun v' τ w' hv hsim => ?_
          obtain ⟨π', I2⟩ := I.stepX T ho hnd hready hsim rfl (by rw [hs3]; rfl) (fun x _ _ => ⟨rfl, by rw [hs3]; rfl⟩) (fun x _ h => absurd (hrd x) h) (fun x _ _ => by rw [hs3]; rfl) (by rw [hs3]; exact Nat.min_le_right _ _) hv hdst
          exact go π' _ w' I2
        | some F =>
          -- it reads few
          rw [hF] at hfk
          obtain ⟨S1, hS1, M⟩ := foot_agree hfk.symm hs1 (S := (sS k).reset.only F) ⟨rfl, rfl, fun x hx => (only_get _ _ _).1 hx⟩
          have hrd : ∀ x, Rd fp k x ↔ x ∈ F := fun x => ⟨fun h => h F hF, fun h l hl => by rw [hF] at hl; cases hl; exact h⟩
          have hR := I.sees T ho hnd hready (S := (sS k).reset.only F) rfl (fun x _ hr => (only_get _ _ _).1 ((hrd x).1 hr)) (fun x _ hr => by
            rw [(only_get _ _ _).2 fun h => hr ((hrd x).2 h)]; rfl)
          refine aStep_wp hc hS1 hR (hopsR (Ren.le_refl _) hglob) fun v' τ w' hv hsim => ?_
          obtain ⟨π', I2⟩ := I.stepX T ho hnd hready hsim rfl (by rw [M.next, hs3]; rfl) (fun x _ hr => ⟨(only_get _ _ _).1 ((hrd x).1 hr), by rw [M.foot x ((hrd x).1 hr), hs3]; rfl⟩)
            (fun x _ hr => by rw [(only_get _ _ _).2 fun h => hr ((hrd x).2 h)]; rfl) (fun x h1 h2 => by
              rw [hs3] at h2
              rw [M.made x h1 h2, hs3]; rfl) (by rw [M.low, hs3]; exact Nat.min_le_right _ _) hv hdst
          exact go π' _ w' I2

/-- A region whose order is open. -/
theorem aDraw_wp (hm : P.follows .mixedOrders = true) (hc : CallSound P G callf) (hcm : CallMono callf) {id : Nat} {r r' : Regs} {σ σ' : AS} {w : World} {a : Act} (h : aDraw P G callf n ops r σ = some (r', σ'))
    (hR : R G ρ σ w) (hr : RegsRel ρ r a.tmps) (hn : a.tmps.size = n) (hd : a.defers = ds)
    (hQ : ∀ τ a' w', RegsRel τ r' a'.tmps → a'.tmps.size = n → a'.defers = ds → Sim G ρ σ w τ σ' w' → Q .normal a' w') : (Code.region id ops true).wp P Q a w := by
  unfold aDraw at h
  split at h
  · rename_i hst
    obtain ⟨rS, sS, vS, fS, e1, e2, e3, e4, hat, hsd⟩ := aDrawGo_trace _ 0 _ _ _ h (fun i => by simp)
    simp only [Nat.zero_add, Array.length_toList] at e3 e4
    simp only [Nat.zero_add, Array.length_toList, List.reverse_nil, List.nil_append, ← e4] at hsd
    obtain ⟨fp, T⟩ := Run.of (n := n) hcm (Static.of hst) (fun k o ho => hat k o (Nat.zero_le _) ho) hsd
    have hR' : R G ρ σ ({ w with drawn := w.drawn + 1 } : World) := R.of_heap (w := w) rfl hR
    refine wp_region_any hm (draw_any (ds := ds) (ρ := ρ) (w0 := { w with drawn := w.drawn + 1 }) hc hcm T ?_ ops.size _ ρ a _ (by simp) ?_ ?_)
    · intro τ a' w' h1 h2 h3 h4
      rw [e2, e4] at h4
      rw [e3] at h1
      exact hQ τ a' w' h1 h2 h3 (Sim.of_heap0 (w := w) (w0 := { w with drawn := w.drawn + 1 }) rfl ⟨rfl, rfl⟩ h4)
    · refine Nat.le_trans List.countP_le_length (by simp)
    · have hnone : ∀ k, ¬ Dn (Array.replicate ops.size false) k := fun k h => by
        unfold Dn at h
        simp only [Array.getD_eq_getD_getElem?, Array.getElem?_replicate] at h
        split at h <;> simp at h
      have hlt0 : ∀ i b, ρ.bl i = some b → i < (sS 0).next := fun i b hi => by rw [e2]; exact (hR.blk i b hi).1
      have hcl : Closed ops (Dn (Array.replicate ops.size false)) := fun k o ho hd => absurd hd (hnone k)
      have hmix : ∀ x, x < (sS 0).next → (mix ops.size sS fS fp (Dn (Array.replicate ops.size false))).get x = (sS 0).get x := fun x hx =>
        T.mix_get ⟨Nat.zero_le _, hx, fun j hj => by omega, fun j _ _ _ => hnone j⟩
      have M := T.monos (Nat.zero_le ops.size) (Nat.le_refl _)
      have hsim0 : Sim G ρ (sS 0) ({ w with drawn := w.drawn + 1 } : World) ρ (mix ops.size sS fS fp (Dn (Array.replicate ops.size false))) ({ w with drawn := w.drawn + 1 } : World) := by
        have h0 : Sim G ρ (sS 0) ({ w with drawn := w.drawn + 1 } : World) ρ (sS 0) ({ w with drawn := w.drawn + 1 } : World) := by rw [e2]; exact Sim.refl hR'
        exact {
          base := h0.base
          le := h0.le
          rel := by
            refine ⟨fun i b hi => ?_, fun i j b hi hj ki kj => ?_, h0.rel.glob, Nat.le_trans h0.rel.globN M.nxt⟩
            · obtain ⟨h1, o, ho, hb⟩ := h0.rel.blk i b hi
              exact ⟨Nat.lt_of_lt_of_le h1 M.nxt, o, ho, by rw [hmix i h1]; exact hb⟩
            · rw [hmix i (hlt0 i b hi)] at ki
              rw [hmix j (hlt0 j b hj)] at kj
              exact h0.rel.inj i j b hi hj ki kj
          frame := h0.frame
          hsz := h0.hsz
          nxt := M.nxt
          newid := h0.newid
          newblk := fun i b h1 h2 => by rw [h1] at h2; cases h2
          low := M.low
          keep := fun i hi _ => hmix i hi
          dead := fun i hi h1 => by rw [hmix i hi]; exact h1
          stay := fun _ _ _ _ _ => rfl
          out := h0.out }
      exact {
        closed := hcl
        sim := hsim0
        gap := fun i b hi k hk _ h => by
          have h1 := hlt0 i b hi
          have := T.next_le (Nat.zero_le k) (Nat.le_of_lt hk)
          omega
        size := hn
        defers := hd
        rest := fun t _ => by
          rw [e1, e2]
          exact (hr t).ext (le_below fun i b hi => (hR.blk i b hi).1)
        done := fun k o t ho hd => absurd hd (hnone k)
        known := fun x b k hk hb hx _ => by
          have h1 := hlt0 x b hb
          rw [hmix x h1, e2]
          obtain ⟨_, o', _, h5⟩ := hR.blk x b hb
          refine h5.sc.ext (Ren.le_trans (le_below fun i b hi => ?_) (Ren.below_mono (Ren.le_refl _) (T.next_le (Nat.zero_le k) hk)))
          exact hlt0 i b hi }
  · cases h

theorem aDrawGo_mono (hcm : CallMono callf) {pb : List Nat} {N : Nat} : ∀ (l : List Oper) (r : Regs) (σ : AS) (acc : List Ent) {r' : Regs} {σ' : AS}, aDrawGo P G callf n ops pb N sj l r σ acc = some (r', σ') → AMono σ σ'
  | [], r, σ, acc, r', σ', h => by
    simp only [aDrawGo, bite_eq] at h
    split at h
    · cases h; exact AMono.refl _
    · cases h
  | o :: l, r, σ, acc, r', σ', h => by
    simp only [aDrawGo, bite_eq] at h
    split at h
    · split at h
      · rename_i v s1 hst
        split at h
        · exact (merge_mono (aStep_mono hcm hst)).trans (aDrawGo_mono hcm l _ _ _ h)
        · cases h
      · cases h
    · split at h
      · exact aDrawGo_mono hcm l _ _ _ h
      · cases h

theorem aDraw_mono (hcm : CallMono callf) {r r' : Regs} {σ σ' : AS} (h : aDraw P G callf n ops r σ = some (r', σ')) : AMono σ σ' := by
  unfold aDraw at h
  split at h
  · exact aDrawGo_mono hcm _ _ _ _ h
  · cases h

end draw
end Go.Proofs.YtacpdefmnijhnaaGreat.Abs
