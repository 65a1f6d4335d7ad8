/- Memories that are alike but for the numbers of their new blocks. No program. -/
import Derived.Test.YtacpdefmnijhnaaGreatAbsU
set_option linter.unusedSimpArgs false
set_option linter.unusedVariables false
namespace Go.Proofs.YtacpdefmnijhnaaGreat.Abs

/-- New blocks and their partners: the number here, the number there. -/
abbrev Pairs : Type := List (Nat × Nat)

noncomputable def passoc : Pairs → Nat → Option Nat
  | [], _ => none
  | p :: l, i => bite (Nat.beq p.1 i) (some p.2) (passoc l i)

noncomputable def bto (base : Nat) (β : Pairs) (i : Nat) : Option Nat := bite (Nat.blt i base) (some i) (passoc β i)

noncomputable def onB (o : Option Nat) (j : Nat) : Bool := match o with | some k => Nat.beq k j | none => false

/-- The value, its blocks' numbers by β, is the other one. -/
noncomputable def vm (base : Nat) (β : Pairs) : Nat → Value → Value → Bool
  | 0, _, _ => false
  | n + 1, v, u => match v, u with
    | .pointer (some a), .pointer (some b) => onB (bto base β a.block) b.block && Nat.beq a.off b.off && decide (a.spot = b.spot)
    | .slice (some a) l c, .slice (some b) l' c' => Nat.beq l l' && Nat.beq c c' && (match a.spot with
      | none => onB (bto base β a.block) b.block && Nat.beq a.off b.off && decide (b.spot = none)
      | some _ => decide (a = b))
    | .map (some a), .map (some b) => onB (bto base β a) b
    | .func (.func f) x c, .func (.func g) y d => Nat.beq f g && veqL (vm base β n) x.toList y.toList && veqL (vm base β n) c.toList d.toList
    | .iface t x, .iface t' y => Nat.beq t t' && vm base β n x y
    | .agg x, .agg y => veqL (vm base β n) x.toList y.toList
    | .tuple x, .tuple y => veqL (vm base β n) x.toList y.toList
    | v, u => flat1 v && veq 9 v u

structure Back (τ τc : Ren) (base : Nat) (β : Pairs) : Prop where
  bl : ∀ i j b, bto base β i = some j → τ.bl j = some b → τc.bl i = some b
  sz : ∀ i j, bto base β i = some j → τc.sz i = τ.sz j

theorem onB_eq {o : Option Nat} {j : Nat} (h : onB o j = true) : o = some j := by
  unfold onB at h
  split at h
  · rw [Nat.eq_of_beq_eq_true h]
  · cases h

theorem vmL_rel {τ τc : Ren} {f : Value → Value → Bool} (h : ∀ v u x, f v u = true → VRel τ u x → VRel τc v x) : ∀ {l m : List Value} {xs : List Value}, veqL f l m = true → LRel (VRel τ) m xs → LRel (VRel τc) l xs
  | [], [], [], _, _ => trivial
  | a :: l, b :: m, x :: xs, he, hr => by
    simp only [veqL, Bool.and_eq_true] at he
    exact ⟨h _ _ _ he.1 hr.1, vmL_rel h he.2 hr.2⟩
  | [], _ :: _, _, he, _ => by cases he
  | _ :: _, [], _, he, _ => by cases he
  | [], [], _ :: _, _, hr => hr.elim
  | _ :: _, _ :: _, [], _, hr => hr.elim

theorem vm_rel {τ τc : Ren} {base : Nat} {β : Pairs} (hb : Back τ τc base β) : ∀ (n : Nat) {v u x : Value}, vm base β n v u = true → VRel τ u x → VRel τc v x
  | 0, _, _, _, h, _ => by cases h
  | n + 1, v, u, x, h, hr => by
    have ih : ∀ v u x, vm base β n v u = true → VRel τ u x → VRel τc v x := fun _ _ _ h h' => vm_rel hb n h h'
    unfold vm at h
    split at h
    · rename_i a b
      simp only [Bool.and_eq_true, Nat.beq_eq, decide_eq_true_eq] at h
      obtain ⟨k, h1, h2, rfl⟩ := vrel_ptr.1 hr
      exact vrel_ptr.2 ⟨k, hb.bl _ _ _ (onB_eq h.1.1) h1, h.2.trans h2, by rw [h.1.2]⟩
    · rename_i a l c b l' c'
      simp only [Bool.and_eq_true, Nat.beq_eq] at h
      obtain ⟨⟨rfl, rfl⟩, h⟩ := h
      split at h
      · rename_i hs
        simp only [Bool.and_eq_true, Nat.beq_eq, decide_eq_true_eq] at h
        rcases vrel_slice.1 hr with ⟨k, k', h1, h2, h3, rfl⟩ | ⟨h1, _, _, _⟩
        · exact vrel_slice.2 (.inl ⟨k, k', hb.bl _ _ _ (onB_eq h.1.1) h1, hs, by rw [hb.sz _ _ (onB_eq h.1.1), h.1.2]; exact h3, by rw [h.1.2]⟩)
        · exact absurd h.2 h1
      · rename_i hs
        simp only [decide_eq_true_eq] at h
        subst h
        rcases vrel_slice.1 hr with ⟨k, k', h1, h2, h3, rfl⟩ | h1
        · rw [hs] at h2; cases h2
        · exact vrel_slice.2 (.inr h1)
    · rename_i a b
      obtain ⟨k, h1, rfl⟩ := vrel_map.1 hr
      exact vrel_map.2 ⟨k, hb.bl _ _ _ (onB_eq h) h1, rfl⟩
    · rename_i f x1 c g y d
      simp only [Bool.and_eq_true, Nat.beq_eq] at h
      obtain ⟨⟨rfl, h1⟩, h2⟩ := h
      obtain ⟨f', c', h3, h4, rfl⟩ := vrel_func.1 hr
      exact vrel_func.2 ⟨f', c', vmL_rel ih h1 h3, vmL_rel ih h2 h4, rfl⟩
    · rename_i t x1 t' y
      simp only [Bool.and_eq_true, Nat.beq_eq] at h
      obtain ⟨rfl, h1⟩ := h
      obtain ⟨x', h3, rfl⟩ := vrel_iface.1 hr
      exact vrel_iface.2 ⟨x', ih _ _ _ h1 h3, rfl⟩
    · obtain ⟨x', h3, rfl⟩ := vrel_agg.1 hr
      exact vrel_agg.2 ⟨x', vmL_rel ih h h3, rfl⟩
    · obtain ⟨x', h3, rfl⟩ := vrel_tuple.1 hr
      exact vrel_tuple.2 ⟨x', vmL_rel ih h h3, rfl⟩
    · simp only [Bool.and_eq_true] at h
      obtain rfl := veq_eq 9 _ _ h.2
      have := (vrel_flat1 h.1).1 hr
      exact (vrel_flat1 h.1).2 this

noncomputable def vmE (base : Nat) (β : Pairs) : List (Value × Value) → List (Value × Value) → Bool
  | [], [] => true
  | a :: l, b :: m => vm base β 9 a.1 b.1 && vm base β 9 a.2 b.2 && vmE base β l m
  | _, _ => false

theorem vmE_rel {τ τc : Ren} {base : Nat} {β : Pairs} (hb : Back τ τc base β) : ∀ {l m : List (Value × Value)} {xs : List MapEntry}, vmE base β l m = true → LRel (ERel τ) m xs → LRel (ERel τc) l xs
  | [], [], [], _, _ => trivial
  | a :: l, b :: m, x :: xs, he, hr => by
    simp only [vmE, Bool.and_eq_true] at he
    exact ⟨⟨vm_rel hb 9 he.1.1 hr.1.1, vm_rel hb 9 he.1.2 hr.1.2⟩, vmE_rel hb he.2 hr.2⟩
  | [], _ :: _, _, he, _ => by cases he
  | _ :: _, [], _, he, _ => by cases he
  | [], [], _ :: _, _, hr => hr.elim
  | _ :: _, _ :: _, [], _, hr => hr.elim

/-- The block is dead, or it is the other one. -/
noncomputable def bm (base : Nat) (β : Pairs) (b c : Blk) : Bool :=
  Nat.beq b.kind 0 || (Nat.beq b.kind c.kind && !Nat.beq b.kind 5 && Nat.beq b.elem c.elem && Nat.beq b.esz c.esz && veqL (vm base β 9) b.vals c.vals && vmE base β b.ents c.ents)

theorem flats_rel {τ τc : Ren} {l m : List Value} (h : ∀ v ∈ m, flat1 v = true) (hl : l = m) : l = m := hl

theorem bm_rel {τ τc : Ren} {base : Nat} {β : Pairs} (hb : Back τ τc base β) {i j : Nat} (hi : bto base β i = some j) {b c : Blk} {o : Obj} (h : bm base β b c = true)
    (hf : (b.kind = 3 ∨ b.kind = 4) → veqL (veq 9) b.vals c.vals = true) (hr : BRel τ j c o) : BRel τc i b o := by
  obtain ⟨kind, elem, esz, vals, ents⟩ := b
  obtain ⟨kind', elem', esz', vals', ents'⟩ := c
  unfold bm at h
  dsimp only at h hf
  rw [Bool.or_eq_true] at h
  rcases h with h | h
  · have : kind = 0 := Nat.eq_of_beq_eq_true h
    subst this
    trivial
  · simp only [Bool.and_eq_true, Nat.beq_eq] at h
    obtain ⟨⟨⟨⟨⟨rfl, _⟩, rfl⟩, rfl⟩, hv⟩, he⟩ := h
    match kind, hr with
    | 0, _ => trivial
    | 1, ⟨c, fr, h1, h2, h3⟩ => exact ⟨c, fr, h1, h2, vmL_rel (fun _ _ _ h h' => vm_rel hb 9 h h') hv h3⟩
    | 2, ⟨c, fr, p, q, h1, h2, h3, h4, h5⟩ => exact ⟨c, fr, p, q, h1, h2, h3, vmL_rel (fun _ _ _ h h' => vm_rel hb 9 h h') hv h4, by rw [hb.sz _ _ hi]; exact h5⟩
    | 3, ⟨es, cl, h1, h2, h3, h4⟩ =>
      have := veqL_eq (veq_eq 9) (hf (.inl rfl))
      exact ⟨es, cl, h1, vmE_rel hb he h2, h3, this.trans h4⟩
    | 4, ⟨s, h1, h2⟩ =>
      have := veqL_eq (veq_eq 9) (hf (.inr rfl))
      exact ⟨s, this.trans h1, h2⟩
    | 5, _ => rename_i h5; exact absurd h5 (by decide)

/-- Of each block that β knows: that it is dead, or its partner. -/
noncomputable def alikeAt (base : Nat) (β : Pairs) (σc σ2 : AS) (i : Nat) : Bool := match bto base β i with
  | some j => Nat.blt j σ2.next && bm base β (σc.get i) (σ2.get j) && (!(Nat.beq (σc.get i).kind 3 || Nat.beq (σc.get i).kind 4) || veqL (veq 9) (σc.get i).vals (σ2.get j).vals)
  | none => true

noncomputable def allBelow (f : Nat → Bool) : Nat → Bool
  | 0 => true
  | n + 1 => f n && allBelow f n

theorem allBelow_at {f : Nat → Bool} : ∀ {n i : Nat}, allBelow f n = true → i < n → f i = true
  | 0, _, _, h => absurd h (Nat.not_lt_zero _)
  | n + 1, i, h, hi => by
    simp only [allBelow, Bool.and_eq_true] at h
    rcases Nat.lt_or_ge i n with hlt | hge
    · exact allBelow_at h.2 hlt
    · obtain rfl : i = n := by omega
      exact h.1

/-- The partners are new and no two of them one. -/
noncomputable def oneOne (base : Nat) : Pairs → Bool
  | [] => true
  | p :: l => Nat.ble base p.2 && l.all (fun q => !Nat.beq q.2 p.2) && oneOne base l

theorem oneOne_new {base : Nat} : ∀ {β : Pairs} {i j : Nat}, oneOne base β = true → passoc β i = some j → base ≤ j
  | [], _, _, _, h => by cases h
  | p :: l, i, j, h, hp => by
    simp only [oneOne, Bool.and_eq_true, Nat.ble_eq] at h
    rw [passoc, bite_eq] at hp
    split at hp
    · cases hp; exact h.1.1
    · exact oneOne_new h.2 hp

theorem passoc_mem : ∀ {β : Pairs} {i j : Nat}, passoc β i = some j → ∃ q ∈ β, q.2 = j
  | [], _, _, h => by cases h
  | p :: l, i, j, h => by
    rw [passoc, bite_eq] at h
    split at h
    · cases h; exact ⟨p, by simp, rfl⟩
    · obtain ⟨q, h1, h2⟩ := passoc_mem h
      exact ⟨q, by simp [h1], h2⟩

theorem oneOne_inj {base : Nat} : ∀ {β : Pairs} {i k j : Nat}, oneOne base β = true → passoc β i = some j → passoc β k = some j → i = k
  | [], _, _, _, _, h, _ => by cases h
  | p :: l, i, k, j, h, hi, hk => by
    simp only [oneOne, Bool.and_eq_true, List.all_eq_true, Bool.not_eq_true'] at h
    rw [passoc, bite_eq] at hi hk
    have ne : ∀ {i : Nat}, passoc l i = some p.2 → False := fun hq => by
      obtain ⟨q, h1, h2⟩ := passoc_mem hq
      have := h.1.2 q h1
      rw [h2, Nat.beq_refl] at this
      cases this
    split at hi <;> split at hk
    · rename_i e1 e2
      exact (Nat.eq_of_beq_eq_true e1).symm.trans (Nat.eq_of_beq_eq_true e2)
    · cases hi; exact (ne hk).elim
    · cases hk; exact (ne hi).elim
    · exact oneOne_inj h.2 hi hk

noncomputable def alike (base : Nat) (β : Pairs) (σc σ2 : AS) : Bool :=
  oneOne base β && β.all (fun p => Nat.blt p.1 σc.next) && Nat.ble σc.low σ2.low && allBelow (alikeAt base β σc σ2) σc.next

theorem bto_inj {base : Nat} {β : Pairs} (h : oneOne base β = true) {i k j : Nat} (hi : bto base β i = some j) (hk : bto base β k = some j) : i = k := by
  unfold bto at hi hk
  rw [bite_eq] at hi hk
  split at hi <;> split at hk
  · cases hi; cases hk; rfl
  · rename_i h1 _
    cases hi
    rw [Nat.blt_eq] at h1
    have := oneOne_new h hk
    omega
  · rename_i _ h1
    cases hk
    rw [Nat.blt_eq] at h1
    have := oneOne_new h hi
    omega
  · exact oneOne_inj h hi hk

theorem bm_kind {base : Nat} {β : Pairs} {b c : Blk} (h : bm base β b c = true) (h0 : b.kind ≠ 0) : c.kind = b.kind := by
  unfold bm at h
  simp only [Bool.or_eq_true, Bool.and_eq_true, Nat.beq_eq] at h
  rcases h with h | h
  · exact absurd h h0
  · exact h.1.1.1.1.1.symm

theorem passoc_lt {n : Nat} : ∀ {β : Pairs} {i j : Nat}, β.all (fun p => Nat.blt p.1 n) = true → passoc β i = some j → i < n
  | [], _, _, _, h => by cases h
  | p :: l, i, j, h, hp => by
    simp only [List.all_cons, Bool.and_eq_true, Nat.blt_eq] at h
    rw [passoc, bite_eq] at hp
    split at hp
    · rename_i e
      rw [← Nat.eq_of_beq_eq_true e]; exact h.1
    · exact passoc_lt h.2 hp

/-- What is said of one memory is said of the one that is alike. -/
theorem Sim.alike {G : Nat} {ρ τ : Ren} {σ σ2 σc : AS} {w w' : World} (h : Sim G ρ σ w τ σ2 w') (hm : AMono σ σc) {β : Pairs} (ha : Abs.alike σ.next β σc σ2 = true) :
    ∃ τc, Sim G ρ σ w τc σc w' ∧ Back τ τc σ.next β := by
  unfold Abs.alike at ha
  simp only [Bool.and_eq_true, Nat.ble_eq] at ha
  obtain ⟨⟨⟨hone, hlts⟩, hlow⟩, hall⟩ := ha
  let τc : Ren := ⟨fun i => match bto σ.next β i with | some j => τ.bl j | none => none, fun i => match bto σ.next β i with | some j => τ.sz j | none => (0, 0)⟩
  have old : ∀ i, i < σ.next → bto σ.next β i = some i := fun i hi => by
    unfold bto; rw [bite_eq, if_pos (by rw [Nat.blt_eq]; exact hi)]
  have nu : ∀ i j, ¬ i < σ.next → bto σ.next β i = some j → passoc β i = some j := fun i j hi hj => by
    unfold bto at hj; rw [bite_eq, if_neg (by rw [Nat.blt_eq]; exact hi)] at hj; exact hj
  have lt : ∀ i j, bto σ.next β i = some j → i < σc.next := fun i j hj => by
    by_cases hi : i < σ.next
    · exact Nat.lt_of_lt_of_le hi hm.nxt
    · exact passoc_lt hlts (nu i j hi hj)
  have tbl : ∀ i j, bto σ.next β i = some j → τc.bl i = τ.bl j := fun i j hj => by
    show (match bto σ.next β i with | some j => τ.bl j | none => none) = _
    rw [hj]
  have tb : ∀ i b, τc.bl i = some b → ∃ j, bto σ.next β i = some j ∧ τ.bl j = some b := fun i b hi => by
    cases hj : bto σ.next β i with
    | none =>
      have : τc.bl i = none := by
        show (match bto σ.next β i with | some j => τ.bl j | none => none) = _
        rw [hj]
      rw [this] at hi; cases hi
    | some j => exact ⟨j, rfl, by rw [← tbl i j hj]; exact hi⟩
  have tsz : ∀ i j, bto σ.next β i = some j → τc.sz i = τ.sz j := fun i j hj => by
    show (match bto σ.next β i with | some j => τ.sz j | none => (0, 0)) = _
    rw [hj]
  have back : Back τ τc σ.next β := ⟨fun i j b hi hb => by rw [tbl i j hi]; exact hb, tsz⟩
  have key : ∀ i j, bto σ.next β i = some j → bm σ.next β (σc.get i) (σ2.get j) = true ∧ ((σc.get i).kind = 3 ∨ (σc.get i).kind = 4 → veqL (veq 9) (σc.get i).vals (σ2.get j).vals = true) := fun i j hj => by
    have := allBelow_at hall (lt i j hj)
    unfold alikeAt at this
    rw [hj] at this
    simp only [Bool.and_eq_true, Bool.or_eq_true, Bool.not_eq_true', Bool.or_eq_false_iff] at this
    refine ⟨this.1.2, fun hk => ?_⟩
    rcases this.2 with h0 | h0
    · rcases hk with hk | hk
      · rw [hk] at h0; exact absurd h0.1 (by decide)
      · rw [hk] at h0; exact absurd h0.2 (by decide)
    · exact h0
  refine ⟨τc, { base := h.base, le := ?_, rel := ⟨?_, ?_, ?_, Nat.le_trans h.base.globN hm.nxt⟩, frame := h.frame, hsz := h.hsz, nxt := hm.nxt, newid := ?_, newblk := ?_, low := hm.low, keep := hm.keep, dead := hm.dead,
                stay := fun i b hi hk hl => h.stay i b hi hk (Nat.lt_of_lt_of_le hl hlow), out := h.out }, back⟩
  · intro i b hi
    have hlt := (h.base.blk i b hi).1
    obtain ⟨h1, h2⟩ := h.le i b hi
    exact ⟨by rw [tbl i i (old i hlt)]; exact h1, by rw [tsz i i (old i hlt)]; exact h2⟩
  · intro i b hi
    obtain ⟨j, hj, hb⟩ := tb i b hi
    obtain ⟨_, o, ho, hr⟩ := h.rel.blk j b hb
    exact ⟨lt i j hj, o, ho, bm_rel back hj (key i j hj).1 (key i j hj).2 hr⟩
  · intro i k b hi hk ki kk
    obtain ⟨j, hj, hb⟩ := tb i b hi
    obtain ⟨m, hm', hb'⟩ := tb k b hk
    have e := h.rel.inj j m b hb hb' (by rw [bm_kind (key i j hj).1 ki]; exact ki) (by rw [bm_kind (key k m hm').1 kk]; exact kk)
    subst e
    exact bto_inj hone hj hm'
  · intro g hg
    rw [tbl g g (old g (Nat.lt_of_lt_of_le hg h.base.globN))]
    exact h.rel.glob g hg
  · intro i b hi hn
    obtain ⟨j, hj, hb⟩ := tb i b hi
    by_cases hlt : i < σ.next
    · rw [old i hlt] at hj
      cases hj
      exact h.newid i b hb hn
    · omega
  · intro i b hi hn
    obtain ⟨j, hj, hb⟩ := tb i b hi
    by_cases hlt : i < σ.next
    · rw [old i hlt] at hj
      cases hj
      have := h.newid i b hb hn
      omega
    · have hge := oneOne_new hone (nu i j hlt hj)
      have hρ : ρ.bl j = none := by
        cases hq : ρ.bl j with
        | none => rfl
        | some b' => have := (h.base.blk j b' hq).1; omega
      rcases h.newblk j b hb hρ with h1 | ⟨m, h1, h2, h3⟩
      · exact .inl h1
      · have hmlt := (h.base.blk m b h1).1
        refine .inr ⟨m, h1, h2, ?_⟩
        rcases Nat.eq_zero_or_pos (σc.get m).kind with h0 | h0
        · exact h0
        · have := bm_kind (key m m (old m hmlt)).1 (by omega)
          omega

/-- Partners, found along what two values and their blocks name. -/
noncomputable def gather (σ1 σ2 : AS) (base : Nat) : Nat → List (Value × Value) → Pairs → Pairs
  | 0, _, β => β
  | _ + 1, [], β => β
  | f + 1, p :: l, β =>
    let visit := fun (i j : Nat) => if Nat.blt i base then gather σ1 σ2 base f l β else match passoc β i with
      | some _ => gather σ1 σ2 base f l β
      | none => gather σ1 σ2 base f ((σ1.get i).vals.zip (σ2.get j).vals ++ l) ((i, j) :: β)
    match p.1, p.2 with
    | .pointer (some a), .pointer (some b) => visit a.block b.block
    | .slice (some a) _ _, .slice (some b) _ _ => if a.spot.isNone then visit a.block b.block else gather σ1 σ2 base f l β
    | .map (some a), .map (some b) => visit a b
    | .agg x, .agg y => gather σ1 σ2 base f (x.toList.zip y.toList ++ l) β
    | .tuple x, .tuple y => gather σ1 σ2 base f (x.toList.zip y.toList ++ l) β
    | .iface _ x, .iface _ y => gather σ1 σ2 base f ((x, y) :: l) β
    | .func _ _ x, .func _ _ y => gather σ1 σ2 base f (x.toList.zip y.toList ++ l) β
    | _, _ => gather σ1 σ2 base f l β

/-- What the blocks that lay before hold. -/
noncomputable def olds (σ1 σ2 : AS) (low : Nat) : Nat → List (Value × Value)
  | 0 => []
  | n + 1 => if Nat.ble low n then (σ1.get n).vals.zip (σ2.get n).vals ++ olds σ1 σ2 low n else []

/-- Whether a run's answer is that of another run, but for the numbers of new blocks. -/
noncomputable def same (base : Nat) (v1 v2 : Value) (σ1 σ2 : AS) : Option Pairs :=
  let β := gather σ1 σ2 base 1000 ((v1, v2) :: olds σ1 σ2 (Nat.min σ1.low σ2.low) base) []
  if vm base β 9 v1 v2 && alike base β σ1 σ2 then some β else none

/-- The run's answer is this one, but for the numbers of its blocks and for blocks that nobody can reach. -/
noncomputable def sameTold (v : Value) (bs : List Blk) : Option (Value × AS) → Bool
  | some (v2, σ2) => match same 0 v v2 (lay0 bs ⟨0, 0, .e⟩) σ2 with
    | some _ => true
    | none => false
  | none => false

theorem Knows.alike {P : Program} {K : Tbl} (hp : ProgOk P) (hk : KOk P K) {fuel f : Nat} {e : Memo} (ha : e.1.all flat = true) (h : sameTold e.2.1 e.2.2 (aCall P K 0 fuel f e.1 ⟨0, 0, .e⟩) = true) : Knows P f e := by
  intro G g as σ u σ1 ρ w as' hu hR has
  unfold Tbl.move at hu
  dsimp only at hu
  rw [bite_eq] at hu
  split at hu
  · rename_i hc
    simp only [Bool.and_eq_true] at hc
    obtain rfl := Nat.eq_of_beq_eq_true hc.1
    obtain rfl := veqL_eq (veq_eq 9) hc.2
    rw [List.all_eq_true] at ha
    obtain rfl := flats_eq ha has
    unfold sameTold at h
    split at h
    · rename_i v2 σ2 hrun
      split at h
      · rename_i β hsame
        unfold same at hsame
        dsimp only at hsame
        split at hsame
        · rename_i hc2
          rw [Bool.and_eq_true] at hc2
          have hR0 : R 0 ⟨fun _ => none, fun _ => (0, 0)⟩ ⟨0, 0, .e⟩ w :=
            ⟨fun i b hi => (nomatch hi), fun i j b hi => (nomatch hi), fun g hg => absurd hg (Nat.not_lt_zero _), Nat.le_refl _⟩
          have hrel : ∀ l : List Value, (∀ x ∈ l, flat x = true) → LRel (VRel ⟨fun _ => none, fun _ => (0, 0)⟩) l l := by
            intro l
            induction l with
            | nil => intro _; trivial
            | cons a l ih => intro h; exact ⟨(vrel_flat (h a (by simp))).2 rfl, ih fun x hx => h x (by simp [hx])⟩
          obtain ⟨h1, h2⟩ := aCall_sound hp hk fuel g _ ⟨0, 0, .e⟩ v2 σ2 _ w _ hrun hR0 (hrel _ ha)
          refine ⟨h1, h2.mono fun e w' ⟨v', τ, he, hv', hs⟩ => ?_⟩
          obtain ⟨τc, hs2, hb⟩ := hs.alike (AMono.lay0 _ _) hc2.2
          obtain ⟨τ', h3, h4⟩ := lay_sim hR hs2 (vm_rel hb 9 hc2.1 hv') (lay0_blocks _) hu
          exact ⟨v', τ', he, h3, h4⟩
        · cases hsame
      · cases h
    · cases h
  · exact K0_ok P G g as σ u σ1 ρ w as' hu hR has

end Go.Proofs.YtacpdefmnijhnaaGreat.Abs
