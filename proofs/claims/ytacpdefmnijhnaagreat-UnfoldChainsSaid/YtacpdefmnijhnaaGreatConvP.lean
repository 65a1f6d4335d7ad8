/- From a memory that is known by symbols to one that is known outright, of some blocks a part alone. No program. -/
import Derived.Test.YtacpdefmnijhnaaGreatConv
set_option linter.unusedSimpArgs false
set_option linter.unusedVariables false
namespace Go.Proofs.YtacpdefmnijhnaaGreat.Abs

/-- A part of the other block, to be read alone. -/
def Part (β : Pairs) (b c : Blk) : Prop := b.kind = 5 ∧ (c.kind = 1 ∨ c.kind = 2) ∧ b.elem = c.elem ∧ ∀ (j : Nat) (v : Value), b.vals[j]? = some v → known v = true → ∃ u, c.vals[j]? = some u ∧ vm 0 β 9 v u = true

theorem Part.rel {τ τc : Ren} {β : Pairs} (hb : Back τ τc 0 β) {i j : Nat} {b c : Blk} {o : Obj} (h : Part β b c) (hr : BRel τ j c o) : BRel τc i b o := by
  obtain ⟨kind, elem, esz, vals, ents⟩ := b
  obtain ⟨kind', elem', esz', vals', ents'⟩ := c
  obtain ⟨h1, h2, h3, h4⟩ := h
  dsimp only at h1 h2 h3 h4
  subst h1 h3
  rcases h2 with rfl | rfl
  · obtain ⟨c, fr, rfl, hf, hl⟩ := hr
    refine ⟨c, fr, rfl, fun n v hv hk => ?_⟩
    obtain ⟨u, hu, hm⟩ := h4 n v hv hk
    obtain ⟨x, hx, hrel⟩ := hl.get n hu
    exact ⟨x, by rw [← Array.getElem?_toList]; exact hx, vm_rel hb 9 hm hrel⟩
  · obtain ⟨c, fr, p, q, rfl, hf, hpq, hl, _⟩ := hr
    refine ⟨c, fr, rfl, fun n v hv hk => ?_⟩
    obtain ⟨u, hu, hm⟩ := h4 n v hv hk
    obtain ⟨x, hx, hrel⟩ := hl.get n hu
    refine ⟨x, ?_, vm_rel hb 9 hm hrel⟩
    rw [← Array.getElem?_toList, hpq]
    rw [List.getElem?_append_left (List.getElem?_eq_some_iff.1 hx).1]
    exact hx

/-- The block is dead, or the other one, or a part of it. -/
def BM (β : Pairs) (b c : Blk) : Prop := (bm 0 β b c = true ∧ ((b.kind = 3 ∨ b.kind = 4) → veqL (veq 9) b.vals c.vals = true)) ∨ Part β b c

theorem BM.rel {τ τc : Ren} {β : Pairs} (hb : Back τ τc 0 β) {i j : Nat} (hi : bto 0 β i = some j) {b c : Blk} {o : Obj} (h : BM β b c) (hr : BRel τ j c o) : BRel τc i b o := by
  rcases h with ⟨h1, h2⟩ | h
  · exact bm_rel hb hi h1 h2 hr
  · exact h.rel hb hr

theorem BM.kind {β : Pairs} {b c : Blk} (h : BM β b c) (h0 : b.kind ≠ 0) : c.kind ≠ 0 := by
  rcases h with ⟨h1, _⟩ | h
  · rw [bm_kind h1 h0]; exact h0
  · rcases h.2.1 with e | e <;> rw [e] <;> decide

/-- Each block of the known memory: that it is dead, or its partner, or a part of it; names from m on are those of new blocks. -/
structure ConvR (m : Nat) (σ σ2 : AS) (β : Pairs) (σc : AS) : Prop where
  keys : ∀ i j, passoc β i = some j → i < σc.next
  new : ∀ i j, passoc β i = some j → m ≤ i → σ.next ≤ j
  inj : ∀ i k j, passoc β i = some j → passoc β k = some j → (σc.get i).kind ≠ 0 → (σc.get k).kind ≠ 0 → i = k
  blk : ∀ i j, passoc β i = some j → BM β (σc.get i) (σ2.get j)

theorem Sim.same {ρ τ : Ren} {σ σ2 : AS} {w w' : World} (h : Sim 0 ρ σ w τ σ2 w') (hlow : σ.next ≤ σ2.low) : ∀ b, b < w.heap.size → w'.heap[b]? = w.heap[b]? := by
  intro b hb
  by_cases hn : ∀ i, ρ.bl i = some b → (σ.get i).kind = 0
  · exact h.frame b hb hn
  · obtain ⟨i, hi, hk⟩ : ∃ i, ρ.bl i = some b ∧ (σ.get i).kind ≠ 0 := by
      apply Classical.byContradiction
      intro hno
      exact hn fun i hi => Classical.byContradiction fun hk => hno ⟨i, hi, hk⟩
    exact h.stay i b hi hk (Nat.lt_of_lt_of_le (h.base.blk i b hi).1 hlow)

/-- On from a memory known outright: what it leaves of the blocks before. -/
theorem Sim.convR {ρ τ : Ren} {σ σ2 σc : AS} {w w' : World} {m : Nat} {β : Pairs} (h : Sim 0 ρ σ w τ σ2 w') (hlow : σ.next ≤ σ2.low) (hc : ConvR m σ σ2 β σc) :
    ∃ τc, R 0 τc σc w' ∧ Back τ τc 0 β ∧ ∀ τ2 s2 w2, Sim 0 τc σc w' τ2 s2 w2 → m ≤ s2.low → (∀ b, b < w.heap.size → w2.heap[b]? = w.heap[b]?) ∧ w.heap.size ≤ w2.heap.size ∧ w2.os = w.os ∧ w2.output = w.output := by
  let τc : Ren := ⟨fun i => match passoc β i with | some j => τ.bl j | none => none, fun i => match passoc β i with | some j => τ.sz j | none => (0, 0)⟩
  have hbl : ∀ i b, τc.bl i = some b → ∃ j, passoc β i = some j ∧ τ.bl j = some b := by
    intro i b hi
    show ∃ j, _
    have : (match passoc β i with | some j => τ.bl j | none => none) = some b := hi
    cases hp : passoc β i with
    | none => rw [hp] at this; cases this
    | some j => rw [hp] at this; exact ⟨j, rfl, this⟩
  have hback : Back τ τc 0 β := ⟨fun i j b hij hb => by
      have hij : passoc β i = some j := hij
      show (match passoc β i with | some j => τ.bl j | none => none) = some b
      rw [hij]; exact hb, fun i j hij => by
      have hij : passoc β i = some j := hij
      show (match passoc β i with | some j => τ.sz j | none => (0, 0)) = τ.sz j
      rw [hij]⟩
  refine ⟨τc, ⟨?_, ?_, fun g hg => absurd hg (Nat.not_lt_zero _), Nat.zero_le _⟩, hback, fun τ2 s2 w2 h2 hm => ⟨fun b hb => ?_, Nat.le_trans h.hsz h2.hsz, h2.out.1.trans h.out.1, h2.out.2.trans h.out.2⟩⟩
  · intro i b hi
    obtain ⟨j, hj, hb⟩ := hbl i b hi
    obtain ⟨_, o, ho, hr⟩ := h.rel.blk j b hb
    exact ⟨hc.keys i j hj, o, ho, (hc.blk i j hj).rel hback (show bto 0 β i = some j from hj) hr⟩
  · intro i k b hi hk ki kk
    obtain ⟨j, hj, hb⟩ := hbl i b hi
    obtain ⟨l, hl, hb'⟩ := hbl k b hk
    have e : j = l := h.rel.inj j l b hb hb' ((hc.blk i j hj).kind ki) ((hc.blk k l hl).kind kk)
    subst e
    exact hc.inj i k j hj hl ki kk
  · have h1 := h.same hlow b hb
    have hb' : b < w'.heap.size := Nat.lt_of_lt_of_le hb h.hsz
    rw [← h1]
    by_cases hn : ∀ i, τc.bl i = some b → (σc.get i).kind = 0
    · exact h2.frame b hb' hn
    · obtain ⟨i, hi, hk⟩ : ∃ i, τc.bl i = some b ∧ (σc.get i).kind ≠ 0 := by
        apply Classical.byContradiction
        intro hno
        exact hn fun i hi => Classical.byContradiction fun hk => hno ⟨i, hi, hk⟩
      refine h2.stay i b hi hk ?_
      apply Classical.byContradiction
      intro hge
      have hge : m ≤ i := by omega
      obtain ⟨j, hj, hjb⟩ := hbl i b hi
      have hN := hc.new i j hj hge
      have hρ : ρ.bl j = none := by
        cases hr : ρ.bl j with
        | none => rfl
        | some b' =>
          have := (h.base.blk j b' hr).1
          omega
      rcases h.newblk j b hjb hρ with h3 | ⟨k, h3, h4, h5⟩
      · omega
      · have hk := (h.base.blk k b h3).1
        rw [h.keep k hk (Nat.lt_of_lt_of_le hk hlow)] at h5
        exact absurd h5 h4

end Go.Proofs.YtacpdefmnijhnaaGreat.Abs
