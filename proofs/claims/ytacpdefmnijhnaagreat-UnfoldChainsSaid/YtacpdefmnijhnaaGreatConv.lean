/- From a memory that is known by symbols to one that is known outright: what is not needed is forgotten. No program. -/
import Derived.Test.YtacpdefmnijhnaaGreatMapR
set_option linter.unusedSimpArgs false
set_option linter.unusedVariables false
namespace Go.Proofs.YtacpdefmnijhnaaGreat.Abs

/-- Some dead blocks. -/
noncomputable def deadMem (m : Nat) : AS := ⟨m, 0, .e⟩

theorem deadMem_get (m i : Nat) : (deadMem m).get i = Blk.dead := rfl

/-- Names of old blocks, no more. -/
noncomputable def oldRen (m : Nat) (β : Pairs) (ρ : Ren) : Ren := ⟨fun i => if i < m then (match passoc β i with | some j => ρ.bl j | none => none) else none, fun i => match passoc β i with | some j => ρ.sz j | none => (0, 0)⟩

/-- Each block of the known memory: that it is dead, or its partner; the first m are old ones and dead, the others new. -/
structure Conv (m : Nat) (σ σ2 : AS) (β : Pairs) (σc : AS) : Prop where
  low : σc.low = 0
  nxt : m ≤ σc.next
  keys : ∀ i j, passoc β i = some j → i < σc.next
  old : ∀ i j, passoc β i = some j → i < m → j < σ.next
  old0 : ∀ i, i < m → (σc.get i).kind = 0
  new : ∀ i j, passoc β i = some j → m ≤ i → σ.next ≤ j
  inj : ∀ i k j, passoc β i = some j → passoc β k = some j → i = k
  blk : ∀ i j, passoc β i = some j → bm 0 β (σc.get i) (σ2.get j) = true
  flat : ∀ i j, passoc β i = some j → ((σc.get i).kind = 3 ∨ (σc.get i).kind = 4) → veqL (veq 9) (σc.get i).vals (σ2.get j).vals = true

theorem Sim.conv {ρ τ : Ren} {σ σ2 σc : AS} {w w' : World} {m : Nat} {β : Pairs} (h : Sim 0 ρ σ w τ σ2 w') (hlow : σ.next ≤ σ2.low) (hc : Conv m σ σ2 β σc) :
    ∃ τc, Sim 0 (oldRen m β ρ) (deadMem m) w τc σc w' ∧ Back τ τc 0 β := by
  let τc : Ren := ⟨fun i => match passoc β i with | some j => τ.bl j | none => none, fun i => match passoc β i with | some j => τ.sz j | none => (0, 0)⟩
  have hbl : ∀ i b, τc.bl i = some b → ∃ j, passoc β i = some j ∧ τ.bl j = some b := by
    intro i b hi
    show ∃ j, _
    have : (match passoc β i with | some j => τ.bl j | none => none) = some b := hi
    cases hp : passoc β i with
    | none => rw [hp] at this; cases this
    | some j => rw [hp] at this; exact ⟨j, rfl, this⟩
  have hob : ∀ i b, (oldRen m β ρ).bl i = some b → i < m ∧ ∃ j, passoc β i = some j ∧ ρ.bl j = some b := by
    intro i b hi
    have h1 : (if i < m then (match passoc β i with | some j => ρ.bl j | none => none) else none) = some b := hi
    split at h1
    · rename_i hm
      cases hp : passoc β i with
      | none => rw [hp] at h1; cases h1
      | some j => rw [hp] at h1; exact ⟨hm, j, rfl, h1⟩
    · cases h1
  have hback : Back τ τc 0 β := ⟨fun i j b hij hb => by
      have hij : passoc β i = some j := hij
      show (match passoc β i with | some j => τ.bl j | none => none) = some b
      rw [hij]; exact hb, fun i j hij => by
      have hij : passoc β i = some j := hij
      show (match passoc β i with | some j => τ.sz j | none => (0, 0)) = τ.sz j
      rw [hij]⟩
  have same : ∀ b, b < w.heap.size → w'.heap[b]? = w.heap[b]? := by
    intro b hb
    by_cases hn : ∀ i, ρ.bl i = some b → (σ.get i).kind = 0
    · exact h.frame b hb hn
    · obtain ⟨i, hi, hk⟩ : ∃ i, ρ.bl i = some b ∧ (σ.get i).kind ≠ 0 := by
        apply Classical.byContradiction
        intro hno
        exact hn fun i hi => Classical.byContradiction fun hk => hno ⟨i, hi, hk⟩
      exact h.stay i b hi hk (Nat.lt_of_lt_of_le (h.base.blk i b hi).1 hlow)
  refine ⟨τc, ?_, hback⟩
  refine { base := ⟨fun i b hi => ?_, fun i j b hi hj ki => absurd rfl ki, fun g hg => absurd hg (Nat.not_lt_zero _), Nat.zero_le _⟩, le := ?_, rel := ⟨?_, ?_, fun g hg => absurd hg (Nat.not_lt_zero _), Nat.zero_le _⟩, frame := fun b hb _ => same b hb, hsz := h.hsz, nxt := hc.nxt, newid := ?_, newblk := ?_, low := by rw [hc.low]; exact Nat.le_refl _, keep := fun i _ hi => by rw [hc.low] at hi; exact absurd hi (Nat.not_lt_zero _), dead := ?_, stay := fun i b _ hk _ => absurd rfl hk, out := h.out }
  · obtain ⟨hm, j, hj, hb⟩ := hob i b hi
    obtain ⟨_, o, ho, _⟩ := h.base.blk j b hb
    exact ⟨hm, o, ho, trivial⟩
  · intro i b hi
    obtain ⟨hm, j, hj, hb⟩ := hob i b hi
    obtain ⟨h1, h2⟩ := h.le j b hb
    refine ⟨?_, ?_⟩
    · show (match passoc β i with | some j => τ.bl j | none => none) = some b
      rw [hj]; exact h1
    · show (match passoc β i with | some j => τ.sz j | none => (0, 0)) = (match passoc β i with | some j => ρ.sz j | none => (0, 0))
      rw [hj]; exact h2
  · intro i b hi
    obtain ⟨j, hj, hb⟩ := hbl i b hi
    obtain ⟨_, o, ho, hr⟩ := h.rel.blk j b hb
    exact ⟨hc.keys i j hj, o, ho, bm_rel hback (show bto 0 β i = some j from hj) (hc.blk i j hj) (hc.flat i j hj) hr⟩
  · intro i k b hi hk ki kk
    obtain ⟨j, hj, hb⟩ := hbl i b hi
    obtain ⟨l, hl, hb'⟩ := hbl k b hk
    have e : j = l := h.rel.inj j l b hb hb' (by rw [bm_kind (hc.blk i j hj) ki]; exact ki) (by rw [bm_kind (hc.blk k l hl) kk]; exact kk)
    subst e
    exact hc.inj i k j hj hl
  · intro i b hi hn
    obtain ⟨j, hj, hb⟩ := hbl i b hi
    rcases Nat.lt_or_ge i m with hlt | hge
    · exfalso
      have h1 : (if i < m then (match passoc β i with | some j => ρ.bl j | none => none) else none) = none := hn
      rw [if_pos hlt, hj] at h1
      have := h.newid j b hb h1
      have := hc.old i j hj hlt
      omega
    · exact hge
  · intro i b hi hn
    obtain ⟨j, hj, hb⟩ := hbl i b hi
    left
    have hρ : ρ.bl j = none := by
      rcases Nat.lt_or_ge i m with hlt | hge
      · have h1 : (if i < m then (match passoc β i with | some j => ρ.bl j | none => none) else none) = none := hn
        rw [if_pos hlt, hj] at h1
        exact h1
      · cases hr : ρ.bl j with
        | none => rfl
        | some b' =>
          have := (h.base.blk j b' hr).1
          have := hc.new i j hj hge
          omega
    rcases h.newblk j b hb hρ with h1 | ⟨k, h1, h2, h3⟩
    · exact h1
    · have hk := (h.base.blk k b h1).1
      rw [h.keep k hk (Nat.lt_of_lt_of_le hk hlow)] at h3
      exact absurd h3 h2
  · intro i hi _
    exact hc.old0 i hi

/-! ### Registers -/

/-- The registers are the others', by other names. -/
def RegOk (β : Pairs) (r2 r : Regs) : Prop := ∀ t, vm 0 β 9 (rget r2 t) (rget r t) = true

theorem RegOk.nil {β : Pairs} : RegOk β .e .e := fun t => by rw [rget_nil]; rfl

theorem RegOk.put {β : Pairs} {r2 r : Regs} {v2 v : Value} (d : Nat) (hv : vm 0 β 9 v2 v = true) (h : RegOk β r2 r) : RegOk β (rput r2 d v2) (rput r d v) := fun t => by
  rw [rget_rput, rget_rput]
  split
  · exact hv
  · exact h t

theorem RegOk.rel {β : Pairs} {r2 r : Regs} {τ τc : Ren} (h : RegOk β r2 r) (hb : Back τ τc 0 β) {tmps : Array Value} (hr : RegsRel τ r tmps) : RegsRel τc r2 tmps := fun t => vm_rel hb 9 (h t) (hr t)

section
variable {P : Program} {K : Tbl} {n : Nat}

/-- Other names for what is known. -/
theorem M.change {c : Code} {S S2 : Ren → Regs → AS → World → Prop} {Q : Nat → Ren → Regs → AS → World → Prop} (h : ∀ τ r σ w, S τ r σ w → ∃ τ2 r2 σ2, S2 τ2 r2 σ2 w ∧ ∀ tmps : Array Value, RegsRel τ r tmps → RegsRel τ2 r2 tmps) (k : M P n c S2 Q) : M P n c S Q := by
  intro a w τ r σ Post hS hr hn hd hP
  obtain ⟨τ2, r2, σ2, h1, h2⟩ := h τ r σ w hS
  exact k a w τ2 r2 σ2 Post h1 (h2 _ hr) hn hd hP

/-- A call of a function, out of what its body does. -/
theorem calls_of_M {F : FuncId} {fn : Func} {c : Code} (hf : P.funcs[F]? = some fn) (hb : fn.body = some c) (hnt : fn.ntmps = n) {args args' : List Value} {ρ : Ren} {σ : AS} {w : World} (hR : R 0 ρ σ w) (ha : LRel (VRel ρ) args args') (hlen : args.length ≤ n) {Post : Value → World → Prop}
    (hM : M P n c (fun τ r s w1 => τ = ρ ∧ r = rinit args 0 .e ∧ s = σ ∧ w1 = w) fun y τ r s w' => y ≤ 1 ∧ R 0 τ s w' ∧ ∃ vs, aResults P s r fn.results.toList = some vs ∧ ∀ v', VRel τ (aResult vs) v' → Post v' w') :
    Calls P F args'.toArray w fun e w' => ∃ v', e = .returned v' ∧ Post v' w' := by
  subst hnt
  refine calls_of_wp hf hb ?_
  have hsize : (args'.toArray ++ Array.replicate (fn.ntmps - args'.toArray.size) undef).size = fn.ntmps := by simp [← ha.length]; omega
  refine hM { tmps := args'.toArray ++ Array.replicate (fn.ntmps - args'.toArray.size) undef, defers := [] } w ρ _ σ _ ⟨rfl, rfl, rfl, rfl⟩ (act0_rel ha) hsize rfl ?_
  rintro y τ r s a' w' ⟨hy, hR', vs, hvs, hp⟩ k1 k2 k3
  obtain ⟨u, h5, h6⟩ := results_rel hvs hR' k1
  match y, hy with
  | 0, _ => exact ⟨k3, u, h5, u, rfl, hp u h6⟩
  | 1, _ => exact ⟨k3, u, h5, u, rfl, hp u h6⟩

end

end Go.Proofs.YtacpdefmnijhnaaGreat.Abs
