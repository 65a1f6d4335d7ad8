/- Known calls with a flat answer, of arguments and memories of which something is known. No program. -/
import Derived.Test.YtacpdefmnijhnaaGreatMove1
set_option linter.unusedSimpArgs false
set_option linter.unusedVariables false
namespace Go.Proofs.YtacpdefmnijhnaaGreat.Abs

/-- The call returns this flat value and changes nothing that was there. -/
def CallsAt (P : Program) (f : FuncId) (as' : List Value) (w : World) (v : Value) : Prop :=
  (callFunc f as'.toArray).run P w = .ok (.enter f as'.toArray) w ∧
  Calls P f as'.toArray w fun e w' => e = .returned v ∧ (∀ b, b < w.heap.size → w'.heap[b]? = w.heap[b]?) ∧ w.heap.size ≤ w'.heap.size ∧ w'.os = w.os ∧ w'.output = w.output

open Classical in
noncomputable def Tbl.addP (K : Tbl) (f : FuncId) {ι : Type} (ok : ι → List Value → AS → Prop) (v : ι → Value) : Tbl where
  dfr := K.dfr
  ask := fun g as σ => if h : g = f ∧ ∃ i, ok i as σ then some (v (Classical.choose h.2), σ) else K.ask g as σ
  mono := fun g as σ u σ' h => by
    dsimp only at h
    split at h
    · cases h; exact AMono.refl _
    · exact K.mono _ _ _ _ _ h

open Classical in
theorem Tbl.addP_not {K : Tbl} {f g : FuncId} {ι : Type} {ok : ι → List Value → AS → Prop} {v : ι → Value} {as : List Value} {σ : AS} (h : g ≠ f) : (K.addP f ok v).ask g as σ = K.ask g as σ := by
  show dite _ _ _ = _
  rw [dif_neg (fun h' => h h'.1)]

open Classical in
theorem Tbl.addP_at {K : Tbl} {f : FuncId} {ι : Type} {ok : ι → List Value → AS → Prop} {v : ι → Value} {as : List Value} {σ : AS} {i : ι} (h : ok i as σ) (hu : ∀ j, ok j as σ → v j = v i) : (K.addP f ok v).ask f as σ = some (v i, σ) := by
  show dite _ _ _ = _
  have h1 : f = f ∧ ∃ i, ok i as σ := ⟨rfl, i, h⟩
  rw [dif_pos h1, hu _ (Classical.choose_spec h1.2)]

open Classical in
theorem KOk.addP {P : Program} {K : Tbl} (hk : KOk P K) {f : FuncId} {ι : Type} {ok : ι → List Value → AS → Prop} {v : ι → Value} (hv : ∀ i, flat (v i) = true)
    (h : ∀ i as σ G ρ w as', ok i as σ → R G ρ σ w → LRel (VRel ρ) as as' → CallsAt P f as' w (v i)) : KOk P (K.addP f ok v) := by
  intro G g as σ u σ1 ρ w as' hu hR has
  have hu : dite _ _ _ = some (u, σ1) := hu
  split at hu
  · rename_i h1
    obtain ⟨rfl, h2⟩ := h1
    cases hu
    obtain ⟨c1, c2⟩ := h _ as σ G ρ w as' (Classical.choose_spec h2) hR has
    exact ⟨c1, c2.mono fun e w' ⟨he, hs, hz, ho⟩ => ⟨_, ρ, he, (vrel_flat (hv _)).2 rfl, Sim.grown hR hs hz ho⟩⟩
  · exact hk G g as σ u σ1 ρ w as' hu hR has

/-- The run's answer, and that it changed no block before m. -/
noncomputable def okM (m : Nat) (o : Option (Value × AS)) (v : Value) : Bool := match o with
  | some (u, σ) => veq 9 u v && Nat.ble m σ.low
  | none => false

theorem R.reset {G : Nat} {ρ : Ren} {σ : AS} {w : World} (h : R G ρ σ w) : R 0 ρ σ.reset w :=
  ⟨h.blk, h.inj, fun g hg => absurd hg (Nat.not_lt_zero _), Nat.zero_le _⟩

theorem callsAt_of_run {P : Program} {K : Tbl} (hp : ProgOk P) (hk : KOk P K) {fuel f m G : Nat} {args as as' : List Value} {σm σ : AS} {β : Pairs} {v : Value} {ρ : Ren} {w : World}
    (hrun : okM m (aCall P K 0 fuel f args σm) v = true) (hv : flat v = true) (hc : ConvR m σ.reset σ.reset β σm) (ha : veqL (vm 0 β 9) args as = true) (hR : R G ρ σ w) (has : LRel (VRel ρ) as as') : CallsAt P f as' w v := by
  obtain ⟨τc, h1, h2, h3⟩ := (Sim.refl hR.reset).convR (Nat.le_refl _) hc
  unfold okM at hrun
  split at hrun
  · rename_i u s0 e0
    simp only [Bool.and_eq_true, Nat.ble_eq] at hrun
    obtain ⟨k1, k2⟩ := aCall_sound hp hk fuel f _ σm u s0 τc w as' e0 h1 (vmL_rel (fun _ _ _ h h' => vm_rel h2 9 h h') ha has)
    refine ⟨k1, k2.mono fun e w' ⟨v', τ, he, hv', hs⟩ => ?_⟩
    obtain rfl := veq_eq 9 _ _ hrun.1
    refine ⟨by rw [he, (vrel_flat hv).1 hv'], h3 τ s0 w' hs hrun.2⟩
  · cases hrun

/-! ### Families of known calls -/

noncomputable def famFind (n : Nat) (ix : List Value → Nat) (e : Nat → Memo) (as : List Value) (σ : AS) : Option (Value × AS) :=
  bite (Nat.blt (ix as) n && veqL (veq 9) as (e (ix as)).1) (moved (e (ix as)).2.1 (e (ix as)).2.2 σ) none

noncomputable def Tbl.memoF (K : Tbl) (f : FuncId) (n : Nat) (ix : List Value → Nat) (e : Nat → Memo) : Tbl where
  dfr := K.dfr
  ask := fun g as σ => bite (Nat.beq g f) (memoOr (famFind n ix e as σ) (K.ask g as σ)) (K.ask g as σ)
  mono := fun g as σ u σ' h => by
    dsimp only at h
    rw [bite_eq] at h
    split at h
    · unfold memoOr at h
      split at h
      · rename_i hz
        cases h
        unfold famFind at hz
        rw [bite_eq] at hz
        split at hz
        · exact moved_mono hz
        · cases hz
      · exact K.mono _ _ _ _ _ h
    · exact K.mono _ _ _ _ _ h

theorem KOk.memoF {P : Program} {K : Tbl} (hk : KOk P K) {f n : Nat} {ix : List Value → Nat} {e : Nat → Memo} (h : ∀ i, i < n → Knows P f (e i)) : KOk P (K.memoF f n ix e) := by
  intro G g as σ u σ1 ρ w as' hu hR has
  unfold Tbl.memoF at hu
  dsimp only at hu
  rw [bite_eq] at hu
  split at hu
  · rename_i hg
    unfold memoOr at hu
    split at hu
    · rename_i z hz
      cases hu
      unfold famFind at hz
      rw [bite_eq] at hz
      split at hz
      · rename_i hc
        simp only [Bool.and_eq_true, Nat.blt_eq] at hc
        refine h _ hc.1 G g as σ u σ1 ρ w as' ?_ hR has
        unfold Tbl.move
        dsimp only
        rw [bite_eq, if_pos (by rw [Bool.and_eq_true]; exact ⟨hg, hc.2⟩)]
        exact hz
      · cases hz
    · exact hk G g as σ u σ1 ρ w as' hu hR has
  · exact hk G g as σ u σ1 ρ w as' hu hR has

theorem fam_knows {P : Program} {K : Tbl} (hp : ProgOk P) (hk : KOk P K) {fuel f n : Nat} {e : Nat → Memo}
    (h : allBelow (fun i => (e i).1.all flat && sameTold (e i).2.1 (e i).2.2 (aCall P K 0 fuel f (e i).1 ⟨0, 0, .e⟩)) n = true) : ∀ i, i < n → Knows P f (e i) := fun i hi => by
  have := allBelow_at h hi
  rw [Bool.and_eq_true] at this
  exact Knows.alike hp hk this.1 this.2

end Go.Proofs.YtacpdefmnijhnaaGreat.Abs
