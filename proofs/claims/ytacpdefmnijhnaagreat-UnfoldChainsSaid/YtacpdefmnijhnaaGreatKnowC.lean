/- Known calls whose answer is read off the memory, out of a contract. No program. -/
import Derived.Test.YtacpdefmnijhnaaGreatKnowP
import Derived.Test.YtacpdefmnijhnaaGreatAbsT
set_option linter.unusedSimpArgs false
set_option linter.unusedVariables false
namespace Go.Proofs.YtacpdefmnijhnaaGreat.Abs

noncomputable def askC (o : Option Value) (σ : AS) : Option (Value × AS) := match o with
  | some v => some (v, σ)
  | none => none

noncomputable def Tbl.addC (K : Tbl) (f : FuncId) (ask : List Value → AS → Option Value) : Tbl where
  dfr := K.dfr
  ask := fun g xs σ => bite (Nat.beq g f) (memoOr (askC (ask xs σ) σ) (K.ask g xs σ)) (K.ask g xs σ)
  mono := fun g xs σ u σ' h => by
    dsimp only at h
    rw [bite_eq] at h
    split at h
    · unfold memoOr at h
      split at h
      · rename_i z hz
        cases h
        unfold askC at hz
        split at hz
        · cases hz; exact AMono.refl _
        · cases hz
      · exact K.mono _ _ _ _ _ h
    · exact K.mono _ _ _ _ _ h

theorem KOk.addC {P : Program} {K K' : Tbl} (hp : ProgOk P) (hk : KOk P K) (hk' : KOk P K') {f : FuncId} {ask : List Value → AS → Option Value}
    (h : ∀ xs σ v, ask xs σ = some v → C P K 0 f xs σ.reset fun u s => u = v ∧ Ext σ.reset s)
    (hs : ∀ xs σ v G ρ w xs', ask xs σ = some v → R G ρ σ w → LRel (VRel ρ) xs xs' → Sc ρ v) : KOk P (K'.addC f ask) := by
  intro G g xs σ u σ1 ρ w xs' hu hR hxs
  unfold Tbl.addC at hu
  dsimp only at hu
  rw [bite_eq] at hu
  split at hu
  · rename_i hg
    obtain rfl := Nat.eq_of_beq_eq_true hg
    unfold memoOr at hu
    split at hu
    · rename_i z hz
      cases hu
      unfold askC at hz
      split at hz
      · rename_i v hv
        cases hz
        obtain ⟨u0, s0, N, h1, rfl, h2⟩ := h xs σ u hv
        obtain ⟨k1, k2⟩ := aCall_sound hp hk N g xs σ.reset u0 s0 ρ w xs' (h1 N (Nat.le_refl _)) hR.reset hxs
        refine ⟨k1, k2.mono fun e w' ⟨v', τ, he, hv', hsim⟩ => ⟨v', ρ, he, (hs xs σ u0 G ρ w xs' hv hR hxs).rel hsim.le hv', ?_⟩⟩
        have hlow : σ.reset.next ≤ s0.low := h2.low _ (Nat.le_refl _) (Nat.le_refl _)
        exact Sim.grown hR (hsim.same hlow) hsim.hsz hsim.out
      · cases hz
    · exact hk' G g xs σ u σ1 ρ w xs' hu hR hxs
  · exact hk' G g xs σ u σ1 ρ w xs' hu hR hxs

/-- Some cells are related to the world's. -/
theorem R.cellsSc {G : Nat} {ρ : Ren} {σ : AS} {w : World} (hR : R G ρ σ w) {a : Addr} {b n : Nat} (hb : ρ.bl a.block = some b) {cs : List Value} (h : aCells σ a n = some cs) : Sc ρ (.agg cs.toArray) := by
  obtain ⟨_, o, ho, hr⟩ := hR.blk _ b hb
  have key : ∀ v ∈ cs, Sc ρ v := by
    unfold aCells at h
    split at h
    · rename_i hc
      cases h
      intro v hv
      have hv := List.mem_of_mem_drop (List.mem_of_mem_take hv)
      simp only [Bool.and_eq_true] at hc
      have hk : (σ.get a.block).kind = 1 ∨ (σ.get a.block).kind = 2 := by
        have := hc.1
        unfold isCells at this
        simp only [Bool.or_eq_true, Nat.beq_eq] at this
        exact this
      exact hr.sc.1 hk v hv
    · split at h
      · rename_i hc
        cases h
        intro v hv
        simp only [Bool.and_eq_true, Nat.beq_eq, List.all_eq_true] at hc
        exact hr.sc.2.2 hc.1.1 v (List.mem_of_mem_drop (List.mem_of_mem_take hv)) (hc.2 v hv)
      · cases h
  have : ∃ l, LRel (VRel ρ) cs l := by
    clear h
    induction cs with
    | nil => exact ⟨[], trivial⟩
    | cons x l ih =>
      obtain ⟨y, hy⟩ := key x (by simp)
      obtain ⟨m, hm⟩ := ih fun v hv => key v (by simp [hv])
      exact ⟨y :: m, hy, hm⟩
  obtain ⟨l, hl⟩ := this
  exact ⟨_, vrel_agg.2 ⟨l, hl, rfl⟩⟩

end Go.Proofs.YtacpdefmnijhnaaGreat.Abs
