/- A known call of a function that is handed a slice whose block is known; its answer is flat. -/
import Derived.Test.YtacpdefmnijhnaaGreatConv
set_option linter.unusedSimpArgs false
set_option linter.unusedVariables false
namespace Go.Proofs.YtacpdefmnijhnaaGreat.Abs

noncomputable def blkEq (b c : Blk) : Bool := Nat.beq b.kind c.kind && Nat.beq b.elem c.elem && Nat.beq b.esz c.esz && veqL (veq 9) b.vals c.vals && b.ents.isEmpty && c.ents.isEmpty
theorem blkEq_eq {b c : Blk} (h : blkEq b c = true) : b = c := by
  obtain ⟨k, e, z, v, n⟩ := b
  obtain ⟨k', e', z', v', n'⟩ := c
  simp only [blkEq, Bool.and_eq_true, Nat.beq_eq, List.isEmpty_iff] at h
  obtain ⟨⟨⟨⟨⟨rfl, rfl⟩, rfl⟩, hv⟩, rfl⟩, rfl⟩ := h
  rw [veqL_eq (veq_eq 9) hv]

/-- The slice that is handed, its block as told. -/
noncomputable def sliceIs (b0 : Blk) (len cap : Nat) (as : List Value) (σ : AS) : Bool := match as with
  | [.slice (some a) l c] => Nat.beq a.off 0 && a.spot.isNone && Nat.beq l len && Nat.beq c cap && Nat.blt a.block σ.next && blkEq (σ.get a.block) b0
  | _ => false

theorem sliceIs_of {b0 : Blk} {len cap : Nat} {as : List Value} {σ : AS} (h : sliceIs b0 len cap as σ = true) : ∃ b, as = [.slice (some ⟨b, 0, none⟩) len cap] ∧ b < σ.next ∧ σ.get b = b0 := by
  unfold sliceIs at h
  split at h
  · rename_i a l c
    obtain ⟨b, off, spot⟩ := a
    simp only [Bool.and_eq_true, Nat.beq_eq, Nat.blt_eq, Option.isNone_iff_eq_none] at h
    obtain ⟨⟨⟨⟨⟨rfl, rfl⟩, rfl⟩, rfl⟩, hb⟩, he⟩ := h
    exact ⟨b, rfl, hb, blkEq_eq he⟩
  · cases h

noncomputable def Tbl.addS (K : Tbl) (f : FuncId) (b0 : Blk) (len cap : Nat) (v : Value) : Tbl where
  dfr := K.dfr
  ask := fun g as σ => bite (Nat.beq g f) (bite (sliceIs b0 len cap as σ) (some (v, σ)) (K.ask g as σ)) (K.ask g as σ)
  mono := fun g as σ u σ' h => by
    dsimp only at h
    rw [bite_eq, bite_eq] at h
    split at h
    · split at h
      · cases h; exact AMono.refl _
      · exact K.mono _ _ _ _ _ h
    · exact K.mono _ _ _ _ _ h

/-- The block alone. -/
noncomputable def oneBlk (b0 : Blk) : AS := ((⟨0, 0, .e⟩ : AS).new b0).reset
noncomputable def okS (o : Option (Value × AS)) (v : Value) : Bool := match o with
  | some (u, σ) => veq 9 u v && Nat.ble 1 σ.low
  | none => false

theorem KOk.addS {P : Program} {K K' : Tbl} (hp : ProgOk P) (hk : KOk P K) (hk' : KOk P K') {fuel f len cap : Nat} {b0 : Blk} {v : Value} (hz : b0.kind = 1) (hbm : ∀ b, bm 0 [(0, b)] b0 b0 = true) (hv : flat v = true)
    (h : okS (aCall P K 0 fuel f [.slice (some ⟨0, 0, none⟩) len cap] (oneBlk b0)) v = true) : KOk P (K'.addS f b0 len cap v) := by
  intro G g as σ u σ1 ρ w as' hu hR has
  unfold Tbl.addS at hu
  dsimp only at hu
  rw [bite_eq, bite_eq] at hu
  split at hu
  · rename_i hc
    split at hu
    · rename_i hsl
      obtain rfl := Nat.eq_of_beq_eq_true hc
      cases hu
      obtain ⟨b, rfl, hbn, hg⟩ := sliceIs_of hsl
      obtain ⟨σ0, hrun, hlow⟩ : ∃ σ0, aCall P K 0 fuel g [.slice (some ⟨0, 0, none⟩) len cap] (oneBlk b0) = some (v, σ0) ∧ 1 ≤ σ0.low := by
        unfold okS at h
        split at h
        · rename_i u s0 e0
          simp only [Bool.and_eq_true] at h
          exact ⟨s0, by rw [e0, veq_eq 9 _ _ h.1], Nat.le_of_ble_eq_true h.2⟩
        · cases h
      match as', has with
      | [x], ⟨hx, _⟩ =>
        obtain ⟨k, c', hk1, _, hcap, hxe⟩ : ∃ k c', ρ.bl b = some k ∧ (none : Option Nat) = none ∧ CapRel (ρ.sz b) 0 cap c' ∧ x = .slice (some ⟨k, 0, none⟩) len c' := by
          rcases vrel_slice.1 hx with ⟨k, c', h1, h2, h3, h4⟩ | ⟨h1, _⟩
          · exact ⟨k, c', h1, rfl, h3, h4⟩
          · exact absurd rfl h1
        let ρm : Ren := ⟨fun i => if i = 0 then ρ.bl b else none, fun i => if i = 0 then ρ.sz b else (0, 0)⟩
        have look : ∀ i j, bto 0 [(0, b)] i = some j → i = 0 ∧ j = b := fun i j hij => by
          simp only [bto, passoc, bite_eq, Nat.beq_eq] at hij
          split at hij
          · rename_i h0; rw [Nat.blt_eq] at h0; omega
          · split at hij
            · rename_i e; cases hij; exact ⟨e.symm, rfl⟩
            · cases hij
        have hbk : Back ρ ρm 0 [(0, b)] := by
          refine ⟨fun i j x hij hj => ?_, fun i j hij => ?_⟩
          · obtain ⟨rfl, rfl⟩ := look i j hij
            exact hj
          · obtain ⟨rfl, rfl⟩ := look i j hij
            rfl
        have hg0 : (oneBlk b0).get 0 = b0 := by
          show ((⟨0, 0, .e⟩ : AS).new b0).get 0 = b0
          rw [AS.get_new]; exact if_pos rfl
        have hlt : ∀ i x, ρm.bl i = some x → i = 0 ∧ x = k := fun i x hi => by
          have hi : (if i = 0 then ρ.bl b else none) = some x := hi
          split at hi
          · rw [hk1] at hi; cases hi; exact ⟨by assumption, rfl⟩
          · cases hi
        have hRm : R 0 ρm (oneBlk b0) w := by
          refine ⟨fun i x hi => ?_, fun i j x hi hj _ _ => by rw [(hlt i x hi).1, (hlt j x hj).1], fun g hg => absurd hg (Nat.not_lt_zero _), Nat.zero_le _⟩
          obtain ⟨rfl, rfl⟩ := hlt i x hi
          obtain ⟨_, o, ho, hb⟩ := hR.blk b x hk1
          refine ⟨Nat.lt_succ_self _, o, ho, ?_⟩
          rw [hg0]
          rw [hg] at hb
          exact bm_rel hbk (show bto 0 [(0, b)] 0 = some b from rfl) (hbm b) (fun h => by rw [hz] at h; omega) hb
        have hxm : VRel ρm (.slice (some ⟨0, 0, none⟩) len cap) x := vm_rel (n := 9) hbk (u := .slice (some ⟨b, 0, none⟩) len cap) (by simp [vm, bto, passoc, bite_eq, onB]) hx
        obtain ⟨h1, h2⟩ := aCall_sound hp hk fuel g _ (oneBlk b0) v σ0 ρm w [x] hrun hRm ⟨hxm, trivial⟩
        refine ⟨h1, h2.mono fun e w' ⟨v', τ, he, hv', hs⟩ => ?_⟩
        refine ⟨v', ρ, he, (vrel_flat hv).2 ((vrel_flat hv).1 hv'), Sim.grown hR (fun j hj => ?_) hs.hsz hs.out⟩
        by_cases hjk : j = k
        · subst hjk
          exact hs.stay 0 j (by show (if 0 = 0 then ρ.bl b else none) = _; rw [if_pos rfl]; exact hk1) (by rw [hg0, hz]; decide) hlow
        · exact hs.frame j hj fun i hi => absurd (hlt i j hi).2 hjk
    · exact hk' G g as σ u σ1 ρ w as' hu hR has
  · exact hk' G g as σ u σ1 ρ w as' hu hR has

end Go.Proofs.YtacpdefmnijhnaaGreat.Abs
