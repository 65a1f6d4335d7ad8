/- The operations on slices and maps, append, and the building of structs, continued. -/
import Derived.Test.YtacpdefmnijhnaaGreatAbsD
set_option linter.unusedSimpArgs false
set_option linter.unusedVariables false
namespace Go.Proofs.YtacpdefmnijhnaaGreat.Abs

section ops
variable {P : Program} {G : Nat} {ρ : Ren} {σ σ' : AS} {w : World} {r : Regs} {a : Act}

theorem abound_sound {x x' : Value} {y y' m : Nat} {c : BoundsCode} (h : abound x y = some m) (hy : y ≤ y') (hx : VRel ρ x x') :
    m ≤ y ∧ (Instr.sliceBound x' y' c).run P w = .ok m w := by
  unfold abound at h
  split at h
  · rename_i k i
    obtain rfl := vrel_int.1 hx
    split at h
    · rename_i hi
      cases h
      refine ⟨by omega, ?_⟩
      have : 0 ≤ i ∧ i ≤ (y' : Int) := by omega
      simp [Instr.sliceBound, asIntOf, this]
    · cases h
  · cases h

def optRel (ρ : Ren) : Option Value → Option Value → Prop
  | none, none => True
  | some x, some y => VRel ρ x y
  | _, _ => False

theorem aopt_sound {x : Option Operand} {v : Option Value} (h : aopt G r x = some v) (hR : R G ρ σ w) (hr : RegsRel ρ r a.tmps) : optRel ρ v (x.map a.eval) := by
  cases x with
  | none => cases h; trivial
  | some x =>
    simp only [aopt] at h
    split at h
    · cases h
    · rename_i u hu
      cases h
      exact aev_sound hu hR hr

def bSpec (x : Option Value) (y d m : Nat) : Prop := match x with | some v => abound v y = some m | none => m = d
def mSpec (hi mx : Option Value) (cap cap' m : Nat) : Prop := match mx with | some v => abound v cap = some m ∧ cap ≤ cap' ∧ hi ≠ none | none => m = cap

/-- The three bounds of a slice expression. -/
theorem bounds_sound {isS : Bool} {len cap cap' l hh m : Nat} {lo hi mx lo' hi' mx' : Option Value} (hlo : optRel ρ lo lo') (hhi : optRel ρ hi hi') (hmx : optRel ρ mx mx')
    (hm : mSpec hi mx cap cap' m) (hh' : bSpec hi m len hh) (hl : bSpec lo hh 0 l)
    (hcap : mx = none → cap ≤ cap') :
    (Instr.sliceBounds isS len cap' lo' hi' mx').run P w = .ok (l, hh, if mx.isSome then m else cap') w := by
  unfold Instr.sliceBounds
  cases mx with
  | some v =>
    cases mx' with
    | none => exact hmx.elim
    | some v' =>
      obtain ⟨h1, h2, h3⟩ := hm
      cases hi with
      | none => exact absurd rfl h3
      | some hv =>
        cases hi' with
        | none => exact hhi.elim
        | some hv' =>
          have hb1 := fun c => (abound_sound (P := P) (w := w) (c := c) h1 h2 hmx).2
          have hb2 := fun c => (abound_sound (P := P) (w := w) (c := c) hh' (Nat.le_refl _) hhi).2
          cases lo with
          | none =>
            cases lo' with
            | some _ => exact hlo.elim
            | none => subst hl; simp [hb1, hb2]
          | some lv =>
            cases lo' with
            | none => exact hlo.elim
            | some lv' =>
              have hb3 := fun c => (abound_sound (P := P) (w := w) (c := c) hl (Nat.le_refl _) hlo).2
              simp [hb1, hb2, hb3]
  | none =>
    cases mx' with
    | some _ => exact hmx.elim
    | none =>
      subst hm
      have hc := hcap rfl
      cases hi with
      | none =>
        cases hi' with
        | some _ => exact hhi.elim
        | none =>
          subst hh'
          cases lo with
          | none =>
            cases lo' with
            | some _ => exact hlo.elim
            | none => subst hl; simp
          | some lv =>
            cases lo' with
            | none => exact hlo.elim
            | some lv' =>
              have hb3 := fun c => (abound_sound (P := P) (w := w) (c := c) hl (Nat.le_refl _) hlo).2
              simp [hb3]
      | some hv =>
        cases hi' with
        | none => exact hhi.elim
        | some hv' =>
          have hb2 := fun c => (abound_sound (P := P) (w := w) (c := c) hh' hc hhi).2
          cases lo with
          | none =>
            cases lo' with
            | some _ => exact hlo.elim
            | none => subst hl; simp [hb2]
          | some lv =>
            cases lo' with
            | none => exact hlo.elim
            | some lv' =>
              have hb3 := fun c => (abound_sound (P := P) (w := w) (c := c) hl (Nat.le_refl _) hlo).2
              simp [hb2, hb3]

theorem aboundO_sound {x : Option Value} {y d m : Nat} (h : aboundO x y d = some m) : bSpec x y d m := by
  cases x with
  | none => cases h; rfl
  | some v => exact h

theorem abound_le {x : Value} {y m : Nat} (h : abound x y = some m) : m ≤ y := by
  unfold abound at h
  split at h
  · split at h
    · cases h; omega
    · cases h
  · cases h

/-- A slice's base and its capacity, related. -/
def BaseRel (ρ : Ren) (size : Nat) (base : Option Addr) (cap : Nat) (base' : Option Addr) (cap' : Nat) : Prop :=
  match base with
  | none => base' = none ∧ cap' = cap
  | some a => ∃ b, ρ.bl a.block = some b ∧ a.spot = none ∧ base' = some ⟨b, a.off, none⟩ ∧ CapRel (ρ.sz a.block) a.off cap cap' ∧ (OPENCAP ≤ cap → (ρ.sz a.block).2 = size)

theorem aSliceAt_sound {isS : Bool} {size : Nat} {base base' : Option Addr} {len cap cap' : Nat} {lo hi mx lo' hi' mx' : Option Value} {v : Value}
    (h : aSliceAt size base len cap lo hi mx = some v) (hb : BaseRel ρ size base cap base' cap') (hno : base = none → cap < OPENCAP)
    (hlo : optRel ρ lo lo') (hhi : optRel ρ hi hi') (hmx : optRel ρ mx mx') :
    ∃ l hh m, (Instr.sliceBounds isS len cap' lo' hi' mx').run P w = .ok (l, hh, m) w ∧
      VRel ρ v (.slice (if m = l then base' else base'.map (·.add (l * size))) (hh - l) (m - l)) := by
  have hcaple : capLB cap ≤ cap' := by
    unfold capLB
    cases base with
    | none => have := hno rfl; obtain ⟨_, rfl⟩ := hb; simp [Nat.blt_eq, this]
    | some x =>
      obtain ⟨b, _, _, _, hc, _⟩ := hb
      unfold CapRel at hc
      simp only [Nat.blt_eq]
      split at hc
      · rename_i h1; rw [if_pos h1]; omega
      · rename_i h1; rw [if_neg h1]; exact hc.1
  unfold aSliceAt at h
  split at h
  · -- three indexes
    rename_i mv
    split at h
    · rename_i m hv hm
      split at h
      · rename_i hh hhh
        split at h
        · rename_i l hl
          split at h
          · cases h
          · rename_i hop
            have hop : m < OPENCAP := by simpa [Nat.ble_eq] using hop
            cases h
            cases mx' with
            | none => exact hmx.elim
            | some mv' =>
              refine ⟨l, hh, m, by
                have := bounds_sound (P := P) (w := w) (isS := isS) (len := len) (cap := capLB cap) (cap' := cap') (l := l) (hh := hh) (m := m) hlo hhi hmx ⟨hm, hcaple, by simp⟩ hhh (aboundO_sound hl) (by simp)
                simpa using this, ?_⟩
              have hml : (Nat.beq m l = true) ↔ m = l := by rw [Nat.beq_eq]
              cases base with
              | none =>
                obtain ⟨rfl, _⟩ := hb
                simp only [Option.map_none, ite_self]
                exact vrel_slice_none.2 rfl
              | some x =>
                obtain ⟨b, h1, h2, rfl, _, _⟩ := hb
                have hcr : ∀ s off, CapRel s off (m - l) (m - l) := fun s off => by
                  unfold CapRel; rw [if_pos (by omega)]
                by_cases e : m = l
                · rw [if_pos (hml.2 e), if_pos e]
                  exact vrel_slice_mk ⟨b, _, h1, h2, hcr _ _, rfl⟩
                · rw [if_neg (fun h => e (hml.1 h)), if_neg e]
                  simp only [Option.map_some, addr_add' h2, addr_add]
                  exact vrel_slice_mk ⟨b, _, h1, rfl, hcr _ _, rfl⟩
        · cases h
      · cases h
    · cases h
  · cases mx' with
    | some _ => exact hmx.elim
    | none =>
      split at h
      · rename_i hh hhh
        split at h
        · rename_i l hl
          have hbd := bounds_sound (P := P) (w := w) (isS := isS) (len := len) (cap := capLB cap) (cap' := cap') (l := l) (hh := hh) (m := capLB cap) hlo hhi hmx rfl (aboundO_sound hhh) (aboundO_sound hl) (fun _ => hcaple)
          simp only [Option.isSome_none, Bool.false_eq_true, if_false] at hbd
          refine ⟨l, hh, cap', hbd, ?_⟩
          split at h
          · rename_i hop
            have hop : OPENCAP ≤ cap := by simpa [isOpen, Nat.ble_eq] using hop
            cases base with
            | none => have := hno rfl; omega
            | some x =>
              obtain ⟨b, h1, h2, rfl, hc, hsz⟩ := hb
              have hsz := hsz hop
              unfold CapRel at hc
              rw [if_neg (by omega)] at hc
              obtain ⟨hc1, hc2, hc3⟩ := hc
              split at h
              · rename_i h0
                have h0 : l = 0 := Nat.eq_of_beq_eq_true h0
                subst h0
                cases h
                have : (if cap' = 0 then some (⟨b, x.off, none⟩ : Addr) else Option.map (fun y : Addr => y.add (0 * size)) (some (⟨b, x.off, none⟩ : Addr))) = some (⟨b, x.off, none⟩ : Addr) := by
                  simp [addr_add]
                rw [this]
                refine vrel_slice_mk ⟨b, _, h1, h2, ?_, rfl⟩
                unfold CapRel
                rw [if_neg (by omega)]
                exact ⟨by omega, hc2, by simpa using hc3⟩
              · split at h
                · rename_i hlt
                  have hlt : l < capLB cap := by simpa [Nat.blt_eq] using hlt
                  cases h
                  have hlb : capLB cap = cap - OPENCAP := by unfold capLB; rw [if_neg (by simp [Nat.blt_eq]; omega)]
                  rw [if_neg (by omega)]
                  simp only [Option.map_some, addr_add' h2, addr_add]
                  refine vrel_slice_mk ⟨b, _, h1, rfl, ?_, rfl⟩
                  unfold CapRel
                  rw [if_neg (by omega)]
                  refine ⟨by omega, hc2, ?_⟩
                  rw [hsz] at hc3 ⊢
                  rw [← hc3, Nat.add_assoc, ← Nat.add_mul]
                  congr 2
                  omega
                · split at h
                  · rename_i he
                    have he : hh = l := Nat.eq_of_beq_eq_true he
                    cases h
                    refine vrel_void.2 (.inr ⟨x, cap, l, size, b, cap', rfl, h1, ?_, ?_⟩)
                    · unfold CapRel; rw [if_neg (by omega)]; exact ⟨hc1, hc2, hc3⟩
                    · rw [he, Nat.sub_self]
                      by_cases e : cap' = l
                      · rw [if_pos e, if_pos e]
                      · rw [if_neg e, if_neg e, Option.map_some, addr_add]
                  · cases h
          · rename_i hop
            have hop : cap < OPENCAP := by simpa [isOpen, Nat.ble_eq] using hop
            cases h
            have hml : (Nat.beq cap l = true) ↔ cap = l := by rw [Nat.beq_eq]
            cases base with
            | none =>
              obtain ⟨rfl, rfl⟩ := hb
              simp only [Option.map_none, ite_self]
              exact vrel_slice_none.2 rfl
            | some x =>
              obtain ⟨b, h1, h2, rfl, hc, _⟩ := hb
              unfold CapRel at hc
              rw [if_pos hop] at hc
              subst hc
              have hcr : ∀ s off, CapRel s off (cap' - l) (cap' - l) := fun s off => by
                unfold CapRel; rw [if_pos (by omega)]
              by_cases e : cap' = l
              · rw [if_pos (hml.2 e), if_pos e]
                exact vrel_slice_mk ⟨b, _, h1, h2, hcr _ _, rfl⟩
              · rw [if_neg (fun h => e (hml.1 h)), if_neg e]
                simp only [Option.map_some, addr_add' h2, addr_add]
                exact vrel_slice_mk ⟨b, _, h1, rfl, hcr _ _, rfl⟩
        · cases h
      · cases h

theorem aSlice_sound {t : TypeId} {x x' : Value} {lo hi mx lo' hi' mx' : Option Value} {v : Value} (h : aSlice P σ t x lo hi mx = some v) (hR : R G ρ σ w) (hx : VRel ρ x x')
    (hlo : optRel ρ lo lo') (hhi : optRel ρ hi hi') (hmx : optRel ρ mx mx') :
    ∃ v', (Instr.sliceAt t x' lo' hi' mx').run P w = .ok v' w ∧ VRel ρ v v' := by
  unfold aSlice at h
  split at h
  · rename_i elem base len cap hd
    split at h
    · rename_i inf hi0
      have fin : ∀ base' cap', x' = .slice base' len cap' → BaseRel ρ inf.size base cap base' cap' → (base = none → cap < OPENCAP) →
          aSliceAt inf.size base len cap lo hi mx = some v → ∃ v', (Instr.sliceAt t x' lo' hi' mx').run P w = .ok v' w ∧ VRel ρ v v' := by
        rintro base' cap' rfl hb hno h
        obtain ⟨l, hh, m, h1, h2⟩ := aSliceAt_sound (P := P) (w := w) (isS := true) h hb hno hlo hhi hmx
        refine ⟨_, ?_, h2⟩
        simp [Instr.sliceAt, Instr.slice, run_underlying' hd, h1, run_sizeOf' hi0]
      cases base with
      | none =>
        obtain rfl := vrel_slice_none.1 hx
        split at h
        · cases h
        · rename_i hop
          exact fin none cap rfl ⟨rfl, rfl⟩ (fun _ => by simpa [isOpen, Nat.ble_eq] using hop) h
      | some y =>
        rcases vrel_slice.1 hx with ⟨b, c', hb, hs, hc, rfl⟩ | ⟨hs, rfl, rfl, rfl⟩
        rotate_left
        · rw [if_neg (by unfold isOpen OPENCAP; decide)] at h
          dsimp only at h
          rw [if_pos (by cases hsp : y.spot with | none => exact absurd hsp hs | some _ => rfl)] at h
          cases h
        split at h
        · dsimp only at h
          split at h
          · rename_i hk
            simp only [Bool.and_eq_true, Nat.beq_eq] at hk
            obtain ⟨_, o, ho, hbr⟩ := hR.blk _ _ hb
            unfold BRel at hbr
            rw [hk.1] at hbr
            obtain ⟨c, fr, p, q, _, _, _, _, h5⟩ := hbr
            exact fin _ c' rfl ⟨b, hb, hs, rfl, hc, fun _ => by rw [h5]; exact hk.2⟩ (by simp) h
          · cases h
        · rename_i hop
          have hop : cap < OPENCAP := by simpa [isOpen, Nat.ble_eq] using hop
          dsimp only at h
          rw [if_neg (by rw [hs]; decide)] at h
          exact fin _ c' rfl ⟨b, hb, hs, rfl, hc, fun h => by omega⟩ (by simp) h
    · cases h
  · rename_i s hd
    obtain rfl := vrel_string.1 hx
    split at h
    · cases h
    · cases mx' with
      | some _ => exact hmx.elim
      | none =>
        split at h
        · rename_i hh hhh
          split at h
          · rename_i l hl
            cases h
            have hbd := bounds_sound (P := P) (w := w) (isS := false) (len := s.size) (cap := s.size) (cap' := s.size) (l := l) (hh := hh) (m := s.size) hlo hhi hmx rfl (aboundO_sound hhh) (aboundO_sound hl) (fun _ => Nat.le_refl _)
            simp only [Option.isSome_none, Bool.false_eq_true, if_false] at hbd
            refine ⟨.string (s.extract l hh), ?_, vrel_string.2 rfl⟩
            simp [Instr.sliceAt, Instr.slice, run_underlying' hd, hbd]
          · cases h
        · cases h
  · rename_i n elem y hd
    obtain ⟨b, hb, hs, rfl⟩ := vrel_ptr.1 hx
    split at h
    · rename_i inf hi0
      split at h
      · rename_i hn
        have hn : n < OPENCAP := by simpa [Nat.blt_eq] using hn
        obtain ⟨l, hh, m, h1, h2⟩ := aSliceAt_sound (P := P) (w := w) (isS := false) (base' := some ⟨b, y.off, none⟩) (cap' := n) h
          ⟨b, hb, hs, rfl, by unfold CapRel; rw [if_pos hn], fun h => by omega⟩ (by simp) hlo hhi hmx
        refine ⟨_, ?_, h2⟩
        simp only [Instr.sliceAt, Sem.run_bind, run_underlying' hd, Result.andThen_ok, Instr.sureAddr, Sem.run_pure, h1, run_sizeOf' hi0]
        by_cases e : m = l
        · simp [e]
        · simp [e]
      · cases h
    · cases h
  · cases h

end ops
end Go.Proofs.YtacpdefmnijhnaaGreat.Abs
