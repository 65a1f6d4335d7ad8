/- Law 18: known calls of the walk: the constructors and events of a chain; the table. -/
import Derived.Test.YtacpdefmnijhnaaGreatVG
import Derived.Test.YtacpdefmnijhnaaGreatVC
import Derived.Test.YtacpdefmnijhnaaGreatVD
import Derived.Test.YtacpdefmnijhnaaGreatVA
set_option linter.unusedSimpArgs false
set_option linter.unusedVariables false
namespace Go.Proofs.YtacpdefmnijhnaaGreat.U18
open Abs U

/-! ### described -/

def dscArgs (K : Nat) : List Value := [.agg #[.slice (some ⟨2, 0, none⟩) K (OPENCAP + K), slo 0 4, .slice none 0 0, slo 1 4]]
noncomputable def dscM : AS := memo0 [⟨2, 80, 4, ncl, []⟩, ⟨2, 25, 1, ecl, []⟩, Blk.dead]
theorem dsc_run (K : Nat) : okM 3 (aCall Tryz.prog KD 0 3000 142 (dscArgs K) dscM) (.bool true) = true := by kernel_rfl
def dscP (bf bn be : Nat) : Pairs := [(0, bn), (1, be), (2, bf)]
theorem dscP_at {bf bn be i j : Nat} (h : passoc (dscP bf bn be) i = some j) : (i = 0 ∧ j = bn) ∨ (i = 1 ∧ j = be) ∨ (i = 2 ∧ j = bf) := by
  unfold dscP at h
  simp only [passoc, bite_eq, Nat.beq_eq] at h
  repeat' split at h
  all_goals first
    | (cases h; omega)
    | cases h
theorem dscM_get : dscM.get 0 = ⟨2, 80, 4, ncl, []⟩ ∧ dscM.get 1 = ⟨2, 25, 1, ecl, []⟩ ∧ dscM.get 2 = Blk.dead := by
  have h := (lay0_at [⟨2, 80, 4, ncl, []⟩, ⟨2, 25, 1, ecl, []⟩, Blk.dead] ⟨0, 0, .e⟩).2.2.2
  have z : (⟨0, 0, .e⟩ : AS).next = 0 := rfl
  rw [z] at h
  exact ⟨h 0 _ rfl, h 1 _ rfl, h 2 _ rfl⟩

def okDsc (_ : Unit) (xs : List Value) (σ : AS) : Prop := ∃ bf bn be k bl op ar, Chn σ bf bn be k bl op ar ∧ xs = [coreV bf bn be k]
theorem dsc_known : ∀ i xs σ G ρ w xs', okDsc i xs σ → R G ρ σ w → LRel (VRel ρ) xs xs' → CallsAt Tryz.prog 142 xs' w (.bool true) := by
  rintro i xs σ G ρ w xs' ⟨bf, bn, be, k, bl, op, ar, h, rfl⟩ hR hx
  obtain ⟨g0, g1, g2⟩ := dscM_get
  refine callsAt_of_run (β := dscP bf bn be) progOk KD_ok (dsc_run (k + 1)) rfl ?_ ?_ hR hx
  · refine ⟨fun i x hi => ?_, fun i x hi hm => ?_, fun i l x hi hl ki kl => ?_, fun i x hi => ?_⟩
    · show i < 3
      rcases dscP_at hi with h | h | h <;> omega
    · rcases dscP_at hi with h | h | h <;> omega
    · have hne : bn ≠ be := fun e => by
        have h1 := h.ns
        rw [e, h.es] at h1
        have h2 : (25 : Nat) = 80 := congrArg Blk.elem h1
        exact absurd h2 (by decide)
      have alive : ∀ i, i < 3 → (dscM.get i).kind ≠ 0 → i = 0 ∨ i = 1 := fun i hi hk => by
        rcases Nat.lt_or_ge i 2 with h2 | h2
        · omega
        · obtain rfl : i = 2 := by omega
          rw [g2] at hk; exact absurd rfl hk
      have hi' := alive i (by rcases dscP_at hi with h | h | h <;> omega) ki
      have hl' := alive l (by rcases dscP_at hl with h | h | h <;> omega) kl
      rcases dscP_at hi with h | h | h <;> rcases dscP_at hl with h' | h' | h' <;> omega
    · rcases dscP_at hi with h' | h' | h'
      · obtain ⟨rfl, rfl⟩ := h'
        left
        show bm 0 _ _ (σ.get x) = true ∧ _
        rw [g0, h.ns]
        exact ⟨rfl, fun hk => by rcases hk with hk | hk <;> cases hk⟩
      · obtain ⟨rfl, rfl⟩ := h'
        left
        show bm 0 _ _ (σ.get x) = true ∧ _
        rw [g1, h.es]
        exact ⟨rfl, fun hk => by rcases hk with hk | hk <;> cases hk⟩
      · obtain ⟨rfl, rfl⟩ := h'
        left
        rw [g2]
        exact ⟨rfl, fun hk => by rcases hk with hk | hk <;> cases hk⟩
  · simp [dscArgs, coreV, slo, sl1, veqL, vm, bto, bite_eq, onB, dscP, passoc, flat1, veq]

/-! ### A search in no values -/

noncomputable def ask89 (xs : List Value) (_ : AS) : Option Value := match xs with
  | [.slice _ 0 _, .func (.func _) _ _] => some (.bool false)
  | _ => none
theorem cf_run {p : Option Addr} {c f : Nat} {x y : Array Value} {σ : AS} : aCall Tryz.prog KD 0 300 89 [.slice p 0 c, .func (.func f) x y] σ = some (.bool false, σ) := by kernel_rfl

/-! ### The table -/

theorem head0 : Knows Tryz.prog 8 ([.int .i64 0, .slice none 0 0], .string (cs 0), []) := Knows.alike (fuel := 3000) progOk KD_ok rfl (by kernel_rfl)
theorem stop0 : Knows Tryz.prog 10 ([.int .i64 1, .slice none 0 0], .string stopS, []) := Knows.alike (fuel := 3000) progOk KD_ok rfl (by kernel_rfl)
theorem stop31 : Knows Tryz.prog 31 ([.string stopS], .bool true, []) := Knows.alike (fuel := 3000) progOk KD_ok rfl (by kernel_rfl)
theorem stop20 : Knows Tryz.prog 20 ([.string stopS], .int .i64 1, []) := Knows.alike (fuel := 3000) progOk KD_ok rfl (by kernel_rfl)
theorem stop45 : Knows Tryz.prog 45 ([.string stopS], .tuple #[.int .i64 0, .slice none 0 0, .bool false], []) := Knows.alike (fuel := 3000) progOk KD_ok rfl (by kernel_rfl)

end Go.Proofs.YtacpdefmnijhnaaGreat.U18
