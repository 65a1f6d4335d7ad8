/- Steps of a drawn region that holds readers, calls that change a block, a last store. -/
import Derived.Test.YtbknckiapcafdaaNestM
set_option linter.unusedSimpArgs false
set_option linter.unusedVariables false
namespace Go.Proofs.Ytbknckiapcafdaa.Nest
open Abs Abs2

theorem sv_slice {n b off l c : Nat} (h : b < n) : (vsc n 9 (.slice (some ⟨b, off, none⟩) l c) && veq 9 (.slice (some ⟨b, off, none⟩) l c) (.slice (some ⟨b, off, none⟩) l c)) = true := by
  unfold vsc veq
  simp [h]
theorem sv_nil {n l c : Nat} : (vsc n 9 (.slice none l c) && veq 9 (.slice none l c) (.slice none l c)) = true := by
  unfold vsc veq
  simp

section
variable {P : Program} {K : Tbl} {G n : Nat} {ops : Array Oper} {sj X : List Nat} {r : Regs} {σ s1 : AS} {l : List Oper} {Q : Regs → AS → Prop}

/-- A reader. -/
theorem Lg_load {k0 d b off : Nat} {t : TypeId} {a : Operand} {ty : TypeId} {pos : String} {aft : Array Edge} {v : Value} (ha : aev G r a = some (.pointer (some ⟨b, off, none⟩)))
    (hl : aLoad P σ.reset t (.pointer (some ⟨b, off, none⟩)) = some v) (hsv : (vsc σ.next 9 v && veq 9 v v) = true) (hb : b < σ.next) (hX : memb X b = true) (hd : d < n)
    (h : Lg P K G n ops sj X (k0 + 1) l (rput r d v) (σ.merge σ.reset) Q) : Lg P K G n ops sj X k0 (⟨some d, .load t a, ty, pos, aft, none⟩ :: l) r σ Q := by
  refine ⟨fun _ => ⟨v, σ.reset, 0, fun fuel _ => ?_, ⟨.inl (Nat.le_refl _), fun _ => ?_⟩, _, ?_, h⟩, fun h => (nomatch h)⟩
  · simp only [aStep_eq, aStepOld, aOp, opLoad, ha, hl, ann]
  · unfold readOk
    rw [hsv]
    simp only [fpOf, ha, fpO, fpV, hX, Bool.and_true, Bool.true_and]
    rw [Nat.blt_eq]; exact hb
  · simp only [aPut, bite_eq]; rw [if_pos (by rw [Nat.blt_eq]; exact hd)]

/-- A call that changes blocks: ordered against all but the readers; none of theirs. -/
theorem Lg_bar {k0 : Nat} {d : Nat} {args : Array Operand} {ts : Array TypeId} {ty : TypeId} {pos : String} {aft : Array Edge} {fid : FuncId} {vs : List Value}
    (hv : aevs G r args.toList = some vs) (hd : d < n) (hm : memb sj k0 = false) (hbar : barAt P ops sj k0 = true)
    (h : C P K G fid vs σ.reset fun v s1 => (∀ x ∈ X, x < σ.next → s1.get x = σ.get x) ∧ Lg P K G n ops sj X (k0 + 1) l (rput r d v) (σ.merge s1) Q) :
    Lg P K G n ops sj X k0 (⟨some d, .call ⟨.value (.func fid), args, ts⟩, ty, pos, aft, none⟩ :: l) r σ Q :=
  Lg_call (first := #[]) (captured := #[]) rfl hv hd hm (by
    have e : (#[] : Array Value).toList ++ vs ++ (#[] : Array Value).toList = vs := by simp
    rw [e]
    exact h.mono fun v s1 ⟨h1, h2⟩ => ⟨.inr ⟨hbar, fun x hx hl => .inl (h1 x hx hl)⟩, h2⟩)

/-- A store after all readers. -/
theorem Lg_store {k0 b off : Nat} {t : TypeId} {a x : Operand} {ty : TypeId} {pos : String} {aft : Array Edge} {v : Value} (ha : aev G r a = some (.pointer (some ⟨b, off, none⟩))) (hx : aev G r x = some v)
    (hs : aStore P σ.reset t v (.pointer (some ⟨b, off, none⟩)) = some s1) (hg : ∀ y, y ≠ b → s1.get y = σ.get y) (hm : memb sj k0 = false) (hbar : barAt P ops sj k0 = true) (hlast : lastAt ops sj k0 = true)
    (h : Lg P K G n ops sj X (k0 + 1) l r (σ.merge s1) Q) : Lg P K G n ops sj X k0 (⟨none, .store t a x, ty, pos, aft, none⟩ :: l) r σ Q := by
  refine ⟨fun _ => ⟨undef, s1, 0, fun fuel _ => ?_, ⟨.inr ⟨hbar, fun y hy hlt => ?_⟩, fun h => by rw [hm] at h; cases h⟩, _, rfl, h⟩, fun h => (nomatch h)⟩
  · simp only [aStep_eq, aStepOld, aOp, opStore, ha, hx, hs, unn]
  · by_cases e : y = b
    · subst e
      exact .inr ⟨hlast, by simp only [fpOf, ha, fpO, fpV, inTake]; exact Nat.beq_refl _⟩
    · exact .inl (hg y e)
end

theorem ExtX.drop {tb lb : Nat} {X : List Nat} {σ σ1 σ2 : AS} (h : ExtX [tb] σ σ1) (k : ExtX X σ1 σ2) (hX : ∀ x ∈ X, x = tb ∨ σ.next ≤ x) : ExtX [tb] σ σ2 :=
  ⟨Nat.le_trans h.nxt k.nxt, fun i hi hx => by
    rw [k.get i (Nat.lt_of_lt_of_le hi h.nxt) (fun h2 => by
      rcases hX i h2 with e | e
      · exact hx (by rw [e]; exact List.mem_cons_self)
      · omega), h.get i hi hx], fun m h1 h2 h3 => k.low m (h.low m h1 h2 h3) (Nat.le_trans h2 h.nxt) fun x hx => by
      rcases hX x hx with e | e
      · rw [e]; exact h3 tb List.mem_cons_self
      · omega⟩

end Go.Proofs.Ytbknckiapcafdaa.Nest
