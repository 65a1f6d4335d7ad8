/- A system in the making. -/
import Derived.Test.YtbknckiapcafdaaNestL
set_option linter.unusedSimpArgs false
set_option linter.unusedVariables false
namespace Go.Proofs.Ytbknckiapcafdaa.Nest
open Abs Abs2

/-- What is asked of Insert: it makes a row of the old arcs and the new one. -/
def InsertC : Prop := ∀ {X : List Nat} {σ : AS} {v : Value} {l : List Arc} {a : Arc}, GRow (hid X σ) v l → l.length ≤ 1000 → (∀ x ∈ X, x < σ.next) →
  C Try.prog Kn 0 28 [v, vArc a] σ fun v' σ' => Ext σ σ' ∧ ∃ l', GRow (hid X σ') v' l' ∧ l'.length ≤ l.length + 1 ∧ (∀ x ∈ l', x = a ∨ x ∈ l) ∧ a ∈ l' ∧ (asc l = true → asc l' = true)

/-- A system in the making: its rows lie in block lb, the tape in tb. -/
structure Gen (tb lb : Nat) (σ : AS) (L : Lts) (m : Nat) : Prop where
  lt : lb < σ.next
  ne : lb ≠ tb
  own : ∃ rows, σ.get lb = ⟨1, 22, 0, rows, []⟩ ∧ rows.length = L.length ∧ ∀ (i : Nat) (v : Value) (l : List Arc), rows[i]? = some v → L[i]? = some l → GRow (hid [tb, lb] σ) v l
  row : ∀ l ∈ L, l.length ≤ m ∧ ∀ a ∈ l, 0 ≤ a.2 ∧ a.2 < (L.length : Int)

theorem Gen.extX {tb lb : Nat} {σ σ' : AS} {L : Lts} {m : Nat} (h : Gen tb lb σ L m) (e : ExtX [tb] σ σ') : Gen tb lb σ' L m := by
  obtain ⟨h1, h2, ⟨rows, h3, h4, h5⟩, h6⟩ := h
  have e2 : ExtX [tb, lb] σ σ' := e.sub fun x hx => by rw [List.mem_singleton.1 hx]; exact List.mem_cons_self
  exact ⟨e.lt h1, h2, ⟨rows, (e.get lb h1 (by simpa using h2)).trans h3, h4, fun i v l hv hl => (h5 i v l hv hl).ext e2.hid⟩, h6⟩
theorem Gen.ext {tb lb : Nat} {σ σ' : AS} {L : Lts} {m : Nat} (h : Gen tb lb σ L m) (e : Ext σ σ') : Gen tb lb σ' L m := h.extX (.of e)
theorem Gen.up {tb lb : Nat} {σ : AS} {L : Lts} {m m' : Nat} (h : Gen tb lb σ L m) (hm : m ≤ m') : Gen tb lb σ L m' :=
  ⟨h.lt, h.ne, h.own, fun l hl => ⟨Nat.le_trans (h.row l hl).1 hm, (h.row l hl).2⟩⟩

/-- A row is put into its place. -/
theorem Gen.set {tb lb i m : Nat} {σ : AS} {L : Lts} {v : Value} {l : List Arc} (h : Gen tb lb σ L m) (hg : GRow (hid [tb, lb] σ) v l) (hl : l.length ≤ m) (ha : ∀ a ∈ l, 0 ≤ a.2 ∧ a.2 < (L.length : Int)) :
    ∃ rows, σ.get lb = ⟨1, 22, 0, rows, []⟩ ∧ rows.length = L.length ∧ Gen tb lb (σ.put lb ⟨1, 22, 0, rows.set i v, []⟩) (L.set i l) m ∧ ExtX [tb, lb] σ (σ.put lb ⟨1, 22, 0, rows.set i v, []⟩) := by
  obtain ⟨h1, h2, ⟨rows, h3, h4, h5⟩, h6⟩ := h
  have e : ExtX [tb, lb] σ (σ.put lb ⟨1, 22, 0, rows.set i v, []⟩) := (ExtX.refl _ _).put (by simp) _
  refine ⟨rows, h3, h4, ⟨h1, h2, ⟨rows.set i v, by rw [AS.get_put, if_pos rfl], by rw [List.length_set, List.length_set, h4], fun j u k hu hk => ?_⟩, fun k hk => ?_⟩, e⟩
  · by_cases hj : i = j
    · subst hj
      have hi : i < rows.length := by
        have := (List.getElem?_eq_some_iff.1 hu).1
        rwa [List.length_set] at this
      rw [List.getElem?_set_self hi] at hu
      rw [List.getElem?_set_self (by omega)] at hk
      cases hu; cases hk
      exact hg.ext e.hid
    · rw [List.getElem?_set_ne hj] at hu hk
      exact (h5 j u k hu hk).ext e.hid
  · rw [List.length_set]
    rcases List.mem_or_eq_of_mem_set hk with hk | rfl
    · exact h6 k hk
    · exact ⟨hl, ha⟩

/-- A row of it. -/
theorem Gen.at {tb lb i m : Nat} {σ : AS} {L : Lts} (h : Gen tb lb σ L m) (hi : i < L.length) :
    ∃ v l, L[i]? = some l ∧ l ∈ L ∧ GRow (hid [tb, lb] σ) v l ∧ ∀ σ', ExtX [tb] σ σ' → aLoad Try.prog σ' 22 (.pointer (some ⟨lb, i, none⟩)) = some v := by
  obtain ⟨h1, h2, ⟨rows, h3, h4, h5⟩, h6⟩ := h
  obtain ⟨v, hv⟩ : ∃ v, rows[i]? = some v := ⟨rows[i], by simp [show i < rows.length by omega]⟩
  obtain ⟨l, hl⟩ : ∃ l, L[i]? = some l := ⟨L[i], by simp [hi]⟩
  refine ⟨v, l, hl, List.mem_of_getElem? hl, h5 i v l hv hl, fun σ' e => load1 Try.underlying22 rfl (cells_at ((e.get lb h1 (by simpa using h2)).trans h3) ?_ (by omega))⟩
  obtain ⟨h7, h8⟩ := List.getElem?_eq_some_iff.1 hv
  rw [List.drop_eq_getElem_cons h7, h8]; rfl

theorem store22 {σ : AS} {lb i : Nat} {rows : List Value} {v : Value} {b : Option Addr} {n c : Nat} (hv : v = .slice b n c) (h : σ.get lb = ⟨1, 22, 0, rows, []⟩) (hi : i < rows.length) :
    aStore Try.prog σ 22 v (.pointer (some ⟨lb, i, none⟩)) = some (σ.put lb ⟨1, 22, 0, rows.set i v, []⟩) := by
  subst hv
  obtain ⟨inf, hi2, hs⟩ : ∃ inf, Try.prog.info? 22 = some inf ∧ inf.size = 1 := ⟨(Try.prog.info? 22).get!, by kernel_rfl, by kernel_rfl⟩
  have hz : Nat.beq (Value.slice b n c).cells.size 1 = true := rfl
  have hc : (Value.slice b n c).cells.toList = [.slice b n c] := rfl
  unfold aStore
  simp only [hi2, hs, hz, if_true, hc]
  unfold aWrite
  simp only [h, hasLen_eq, List.length_cons, List.length_nil, Nat.zero_add]
  rw [ble_t (by omega), lsplice_cons, lsplice_nil]
  rfl

theorem GRow.slice {σ : AS} {v : Value} {l : List Arc} (h : GRow σ v l) : ∃ b c, v = .slice b l.length c := by
  rcases h with ⟨rfl, rfl⟩ | ⟨_, b, rfl, _⟩
  · exact ⟨none, 0, rfl⟩
  · exact ⟨_, _, rfl⟩

/-- It can be read, even where the tape is hidden. -/
theorem Gen.rs {tb lb cap m : Nat} {σ : AS} {L : Lts} (h : Gen tb lb σ L m) : RS 1 RRow (hid [tb] σ) (.slice (some ⟨lb, 0, none⟩) L.length cap) L := by
  obtain ⟨h1, h2, ⟨rows, h3, h4, h5⟩, h6⟩ := h
  refine RS.of_block (e := 22) (s := 0) (vals := rows) (ents := []) (by rw [hid_next]; exact h1) (by rw [hid_out σ (by simpa using h2)]; exact h3) (by omega) fun i l hl => ?_
  have hi : i < rows.length := by rw [h4]; exact (List.getElem?_eq_some_iff.1 hl).1
  refine ⟨rows[i], ?_, ?_⟩
  · rw [Nat.mul_one, List.drop_eq_getElem_cons hi]; rfl
  · have hg := h5 i rows[i] l (by simp [hi]) hl
    have := hg.rs
    -- what is read with both hidden is read with one hidden
    refine RS.shown (X := [lb]) (fun _ _ h => h) ?_
    have e : Ext (hid [tb, lb] σ) (hid [lb] (hid [tb] σ)) := by
      refine ⟨by simp only [hid_next]; exact Nat.le_refl _, fun j _ => ?_, fun k hk hk2 => ?_⟩
      · by_cases hj : j = lb
        · subst hj; rw [hid_in _ (by simp), hid_in _ (by simp)]
        · rw [hid_out (X := [lb]) _ (by simpa using hj)]
          by_cases hj2 : j = tb
          · subst hj2; rw [hid_in _ (by simp), hid_in _ (by simp)]
          · rw [hid_out _ (by simpa using hj2), hid_out _ (by simp; exact ⟨hj2, hj⟩)]
      · rw [hid_low] at hk ⊢
        refine ⟨hid_low.2 ⟨hk.1, fun x hx => hk.2 x (by simp at hx ⊢; exact .inl hx)⟩, fun x hx => hk.2 x (by simp at hx ⊢; exact .inr hx)⟩
    exact this.ext RArc.keeps e

end Go.Proofs.Ytbknckiapcafdaa.Nest

/- Steps of a drawn region that holds readers, calls that change a block, a last store. -/
set_option linter.unusedSimpArgs false
set_option linter.unusedVariables false
namespace Go.Proofs.Ytbknckiapcafdaa.Nest
open Abs Abs2

theorem sv_slice {n b off l c : Nat} (h : b < n) : (vsc n 9 (.slice (some ⟨b, off, none⟩) l c) && veq 9 (.slice (some ⟨b, off, none⟩) l c) (.slice (some ⟨b, off, none⟩) l c)) = true := by
  unfold vsc veq
  simp [h]
theorem sv_nil {n l c : Nat} : (vsc n 9 (.slice none l c) && veq 9 (.slice none l c) (.slice none l c)) = true := by
  unfold vsc veq
  simp

section
variable {P : Program} {K : Tbl} {G n : Nat} {ops : Array Oper} {sj X : List Nat} {r : Regs} {σ s1 : AS} {l : List Oper} {Q : Regs → AS → Prop}

/-- A reader. -/
theorem Lg_load {k0 d b off : Nat} {t : TypeId} {a : Operand} {ty : TypeId} {pos : String} {aft : Array Edge} {v : Value} (ha : aev G r a = some (.pointer (some ⟨b, off, none⟩)))
    (hl : aLoad P σ.reset t (.pointer (some ⟨b, off, none⟩)) = some v) (hsv : (vsc σ.next 9 v && veq 9 v v) = true) (hb : b < σ.next) (hX : memb X b = true) (hd : d < n)
    (h : Lg P K G n ops sj X (k0 + 1) l (rput r d v) (σ.merge σ.reset) Q) : Lg P K G n ops sj X k0 (⟨some d, .load t a, ty, pos, aft, none⟩ :: l) r σ Q := by
  refine ⟨fun _ => ⟨v, σ.reset, 0, fun fuel _ => ?_, ⟨.inl (Nat.le_refl _), fun _ => ?_⟩, _, ?_, h⟩, fun h => (nomatch h)⟩
  · simp only [aStep_eq, aStepOld, aOp, opLoad, ha, hl, ann]
  · unfold readOk
    rw [hsv]
    simp only [fpOf, ha, fpO, fpV, hX, Bool.and_true, Bool.true_and]
    rw [Nat.blt_eq]; exact hb
  · simp only [aPut, bite_eq]; rw [if_pos (by rw [Nat.blt_eq]; exact hd)]

/-- A call that changes blocks: ordered against all but the readers; none of theirs. -/
theorem Lg_bar {k0 : Nat} {d : Nat} {args : Array Operand} {ts : Array TypeId} {ty : TypeId} {pos : String} {aft : Array Edge} {fid : FuncId} {vs : List Value}
    (hv : aevs G r args.toList = some vs) (hd : d < n) (hm : memb sj k0 = false) (hbar : barAt P ops sj k0 = true)
    (h : C P K G fid vs σ.reset fun v s1 => (∀ x ∈ X, x < σ.next → s1.get x = σ.get x) ∧ Lg P K G n ops sj X (k0 + 1) l (rput r d v) (σ.merge s1) Q) :
    Lg P K G n ops sj X k0 (⟨some d, .call ⟨.value (.func fid), args, ts⟩, ty, pos, aft, none⟩ :: l) r σ Q :=
  Lg_call (first := #[]) (captured := #[]) rfl hv hd hm (by
    have e : (#[] : Array Value).toList ++ vs ++ (#[] : Array Value).toList = vs := by simp
    rw [e]
    exact h.mono fun v s1 ⟨h1, h2⟩ => ⟨.inr ⟨hbar, fun x hx hl => .inl (h1 x hx hl)⟩, h2⟩)

/-- A store after all readers. -/
theorem Lg_store {k0 b off : Nat} {t : TypeId} {a x : Operand} {ty : TypeId} {pos : String} {aft : Array Edge} {v : Value} (ha : aev G r a = some (.pointer (some ⟨b, off, none⟩))) (hx : aev G r x = some v)
    (hs : aStore P σ.reset t v (.pointer (some ⟨b, off, none⟩)) = some s1) (hg : ∀ y, y ≠ b → s1.get y = σ.get y) (hm : memb sj k0 = false) (hbar : barAt P ops sj k0 = true) (hlast : lastAt ops sj k0 = true)
    (h : Lg P K G n ops sj X (k0 + 1) l r (σ.merge s1) Q) : Lg P K G n ops sj X k0 (⟨none, .store t a x, ty, pos, aft, none⟩ :: l) r σ Q := by
  refine ⟨fun _ => ⟨undef, s1, 0, fun fuel _ => ?_, ⟨.inr ⟨hbar, fun y hy hlt => ?_⟩, fun h => by rw [hm] at h; cases h⟩, _, rfl, h⟩, fun h => (nomatch h)⟩
  · simp only [aStep_eq, aStepOld, aOp, opStore, ha, hx, hs, unn]
  · by_cases e : y = b
    · subst e
      exact .inr ⟨hlast, by simp only [fpOf, ha, fpO, fpV, inTake]; exact Nat.beq_refl _⟩
    · exact .inl (hg y e)
end

theorem ExtX.drop {tb lb : Nat} {X : List Nat} {σ σ1 σ2 : AS} (h : ExtX [tb] σ σ1) (k : ExtX X σ1 σ2) (hX : ∀ x ∈ X, x = tb ∨ σ.next ≤ x) : ExtX [tb] σ σ2 :=
  ⟨Nat.le_trans h.nxt k.nxt, fun i hi hx => by
    rw [k.get i (Nat.lt_of_lt_of_le hi h.nxt) (fun h2 => by
      rcases hX i h2 with e | e
      · exact hx (by rw [e]; exact List.mem_cons_self)
      · omega), h.get i hi hx], fun m h1 h2 h3 => k.low m (h.low m h1 h2 h3) (Nat.le_trans h2 h.nxt) fun x hx => by
      rcases hX x hx with e | e
      · rw [e]; exact h3 tb List.mem_cons_self
      · omega⟩

end Go.Proofs.Ytbknckiapcafdaa.Nest
