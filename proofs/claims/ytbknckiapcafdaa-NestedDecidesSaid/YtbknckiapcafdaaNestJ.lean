/- Contracts: is a system huge. -/
import Derived.Test.YtbknckiapcafdaaNestH
set_option linter.unusedSimpArgs false
set_option linter.unusedVariables false
namespace Go.Proofs.Ytbknckiapcafdaa.Nest
open Abs Abs2

end Go.Proofs.Ytbknckiapcafdaa.Nest

/- What is kept while some blocks change; contracts of a tape. -/
set_option linter.unusedSimpArgs false
set_option linter.unusedVariables false
namespace Go.Proofs.Ytbknckiapcafdaa.Nest
open Abs Abs2

/-- A memory in which some blocks are hidden. -/
noncomputable def hid : List Nat → AS → AS
  | [], σ => σ
  | x :: X, σ => (hid X σ).put x Blk.dead

theorem hid_next : ∀ (X : List Nat) (σ : AS), (hid X σ).next = σ.next
  | [], _ => rfl
  | _ :: X, σ => hid_next X σ
theorem hid_in : ∀ {X : List Nat} {x : Nat} (σ : AS), x ∈ X → (hid X σ).get x = Blk.dead
  | y :: X, x, σ, h => by
    unfold hid
    rw [AS.get_put]
    by_cases e : y = x
    · rw [if_pos e]
    · rw [if_neg e]
      rcases List.mem_cons.1 h with h | h
      · exact absurd h.symm e
      · exact hid_in σ h
theorem hid_out : ∀ {X : List Nat} {x : Nat} (σ : AS), x ∉ X → (hid X σ).get x = σ.get x
  | [], _, _, _ => rfl
  | y :: X, x, σ, h => by
    unfold hid
    rw [AS.get_put, if_neg (fun e => h (by rw [e]; exact List.mem_cons_self)), hid_out σ (fun h2 => h (List.mem_cons_of_mem _ h2))]
theorem hid_low : ∀ {X : List Nat} {σ : AS} {m : Nat}, m ≤ (hid X σ).low ↔ m ≤ σ.low ∧ ∀ x ∈ X, m ≤ x
  | [], σ, m => by simp [hid]
  | y :: X, σ, m => by
    have := hid_low (X := X) (σ := σ) (m := m)
    constructor
    · intro h
      have h1 : m ≤ (hid X σ).low ∧ m ≤ y := Nat.le_min.1 h
      obtain ⟨h3, h4⟩ := this.1 h1.1
      refine ⟨h3, fun x hx => ?_⟩
      rcases List.mem_cons.1 hx with rfl | hx
      · exact h1.2
      · exact h4 x hx
    · rintro ⟨h1, h2⟩
      have h3 := this.2 ⟨h1, fun x hx => h2 x (List.mem_cons_of_mem _ hx)⟩
      exact Nat.le_min.2 ⟨h3, h2 y List.mem_cons_self⟩

/-- σ' is σ and more, but for the blocks of X. -/
structure ExtX (X : List Nat) (σ σ' : AS) : Prop where
  nxt : σ.next ≤ σ'.next
  get : ∀ i, i < σ.next → i ∉ X → σ'.get i = σ.get i
  low : ∀ m, m ≤ σ.low → m ≤ σ.next → (∀ x ∈ X, m ≤ x) → m ≤ σ'.low

theorem ExtX.refl (X : List Nat) (σ : AS) : ExtX X σ σ := ⟨Nat.le_refl _, fun _ _ _ => rfl, fun _ h _ _ => h⟩
theorem ExtX.of {X : List Nat} {σ σ' : AS} (h : Ext σ σ') : ExtX X σ σ' := ⟨h.nxt, fun i hi _ => h.get i hi, fun m h1 h2 _ => h.low m h1 h2⟩
theorem ExtX.trans {X : List Nat} {σ σ' σ'' : AS} (h : ExtX X σ σ') (k : ExtX X σ' σ'') : ExtX X σ σ'' :=
  ⟨Nat.le_trans h.nxt k.nxt, fun i hi hx => by rw [k.get i (Nat.lt_of_lt_of_le hi h.nxt) hx, h.get i hi hx], fun m h1 h2 h3 => k.low m (h.low m h1 h2 h3) (Nat.le_trans h2 h.nxt) h3⟩
theorem ExtX.sub {X Y : List Nat} {σ σ' : AS} (h : ExtX X σ σ') (hx : ∀ x ∈ X, x ∈ Y) : ExtX Y σ σ' :=
  ⟨h.nxt, fun i hi hn => h.get i hi fun h2 => hn (hx i h2), fun m h1 h2 h3 => h.low m h1 h2 fun x h4 => h3 x (hx x h4)⟩
theorem ExtX.lt {X : List Nat} {σ σ' : AS} (h : ExtX X σ σ') {i : Nat} (hi : i < σ.next) : i < σ'.next := Nat.lt_of_lt_of_le hi h.nxt
theorem ExtX.put {X : List Nat} {σ σ' : AS} (h : ExtX X σ σ') {i : Nat} (hi : i ∈ X) (b : Blk) : ExtX X σ (σ'.put i b) :=
  ⟨h.nxt, fun j hj hx => by rw [AS.get_put, if_neg (fun e => hx (by rw [← e]; exact hi)), h.get j hj hx], fun m h1 h2 h3 => Nat.le_min.2 ⟨h.low m h1 h2 h3, h3 i hi⟩⟩
theorem ExtX.merge {X : List Nat} {σ s1 : AS} (h : ExtX X σ.reset s1) : ExtX X σ (σ.merge s1) :=
  ⟨h.nxt, h.get, fun m h1 h2 h3 => Nat.le_min.2 ⟨h1, h.low m h2 h2 h3⟩⟩
/-- What is made new is not to be told from what was hidden when it was made. -/
theorem ExtX.hid {X : List Nat} {σ σ' : AS} (h : ExtX X σ σ') : Ext (hid X σ) (hid X σ') := by
  refine ⟨by rw [hid_next, hid_next]; exact h.nxt, fun i hi => ?_, fun m h1 h2 => ?_⟩
  · rw [hid_next] at hi
    by_cases hx : i ∈ X
    · rw [hid_in _ hx, hid_in _ hx]
    · rw [hid_out _ hx, hid_out _ hx, h.get i hi hx]
  · rw [hid_next] at h2
    rw [hid_low] at h1 ⊢
    exact ⟨h.low m h1.1 h2 h1.2, h1.2⟩
theorem Ext.hid {X : List Nat} {σ σ' : AS} (h : Ext σ σ') : Ext (hid X σ) (hid X σ') := (ExtX.of h).hid

theorem dead_cells {σ : AS} {a : Addr} (h : σ.get a.block = Blk.dead) (n : Nat) : aCells σ a n = none := by
  unfold aCells; rw [h]; rfl
theorem hid_cells {X : List Nat} {σ : AS} {a : Addr} {n : Nat} {cs : List Value} (h : aCells (hid X σ) a n = some cs) : a.block ∉ X ∧ aCells σ a n = some cs := by
  by_cases hx : a.block ∈ X
  · rw [dead_cells (hid_in σ hx)] at h; cases h
  · refine ⟨hx, ?_⟩
    unfold aCells at h ⊢
    rw [hid_out σ hx] at h
    exact h
theorem RS.shown {α : Type} {sz : Nat} {R : AS → List Value → α → Prop} {X : List Nat} {σ : AS} {v : Value} {l : List α} (hR : ∀ cs x, R (hid X σ) cs x → R σ cs x) (h : RS sz R (hid X σ) v l) : RS sz R σ v l := by
  obtain ⟨base, cap, e, hb⟩ := h
  refine ⟨base, cap, e, fun hl => ?_⟩
  obtain ⟨b, off, e1, e2, e3⟩ := hb hl
  rw [hid_next] at e2
  refine ⟨b, off, e1, e2, fun i x hi => ?_⟩
  obtain ⟨cs, h1, h2⟩ := e3 i x hi
  exact ⟨cs, (hid_cells h1).2, hR _ _ h2⟩
theorem RArc.shown {X : List Nat} {σ : AS} (cs : List Value) (x : Arc) (h : RArc (hid X σ) cs x) : RArc σ cs x := h
theorem RRow.shown {X : List Nat} {σ : AS} (cs : List Value) (x : List Arc) (h : RRow (hid X σ) cs x) : RRow σ cs x := by
  obtain ⟨v, h1, h2⟩ := h
  exact ⟨v, h1, RS.shown RArc.shown h2⟩

/-- A tape: of which no more than k has been read. -/
structure Tape (tb : Nat) (σ : AS) (k : Nat) : Prop where
  lt : tb < σ.next
  own : ∃ (lv : Value) (ints : List Int) (pos : Int), σ.get tb = ⟨1, 60, 0, [lv, .int .i64 pos], []⟩ ∧ RS 1 RInt (hid [tb] σ) lv ints ∧ ints.length ≤ 2 ^ 62 ∧ 0 ≤ pos ∧ pos ≤ k

/-- A tape whose list is told. -/
structure TapeV (tb : Nat) (σ : AS) (lv : Value) (ints : List Int) (k : Nat) : Prop where
  lt : tb < σ.next
  own : ∃ pos : Int, σ.get tb = ⟨1, 60, 0, [lv, .int .i64 pos], []⟩ ∧ 0 ≤ pos ∧ pos ≤ k
  rs : RS 1 RInt (hid [tb] σ) lv ints
  len : ints.length ≤ 2 ^ 62

theorem TapeV.tape {tb k : Nat} {σ : AS} {lv : Value} {ints : List Int} (h : TapeV tb σ lv ints k) : Tape tb σ k := by
  obtain ⟨h1, ⟨pos, h2, h3, h4⟩, h5, h6⟩ := h
  exact ⟨h1, lv, ints, pos, h2, h5, h6, h3, h4⟩
theorem Tape.V {tb k : Nat} {σ : AS} (h : Tape tb σ k) : ∃ lv ints, TapeV tb σ lv ints k := by
  obtain ⟨h1, lv, ints, pos, h2, h5, h6, h3, h4⟩ := h
  exact ⟨lv, ints, h1, ⟨pos, h2, h3, h4⟩, h5, h6⟩
theorem Tape.ext {tb : Nat} {σ σ' : AS} {k : Nat} (h : Tape tb σ k) (e : Ext σ σ') : Tape tb σ' k := by
  obtain ⟨h1, lv, ints, pos, h2, h3, h4⟩ := h
  exact ⟨e.lt h1, lv, ints, pos, by rw [e.get tb h1, h2], h3.ext RInt.keeps (Ext.hid e), h4⟩
theorem Tape.up {tb : Nat} {σ : AS} {k k' : Nat} (h : Tape tb σ k) (hk : k ≤ k') : Tape tb σ k' := by
  obtain ⟨h1, lv, ints, pos, h2, h3, h4, h5, h6⟩ := h
  exact ⟨h1, lv, ints, pos, h2, h3, h4, h5, by omega⟩

section
variable {P : Program} {K : Tbl} {G n : Nat} {r : Regs} {σ : AS} {c d e : Code} {Q : Nat → Regs → AS → Prop}
/-- A choice whose two ways meet again. -/
theorem W_join {x : Operand} {b : Bool} (M : Regs → AS → Prop) (hb : aev G r x = some (.bool b)) (ht : b = true → W P K G n c r σ fun e r' σ' => e = 0 ∧ M r' σ') (hf : b = false → W P K G n d r σ fun e r' σ' => e = 0 ∧ M r' σ')
    (hM : ∀ r' σ', M r' σ' → W P K G n e r' σ' Q) : W P K G n (.seq (.cond x c d) e) r σ Q :=
  W_if hb (fun h => W_seq ((ht h).mono fun x r' σ' ⟨h1, h2⟩ => ⟨fun _ => hM _ _ h2, fun h => absurd h1 h⟩)) (fun h => W_seq ((hf h).mono fun x r' σ' ⟨h1, h2⟩ => ⟨fun _ => hM _ _ h2, fun h => absurd h1 h⟩))
end

theorem fldT0 {b off : Nat} : aField Try.prog 60 0 (.pointer (some ⟨b, off, none⟩)) = some (.pointer (some ⟨b, off, none⟩)) :=
  aField_ptr (fd := ⟨"l", 33, 0, false, "", "cspcheck/cspcheckgen2", 0⟩) (inf := (Try.prog.info? 33).get!) Try.underlying60 rfl (by kernel_rfl) (by kernel_rfl)
theorem fldT1 {b off : Nat} : aField Try.prog 60 1 (.pointer (some ⟨b, off, none⟩)) = some (.pointer (some ⟨b, off + 1, none⟩)) :=
  aField_ptr (fd := ⟨"at", 3, 1, false, "", "cspcheck/cspcheckgen2", 24⟩) (inf := (Try.prog.info? 3).get!) Try.underlying60 rfl (by kernel_rfl) (by kernel_rfl)
theorem aRem {P : Program} {t : TypeId} (xo yo : Operand) {k : IntKind} {a b : Int} (hb : b ≠ 0) : aBin P .rem t xo yo (.int k a) (.int k b) = some (.int k (a.tmod b)) := by
  have e1 : aInts .rem (.int k a) (.int k b) = none := by simp only [aInts, if_true, aInt_eq]
  have e2 : asPure P (do eqGuard .rem t xo yo (.int k a) (.int k b); binOp .rem t (.int k a) (.int k b)) = some (.int k (a.tmod b)) := by
    rw [asPure_bind]
    show (some ()).bind _ = _
    rw [Option.bind_some]
    unfold binOp
    simp only [ne_eq, not_true_eq_false, if_false, Op.intDiv, if_neg hb]
    rfl
  unfold aBin
  rw [e1]
  dsimp only
  unfold aBinSlow
  rw [show (flat (.int k a) && flat (.int k b)) = true from rfl, if_pos rfl, e2]
  rfl

/-- An integer of a list. -/
theorem intOf {σ : AS} {base : Option Addr} {len cap : Nat} {l : List Int} (h : RS 1 RInt σ (.slice base len cap) l) {i : Nat} {x : Int} (hi : l[i]? = some x) :
    len = l.length ∧ ∃ b off, base = some ⟨b, off, none⟩ ∧ b < σ.next ∧ aCells σ ⟨b, off + i * 1, none⟩ 1 = some [.int .i64 x] := by
  obtain ⟨base', cap', e, hb⟩ := h
  cases e
  obtain ⟨b, off, rfl, h2, h3⟩ := hb (fun h => by rw [h] at hi; simp at hi)
  obtain ⟨cs, h4, h5⟩ := h3 i x hi
  exact ⟨rfl, b, off, rfl, h2, by rw [h4]; exact congrArg some h5⟩

theorem storeT {σ : AS} {tb : Nat} {lv : Value} {pos x : Int} (h : σ.get tb = ⟨1, 60, 0, [lv, .int .i64 pos], []⟩) :
    aStore Try.prog σ 3 (.int .i64 x) (.pointer (some ⟨tb, 1, none⟩)) = some (σ.put tb ⟨1, 60, 0, [lv, .int .i64 x], []⟩) := by
  obtain ⟨inf, hi, hs⟩ : ∃ inf, Try.prog.info? 3 = some inf ∧ inf.size = 1 := ⟨(Try.prog.info? 3).get!, by kernel_rfl, by kernel_rfl⟩
  have hz : Nat.beq (Value.int .i64 x).cells.size 1 = true := rfl
  unfold aStore
  simp only [hi, hs, hz, if_true]
  unfold aWrite
  simp only [h]
  rfl

set_option maxHeartbeats 4000000 in
theorem next_tapeV {σ : AS} {tb k : Nat} {n : Int} {lv : Value} {ints : List Int} (h : TapeV tb σ lv ints k) (hk : k < 2 ^ 62) (hn : n ≤ 2 ^ 62) : C Try.prog Kn 0 31 [.pointer (some ⟨tb, 0, none⟩), .int .i64 n] σ fun v σ' => (∃ m : Int, v = .int .i64 m ∧ (1 ≤ n → 0 ≤ m ∧ m < n)) ∧ TapeV tb σ' lv ints (k + 1) ∧ ExtX [tb] σ σ' := by
  obtain ⟨hlt, ⟨pos, hg, p0, pk⟩, hr, hl⟩ := h
  obtain ⟨base, cap, rfl, -⟩ := id hr
  obtain ⟨p, rfl⟩ : ∃ p : Nat, pos = (p : Int) := ⟨pos.toNat, by omega⟩
  have L1 : ∀ σ', Ext σ σ' → aLoad Try.prog σ' 3 (.pointer (some ⟨tb, 1, none⟩)) = some (.int .i64 (p : Int)) := fun σ' e => load1 Try.underlying3 rfl (cells_at ((e.get tb hlt).trans hg) rfl (Nat.le_refl _))
  have L0 : ∀ σ', Ext σ σ' → aLoad Try.prog σ' 33 (.pointer (some ⟨tb, 0, none⟩)) = some (.slice base ints.length cap) := fun σ' e => load1 Try.underlying33 rfl (cells_at ((e.get tb hlt).trans hg) rfl (by simp))
  have w1 : IntKind.i64.wrap ((p : Int) + 1) = ((p + 1 : Nat) : Int) := by rw [wrap64_id _ (by omega) (by omega)]; omega
  have ew : Ext σ σ := Ext.refl σ
  refine C_of (kn (by decide)) Try.func31 rfl (Nat.le_of_ble_eq_true rfl) ?_
  show W _ _ _ 50 _ _ _ _
  unfold Try.f31
  dsimp only
  repeat apply W_assoc
  apply W_reg
  · intro callf
    simp +decide only [aOps, rinit, aWanted, ↓bite_eq, ↓reduceIte, aStep_eq, aStepOld, aOp, aev, ann, aPut, Nat.zero_add]
    rfl
  repeat apply W_assoc
  apply W_reg
  · intro callf
    simp +decide only [aOps, aWanted, ↓bite_eq, ↓reduceIte, aStep_eq, aStepOld, aOp, opBin, opFieldAddr, opLoad, aev, ann, aPut, rget_rput, Nat.zero_add, opNil, fldT1, L1 _ ew, aBin, aInts, aInt_eq]
    rfl
  repeat apply W_assoc
  refine W_drw [] [] (by kernel_rfl) (by kernel_rfl) ?_
  apply Lg_all
  · intro callf
    simp +decide only [aQ, memb, List.any_nil, Bool.true_or, Bool.and_true, reset_merge, reset_reset, reset_next, reset_low, merge_next, merge_idem, ble_self, aWanted, ↓bite_eq, ↓reduceIte, aStep_eq, aStepOld, aOp, opBin, opCall, opFieldAddr, opLoad, aev, aevs, ann, aPut, rget_rput, aBuiltin, aLen, List.getElem?_toArray, List.getElem?_cons_zero, Nat.zero_add, Bool.not_false, opNil, fldT0, fldT1, L0 _ (Ext.reset _), L1 _ (Ext.reset _), Try.underlying33, goInt, aBin, aInts, aInt_eq]
    rfl
  have e1 : Ext σ (σ.merge σ.reset) := (Ext.refl _).merge
  generalize σ.merge σ.reset = σ1 at e1
  repeat apply W_assoc
  refine W_join (b := decide ((p : Int) < (ints.length : Int))) (fun r σ2 => Ext σ σ2 ∧ rget r 0 = .pointer (some ⟨tb, 0, none⟩) ∧ rget r 1 = .int .i64 n ∧ ∃ z : Int, rget r 5 = .int .i64 z) ?_ ?_ ?_ ?_
  · simp +decide only [aev, rget_rput, if_true, if_false]
  · intro hb
    have hb : p < ints.length := by
      have := of_decide_eq_true hb
      omega
    obtain ⟨x, hx⟩ : ∃ x, ints[p]? = some x := ⟨ints[p], by simp [hb]⟩
    obtain ⟨-, b, off, rfl, hbl, hat⟩ := intOf hr hx
    rw [hid_next] at hbl
    have L2 : ∀ σ', Ext σ σ' → aLoad Try.prog σ' 3 (.pointer (some ⟨b, off + p * 1, none⟩)) = some (.int .i64 x) := fun σ' e => load1 Try.underlying3 rfl (by rw [e.cells (a := ⟨b, off + p * 1, none⟩) hbl]; exact (hid_cells hat).2)
    refine W_tail ?_
    repeat apply W_assoc
    refine W_drw [] [] (by kernel_rfl) (by kernel_rfl) ?_
    apply Lg_all
    · intro callf
      simp +decide only [aQ, memb, List.any_nil, Bool.true_or, Bool.and_true, reset_merge, reset_reset, reset_next, reset_low, merge_next, merge_idem, ble_self, aWanted, ↓bite_eq, ↓reduceIte, aStep_eq, aStepOld, aOp, opIndexAddr, opFieldAddr, opLoad, aev, ann, aPut, rget_rput, Nat.zero_add, Bool.not_false, opNil, fldT0, fldT1, L0 _ (e1.trans (Ext.reset _)), L1 _ (e1.trans (Ext.reset _)), idx33 hb, L2 _ (e1.trans (Ext.reset _))]
      rfl
    refine W_skip ⟨rfl, e1.trans ((Ext.refl _).merge (σ := σ1)), ?_, ?_, x, ?_⟩ <;> simp +decide only [rget_rput, if_true, if_false]
  · intro _
    refine W_skip ⟨rfl, e1, ?_, ?_, IntKind.i64.wrap (IntKind.i64.wrap (5 * (p : Int)) + 3), ?_⟩ <;> simp +decide only [rget_rput, if_true, if_false]
  rintro r σ2 ⟨e2, h0, h1, z, h5⟩
  have hg2 := (e2.get tb hlt).trans hg
  repeat apply W_assoc
  apply W_reg
  · intro callf
    simp +decide only [aOps, aWanted, ↓bite_eq, ↓reduceIte, aStep_eq, aStepOld, aOp, opBin, opFieldAddr, opLoad, opStore, aev, ann, unn, aPut, rget_rput, Nat.zero_add, opNil, h0, fldT1, L1 _ e2, storeT hg2, w1, aBin, aInts, aInt_eq]
    rfl
  have Tf : TapeV tb (σ2.put tb ⟨1, 60, 0, [.slice base ints.length cap, .int .i64 ((p + 1 : Nat) : Int)], []⟩) (.slice base ints.length cap) ints (k + 1) := by
    have ef : ExtX [tb] σ (σ2.put tb ⟨1, 60, 0, [.slice base ints.length cap, .int .i64 ((p + 1 : Nat) : Int)], []⟩) := (ExtX.of e2).put List.mem_cons_self _
    exact ⟨e2.lt hlt, ⟨_, by rw [AS.get_put, if_pos rfl], by omega, by omega⟩, hr.ext RInt.keeps ef.hid, hl⟩
  have ef : ExtX [tb] σ (σ2.put tb ⟨1, 60, 0, [.slice base ints.length cap, .int .i64 ((p + 1 : Nat) : Int)], []⟩) := (ExtX.of e2).put List.mem_cons_self _
  generalize σ2.put tb ⟨1, 60, 0, [.slice base ints.length cap, .int .i64 ((p + 1 : Nat) : Int)], []⟩ = σ3 at Tf ef
  by_cases hn1 : n < 1
  · have d1 : decide (n < 1) = true := decide_eq_true hn1
    repeat apply W_assoc
    apply W_reg
    · intro callf
      simp +decide only [aOps, aWanted, ↓bite_eq, ↓reduceIte, aStep_eq, aStepOld, aOp, opBin, aev, ann, aPut, rget_rput, h1, d1, aBin, aInts, aInt_eq]
      rfl
    repeat apply W_assoc
    refine W_if (b := true) ?_ ?_ ?_
    · simp +decide only [aev, rget_rput, if_true, if_false]
    · intro _
      repeat apply W_assoc
      apply W_reg
      · intro callf
        simp +decide only [aOps, aWanted, ↓bite_eq, ↓reduceIte, aStep_eq, aStepOld, aOp, aev, ann, aPut]
        rfl
      refine W_retq ⟨Nat.le_refl _, [.int .i64 (0)], ?_, ⟨_, rfl, fun h => absurd hn1 (by omega)⟩, Tf, ef⟩
      simp +decide only [aResults, rget_rput, if_true, if_false]
    · intro h; cases h
  have d1 : decide (n < 1) = false := decide_eq_false hn1
  have hn0 : n ≠ 0 := by omega
  repeat apply W_assoc
  apply W_reg
  · intro callf
    simp +decide only [aOps, aWanted, ↓bite_eq, ↓reduceIte, aStep_eq, aStepOld, aOp, opBin, aev, ann, aPut, rget_rput, h1, d1, aBin, aInts, aInt_eq]
    rfl
  repeat apply W_assoc
  refine W_if (b := false) ?_ ?_ ?_
  · simp +decide only [aev, rget_rput, if_true, if_false]
  · intro h; cases h
  intro _
  apply W_skipq
  repeat apply W_assoc
  apply W_reg
  · intro callf
    simp +decide only [aOps, aWanted, ↓bite_eq, ↓reduceIte, aStep_eq, aStepOld, aOp, opBin, aev, ann, aPut, rget_rput, h1, h5, aRem _ _ hn0]
    rfl
  have t1 : z.tmod n < n := Int.tmod_lt_of_pos z (by omega)
  have t2 : -n < z.tmod n := by
    have := Int.lt_tmod_of_pos z (show 0 < n by omega)
    exact this
  by_cases hz : z.tmod n < 0
  · have d2 : decide (z.tmod n < 0) = true := decide_eq_true hz
    have w2 : IntKind.i64.wrap (z.tmod n + n) = z.tmod n + n := by rw [wrap64_id _ (by omega) (by omega)]
    repeat apply W_assoc
    apply W_reg
    · intro callf
      simp +decide only [aOps, aWanted, ↓bite_eq, ↓reduceIte, aStep_eq, aStepOld, aOp, opBin, aev, ann, aPut, rget_rput, d2, aBin, aInts, aInt_eq]
      rfl
    repeat apply W_assoc
    refine W_if (b := true) ?_ ?_ ?_
    · simp +decide only [aev, rget_rput, if_true, if_false]
    · intro _
      repeat apply W_assoc
      apply W_reg
      · intro callf
        simp +decide only [aOps, aWanted, ↓bite_eq, ↓reduceIte, aStep_eq, aStepOld, aOp, opBin, aev, ann, aPut, rget_rput, h1, w2, aBin, aInts, aInt_eq]
        rfl
      repeat apply W_assoc
      apply W_reg
      · intro callf
        simp +decide only [aOps, aWanted, ↓bite_eq, ↓reduceIte, aStep_eq, aStepOld, aOp, aev, ann, aPut, rget_rput]
        rfl
      refine W_ret ⟨Nat.le_refl _, [.int .i64 (z.tmod n + n)], ?_, ⟨_, rfl, fun _ => ⟨by omega, by omega⟩⟩, Tf, ef⟩
      simp +decide only [aResults, rget_rput, if_true, if_false]
    · intro h; cases h
  have d2 : decide (z.tmod n < 0) = false := decide_eq_false hz
  repeat apply W_assoc
  apply W_reg
  · intro callf
    simp +decide only [aOps, aWanted, ↓bite_eq, ↓reduceIte, aStep_eq, aStepOld, aOp, opBin, aev, ann, aPut, rget_rput, d2, aBin, aInts, aInt_eq]
    rfl
  repeat apply W_assoc
  refine W_if (b := false) ?_ ?_ ?_
  · simp +decide only [aev, rget_rput, if_true, if_false]
  · intro h; cases h
  intro _
  apply W_skipq
  repeat apply W_assoc
  apply W_reg
  · intro callf
    simp +decide only [aOps, aWanted, ↓bite_eq, ↓reduceIte, aStep_eq, aStepOld, aOp, aev, ann, aPut, rget_rput]
    rfl
  refine W_ret ⟨Nat.le_refl _, [.int .i64 (z.tmod n)], ?_, ⟨_, rfl, fun _ => ⟨by omega, by omega⟩⟩, Tf, ef⟩
  simp +decide only [aResults, rget_rput, if_true, if_false]

theorem next_tape {σ : AS} {tb k : Nat} {n : Int} (h : Tape tb σ k) (hk : k < 2 ^ 62) (hn : n ≤ 2 ^ 62) : C Try.prog Kn 0 31 [.pointer (some ⟨tb, 0, none⟩), .int .i64 n] σ fun v σ' => (∃ m : Int, v = .int .i64 m ∧ (1 ≤ n → 0 ≤ m ∧ m < n)) ∧ Tape tb σ' (k + 1) ∧ ExtX [tb] σ σ' := by
  obtain ⟨lv, ints, h⟩ := h.V
  exact (next_tapeV h hk hn).mono fun v σ' ⟨h1, h2, h3⟩ => ⟨h1, h2.tape, h3⟩

end Go.Proofs.Ytbknckiapcafdaa.Nest
