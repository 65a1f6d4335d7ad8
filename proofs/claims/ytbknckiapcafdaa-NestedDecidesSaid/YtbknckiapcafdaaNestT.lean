/- The memory of a nested search. -/
import Derived.Test.YtbknckiapcafdaaNestS
set_option linter.unusedSimpArgs false
set_option linter.unusedVariables false
namespace Go.Proofs.Ytbknckiapcafdaa.Nest
open Abs Abs2

section
variable {P : Program} {K : Tbl} {G n : Nat} {ops : Array Oper} {r : Regs} {σ s1 : AS} {l : List Oper} {Q : Regs → AS → Prop}
/-- An operation that may change what lay before, ordered against all others. -/
theorem Lg_op {k0 d : Nat} {op : Op} {ty : TypeId} {pos : String} {aft : Array Edge} {v : Value} (hs : ∀ callf, aStep P G callf r σ.reset op = some (v, s1)) (hd : d < n) (hbar : barAt P ops [] k0 = true)
    (h : Lg P K G n ops [] [] (k0 + 1) l (rput r d v) (σ.merge s1) Q) : Lg P K G n ops [] [] k0 (⟨some d, op, ty, pos, aft, none⟩ :: l) r σ Q := by
  refine ⟨fun _ => ⟨v, s1, 0, fun fuel _ => hs _, ⟨.inr ⟨hbar, fun y hy => (nomatch hy)⟩, fun h => by cases h⟩, _, ?_, h⟩, fun h => (nomatch h)⟩
  simp only [aPut, bite_eq]; rw [if_pos (by rw [Nat.blt_eq]; exact hd)]
theorem Lg_qop {k0 d : Nat} {op : Op} {ty : TypeId} {pos : String} {aft : Array Edge} {v : Value} (hs : ∀ callf, aStep P G callf r σ.reset op = some (v, s1)) (hd : d < n) (hq : σ.next ≤ s1.low)
    (h : Lg P K G n ops [] [] (k0 + 1) l (rput r d v) (σ.merge s1) Q) : Lg P K G n ops [] [] k0 (⟨some d, op, ty, pos, aft, none⟩ :: l) r σ Q := by
  refine ⟨fun _ => ⟨v, s1, 0, fun fuel _ => hs _, ⟨.inl hq, fun h => by cases h⟩, _, ?_, h⟩, fun h => (nomatch h)⟩
  simp only [aPut, bite_eq]; rw [if_pos (by rw [Nat.blt_eq]; exact hd)]
theorem Lg_st {k0 : Nat} {op : Op} {ty : TypeId} {pos : String} {aft : Array Edge} {v : Value} (hs : ∀ callf, aStep P G callf r σ.reset op = some (v, s1)) (hbar : barAt P ops [] k0 = true)
    (h : Lg P K G n ops [] [] (k0 + 1) l r (σ.merge s1) Q) : Lg P K G n ops [] [] k0 (⟨none, op, ty, pos, aft, none⟩ :: l) r σ Q :=
  ⟨fun _ => ⟨v, s1, 0, fun fuel _ => hs _, ⟨.inr ⟨hbar, fun y hy => (nomatch hy)⟩, fun h => by cases h⟩, _, rfl, h⟩, fun h => (nomatch h)⟩
end

/-- A list of marks. -/
def BL (lo : Nat) (σ : AS) (v : Value) (l : List Bool) : Prop := ∃ b, v = .slice (some ⟨b, 0, none⟩) l.length l.length ∧ lo ≤ b ∧ b < σ.next ∧ σ.get b = ⟨1, 4, 0, l.map Value.bool, []⟩

section
variable {lo : Nat} {σ σ' : AS} {v : Value} {l : List Bool}
theorem BL.keep (h : BL lo σ v l) (hn : σ.next ≤ σ'.next) (hg : ∀ i, Own v i → i < σ.next → σ'.get i = σ.get i) : BL lo σ' v l := by
  obtain ⟨b, rfl, h1, h2, h3⟩ := h
  exact ⟨b, rfl, h1, by omega, (hg b ⟨_, _, rfl⟩ h2).trans h3⟩
theorem idx43 {b off len cap i : Nat} (h : i < len) : aIndexAddr Try.prog 43 (.slice (some ⟨b, off, none⟩) len cap) (.int .i64 (i : Int)) = some (.pointer (some ⟨b, off + i * 1, none⟩)) :=
  aIndexAddr_slice (inf := (Try.prog.info? 4).get!) Try.underlying43 (by kernel_rfl) (by kernel_rfl) h
theorem BL.at (h : BL lo σ v l) {i : Nat} (hi : i < l.length) : ∃ b, v = .slice (some ⟨b, 0, none⟩) l.length l.length ∧ lo ≤ b ∧ b < σ.next ∧ σ.get b = ⟨1, 4, 0, l.map Value.bool, []⟩ ∧
    aIndexAddr Try.prog 43 v (.int .i64 (i : Int)) = some (.pointer (some ⟨b, i, none⟩)) ∧
    (∀ σ', Ext σ σ' → aLoad Try.prog σ' 4 (.pointer (some ⟨b, i, none⟩)) = some (.bool (l.getD i true))) ∧
    aStore Try.prog σ 4 (.bool true) (.pointer (some ⟨b, i, none⟩)) = some (σ.put b ⟨1, 4, 0, (l.set i true).map Value.bool, []⟩) := by
  obtain ⟨b, rfl, h1, h2, h3⟩ := h
  have e1 := idx43 (b := b) (off := 0) (cap := l.length) hi
  rw [Nat.mul_one, Nat.zero_add] at e1
  refine ⟨b, rfl, h1, h2, h3, e1, fun σ' e => load1 Try.underlying4 rfl (cells_at ((e.get b h2).trans h3) ?_ (by rw [List.length_map]; omega)), ?_⟩
  · rw [List.drop_eq_getElem_cons (by rw [List.length_map]; exact hi)]
    simp [hi]
  · obtain ⟨inf, hi2, hs⟩ : ∃ inf, Try.prog.info? 4 = some inf ∧ inf.size = 1 := ⟨(Try.prog.info? 4).get!, by kernel_rfl, by kernel_rfl⟩
    have hz : Nat.beq (Value.bool true).cells.size 1 = true := rfl
    have hc : (Value.bool true).cells.toList = [.bool true] := rfl
    unfold aStore
    simp only [hi2, hs, hz, if_true, hc]
    unfold aWrite
    simp only [h3, hasLen_eq, List.length_map, List.length_cons, List.length_nil, Nat.zero_add]
    rw [ble_t (show i + 1 ≤ l.length by omega), lsplice_cons, lsplice_nil, ← List.map_set]
    rfl
end

/-- The values of a search's fields. -/
structure Flds where
  ov : Value
  iv : Value
  pv : Value
  nv : Value
  sv : Value
  lv : Value

def fblk (Lv : Value) (f : Bool) (d : Flds) : Blk := ⟨1, 66, 0, [Lv, d.ov, d.iv, d.pv, d.nv, d.sv, d.lv, .bool f], []⟩

section
variable {σ0 σ σ' s : AS} {xb N : Nat} {Lv : Value} {x : SS} {d : Flds}

theorem GRow.keep {σ σ' : AS} {v : Value} {l : List Arc} (h : GRow σ v l) (hn : σ.next ≤ σ'.next) (hg : ∀ i, i < σ.next → (σ.get i).elem = 27 → Own v i → σ'.get i = σ.get i) : GRow σ' v l :=
  h.imp_right fun ⟨h0, b, h1, h2, h3⟩ => ⟨h0, b, h1, by omega, (hg b h2 (by rw [h3]; rfl) (by rw [h1]; exact ⟨_, _, rfl⟩)).trans h3⟩

theorem ext_merge {σ0 σ s : AS} (h : Ext σ0 σ) (hs : Ext σ0 s) : Ext σ0 (σ.merge s) := ⟨hs.nxt, hs.get, fun m h1 h2 => Nat.le_min.2 ⟨h.low m h1 h2, hs.low m h1 h2⟩⟩

/-- A change of one list. -/
structure Chg (σ0 σ s : AS) (v v' : Value) : Prop where
  nxt : σ.next ≤ s.next
  get : ∀ i, i < σ.next → ¬ Own v i → s.get i = σ.get i
  low : ∀ q, q ≤ σ0.next → q ≤ σ.low → q ≤ s.low
  own : ∀ i, Own v' i → Own v i ∨ σ.next ≤ i

theorem Chg.ext {v v' : Value} (h : Chg σ0 σ s v v') (e : Ext σ0 σ) (ho : ∀ i, Own v i → σ0.next ≤ i) : Ext σ0 s :=
  ⟨Nat.le_trans e.nxt h.nxt, fun i hi => by rw [h.get i (Nat.lt_of_lt_of_le hi e.nxt) (fun h2 => by have := ho i h2; omega), e.get i hi], fun m h1 h2 => h.low m h2 (e.low m h1 h2)⟩
theorem Chg.cut {v v' : Value} (h : ∀ i, Own v' i → Own v i) : Chg σ0 σ σ v v' := ⟨Nat.le_refl _, fun _ _ _ => rfl, fun _ _ h => h, fun i hi => .inl (h i hi)⟩

theorem dropLast_cells (l : List Arc) : (cellsOf l).take ((l.length - 1) * 2) = cellsOf l.dropLast := by rw [cellsOf_take, List.dropLast_eq_take]

theorem not_own_nil {i : Nat} : ¬ Own (.slice none 0 0) i := fun ⟨_, _, e⟩ => by cases e

end
end Go.Proofs.Ytbknckiapcafdaa.Nest
