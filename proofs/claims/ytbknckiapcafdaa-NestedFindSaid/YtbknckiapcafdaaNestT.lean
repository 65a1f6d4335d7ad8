/- The memory of a nested search. -/
import Derived.Test.YtbknckiapcafdaaNestS
set_option linter.unusedSimpArgs false
set_option linter.unusedVariables false
namespace Go.Proofs.Ytbknckiapcafdaa.Nest
open Abs Abs2

section
variable {P : Program} {K : Tbl} {G n : Nat} {ops : Array Oper} {r : Regs} {σ s1 : AS} {l : List Oper} {Q : Regs → AS → Prop}
/-- An operation that may change what lay before, ordered against all others. -/
theorem Lg_op {k0 d : Nat} {op : Op} {ty : TypeId} {pos : String} {aft : Array Edge} {v : Value} (hs : ∀ callf, aStep P G callf r σ.reset op = some (v, s1)) (hd : d < n) (hbar : barAt P ops [] k0 = true)
    (h : Lg P K G n ops [] [] (k0 + 1) l (rput r d v) (σ.merge s1) Q) : Lg P K G n ops [] [] k0 (⟨some d, op, ty, pos, aft, none⟩ :: l) r σ Q := by
  refine ⟨fun _ => ⟨v, s1, 0, fun fuel _ => hs _, ⟨.inr ⟨hbar, fun y hy => (nomatch hy)⟩, fun h => by cases h⟩, _, ?_, h⟩, fun h => (nomatch h)⟩
  simp only [aPut, bite_eq]; rw [if_pos (by rw [Nat.blt_eq]; exact hd)]
theorem Lg_qop {k0 d : Nat} {op : Op} {ty : TypeId} {pos : String} {aft : Array Edge} {v : Value} (hs : ∀ callf, aStep P G callf r σ.reset op = some (v, s1)) (hd : d < n) (hq : σ.next ≤ s1.low)
    (h : Lg P K G n ops [] [] (k0 + 1) l (rput r d v) (σ.merge s1) Q) : Lg P K G n ops [] [] k0 (⟨some d, op, ty, pos, aft, none⟩ :: l) r σ Q := by
  refine ⟨fun _ => ⟨v, s1, 0, fun fuel _ => hs _, ⟨.inl hq, fun h => by cases h⟩, _, ?_, h⟩, fun h => (nomatch h)⟩
  simp only [aPut, bite_eq]; rw [if_pos (by rw [Nat.blt_eq]; exact hd)]
theorem Lg_st {k0 : Nat} {op : Op} {ty : TypeId} {pos : String} {aft : Array Edge} {v : Value} (hs : ∀ callf, aStep P G callf r σ.reset op = some (v, s1)) (hbar : barAt P ops [] k0 = true)
    (h : Lg P K G n ops [] [] (k0 + 1) l r (σ.merge s1) Q) : Lg P K G n ops [] [] k0 (⟨none, op, ty, pos, aft, none⟩ :: l) r σ Q :=
  ⟨fun _ => ⟨v, s1, 0, fun fuel _ => hs _, ⟨.inr ⟨hbar, fun y hy => (nomatch hy)⟩, fun h => by cases h⟩, _, rfl, h⟩, fun h => (nomatch h)⟩
end

/-- A list of marks. -/
def BL (lo : Nat) (σ : AS) (v : Value) (l : List Bool) : Prop := ∃ b, v = .slice (some ⟨b, 0, none⟩) l.length l.length ∧ lo ≤ b ∧ b < σ.next ∧ σ.get b = ⟨1, 4, 0, l.map Value.bool, []⟩

section
variable {lo : Nat} {σ σ' : AS} {v : Value} {l : List Bool}
theorem BL.keep (h : BL lo σ v l) (hn : σ.next ≤ σ'.next) (hg : ∀ i, Own v i → i < σ.next → σ'.get i = σ.get i) : BL lo σ' v l := by
  obtain ⟨b, rfl, h1, h2, h3⟩ := h
  exact ⟨b, rfl, h1, by omega, (hg b ⟨_, _, rfl⟩ h2).trans h3⟩
theorem BL.own (h : BL lo σ v l) {i : Nat} (ho : Own v i) : lo ≤ i ∧ i < σ.next ∧ (σ.get i).elem = 4 ∧ (σ.get i).kind = 1 := by
  obtain ⟨b, rfl, h1, h2, h3⟩ := h
  obtain ⟨n, c, e⟩ := ho
  cases e
  exact ⟨h1, h2, by rw [h3], by rw [h3]⟩
theorem idx43 {b off len cap i : Nat} (h : i < len) : aIndexAddr Try.prog 43 (.slice (some ⟨b, off, none⟩) len cap) (.int .i64 (i : Int)) = some (.pointer (some ⟨b, off + i * 1, none⟩)) :=
  aIndexAddr_slice (inf := (Try.prog.info? 4).get!) Try.underlying43 (by kernel_rfl) (by kernel_rfl) h
theorem BL.at (h : BL lo σ v l) {i : Nat} (hi : i < l.length) : ∃ b, v = .slice (some ⟨b, 0, none⟩) l.length l.length ∧ lo ≤ b ∧ b < σ.next ∧ σ.get b = ⟨1, 4, 0, l.map Value.bool, []⟩ ∧
    aIndexAddr Try.prog 43 v (.int .i64 (i : Int)) = some (.pointer (some ⟨b, i, none⟩)) ∧
    (∀ σ', Ext σ σ' → aLoad Try.prog σ' 4 (.pointer (some ⟨b, i, none⟩)) = some (.bool (l.getD i true))) ∧
    aStore Try.prog σ 4 (.bool true) (.pointer (some ⟨b, i, none⟩)) = some (σ.put b ⟨1, 4, 0, (l.set i true).map Value.bool, []⟩) := by
  obtain ⟨b, rfl, h1, h2, h3⟩ := h
  have e1 := idx43 (b := b) (off := 0) (cap := l.length) hi
  rw [Nat.mul_one, Nat.zero_add] at e1
  refine ⟨b, rfl, h1, h2, h3, e1, fun σ' e => load1 Try.underlying4 rfl (cells_at ((e.get b h2).trans h3) ?_ (by rw [List.length_map]; omega)), ?_⟩
  · rw [List.drop_eq_getElem_cons (by rw [List.length_map]; exact hi)]
    simp [hi]
  · obtain ⟨inf, hi2, hs⟩ : ∃ inf, Try.prog.info? 4 = some inf ∧ inf.size = 1 := ⟨(Try.prog.info? 4).get!, by kernel_rfl, by kernel_rfl⟩
    have hz : Nat.beq (Value.bool true).cells.size 1 = true := rfl
    have hc : (Value.bool true).cells.toList = [.bool true] := rfl
    unfold aStore
    simp only [hi2, hs, hz, if_true, hc]
    unfold aWrite
    simp only [h3, hasLen_eq, List.length_map, List.length_cons, List.length_nil, Nat.zero_add]
    rw [ble_t (show i + 1 ≤ l.length by omega), lsplice_cons, lsplice_nil, ← List.map_set]
    rfl
end

/-- The values of a search's fields. -/
structure Flds where
  ov : Value
  iv : Value
  pv : Value
  nv : Value
  sv : Value
  lv : Value

/-- What the fields' values hold. -/
structure RepC (σ0 σ : AS) (xb N : Nat) (x : SS) (d : Flds) : Prop where
  ext : Ext σ0 σ
  lo : σ0.next ≤ xb
  lt : xb < σ.next
  el : (σ.get xb).elem = 66
  ol : x.outer.length = N
  il : x.inner.length = N
  outer : BL σ0.next σ d.ov x.outer
  inner : BL σ0.next σ d.iv x.inner
  oi : ∀ i, Own d.ov i → ¬ Own d.iv i
  path : Stk σ0.next 27 2 σ d.pv x.path.length (cellsOf x.path)
  on : StkC σ0.next 3 1 σ d.nv x.on.length (x.on.map (Value.int .i64))
  stem : Stk σ0.next 27 2 σ d.sv x.stem.length (cellsOf x.stem)
  ps : ∀ i, Own d.pv i → ¬ Own d.sv i
  loop : GRow σ d.lv x.loop

def fblk (Lv : Value) (f : Bool) (d : Flds) : Blk := ⟨1, 66, 0, [Lv, d.ov, d.iv, d.pv, d.nv, d.sv, d.lv, .bool f], []⟩

structure RepV (σ0 σ : AS) (xb : Nat) (Lv : Value) (N : Nat) (x : SS) (d : Flds) : Prop where
  c : RepC σ0 σ xb N x d
  get : σ.get xb = fblk Lv x.found d

def Rep (σ0 σ : AS) (xb : Nat) (Lv : Value) (N : Nat) (x : SS) : Prop := ∃ d, RepV σ0 σ xb Lv N x d

section
variable {σ0 σ σ' s : AS} {xb N : Nat} {Lv : Value} {x : SS} {d : Flds}

theorem GRow.keep {σ σ' : AS} {v : Value} {l : List Arc} (h : GRow σ v l) (hn : σ.next ≤ σ'.next) (hg : ∀ i, i < σ.next → (σ.get i).elem = 27 → Own v i → σ'.get i = σ.get i) : GRow σ' v l :=
  h.imp_right fun ⟨h0, b, h1, h2, h3⟩ => ⟨h0, b, h1, by omega, (hg b h2 (by rw [h3]; rfl) (by rw [h1]; exact ⟨_, _, rfl⟩)).trans h3⟩

theorem RepC.keep (h : RepC σ0 σ xb N x d) (hE : Ext σ0 σ') (hn : σ.next ≤ σ'.next) (hg : ∀ i, i < σ.next → i ≠ xb → σ'.get i = σ.get i) (he : (σ'.get xb).elem = 66) : RepC σ0 σ' xb N x d := by
  have ne : ∀ {e i : Nat}, (σ.get i).elem = e → e ≠ 66 → i ≠ xb := fun h1 h2 h3 => by rw [h3, h.el] at h1; exact h2 h1.symm
  exact ⟨hE, h.lo, by have := h.lt; omega, he, h.ol, h.il, h.outer.keep hn fun i ho hi => hg i hi (ne (h.outer.own ho).2.2.1 (by decide)), h.inner.keep hn fun i ho hi => hg i hi (ne (h.inner.own ho).2.2.1 (by decide)), h.oi,
    h.path.keep hn fun i ho hi => hg i hi (ne (h.path.own ho).2.2.2 (by decide)), h.on.keep hn fun i ho hi => hg i hi (ne (h.on.own ho).2.2 (by decide)), h.stem.keep hn fun i ho hi => hg i hi (ne (h.stem.own ho).2.2.2 (by decide)), h.ps,
    h.loop.keep hn fun i hi he _ => hg i hi (ne he (by decide))⟩

theorem RepV.ext (h : RepV σ0 σ xb Lv N x d) (e : Ext σ σ') : RepV σ0 σ' xb Lv N x d :=
  ⟨h.c.keep (h.c.ext.trans e) e.nxt (fun i hi _ => e.get i hi) (by rw [e.get _ h.c.lt]; exact h.c.el), (e.get _ h.c.lt).trans h.get⟩
theorem Rep.ext (h : Rep σ0 σ xb Lv N x) (e : Ext σ σ') : Rep σ0 σ' xb Lv N x := h.imp fun _ h => h.ext e

theorem ext_merge {σ0 σ s : AS} (h : Ext σ0 σ) (hs : Ext σ0 s) : Ext σ0 (σ.merge s) := ⟨hs.nxt, hs.get, fun m h1 h2 => Nat.le_min.2 ⟨h.low m h1 h2, hs.low m h1 h2⟩⟩

theorem RepC.merge (h : RepC σ0 s xb N x d) (e : Ext σ0 σ) : RepC σ0 (σ.merge s) xb N x d := h.keep (ext_merge e h.ext) (Nat.le_refl _) (fun _ _ _ => rfl) h.el
theorem RepV.merge (h : RepV σ0 s xb Lv N x d) (e : Ext σ0 σ) : RepV σ0 (σ.merge s) xb Lv N x d := ⟨h.c.merge e, h.get⟩

/-- A field is stored. -/
theorem RepC.put (h : RepC σ0 σ xb N x d) : RepV σ0 (σ.put xb (fblk Lv x.found d)) xb Lv N x d :=
  ⟨h.keep (h.ext.put h.lo _) (Nat.le_refl _) (fun i _ hi => by rw [AS.get_put, if_neg (fun e => hi e.symm)]) (by rw [AS.get_put, if_pos rfl]; rfl), by rw [AS.get_put, if_pos rfl]⟩

/-- A change of one list. -/
structure Chg (σ0 σ s : AS) (v v' : Value) : Prop where
  nxt : σ.next ≤ s.next
  get : ∀ i, i < σ.next → ¬ Own v i → s.get i = σ.get i
  low : ∀ q, q ≤ σ0.next → q ≤ σ.low → q ≤ s.low
  own : ∀ i, Own v' i → Own v i ∨ σ.next ≤ i

theorem Chg.ext {v v' : Value} (h : Chg σ0 σ s v v') (e : Ext σ0 σ) (ho : ∀ i, Own v i → σ0.next ≤ i) : Ext σ0 s :=
  ⟨Nat.le_trans e.nxt h.nxt, fun i hi => by rw [h.get i (Nat.lt_of_lt_of_le hi e.nxt) (fun h2 => by have := ho i h2; omega), e.get i hi], fun m h1 h2 => h.low m h2 (e.low m h1 h2)⟩
theorem Chg.cut {v v' : Value} (h : ∀ i, Own v' i → Own v i) : Chg σ0 σ σ v v' := ⟨Nat.le_refl _, fun _ _ _ => rfl, fun _ _ h => h, fun i hi => .inl (h i hi)⟩

theorem RepC.setPath (h : RepC σ0 σ xb N x d) {v' : Value} {p : List Arc} (hc : Chg σ0 σ s d.pv v') (hs : Stk σ0.next 27 2 s v' p.length (cellsOf p)) (hl : x.loop = []) : RepC σ0 s xb N { x with path := p } { d with pv := v' } := by
  have own : ∀ i, Own d.pv i → σ0.next ≤ i ∧ (σ.get i).elem = 27 ∧ (σ.get i).kind = 2 := fun i hi => ⟨(h.path.own hi).1, (h.path.own hi).2.2.2, (h.path.own hi).2.2.1⟩
  have ne : ∀ {i : Nat}, (σ.get i).elem ≠ 27 → ¬ Own d.pv i := fun h1 h2 => h1 (own _ h2).2.1
  refine ⟨hc.ext h.ext fun i hi => (own i hi).1, h.lo, by have := h.lt; have := hc.nxt; omega, ?_, h.ol, h.il, h.outer.keep hc.nxt fun i ho hi => hc.get i hi (ne (by rw [(h.outer.own ho).2.2.1]; decide)), h.inner.keep hc.nxt fun i ho hi => hc.get i hi (ne (by rw [(h.inner.own ho).2.2.1]; decide)), h.oi, hs, h.on.keep hc.nxt fun i ho hi => hc.get i hi (ne (by rw [(h.on.own ho).2.2]; decide)), h.stem.keep hc.nxt fun i ho hi => hc.get i hi (fun h2 => h.ps i h2 ho), fun i hi ho => ?_, ?_⟩
  · rw [hc.get xb h.lt (ne (by rw [h.el]; decide))]; exact h.el
  · rcases hc.own i hi with h2 | h2
    · exact h.ps i h2 ho
    · have := (h.stem.own ho).2.1; omega
  · have := h.loop
    rw [hl] at this ⊢
    rcases this with this | ⟨h0, _⟩
    · exact .inl this
    · exact absurd rfl h0

theorem RepC.setStem (h : RepC σ0 σ xb N x d) {v' : Value} {p : List Arc} (hc : Chg σ0 σ s d.sv v') (hs : Stk σ0.next 27 2 s v' p.length (cellsOf p)) (hl : x.loop = []) : RepC σ0 s xb N { x with stem := p } { d with sv := v' } := by
  have own : ∀ i, Own d.sv i → σ0.next ≤ i ∧ (σ.get i).elem = 27 ∧ (σ.get i).kind = 2 := fun i hi => ⟨(h.stem.own hi).1, (h.stem.own hi).2.2.2, (h.stem.own hi).2.2.1⟩
  have ne : ∀ {i : Nat}, (σ.get i).elem ≠ 27 → ¬ Own d.sv i := fun h1 h2 => h1 (own _ h2).2.1
  refine ⟨hc.ext h.ext fun i hi => (own i hi).1, h.lo, by have := h.lt; have := hc.nxt; omega, ?_, h.ol, h.il, h.outer.keep hc.nxt fun i ho hi => hc.get i hi (ne (by rw [(h.outer.own ho).2.2.1]; decide)), h.inner.keep hc.nxt fun i ho hi => hc.get i hi (ne (by rw [(h.inner.own ho).2.2.1]; decide)), h.oi, h.path.keep hc.nxt fun i ho hi => hc.get i hi (fun h2 => h.ps i ho h2), h.on.keep hc.nxt fun i ho hi => hc.get i hi (ne (by rw [(h.on.own ho).2.2]; decide)), hs, fun i hi ho => ?_, ?_⟩
  · rw [hc.get xb h.lt (ne (by rw [h.el]; decide))]; exact h.el
  · rcases hc.own i ho with h2 | h2
    · exact h.ps i hi h2
    · have := (h.path.own hi).2.1; omega
  · have := h.loop
    rw [hl] at this ⊢
    rcases this with this | ⟨h0, _⟩
    · exact .inl this
    · exact absurd rfl h0

theorem RepC.setOn (h : RepC σ0 σ xb N x d) {v' : Value} {p : List Int} (hc : Chg σ0 σ s d.nv v') (hs : StkC σ0.next 3 1 s v' p.length (p.map (Value.int .i64))) (hl : x.loop = []) : RepC σ0 s xb N { x with on := p } { d with nv := v' } := by
  have own : ∀ i, Own d.nv i → σ0.next ≤ i ∧ (σ.get i).elem = 3 := fun i hi => ⟨(h.on.own hi).1, (h.on.own hi).2.2⟩
  have ne : ∀ {i : Nat}, (σ.get i).elem ≠ 3 → ¬ Own d.nv i := fun h1 h2 => h1 (own _ h2).2
  refine ⟨hc.ext h.ext fun i hi => (own i hi).1, h.lo, by have := h.lt; have := hc.nxt; omega, ?_, h.ol, h.il, h.outer.keep hc.nxt fun i ho hi => hc.get i hi (ne (by rw [(h.outer.own ho).2.2.1]; decide)), h.inner.keep hc.nxt fun i ho hi => hc.get i hi (ne (by rw [(h.inner.own ho).2.2.1]; decide)), h.oi, h.path.keep hc.nxt fun i ho hi => hc.get i hi (ne (by rw [(h.path.own ho).2.2.2]; decide)), hs, h.stem.keep hc.nxt fun i ho hi => hc.get i hi (ne (by rw [(h.stem.own ho).2.2.2]; decide)), h.ps, ?_⟩
  · rw [hc.get xb h.lt (ne (by rw [h.el]; decide))]; exact h.el
  · have := h.loop
    rw [hl] at this ⊢
    rcases this with this | ⟨h0, _⟩
    · exact .inl this
    · exact absurd rfl h0

/-- A mark is set. -/
theorem RepV.mark (h : RepV σ0 σ xb Lv N x d) {i : Nat} (hi : i < N) : ∃ b, Own d.iv b ∧ aIndexAddr Try.prog 43 d.iv (.int .i64 (i : Int)) = some (.pointer (some ⟨b, i, none⟩)) ∧
    aStore Try.prog σ 4 (.bool true) (.pointer (some ⟨b, i, none⟩)) = some (σ.put b ⟨1, 4, 0, (x.inner.set i true).map Value.bool, []⟩) ∧
    RepV σ0 (σ.put b ⟨1, 4, 0, (x.inner.set i true).map Value.bool, []⟩) xb Lv N { x with inner := x.inner.set i true } d := by
  obtain ⟨b, e, h1, h2, h3, h4, -, h6⟩ := h.c.inner.at (i := i) (by rw [h.c.il]; exact hi)
  have hb : Own d.iv b := by rw [e]; exact ⟨_, _, rfl⟩
  have ne : ∀ {j : Nat}, (σ.get j).elem ≠ 4 → (σ.put b ⟨1, 4, 0, (x.inner.set i true).map Value.bool, []⟩).get j = σ.get j := fun {j} hj => by
    rw [AS.get_put, if_neg]
    rintro rfl
    rw [h3] at hj
    exact hj rfl
  refine ⟨b, hb, h4, h6, ⟨h.c.ext.put h1 _, h.c.lo, h.c.lt, ?_, h.c.ol, by rw [List.length_set]; exact h.c.il, h.c.outer.keep (Nat.le_refl _) fun j ho _ => ?_, ⟨b, by rw [List.length_set]; exact e, h1, h2, by rw [AS.get_put, if_pos rfl]⟩, h.c.oi,
    h.c.path.keep (Nat.le_refl _) fun j ho _ => ne (by rw [(h.c.path.own ho).2.2.2]; decide), h.c.on.keep (Nat.le_refl _) fun j ho _ => ne (by rw [(h.c.on.own ho).2.2]; decide), h.c.stem.keep (Nat.le_refl _) fun j ho _ => ne (by rw [(h.c.stem.own ho).2.2.2]; decide), h.c.ps,
    h.c.loop.keep (Nat.le_refl _) fun j _ he _ => ne (by rw [he]; decide)⟩, ?_⟩
  · rw [ne (by rw [h.c.el]; decide)]; exact h.c.el
  · rw [AS.get_put, if_neg]
    rintro rfl
    exact h.c.oi _ ho hb
  · rw [ne (by rw [h.c.el]; decide)]; exact h.get

theorem RepV.markO (h : RepV σ0 σ xb Lv N x d) {i : Nat} (hi : i < N) : ∃ b, Own d.ov b ∧ aIndexAddr Try.prog 43 d.ov (.int .i64 (i : Int)) = some (.pointer (some ⟨b, i, none⟩)) ∧
    aStore Try.prog σ 4 (.bool true) (.pointer (some ⟨b, i, none⟩)) = some (σ.put b ⟨1, 4, 0, (x.outer.set i true).map Value.bool, []⟩) ∧
    RepV σ0 (σ.put b ⟨1, 4, 0, (x.outer.set i true).map Value.bool, []⟩) xb Lv N { x with outer := x.outer.set i true } d := by
  obtain ⟨b, e, h1, h2, h3, h4, -, h6⟩ := h.c.outer.at (i := i) (by rw [h.c.ol]; exact hi)
  have hb : Own d.ov b := by rw [e]; exact ⟨_, _, rfl⟩
  have ne : ∀ {j : Nat}, (σ.get j).elem ≠ 4 → (σ.put b ⟨1, 4, 0, (x.outer.set i true).map Value.bool, []⟩).get j = σ.get j := fun {j} hj => by
    rw [AS.get_put, if_neg]
    rintro rfl
    rw [h3] at hj
    exact hj rfl
  refine ⟨b, hb, h4, h6, ⟨h.c.ext.put h1 _, h.c.lo, h.c.lt, ?_, by rw [List.length_set]; exact h.c.ol, h.c.il, ⟨b, by rw [List.length_set]; exact e, h1, h2, by rw [AS.get_put, if_pos rfl]⟩, h.c.inner.keep (Nat.le_refl _) fun j ho _ => ?_, h.c.oi,
    h.c.path.keep (Nat.le_refl _) fun j ho _ => ne (by rw [(h.c.path.own ho).2.2.2]; decide), h.c.on.keep (Nat.le_refl _) fun j ho _ => ne (by rw [(h.c.on.own ho).2.2]; decide), h.c.stem.keep (Nat.le_refl _) fun j ho _ => ne (by rw [(h.c.stem.own ho).2.2.2]; decide), h.c.ps,
    h.c.loop.keep (Nat.le_refl _) fun j _ he _ => ne (by rw [he]; decide)⟩, ?_⟩
  · rw [ne (by rw [h.c.el]; decide)]; exact h.c.el
  · rw [AS.get_put, if_neg]
    rintro rfl
    exact h.c.oi _ hb ho
  · rw [ne (by rw [h.c.el]; decide)]; exact h.get

theorem fld66_0 {b : Nat} : aField Try.prog 66 0 (.pointer (some ⟨b, 0, none⟩)) = some (.pointer (some ⟨b, 0, none⟩)) := by kernel_rfl
theorem RepV.ld0 (h : RepV σ0 σ xb Lv N x d) : aLoad Try.prog σ 28 (.pointer (some ⟨xb, 0, none⟩)) = some (Lv) := load1 Try.underlying28 rfl (cells_at h.get rfl (by simp))
theorem fld66_1 {b : Nat} : aField Try.prog 66 1 (.pointer (some ⟨b, 0, none⟩)) = some (.pointer (some ⟨b, 1, none⟩)) := by kernel_rfl
theorem RepV.ld1 (h : RepV σ0 σ xb Lv N x d) : aLoad Try.prog σ 43 (.pointer (some ⟨xb, 1, none⟩)) = some (d.ov) := load1 Try.underlying43 rfl (cells_at h.get rfl (by simp))
theorem fld66_2 {b : Nat} : aField Try.prog 66 2 (.pointer (some ⟨b, 0, none⟩)) = some (.pointer (some ⟨b, 2, none⟩)) := by kernel_rfl
theorem RepV.ld2 (h : RepV σ0 σ xb Lv N x d) : aLoad Try.prog σ 43 (.pointer (some ⟨xb, 2, none⟩)) = some (d.iv) := load1 Try.underlying43 rfl (cells_at h.get rfl (by simp))
theorem fld66_3 {b : Nat} : aField Try.prog 66 3 (.pointer (some ⟨b, 0, none⟩)) = some (.pointer (some ⟨b, 3, none⟩)) := by kernel_rfl
theorem RepV.ld3 (h : RepV σ0 σ xb Lv N x d) : aLoad Try.prog σ 22 (.pointer (some ⟨xb, 3, none⟩)) = some (d.pv) := load1 Try.underlying22 rfl (cells_at h.get rfl (by simp))
theorem fld66_4 {b : Nat} : aField Try.prog 66 4 (.pointer (some ⟨b, 0, none⟩)) = some (.pointer (some ⟨b, 4, none⟩)) := by kernel_rfl
theorem RepV.ld4 (h : RepV σ0 σ xb Lv N x d) : aLoad Try.prog σ 33 (.pointer (some ⟨xb, 4, none⟩)) = some (d.nv) := load1 Try.underlying33 rfl (cells_at h.get rfl (by simp))
theorem fld66_5 {b : Nat} : aField Try.prog 66 5 (.pointer (some ⟨b, 0, none⟩)) = some (.pointer (some ⟨b, 5, none⟩)) := by kernel_rfl
theorem RepV.ld5 (h : RepV σ0 σ xb Lv N x d) : aLoad Try.prog σ 22 (.pointer (some ⟨xb, 5, none⟩)) = some (d.sv) := load1 Try.underlying22 rfl (cells_at h.get rfl (by simp))
theorem fld66_6 {b : Nat} : aField Try.prog 66 6 (.pointer (some ⟨b, 0, none⟩)) = some (.pointer (some ⟨b, 6, none⟩)) := by kernel_rfl
theorem RepV.ld6 (h : RepV σ0 σ xb Lv N x d) : aLoad Try.prog σ 22 (.pointer (some ⟨xb, 6, none⟩)) = some (d.lv) := load1 Try.underlying22 rfl (cells_at h.get rfl (by simp))
theorem fld66_7 {b : Nat} : aField Try.prog 66 7 (.pointer (some ⟨b, 0, none⟩)) = some (.pointer (some ⟨b, 7, none⟩)) := by kernel_rfl
theorem RepV.ld7 (h : RepV σ0 σ xb Lv N x d) : aLoad Try.prog σ 4 (.pointer (some ⟨xb, 7, none⟩)) = some (.bool x.found) := load1 Try.underlying4 rfl (cells_at h.get rfl (by simp))

theorem store66 {t i : Nat} {v : Value} {vals : List Value} (h : σ.get xb = ⟨1, 66, 0, vals, []⟩) (hi : i < vals.length) (hv : (∃ a n c, v = .slice a n c) ∨ ∃ f, v = .bool f) (ht : ∃ inf, Try.prog.info? t = some inf ∧ inf.size = 1) :
    aStore Try.prog σ t v (.pointer (some ⟨xb, i, none⟩)) = some (σ.put xb ⟨1, 66, 0, vals.set i v, []⟩) := by
  obtain ⟨inf, hi2, hs⟩ := ht
  have hz : Nat.beq v.cells.size 1 = true ∧ v.cells.toList = [v] ∧ one v = true := by
    rcases hv with ⟨a, n, c, rfl⟩ | ⟨f, rfl⟩ <;> exact ⟨rfl, rfl, rfl⟩
  unfold aStore
  simp only [hi2, hs, hz.1, if_true, hz.2.1]
  unfold aWrite
  simp only [h, hasLen_eq, List.length_cons, List.length_nil, Nat.zero_add, List.all_cons, List.all_nil, hz.2.2]
  rw [ble_t (show i + 1 ≤ vals.length by omega), lsplice_cons, lsplice_nil]
  rfl
theorem sz22 : ∃ inf, Try.prog.info? 22 = some inf ∧ inf.size = 1 := ⟨(Try.prog.info? 22).get!, by kernel_rfl, by kernel_rfl⟩
theorem sz33 : ∃ inf, Try.prog.info? 33 = some inf ∧ inf.size = 1 := ⟨(Try.prog.info? 33).get!, by kernel_rfl, by kernel_rfl⟩
theorem sz4 : ∃ inf, Try.prog.info? 4 = some inf ∧ inf.size = 1 := ⟨(Try.prog.info? 4).get!, by kernel_rfl, by kernel_rfl⟩

/-- A list has been changed, its field is not yet stored. -/
structure Mid (σ0 σ : AS) (xb : Nat) (Lv : Value) (N : Nat) (x : SS) (d d' : Flds) : Prop where
  c : RepC σ0 σ xb N x d'
  get : σ.get xb = fblk Lv x.found d

theorem Mid.ext {d' : Flds} (h : Mid σ0 σ xb Lv N x d d') (e : Ext σ σ') : Mid σ0 σ' xb Lv N x d d' :=
  ⟨h.c.keep (h.c.ext.trans e) e.nxt (fun i hi _ => e.get i hi) (by rw [e.get _ h.c.lt]; exact h.c.el), (e.get _ h.c.lt).trans h.get⟩
theorem Mid.merge {d' : Flds} (h : Mid σ0 s xb Lv N x d d') (e : Ext σ0 σ) : Mid σ0 (σ.merge s) xb Lv N x d d' := ⟨h.c.merge e, h.get⟩
theorem Mid.st3 {v' : Value} (h : Mid σ0 σ xb Lv N x d { d with pv := v' }) (hv : ∃ a n c, v' = .slice a n c) :
    aStore Try.prog σ 22 v' (.pointer (some ⟨xb, 3, none⟩)) = some (σ.put xb (fblk Lv x.found { d with pv := v' })) := store66 h.get (by simp) (.inl hv) sz22
theorem Mid.st4 {v' : Value} (h : Mid σ0 σ xb Lv N x d { d with nv := v' }) (hv : ∃ a n c, v' = .slice a n c) :
    aStore Try.prog σ 33 v' (.pointer (some ⟨xb, 4, none⟩)) = some (σ.put xb (fblk Lv x.found { d with nv := v' })) := store66 h.get (by simp) (.inl hv) sz33
theorem Mid.st5 {v' : Value} (h : Mid σ0 σ xb Lv N x d { d with sv := v' }) (hv : ∃ a n c, v' = .slice a n c) :
    aStore Try.prog σ 22 v' (.pointer (some ⟨xb, 5, none⟩)) = some (σ.put xb (fblk Lv x.found { d with sv := v' })) := store66 h.get (by simp) (.inl hv) sz22
theorem Mid.st6 {v' : Value} (h : Mid σ0 σ xb Lv N x d { d with lv := v' }) (hv : ∃ a n c, v' = .slice a n c) :
    aStore Try.prog σ 22 v' (.pointer (some ⟨xb, 6, none⟩)) = some (σ.put xb (fblk Lv x.found { d with lv := v' })) := store66 h.get (by simp) (.inl hv) sz22
theorem Mid.put {d' : Flds} (h : Mid σ0 σ xb Lv N x d d') : RepV σ0 (σ.put xb (fblk Lv x.found d')) xb Lv N x d' := h.c.put
theorem RepC.found (h : RepC σ0 σ xb N x d) (f : Bool) : RepC σ0 σ xb N { x with found := f } d :=
  ⟨h.ext, h.lo, h.lt, h.el, h.ol, h.il, h.outer, h.inner, h.oi, h.path, h.on, h.stem, h.ps, h.loop⟩
theorem RepV.st7 (h : RepV σ0 σ xb Lv N x d) : aStore Try.prog σ 4 (.bool true) (.pointer (some ⟨xb, 7, none⟩)) = some (σ.put xb (fblk Lv true d)) := store66 h.get (by simp) (.inr ⟨_, rfl⟩) sz4
theorem RepV.find (h : RepV σ0 σ xb Lv N x d) : RepV σ0 (σ.put xb (fblk Lv true d)) xb Lv N { x with found := true } d := (h.c.found true).put

theorem RepV.pushPath (h : RepV σ0 σ xb Lv N x d) {y : Value} {k : List Arc} (hy : Src σ y k) (hl : x.loop = []) (hb : x.path.length + k.length ≤ 1000000) :
    ∃ v' s, aAppend Try.prog σ #[22, 22] d.pv y = some (v', s) ∧ Mid σ0 s xb Lv N { x with path := x.path ++ k } d { d with pv := v' } ∧ (∃ a n c, v' = .slice a n c) ∧ (∀ b a, ArcAt σ b a → ArcAt s b a) := by
  obtain ⟨v', s, h1, h2, h3, h4, h5, h6⟩ := h.c.path.push el27 h.c.ext.nxt hy (cellsOf_length k) (cellsOf_one k) hb
  rw [← cellsOf_append, ← List.length_append] at h2
  refine ⟨v', s, h1, ⟨h.c.setPath ⟨h3, h4, h5, h6⟩ h2 hl, ?_⟩, ?_, fun b a hA => ⟨by have := hA.lt; omega, (h4 b hA.lt fun ho => ?_).trans hA.get⟩⟩
  · rw [h4 xb h.c.lt (fun ho => by have := (h.c.path.own ho).2.2.2; rw [h.c.el] at this; exact absurd this (by decide))]
    exact h.get
  · obtain ⟨a, c, e⟩ := h2.len; exact ⟨_, _, _, e⟩
  · have := (h.c.path.own ho).2.2.1
    rw [hA.get] at this
    have h9 : (1 : Nat) = 2 := this
    omega
theorem RepV.pushStem (h : RepV σ0 σ xb Lv N x d) {y : Value} {k : List Arc} (hy : Src σ y k) (hl : x.loop = []) (hb : x.stem.length + k.length ≤ 1000000) :
    ∃ v' s, aAppend Try.prog σ #[22, 22] d.sv y = some (v', s) ∧ Mid σ0 s xb Lv N { x with stem := x.stem ++ k } d { d with sv := v' } ∧ (∃ a n c, v' = .slice a n c) ∧ (∀ b a, ArcAt σ b a → ArcAt s b a) := by
  obtain ⟨v', s, h1, h2, h3, h4, h5, h6⟩ := h.c.stem.push el27 h.c.ext.nxt hy (cellsOf_length k) (cellsOf_one k) hb
  rw [← cellsOf_append, ← List.length_append] at h2
  refine ⟨v', s, h1, ⟨h.c.setStem ⟨h3, h4, h5, h6⟩ h2 hl, ?_⟩, ?_, fun b a hA => ⟨by have := hA.lt; omega, (h4 b hA.lt fun ho => ?_).trans hA.get⟩⟩
  · rw [h4 xb h.c.lt (fun ho => by have := (h.c.stem.own ho).2.2.2; rw [h.c.el] at this; exact absurd this (by decide))]
    exact h.get
  · obtain ⟨a, c, e⟩ := h2.len; exact ⟨_, _, _, e⟩
  · have := (h.c.stem.own ho).2.2.1
    rw [hA.get] at this
    have h9 : (1 : Nat) = 2 := this
    omega
theorem RepV.pushOn (h : RepV σ0 σ xb Lv N x d) {y : Value} {t : Int} (hy : ∀ inf : TypeInfo, inf.size = 1 → aSource Try.prog σ false inf y = some (1, [.int .i64 t])) (hl : x.loop = []) (hb : x.on.length + 1 ≤ 1000000) :
    ∃ v' s, aAppend Try.prog σ #[33, 33] d.nv y = some (v', s) ∧ Mid σ0 s xb Lv N { x with on := x.on ++ [t] } d { d with nv := v' } ∧ (∃ a n c, v' = .slice a n c) ∧ (∀ b a, ArcAt σ b a → ArcAt s b a) := by
  obtain ⟨v', s, h1, h2, h3, h4, h5, h6⟩ := h.c.on.push el3 h.c.ext.nxt hy rfl rfl hb (by decide)
  have h2 : Stk σ0.next 3 1 s v' (x.on ++ [t]).length ((x.on ++ [t]).map (Value.int .i64)) := by
    rw [List.length_append, List.map_append]; exact h2
  refine ⟨v', s, h1, ⟨h.c.setOn ⟨h3, h4, h5, h6⟩ (.inr h2) hl, ?_⟩, ?_, fun b a hA => ⟨by have := hA.lt; omega, (h4 b hA.lt fun ho => ?_).trans hA.get⟩⟩
  · rw [h4 xb h.c.lt (fun ho => by have := (h.c.on.own ho).2.2; rw [h.c.el] at this; exact absurd this (by decide))]
    exact h.get
  · obtain ⟨a, c, e⟩ := h2.len; exact ⟨_, _, _, e⟩
  · have := (h.c.on.own ho).2.2
    rw [hA.get] at this
    have h9 : (27 : Nat) = 3 := this
    omega

theorem dropLast_cells (l : List Arc) : (cellsOf l).take ((l.length - 1) * 2) = cellsOf l.dropLast := by rw [cellsOf_take, List.dropLast_eq_take]

theorem RepV.popPath (h : RepV σ0 σ xb Lv N x d) (hl : x.loop = []) :
    ∃ v', aSlice Try.prog σ 22 d.pv none (some (.int .i64 ((x.path.length - 1 : Nat) : Int))) none = some v' ∧ Mid σ0 σ xb Lv N { x with path := x.path.dropLast } d { d with pv := v' } ∧ (∃ a n c, v' = .slice a n c) := by
  obtain ⟨v', h1, h2, h3, -⟩ := h.c.path.cut el27 (j := x.path.length - 1) (by omega)
  rw [dropLast_cells, ← List.length_dropLast] at h2
  exact ⟨v', h1, ⟨h.c.setPath (Chg.cut h3) h2 hl, h.get⟩, by obtain ⟨a, c, e⟩ := h2.len; exact ⟨_, _, _, e⟩⟩
theorem RepV.popStem (h : RepV σ0 σ xb Lv N x d) (hl : x.loop = []) :
    ∃ v', aSlice Try.prog σ 22 d.sv none (some (.int .i64 ((x.stem.length - 1 : Nat) : Int))) none = some v' ∧ Mid σ0 σ xb Lv N { x with stem := x.stem.dropLast } d { d with sv := v' } ∧ (∃ a n c, v' = .slice a n c) := by
  obtain ⟨v', h1, h2, h3, -⟩ := h.c.stem.cut el27 (j := x.stem.length - 1) (by omega)
  rw [dropLast_cells, ← List.length_dropLast] at h2
  exact ⟨v', h1, ⟨h.c.setStem (Chg.cut h3) h2 hl, h.get⟩, by obtain ⟨a, c, e⟩ := h2.len; exact ⟨_, _, _, e⟩⟩
theorem RepV.popOn (h : RepV σ0 σ xb Lv N x d) (hl : x.loop = []) (h2n : x.on.length ≠ 1) :
    ∃ v', aSlice Try.prog σ 33 d.nv none (some (.int .i64 ((x.on.length - 1 : Nat) : Int))) none = some v' ∧ Mid σ0 σ xb Lv N { x with on := x.on.dropLast } d { d with nv := v' } ∧ (∃ a n c, v' = .slice a n c) := by
  obtain ⟨v', h1, h2, h3, -⟩ := (h.c.on.open_ h2n).cut el3 (j := x.on.length - 1) (by omega)
  have e : (x.on.map (Value.int .i64)).take ((x.on.length - 1) * 1) = x.on.dropLast.map (Value.int .i64) := by
    rw [Nat.mul_one, List.dropLast_eq_take, List.map_take]
  rw [e, ← List.length_dropLast] at h2
  exact ⟨v', h1, ⟨h.c.setOn (Chg.cut h3) (.inr h2) hl, h.get⟩, by obtain ⟨a, c, e⟩ := h2.len; exact ⟨_, _, _, e⟩⟩

theorem Stk.src {lo k : Nat} {v : Value} {l : List Arc} (h : Stk lo 27 2 σ v l.length (cellsOf l)) (hk : k ≤ l.length) : ∃ y, aSlice Try.prog σ 22 v none (some (.int .i64 (k : Int))) none = some y ∧ Src σ y (l.take k) := by
  obtain ⟨y, h1, -, -, h4⟩ := h.cut el27 hk
  refine ⟨y, h1, fun inf hi => ?_⟩
  rw [h4 inf hi, cellsOf_take, List.length_take, Nat.min_eq_left hk]
theorem Stk.srcFrom {lo k : Nat} {v : Value} {l : List Arc} (h : Stk lo 27 2 σ v l.length (cellsOf l)) (hk : k ≤ l.length) : ∃ y, aSlice Try.prog σ 22 v (some (.int .i64 (k : Int))) none none = some y ∧ Src σ y (l.drop k) := by
  obtain ⟨y, h1, h4⟩ := h.tail el27 hk
  refine ⟨y, h1, fun inf hi => ?_⟩
  rw [h4 inf hi, cellsOf_drop, List.length_drop]

theorem RepV.setLoop (h : RepV σ0 σ xb Lv N x d) {v' : Value} {l : List Arc} (hg : GRow σ v' l) : Mid σ0 σ xb Lv N { x with loop := l } d { d with lv := v' } :=
  ⟨⟨h.c.ext, h.c.lo, h.c.lt, h.c.el, h.c.ol, h.c.il, h.c.outer, h.c.inner, h.c.oi, h.c.path, h.c.on, h.c.stem, h.c.ps, hg⟩, h.get⟩

theorem ArcAt.putX {b : Nat} {a : Arc} (hA : ArcAt σ b a) (hx : (σ.get xb).elem = 66) (B : Blk) : ArcAt (σ.put xb B) b a := by
  refine ⟨hA.lt, ?_⟩
  rw [AS.get_put, if_neg]
  · exact hA.get
  · rintro rfl
    rw [hA.get] at hx
    have h9 : (27 : Nat) = 66 := hx
    omega
theorem arc_merge {b : Nat} {a : Arc} {σ s : AS} (hA : ArcAt s b a) : ArcAt (σ.merge s) b a := ⟨hA.lt, hA.get⟩

theorem st3g {v' : Value} {f : Bool} (h : σ.get xb = fblk Lv f d) (hv : ∃ a n c, v' = .slice a n c) :
    aStore Try.prog σ 22 v' (.pointer (some ⟨xb, 3, none⟩)) = some (σ.put xb (fblk Lv f { d with pv := v' })) := store66 h (by simp) (.inl hv) sz22
theorem st4g {v' : Value} {f : Bool} (h : σ.get xb = fblk Lv f d) (hv : ∃ a n c, v' = .slice a n c) :
    aStore Try.prog σ 33 v' (.pointer (some ⟨xb, 4, none⟩)) = some (σ.put xb (fblk Lv f { d with nv := v' })) := store66 h (by simp) (.inl hv) sz33
theorem RepC.putAny (h : RepC σ0 σ xb N x d) {B : Blk} (hB : B.elem = 66) : RepC σ0 (σ.put xb B) xb N x d :=
  h.keep (h.ext.put h.lo _) (Nat.le_refl _) (fun i _ hi => by rw [AS.get_put, if_neg (fun e => hi e.symm)]) (by rw [AS.get_put, if_pos rfl]; exact hB)
theorem not_own_nil {i : Nat} : ¬ Own (.slice none 0 0) i := fun ⟨_, _, e⟩ => by cases e

/-- The inner search's lists begin anew. -/
theorem RepV.begin (h : RepV σ0 σ xb Lv N x d) (t : Int) (hl : x.loop = []) :
    RepV σ0 (((σ.new ⟨1, 3, 0, [.int .i64 t], []⟩).put xb (fblk Lv x.found { d with pv := .slice none 0 0 })).put xb (fblk Lv x.found { d with pv := .slice none 0 0, nv := .slice (some ⟨σ.next, 0, none⟩) 1 1 })) xb Lv N
      { x with path := [], on := [t] } { d with pv := .slice none 0 0, nv := .slice (some ⟨σ.next, 0, none⟩) 1 1 } := by
  have hc : Chg σ0 σ (σ.new ⟨1, 3, 0, [.int .i64 t], []⟩) d.nv (.slice (some ⟨σ.next, 0, none⟩) 1 1) := ⟨Nat.le_succ _, fun i hi _ => by rw [AS.get_new, if_neg (by omega)], fun _ _ h => h, fun i hi => .inr (by obtain ⟨_, _, e⟩ := hi; cases e; exact Nat.le_refl _)⟩
  have h1 := h.c.setOn (p := [t]) hc (.inl ⟨rfl, rfl, rfl, σ.next, rfl, h.c.ext.nxt, Nat.lt_succ_self _, by rw [AS.get_new, if_pos rfl]; rfl⟩) hl
  have h2 := h1.setPath (s := σ.new ⟨1, 3, 0, [.int .i64 t], []⟩) (v' := .slice none 0 0) (p := []) (Chg.cut fun i hi => absurd hi not_own_nil) ⟨rfl, rfl, .inl ⟨rfl, rfl⟩⟩ hl
  exact (h2.putAny rfl).put

/-- Arcs are appended to the empty list. -/
theorem Out.first {σ0 σ : AS} {b : Nat} {y : Value} {k : List Arc} (hb : σ.get b = ⟨1, 27, 0, [], []⟩) (h1 : σ0.next ≤ b) (h2 : b < σ.next) (hy : Src σ y k) (hk : k.length ≤ 1000000) (hE : Ext σ0 σ) :
    ∃ v' s, aAppend Try.prog σ #[22, 22] (.slice (some ⟨b, 0, none⟩) 0 0) y = some (v', s) ∧ Out σ0 s v' k ∧ Ext σ s := by
  by_cases h : k = []
  · subst h
    exact ⟨_, _, append_nil hy hb, .inl ⟨rfl, b, h1, h2, rfl, hb⟩, Ext.refl _⟩
  · exact ⟨_, _, append_first hy h hk hb, .inr ⟨h, σ.next, hE.nxt, Nat.lt_succ_self _, rfl, by rw [AS.get_new, if_pos rfl]⟩, Ext.new _ _⟩

theorem findOn_some : ∀ {l : List Int} {t : Int} {k : Nat}, (∀ j, j < k → l[j]? ≠ some t) → l[k]? = some t → findOn l t = some k
  | [], t, k, _, h => by simp at h
  | x :: l, t, 0, _, h => by
    simp at h; subst h
    unfold findOn; rw [if_pos rfl]
  | x :: l, t, k + 1, h1, h => by
    have h0 : x ≠ t := fun e => h1 0 (by omega) (by simp [e])
    have := findOn_some (l := l) (t := t) (k := k) (fun j hj => by have := h1 (j + 1) (by omega); simpa using this) (by simpa using h)
    unfold findOn; rw [if_neg h0, this]; rfl
theorem findOn_none : ∀ {l : List Int} {t : Int}, (∀ j, j < l.length → l[j]? ≠ some t) → findOn l t = none
  | [], t, _ => rfl
  | x :: l, t, h1 => by
    have h0 : x ≠ t := fun e => h1 0 (by simp) (by simp [e])
    have := findOn_none (l := l) (t := t) (fun j hj => by have := h1 (j + 1) (by simpa using hj); simpa using this)
    unfold findOn; rw [if_neg h0, this]; rfl

end
end Go.Proofs.Ytbknckiapcafdaa.Nest
