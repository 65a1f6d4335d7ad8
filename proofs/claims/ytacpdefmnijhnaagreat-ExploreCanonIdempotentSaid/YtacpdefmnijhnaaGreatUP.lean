/- The memory in which a system is renumbered. -/
import Derived.Test.YtacpdefmnijhnaaGreatUO
import Derived.Test.YtacpdefmnijhnaaGreatUMap
set_option linter.unusedSimpArgs false
set_option linter.unusedVariables false
namespace Go.Proofs.YtacpdefmnijhnaaGreat.U
open Abs

/-- States as cells. -/
def cI (l : List Nat) : List Value := l.map fun n : Nat => .int .i64 (n : Int)
theorem cI_append (l m : List Nat) : cI (l ++ m) = cI l ++ cI m := List.map_append
theorem cI_length (l : List Nat) : (cI l).length = l.length := List.length_map _
theorem cI_one (l : List Nat) : (cI l).all one = true := by
  rw [List.all_eq_true]
  intro x hx
  obtain ⟨n, _, rfl⟩ := List.mem_map.1 hx
  rfl
theorem cI_at {l : List Nat} {i n : Nat} (h : l[i]? = some n) : ((cI l).drop (i * 1)).take 1 = [.int .i64 (n : Int)] := by
  obtain ⟨h1, h2⟩ := List.getElem?_eq_some_iff.1 h
  have h3 : i < (cI l).length := by rw [cI_length]; exact h1
  rw [Nat.mul_one, List.drop_eq_getElem_cons h3]
  simp [cI, h2]

/-- The numbers that are known. -/
def numF (olds : List Nat) : Int → Option Value := fun j => if 0 ≤ j ∧ j.toNat ∈ olds then some (.int .i64 (Can.num olds j.toNat : Int)) else none
theorem numF_in {olds : List Nat} {t : Nat} (h : t ∈ olds) : numF olds (t : Int) = some (.int .i64 (Can.num olds t : Int)) := by
  unfold numF
  rw [if_pos ⟨by omega, by simpa using h⟩]
  simp
theorem numF_out {olds : List Nat} {t : Nat} (h : t ∉ olds) : numF olds (t : Int) = none := by
  unfold numF
  rw [if_neg]
  rintro ⟨_, h2⟩
  exact h (by simpa using h2)
theorem numF_app {olds : List Nat} {t : Nat} (h : t ∉ olds) : (fun j => if j = (t : Int) then some (.int .i64 (olds.length : Int)) else numF olds j) = numF (olds ++ [t]) := by
  funext j
  by_cases e : j = (t : Int)
  · subst e
    rw [if_pos rfl, numF_in (by simp)]
    unfold Can.num
    rw [List.idxOf_append, if_neg h]
    simp
  · rw [if_neg e]
    unfold numF
    by_cases h0 : 0 ≤ j ∧ j.toNat ∈ olds
    · rw [if_pos h0, if_pos ⟨h0.1, by simp [h0.2]⟩]
      unfold Can.num
      rw [List.idxOf_append, if_pos h0.2]
    · rw [if_neg h0, if_neg]
      rintro ⟨h1, h2⟩
      simp at h2
      rcases h2 with h2 | h2
      · exact h0 ⟨h1, h2⟩
      · exact e (by omega)
theorem numF_zero : (fun j : Int => if j = 0 then some (Value.int .i64 0) else none) = numF [0] := by
  funext j
  by_cases e : j = 0
  · subst e; rfl
  · rw [if_neg e]
    unfold numF
    rw [if_neg]
    rintro ⟨h1, h2⟩
    simp at h2
    omega

/-- The value reads as a list of states. -/
def IntsV (σ : AS) (v : Value) (l : List Nat) : Prop := l ≠ [] ∧ ∃ b off c, v = .slice (some ⟨b, off, none⟩) l.length c ∧ b < σ.next ∧ aCells σ ⟨b, off, none⟩ l.length = some (cI l)
theorem IntsV.ext {σ σ' : AS} {v : Value} {l : List Nat} (h : IntsV σ v l) (e : Ext σ σ') : IntsV σ' v l := by
  obtain ⟨h0, b, off, c, h1, h2, h3⟩ := h
  exact ⟨h0, b, off, c, h1, e.lt h2, by rw [e.cells h2]; exact h3⟩
theorem IntsV.len {σ : AS} {v : Value} {l : List Nat} (h : IntsV σ v l) : ∃ b c, v = .slice b l.length c := by
  obtain ⟨h0, b, off, c, h1, h2, h3⟩ := h
  exact ⟨_, _, h1⟩
theorem IntsV.at {σ : AS} {v : Value} {l : List Nat} (h : IntsV σ v l) {i n : Nat} (hi : l[i]? = some n) : ∃ b off c, v = .slice (some ⟨b, off, none⟩) l.length c ∧ b < σ.next ∧
    aIndexAddr Tryz.prog 40 v (.int .i64 (i : Int)) = some (.pointer (some ⟨b, off + i * 1, none⟩)) ∧ ∀ σ' : AS, σ'.get b = σ.get b → aLoad Tryz.prog σ' 3 (.pointer (some ⟨b, off + i * 1, none⟩)) = some (.int .i64 (n : Int)) := by
  obtain ⟨h0, b, off, c, rfl, h2, h3⟩ := h
  have hl := (List.getElem?_eq_some_iff.1 hi).1
  refine ⟨b, off, c, rfl, h2, idxI hl, fun σ' hg => ?_⟩
  have h5 : aCells σ' ⟨b, off, none⟩ l.length = some (cI l) := by rw [← h3]; unfold aCells; simp only [hg]
  refine load1 Tryz.underlying3 rfl ?_
  rw [cells_sub h5 (show i * 1 + 1 ≤ l.length by omega), cI_at hi]

/-- The state of the renumbering. -/
structure Cn (σ0 : AS) (b1 b2 bx lr : Nat) (v : Value) (σ : AS) (ov mv uv : Value) (rows : List Value) (olds : List Nat) (f : Int → Option Value) (outs : List (List Arc)) : Prop where
  ext : Ext σ0 σ
  old : StkC σ0.next 3 1 σ ov olds.length (cI olds)
  num : MapAt σ0.next σ mv f
  out : Stk σ0.next 60 1 σ uv rows.length rows
  done : RowsB lr σ rows outs
  bxg : BoxAt σ bx uv
  b1g : BoxAt σ b1 v
  b2g : BoxAt σ b2 (.slice none 0 0)
  lrn : lr ≤ σ.next
  lr0 : σ0.next ≤ lr
  bx0 : σ0.next ≤ bx
  b20 : σ0.next ≤ b2
  nx1 : bx ≠ b1
  nx2 : bx ≠ b2

/-- What changes: blocks that hold no rows that are done, and none of the others. -/
structure Calm (lr : Nat) (σ0 σ σ' : AS) : Prop where
  nxt : σ.next ≤ σ'.next
  get : ∀ i, i < σ.next → (i < lr ∨ ¬ ((σ.get i).kind = 2 ∧ (σ.get i).elem = 62)) → σ'.get i = σ.get i
  ext : Ext σ0 σ'

section
variable {σ0 σ σ' s : AS} {b1 b2 bx lr : Nat} {v ov mv uv : Value} {rows : List Value} {olds : List Nat} {f : Int → Option Value} {outs : List (List Arc)}

theorem Cn.calm (h : Cn σ0 b1 b2 bx lr v σ ov mv uv rows olds f outs) (c : Calm lr σ0 σ σ') : Cn σ0 b1 b2 bx lr v σ' ov mv uv rows olds f outs := by
  have bk : ∀ {b : Nat} {w : Value}, BoxAt σ b w → BoxAt σ' b w := fun {b w} hb => ⟨Nat.lt_of_lt_of_le hb.lt c.nxt, (c.get b hb.lt (.inr fun e => by rw [hb.get] at e; cases e.1)).trans hb.get⟩
  refine { h with ext := c.ext, old := h.old.keep c.nxt fun i ho hi => c.get i hi (.inr fun e => ?_), num := h.num.keep c.nxt fun i ho hi => c.get i hi (.inr fun e => ?_), out := h.out.keep c.nxt fun i ho hi => c.get i hi (.inr fun e => ?_), done := h.done.keep c.nxt fun b hb hi _ _ => c.get b hi (.inl hb), bxg := bk h.bxg, b1g := bk h.b1g, b2g := bk h.b2g, lrn := Nat.le_trans h.lrn c.nxt }
  · have := (h.old.own ho).2.2
    rw [this] at e
    exact absurd e.2 (by decide)
  · have := (h.num.own ho).2.2
    rw [this] at e
    exact absurd e.1 (by decide)
  · have := (h.out.own ho).2.2.2
    rw [this] at e
    exact absurd e.2 (by decide)
theorem Cn.to (h : Cn σ0 b1 b2 bx lr v σ ov mv uv rows olds f outs) (e : Ext σ σ') : Cn σ0 b1 b2 bx lr v σ' ov mv uv rows olds f outs := h.calm ⟨e.nxt, fun i hi _ => e.get i hi, h.ext.trans e⟩
theorem Cn.mono (h : Cn σ0 b1 b2 bx lr v σ ov mv uv rows olds f outs) : Cn σ0 b1 b2 bx σ.next v σ ov mv uv rows olds f outs :=
  { h with done := h.done.mono h.lrn, lrn := Nat.le_refl _, lr0 := Nat.le_trans h.lr0 h.lrn }
/-- A list of arcs above lr changes. -/
theorem Cn.chg (h : Cn σ0 b1 b2 bx lr v σ ov mv uv rows olds f outs) {w : Value} {l : List Arc} (a : AL lr σ w l) (c : Chg lr σ σ' w) : Cn σ0 b1 b2 bx lr v σ' ov mv uv rows olds f outs :=
  h.calm ⟨c.nxt, fun i hi g => c.get i hi fun ho => by
    obtain ⟨g1, g2, g3, g4⟩ := a.own ho
    rcases g with g | g
    · omega
    · exact g ⟨g3, g4⟩, Ext.chg h.ext c h.lr0 fun i hi => (a.own hi).1⟩
/-- What is not a row that is under way is the same. -/
def Same (σ σ' : AS) : Prop := σ.next ≤ σ'.next ∧ ∀ i, i < σ.next → (σ.get i).kind ≠ 3 → (σ.get i).elem = 62 → σ'.get i = σ.get i
theorem ALn.same {lo : Nat} {w : Value} {l : List Arc} (h : ALn lo σ w l) (c : Same σ σ') : ALn lo σ' w l := h.keep c.1 fun i ho hi => c.2 i hi (by rw [(h.own ho).2.2.1]; decide) (h.own ho).2.2.2
theorem RowB.same {w : Value} {l : List Arc} (h : RowB lr σ w l) (c : Same σ σ') : RowB lr σ' w l := h.keep c.1 fun b _ hb hk he => c.2 b hb (by rw [hk]; decide) he
theorem ArcAt.same {b : Nat} {x : Arc} (h : ArcAt σ b x) (c : Same σ σ') : ArcAt σ' b x := ⟨Nat.lt_of_lt_of_le h.lt c.1, (c.2 b h.lt (by rw [h.get]; exact (by decide : (1 : Nat) ≠ 3)) (by rw [h.get]; rfl)).trans h.get⟩

theorem StkC.sepI (h : StkC σ0.next 3 1 σ ov olds.length (cI olds)) {i : Nat} (ho : Own ov i) : (σ.get i).elem = 3 ∧ i < σ.next ∧ σ0.next ≤ i := ⟨(h.own ho).2.2, (h.own ho).2.1, (h.own ho).1⟩

/-- A number is entered. -/
theorem Cn.enter (h : Cn σ0 b1 b2 bx lr v σ ov mv uv rows olds f outs) (k : Int) (x : Value) : ∃ r B, aUpdate Tryz.prog σ 91 mv (.int .i64 k) x = some (σ.put r B) ∧ Same σ (σ.put r B) ∧ Cn σ0 b1 b2 bx lr v (σ.put r B) ov mv uv rows olds (fun j => if j = k then some x else f j) outs := by
  obtain ⟨r, B, hr, hB, hu, hm⟩ := h.num.upd (T := 91) (E := 3) Tryz.underlying91 k x
  obtain ⟨m1, m2, m3⟩ := h.num.own (i := r) hr
  have g : ∀ i, i ≠ r → (σ.put r B).get i = σ.get i := fun i hi => by rw [AS.get_put, if_neg (fun e => hi e.symm)]
  have bk : ∀ {b : Nat} {w : Value}, BoxAt σ b w → BoxAt (σ.put r B) b w := fun {b w} hb => ⟨hb.lt, (g b fun e => by rw [← e, hb.get] at m3; cases m3).trans hb.get⟩
  refine ⟨r, B, hu, ⟨Nat.le_refl _, fun i hi hk _ => g i fun e => hk (by rw [e]; exact m3)⟩, { h with ext := Ext.put h.ext m1 B, old := h.old.keep (Nat.le_refl _) fun i ho hi => g i fun e => ?_, num := hm, out := h.out.keep (Nat.le_refl _) fun i ho hi => g i fun e => ?_, done := h.done.keep (Nat.le_refl _) fun b hb hi hk _ => g b fun e => (by rw [e, m3] at hk; cases hk), bxg := bk h.bxg, b1g := bk h.b1g, b2g := bk h.b2g }⟩
  · rcases h.old with ⟨_, _, _, b, e1, _, _, e2⟩ | h1
    · obtain ⟨_, _, e3⟩ := ho
      rw [e1] at e3
      cases e3
      rw [← e, e2] at m3
      cases m3
    · have := (h1.own ho).2.2.1
      rw [e, m3] at this
      cases this
  · have := (h.out.own ho).2.2.1
    rw [e, m3] at this
    cases this

/-- A state is met. -/
theorem Cn.meet (h : Cn σ0 b1 b2 bx lr v σ ov mv uv rows olds f outs) {b t : Nat} {E' : Nat} (hb : σ.get b = ⟨1, E', 0, [.int .i64 (t : Int)], []⟩) (hk : olds.length + 1 ≤ 1000000) :
    ∃ ov' s, aAppend Tryz.prog σ #[40, 40] ov (.slice (some ⟨b, 0, none⟩) 1 1) = some (ov', s) ∧ Same σ s ∧ Cn σ0 b1 b2 bx lr v s ov' mv uv rows (olds ++ [t]) f outs := by
  obtain ⟨ov', s, g1, g2, g3, g4, g5, -⟩ := StkC.push1 elI h.old (Nat.le_trans h.lr0 h.lrn) hb rfl rfl hk
  have ne : ∀ i, i < σ.next → (σ.get i).elem ≠ 3 → s.get i = σ.get i := fun i hi he => g4 i hi fun ho => he (h.old.own ho).2.2
  have nk : ∀ i, i < σ.next → (σ.get i).kind = 3 → s.get i = σ.get i := fun i hi hk => g4 i hi fun ho => by
    rcases h.old with ⟨_, _, _, b, e1, _, _, e2⟩ | h1
    · obtain ⟨_, _, e3⟩ := ho
      rw [e1] at e3
      cases e3
      rw [e2] at hk
      cases hk
    · have := (h1.own ho).2.2.1
      rw [hk] at this
      cases this
  have hn0 := h.lr0
  have hn1 := h.lrn
  have bk : ∀ {b : Nat} {w : Value}, BoxAt σ b w → BoxAt s b w := fun {b w} hb => ⟨Nat.lt_of_lt_of_le hb.lt g3, (ne b hb.lt (by rw [hb.get]; exact (by decide : (54 : Nat) ≠ 3))).trans hb.get⟩
  refine ⟨ov', s, g1, ⟨g3, fun i hi _ he => ne i hi (by rw [he]; decide)⟩, { h with ext := ⟨Nat.le_trans h.ext.nxt g3, fun i hi => (g4 i (Nat.lt_of_lt_of_le hi h.ext.nxt) fun ho => by have := (h.old.own ho).1; omega).trans (h.ext.get i hi), fun m q1 q2 => g5 m q2 (h.ext.low m q1 q2)⟩, old := ?_, num := h.num.keep g3 fun i ho hi => nk i hi (h.num.own ho).2.2, out := h.out.keep g3 fun i ho hi => ne i hi (by rw [(h.out.own ho).2.2.2]; decide), done := h.done.keep g3 fun b hb hi _ he => ne b hi (by rw [he]; decide), bxg := bk h.bxg, b1g := bk h.b1g, b2g := bk h.b2g, lrn := Nat.le_trans h.lrn g3 }⟩
  rw [List.length_append, cI_append]
  exact .inr g2

/-- A row is added. -/
theorem Cn.add (h : Cn σ0 b1 b2 bx lr v σ ov mv uv rows olds f outs) {b : Nat} {w : Value} {m : List Arc} {E' : Nat} (hb : σ.get b = ⟨1, E', 0, [w], []⟩) (hw : RowB lr σ w m) (hk : rows.length + 1 ≤ 1000000) :
    ∃ uv' s, aAppend Tryz.prog σ #[52, 52] uv (.slice (some ⟨b, 0, none⟩) 1 1) = some (uv', s) ∧ (∀ i, i < σ.next → (σ.get i).elem ≠ 60 → s.get i = σ.get i) ∧ (∃ p n c, uv' = .slice p n c) ∧ Ext σ0 s ∧ ∀ τ : AS, τ.next = s.next → (∀ i, i ≠ bx → τ.get i = s.get i) → τ.get bx = ⟨1, 54, 0, [uv'], []⟩ → Ext σ0 τ → Cn σ0 b1 b2 bx lr v τ ov mv uv' (rows ++ [w]) olds f (outs ++ [m]) := by
  have h1 : one w = true := by
    obtain ⟨_, _, e⟩ := hw.row.len
    rw [e]; rfl
  obtain ⟨uv', s, g1, g2, g3, g4, g5, g6⟩ := Stk.push1 elR h.out (Nat.le_trans h.lr0 h.lrn) hb rfl (by rw [List.all_cons, h1]; rfl) hk
  have ne : ∀ i, i < σ.next → (σ.get i).elem ≠ 60 → s.get i = σ.get i := fun i hi he => g4 i hi fun ho => he (h.out.own ho).2.2.2
  have nk : ∀ i, i < σ.next → (σ.get i).kind = 3 → s.get i = σ.get i := fun i hi hk => g4 i hi fun ho => by
    have := (h.out.own ho).2.2.1
    rw [hk] at this
    cases this
  have hn0 := h.lr0
  have hn1 := h.lrn
  have hbx : BoxAt s bx uv := ⟨Nat.lt_of_lt_of_le h.bxg.lt g3, (ne bx h.bxg.lt (by rw [h.bxg.get]; exact (by decide : (54 : Nat) ≠ 60))).trans h.bxg.get⟩
  have pk : ∀ i, ¬ ((σ.get i).kind = 1 ∧ (σ.get i).elem = 54) → i ≠ bx := fun i hi e => hi (by rw [e, h.bxg.get]; exact ⟨rfl, rfl⟩)
  obtain ⟨ua, uc, hu⟩ := Stk.len g2
  have e0 : Ext σ0 s := ⟨Nat.le_trans h.ext.nxt g3, fun i hi => (g4 i (Nat.lt_of_lt_of_le hi h.ext.nxt) fun ho => by have := (h.out.own ho).1; omega).trans (h.ext.get i hi), fun m q1 q2 => g5 m q2 (h.ext.low m q1 q2)⟩
  refine ⟨uv', s, g1, ne, ⟨_, _, _, hu⟩, e0, fun τ hn p hb2 he => ?_⟩
  have g3 : σ.next ≤ τ.next := by rw [hn]; exact g3
  have hrow : ∀ {i : Nat}, i < σ.next → (σ.get i).kind = 2 → (σ.get i).elem = 62 → τ.get i = σ.get i := fun {i} hi hk he =>
    (p i (pk i fun e => by rw [hk] at e; cases e.1)).trans (ne i hi (by rw [he]; decide))
  refine { h with ext := he, old := h.old.keep g3 fun i ho hi => ?_, num := h.num.keep g3 fun i ho hi => ?_, out := ?_, done := ?_, bxg := ⟨by rw [hn]; exact hbx.lt, hb2⟩, b1g := ⟨Nat.lt_of_lt_of_le h.b1g.lt g3, (p b1 fun e => h.nx1 e.symm).trans ((ne b1 h.b1g.lt (by rw [h.b1g.get]; exact (by decide : (54 : Nat) ≠ 60))).trans h.b1g.get)⟩, b2g := ⟨Nat.lt_of_lt_of_le h.b2g.lt g3, (p b2 fun e => h.nx2 e.symm).trans ((ne b2 h.b2g.lt (by rw [h.b2g.get]; exact (by decide : (54 : Nat) ≠ 60))).trans h.b2g.get)⟩, lrn := Nat.le_trans h.lrn g3 }
  · have he := (h.old.own ho).2.2
    exact (p i (pk i fun e => by rw [he] at e; exact absurd e.2 (by decide))).trans (ne i hi (by rw [he]; decide))
  · have he := (h.num.own ho).2.2
    exact (p i (pk i fun e => by rw [he] at e; cases e.1)).trans (nk i hi he)
  · rw [List.length_append]
    refine g2.keep (by rw [hn]; exact Nat.le_refl _) fun i ho hi => p i fun e => ?_
    have := (g2.own ho).2.2.2
    rw [e, hbx.get] at this
    exact absurd this (by decide : ¬ (54 : Nat) = 60)
  · exact (h.done.keep (σ' := τ) g3 fun b hb hi hk he => hrow hi hk he).push (hw.keep g3 fun b hb hi hk he => hrow hi hk he)

/-- The states that were met, by their numbers. -/
theorem Cn.oldAt (h : Cn σ0 b1 b2 bx lr v σ ov mv uv rows olds f outs) {i n : Nat} (hi : olds[i]? = some n) : ∃ b c, ov = .slice (some ⟨b, 0, none⟩) olds.length c ∧ b < σ.next ∧
    aIndexAddr Tryz.prog 40 ov (.int .i64 (i : Int)) = some (.pointer (some ⟨b, i * 1, none⟩)) ∧ ∀ σ' : AS, σ'.get b = σ.get b → aLoad Tryz.prog σ' 3 (.pointer (some ⟨b, i * 1, none⟩)) = some (.int .i64 (n : Int)) := by
  have hl := (List.getElem?_eq_some_iff.1 hi).1
  obtain ⟨b, c, rfl, hb, hc⟩ := h.old.at hl
  refine ⟨b, c, rfl, hb, by rw [idxI hl, Nat.zero_add], fun σ' hg => load1 Tryz.underlying3 rfl ?_⟩
  have h5 : aCells σ' ⟨b, i * 1, none⟩ 1 = aCells σ ⟨b, i * 1, none⟩ 1 := by unfold aCells; simp only [hg]
  rw [h5, hc, cI_at hi]
theorem Cn.look (h : Cn σ0 b1 b2 bx lr v σ ov mv uv rows olds f outs) (k : Int) (ok : Bool) : aLookup Tryz.prog σ 91 mv (.int .i64 k) ok = some (match f k with | some x => if ok = true then .tuple #[x, .bool true] else x | none => if ok = true then .tuple #[.int .i64 0, .bool false] else .int .i64 0) :=
  h.num.look (T := 91) (E := 3) Tryz.underlying91 (z := .int .i64 0) ⟨(Tryz.prog.info? 3).get!, by kernel_rfl, by kernel_rfl⟩ rfl k ok

/-- A memory of a step that lies beside the others. -/
theorem Cn.merge (h : Cn σ0 b1 b2 bx lr v σ ov mv uv rows olds f outs) {ov' mv' uv' : Value} {rows' : List Value} {olds' : List Nat} {f' : Int → Option Value} {outs' : List (List Arc)} (k : Cn σ0 b1 b2 bx lr v s ov' mv' uv' rows' olds' f' outs') : Cn σ0 b1 b2 bx lr v (σ.merge s) ov' mv' uv' rows' olds' f' outs' :=
  { k with ext := ⟨k.ext.nxt, k.ext.get, fun m g1 g2 => Nat.le_min.2 ⟨h.ext.low m g1 g2, k.ext.low m g1 g2⟩⟩, old := k.old.keep (Nat.le_refl _) fun _ _ _ => rfl, num := k.num.keep (Nat.le_refl _) fun _ _ _ => rfl, out := k.out.keep (Nat.le_refl _) fun _ _ _ => rfl, done := k.done.keep (Nat.le_refl _) fun _ _ _ _ _ => rfl, bxg := ⟨k.bxg.lt, k.bxg.get⟩, b1g := ⟨k.b1g.lt, k.b1g.get⟩, b2g := ⟨k.b2g.lt, k.b2g.get⟩, lrn := k.lrn }
end

theorem Stk.svA {lo E z k : Nat} {σ : AS} {v : Value} {cs : List Value} (h : Stk lo E z σ v k cs) : (vsc σ.next 9 v && veq 9 v v) = true ∧ (vsc σ.next 9 (.agg #[v]) && veq 9 (.agg #[v]) (.agg #[v])) = true := by
  obtain ⟨_, _, ⟨rfl, _⟩ | ⟨b, n, vals, rfl, h4, h5, h6, h7, h8, h9⟩⟩ := h
  · exact ⟨sv_nil, by simp [vsc, veq, veqL]⟩
  · exact ⟨sv_slice h6, by simp [vsc, veq, veqL, h6]⟩
theorem Stk.outR {lo lr : Nat} {σ : AS} {v : Value} {rows : List Value} {outs : List (List Arc)} (h : Stk lo 60 1 σ v rows.length rows) (d : RowsB lr σ rows outs) (hne : outs ≠ []) : OutR σ v outs := by
  have hl := d.len
  have h0 := List.length_pos_iff.2 hne
  obtain ⟨c1, c2, ⟨_, h3⟩ | ⟨b, n, vals, rfl, h4, h5, h6, h7, h8, h9⟩⟩ := h
  · omega
  · refine ⟨hne, b, 0, _, rows, by rw [hl], h6, ?_, d.all_⟩
    unfold aCells
    simp only [h7, hasLen_eq, Nat.zero_add]
    rw [ble_t (show outs.length ≤ vals.length by omega), ← h9, hl, Nat.mul_one]
    rfl
theorem storeO {σ : AS} {b : Nat} {x : Value} {p : Option Addr} {n c : Nat} (h : σ.get b = ⟨1, 54, 0, [x], []⟩) :
    aStore Tryz.prog σ 52 (.slice p n c) (.pointer (some ⟨b, 0, none⟩)) = some (σ.put b ⟨1, 54, 0, [.slice p n c], []⟩) := by
  obtain ⟨inf, hi, hs⟩ : ∃ inf, Tryz.prog.info? 52 = some inf ∧ inf.size = 1 := ⟨(Tryz.prog.info? 52).get!, by kernel_rfl, by kernel_rfl⟩
  have hz : Nat.beq (Value.slice p n c).cells.size 1 = true := rfl
  unfold aStore
  simp only [hi, hs, hz, if_true]
  unfold aWrite
  simp only [h]
  rfl
theorem sliceI1 {σ : AS} {x : Int} : aBuildSlice Tryz.prog σ 40 1 [(0, .int .i64 x)] = some (.slice (some ⟨σ.next, 0, none⟩) 1 1, σ.new ⟨1, 3, 0, [.int .i64 x], []⟩) := by kernel_rfl
theorem sliceR1 {σ : AS} {p : Option Addr} {n c : Nat} : aBuildSlice Tryz.prog σ 52 1 [(0, .slice p n c)] = some (.slice (some ⟨σ.next, 0, none⟩) 1 1, σ.new ⟨1, 60, 0, [.slice p n c], []⟩) := by kernel_rfl

/-! ### Small calls -/

/-- Unused room of a list of states is given up. -/
theorem clipI_c {lo : Nat} {σ : AS} {v : Value} {l : List Nat} (h : StkC lo 3 1 σ v l.length (cI l)) (hl : l ≠ []) (hn : l.length ≤ 1000000) : C Tryz.prog KA 0 39 [v] σ fun u σ' => σ' = σ ∧ IntsV σ u l ∧ ∀ i, In u i → Own v i := by
  have hp := List.length_pos_iff.2 hl
  obtain ⟨hu, ⟨inf, zz, g1, g2, g3, g4, g5, g6⟩, g7⟩ := elI
  obtain ⟨b, c, hv, hb, hc, hs⟩ : ∃ b c, v = .slice (some ⟨b, 0, none⟩) l.length c ∧ b < σ.next ∧ aCells σ ⟨b, 0, none⟩ l.length = some (cI l) ∧ aSlice Tryz.prog σ 40 v none (some (.int .i64 (l.length : Int))) (some (.int .i64 (l.length : Int))) = some (.slice (some ⟨b, 0, none⟩) l.length l.length) := by
    rcases h with ⟨h1, c1, c2, b, rfl, h3, h4, h5⟩ | ⟨c1, c2, ⟨_, h3⟩ | ⟨b, n, vals, rfl, h4, h5, h6, h7, h8, h9⟩⟩
    · refine ⟨b, 1, by rw [h1], h4, cells_at h5 (by rw [List.drop_zero, List.take_of_length_le (by omega)]) (by omega), ?_⟩
      rw [h1]
      unfold aSlice
      simp only [hu, g1, g2, show isOpen 1 = false by kernel_rfl, Bool.false_eq_true, if_false]
      rfl
    · omega
    · refine ⟨b, _, rfl, h6, ?_, ?_⟩
      · unfold aCells
        simp only [h7, hasLen_eq, Nat.zero_add]
        rw [ble_t (show l.length ≤ vals.length by omega), ← h9, Nat.mul_one]
        rfl
      · unfold aSlice
        simp only [hu, g1, g2, open_cap, h7, if_true]
        rw [if_pos (by rfl)]
        unfold aSliceAt
        simp only [open_lb, abound_at l.length n h4, abound_at l.length l.length (Nat.le_refl _), aboundO]
        rw [if_neg (by rw [Nat.ble_eq]; unfold OPENCAP; omega), beq_f (show l.length ≠ 0 by omega)]
        simp only [Bool.false_eq_true, if_false, Option.map_some, Nat.zero_mul, Addr.add, Nat.sub_zero]
        rfl
  subst hv
  refine C_of (ka rfl rfl) Tryz.func39 rfl (Nat.le_of_ble_eq_true rfl) ?_
  show W _ _ _ 9 _ _ _ _
  unfold Tryz.f39
  dsimp only
  repeat apply W_assoc
  apply W_reg
  · intro callf
    simp +decide only [aOps, rinit, aWanted, ↓bite_eq, ↓reduceIte, aStep_eq, aStepOld, aOp, opBox, opBin, opUn, opCall, opIndexAddr, opFieldAddr, opLoad, opStore, opPick, opExtract, opSlice, opBuildSlice, opBuild, aRow, aev, aevs, aparts, ann, unn, aPut, if_true, if_false, rget_rput, flat, flat1, Nat.blt_eq, aBuiltin, aLen, List.getElem?_toArray, List.getElem?_cons_zero, List.getElem?_cons_succ, Nat.zero_add, Option.bind_some, beq_self_eq_true, Bool.not_true, Bool.not_false, Bool.true_beq, Bool.false_beq]
    rfl
  repeat apply W_assoc
  apply W_reg
  · intro callf
    simp +decide only [aOps, rinit, aWanted, ↓bite_eq, ↓reduceIte, aStep_eq, aStepOld, aOp, opBox, opBin, opUn, opCall, opIndexAddr, opFieldAddr, opLoad, opStore, opPick, opExtract, opSlice, opBuildSlice, opBuild, aRow, aev, aevs, aparts, ann, unn, aPut, if_true, if_false, rget_rput, flat, flat1, Nat.blt_eq, aBuiltin, aLen, List.getElem?_toArray, List.getElem?_cons_zero, List.getElem?_cons_succ, Nat.zero_add, Option.bind_some, beq_self_eq_true, Bool.not_true, Bool.not_false, Bool.true_beq, Bool.false_beq, Tryz.underlying40, goInt, aopt, hs]
    rfl
  refine W_ret ⟨Nat.le_refl _, [.slice (some ⟨b, 0, none⟩) l.length l.length], ?_, rfl, ⟨hl, b, 0, _, rfl, hb, hc⟩, fun i hi => (by obtain ⟨_, _, _, e⟩ := hi; cases e; exact ⟨_, _, rfl⟩)⟩
  simp +decide only [aevs, aev, aResults, rget_rput, if_true, if_false]


theorem cloneS {σ : AS} {v : Value} {l : List Arc} (h : RowV σ v l) (hn : l.length ≤ 1000000) : C Tryz.prog KA 0 38 [v] σ fun u σ' => ALn σ.next σ' u l ∧ Ext σ σ' := by
  by_cases hl : l = []
  · obtain rfl : v = .slice none 0 0 := by
      rcases h with ⟨e, _⟩ | ⟨h0, _⟩
      · exact e
      · exact absurd hl h0
    exact C_run clone_nil ⟨.inl ⟨rfl, hl⟩, Ext.refl _⟩
  · exact (clone_c h hl hn).mono fun u σ' ⟨h1, h2⟩ => ⟨.inr ⟨hl, h1⟩, h2⟩

theorem sortedS {lo : Nat} {σ : AS} {v : Value} {l : List Arc} (h : ALn lo σ v l) (hlo : lo ≤ σ.next) (hn : l.length ≤ 3) : C Tryz.prog KA 0 37 [v] σ fun u σ' => RowB σ'.next σ' u (Can.srt l) ∧ (∀ i, In u i → Own v i) ∧ Chg lo σ σ' v := by
  rcases h with ⟨rfl, rfl⟩ | ⟨hl, h⟩
  · exact C_run sorted_nil ⟨⟨.inl ⟨rfl, rfl⟩, fun b hb => (by obtain ⟨_, _, _, e⟩ := hb; cases e)⟩, fun i hi => (by obtain ⟨_, _, _, e⟩ := hi; cases e), Chg.of hlo (Ext.refl _)⟩
  · refine (sorted_c h hlo hl hn).mono fun u σ' s => ?_
    obtain ⟨b, n, c, h1, h2, h3, h4, h5, h6⟩ := s.at_
    refine ⟨⟨s.row, fun i hi => ?_⟩, fun i hi => ?_, s.chg⟩
    · obtain ⟨_, _, _, e⟩ := hi
      rw [h2] at e
      cases e
      exact ⟨h4, h5, h6⟩
    · obtain ⟨_, _, _, e⟩ := hi
      rw [h2] at e
      cases e
      exact h1

end Go.Proofs.YtacpdefmnijhnaaGreat.U
