/- A system is generated. -/
import Derived.Test.YtacpdefmnijhnaaGreatUM
set_option linter.unusedSimpArgs false
set_option linter.unusedVariables false
namespace Go.Proofs.YtacpdefmnijhnaaGreat.U
open Abs

theorem ExtX.fresh {X : List Nat} {σ σ' : AS} (h : ExtX X σ σ') {i : Nat} (hi : σ.next ≤ i) (B : Blk) : ExtX X σ (σ'.put i B) :=
  ⟨h.nxt, fun j hj hx => by rw [AS.get_put, if_neg (by omega)]; exact h.get j hj hx, fun m h1 h2 h3 => Nat.le_min.2 ⟨h.low m h1 h2 h3, by omega⟩⟩
theorem Chg.merge {lo : Nat} {σ s : AS} {v : Value} (h : Chg lo σ.reset s v) (hlo : lo ≤ σ.next) : Chg lo σ (σ.merge s) v :=
  ⟨h.nxt, h.get, fun q h1 h2 => Nat.le_min.2 ⟨h2, h.low q h1 (Nat.le_trans h1 hlo)⟩⟩
theorem ExtX.chg {X : List Nat} {lo : Nat} {σ0 σ s : AS} {v : Value} (h : ExtX X σ0 σ) (c : Chg lo σ s v) (h1 : σ0.next ≤ lo) (ho : ∀ i, Own v i → lo ≤ i) : ExtX X σ0 s :=
  ⟨Nat.le_trans h.nxt c.nxt, fun i hi hx => (c.get i (Nat.lt_of_lt_of_le hi h.nxt) (fun e => by have := ho i e; omega)).trans (h.get i hi hx), fun m g1 g2 g3 => c.low m (by omega) (h.low m g1 g2 g3)⟩
theorem Ext.chg {lo : Nat} {σ0 σ s : AS} {v : Value} (h : Ext σ0 σ) (c : Chg lo σ s v) (h1 : σ0.next ≤ lo) (ho : ∀ i, Own v i → lo ≤ i) : Ext σ0 s :=
  ⟨Nat.le_trans h.nxt c.nxt, fun i hi => (c.get i (Nat.lt_of_lt_of_le hi h.nxt) (fun e => by have := ho i e; omega)).trans (h.get i hi), fun m g1 g2 => c.low m (by omega) (h.low m g1 g2)⟩

/-- A row that lies below lr, in a block of its own kind. -/
structure RowB (lr : Nat) (σ : AS) (v : Value) (l : List Arc) : Prop where
  row : RowV σ v l
  own : ∀ b, In v b → b < lr ∧ (σ.get b).kind = 2 ∧ (σ.get b).elem = 62
structure RowsB (lr : Nat) (σ : AS) (rows : List Value) (L : List (List Arc)) : Prop where
  len : rows.length = L.length
  row : ∀ (i : Nat) (v : Value) (l : List Arc), rows[i]? = some v → L[i]? = some l → RowB lr σ v l
/-- A growing list of arcs; nil, as long as it is empty. -/
def ALn (lo : Nat) (σ : AS) (v : Value) (l : List Arc) : Prop := (v = .slice none 0 0 ∧ l = []) ∨ (l ≠ [] ∧ AL lo σ v l)

section
variable {lr lr' lo : Nat} {σ σ' : AS} {v : Value} {l : List Arc} {rows : List Value} {L : List (List Arc)}
theorem RowB.keep (h : RowB lr σ v l) (hn : σ.next ≤ σ'.next) (hg : ∀ b, b < lr → b < σ.next → (σ.get b).kind = 2 → (σ.get b).elem = 62 → σ'.get b = σ.get b) : RowB lr σ' v l :=
  ⟨h.row.keep hn fun i hi hlt => hg i (h.own i hi).1 hlt (h.own i hi).2.1 (h.own i hi).2.2, fun b hb => by
    obtain ⟨h1, h2, h3⟩ := h.own b hb
    rw [hg b h1 (h.row.in_lt hb) h2 h3]
    exact ⟨h1, h2, h3⟩⟩
theorem RowB.ext (h : RowB lr σ v l) (e : Ext σ σ') : RowB lr σ' v l := h.keep e.nxt fun b _ hb _ _ => e.get b hb
theorem RowB.mono (h : RowB lr σ v l) (hl : lr ≤ lr') : RowB lr' σ v l := ⟨h.row, fun b hb => ⟨Nat.lt_of_lt_of_le (h.own b hb).1 hl, (h.own b hb).2⟩⟩
theorem RowsB.keep (h : RowsB lr σ rows L) (hn : σ.next ≤ σ'.next) (hg : ∀ b, b < lr → b < σ.next → (σ.get b).kind = 2 → (σ.get b).elem = 62 → σ'.get b = σ.get b) : RowsB lr σ' rows L :=
  ⟨h.len, fun i v l h1 h2 => (h.row i v l h1 h2).keep hn hg⟩
theorem RowsB.ext (h : RowsB lr σ rows L) (e : Ext σ σ') : RowsB lr σ' rows L := h.keep e.nxt fun b _ hb _ _ => e.get b hb
theorem RowsB.mono (h : RowsB lr σ rows L) (hl : lr ≤ lr') : RowsB lr' σ rows L := ⟨h.len, fun i v l h1 h2 => (h.row i v l h1 h2).mono hl⟩
theorem RowsB.all_ (h : RowsB lr σ rows L) : Rows σ rows L := ⟨h.len, fun i v l h1 h2 => (h.row i v l h1 h2).row⟩
theorem RowsB.nil : RowsB lr σ [] [] := ⟨rfl, fun i v l h => by simp at h⟩
theorem RowsB.push (h : RowsB lr σ rows L) (hv : RowB lr σ v l) : RowsB lr σ (rows ++ [v]) (L ++ [l]) :=
  ⟨by rw [List.length_append, List.length_append, h.len]; rfl, fun i v' l' h1 h2 => by
    by_cases hi : i < rows.length
    · rw [List.getElem?_append_left hi] at h1
      rw [List.getElem?_append_left (by rw [← h.len]; exact hi)] at h2
      exact h.row i v' l' h1 h2
    · rw [List.getElem?_append_right (by omega)] at h1
      rw [List.getElem?_append_right (by rw [← h.len]; omega)] at h2
      rw [h.len] at h1
      have h3 := (List.getElem?_eq_some_iff.1 h1).1
      have h4 : i - L.length = 0 := by simp at h3; omega
      rw [h4] at h1 h2
      have e1 : v = v' := by simpa using h1
      have e2 : l = l' := by simpa using h2
      rw [← e1, ← e2]
      exact hv⟩

theorem ALn.al (h : ALn lo σ v l) : AL lo σ v l := by
  rcases h with ⟨rfl, rfl⟩ | ⟨_, h⟩
  · exact AL.nil
  · exact h
theorem ALn.keep (h : ALn lo σ v l) (hn : σ.next ≤ σ'.next) (hg : ∀ i, Own v i → i < σ.next → σ'.get i = σ.get i) : ALn lo σ' v l := h.imp_right fun ⟨h0, h1⟩ => ⟨h0, h1.keep hn hg⟩
theorem ALn.ext (h : ALn lo σ v l) (e : Ext σ σ') : ALn lo σ' v l := h.keep e.nxt fun i _ hi => e.get i hi
theorem ALn.own (h : ALn lo σ v l) {i : Nat} (ho : Own v i) : lo ≤ i ∧ i < σ.next ∧ (σ.get i).kind = 2 ∧ (σ.get i).elem = 62 := h.al.own ho
theorem ALn.in_own (h : ALn lo σ v l) {i : Nat} (hi : In v i) : Own v i := by
  rcases h with ⟨rfl, rfl⟩ | ⟨h0, h⟩
  · obtain ⟨o, n, c, e⟩ := hi; cases e
  · obtain ⟨b, c, e, _⟩ := h.at h0
    obtain ⟨o, n, c', e'⟩ := hi
    rw [e] at e'
    cases e'
    exact ⟨_, _, e⟩
theorem ALn.row (h : ALn lo σ v l) : RowV σ v l := by
  rcases h with ⟨rfl, rfl⟩ | ⟨h0, h⟩
  · exact .inl ⟨rfl, rfl⟩
  · exact h.row h0
theorem ALn.rowB (h : ALn lo σ v l) : RowB σ.next σ v l := ⟨h.row, fun b hb => ⟨(h.own (h.in_own hb)).2.1, (h.own (h.in_own hb)).2.2⟩⟩

theorem AL.push (h : AL lo σ v l) (hlo : lo ≤ σ.next) {b : Nat} {x : Arc} {E' : Nat} (hb : σ.get b = ⟨1, E', 0, [.int .i64 (x.1 : Int), .int .i64 (x.2 : Int)], []⟩) (hk : l.length + 1 ≤ 1000000) :
    ∃ v' s, aAppend Tryz.prog σ #[60, 60] v (.slice (some ⟨b, 0, none⟩) 1 1) = some (v', s) ∧ ALn lo s v' (l ++ [x]) ∧ Chg lo σ s v ∧ ∀ i, Own v' i → Own v i ∨ σ.next ≤ i := by
  obtain ⟨v', s, g1, g2, g3, g4, g5, g6⟩ := Stk.push1 elA h hlo hb rfl rfl hk
  refine ⟨v', s, g1, .inr ⟨by simp, ?_⟩, ⟨g3, g4, g5⟩, g6⟩
  unfold AL
  rw [List.length_append, cA_append]
  exact g2
end

theorem elR : El Tryz.prog 52 60 1 := ⟨Tryz.underlying52, ⟨(Tryz.prog.info? 60).get!, (((Tryz.prog.info? 60).get!).zero).get!, by kernel_rfl, by kernel_rfl, Nat.le_of_ble_eq_true (by kernel_rfl), by kernel_rfl, by kernel_rfl, by kernel_rfl⟩, by decide⟩

theorem map_range_const {α β : Type} (f : α → β) (c : β) (g : Nat → α) (h : ∀ i, f (g i) = c) (n : Nat) : (((Array.range n).map fun i => f (g i))).toList = List.replicate n c := by
  rw [Array.toList_map, List.eq_replicate_iff]
  refine ⟨by simp, fun b hb => ?_⟩
  obtain ⟨i, _, rfl⟩ := List.mem_map.1 hb
  exact h i
theorem makeR {σ : AS} {N : Nat} (h : N ≤ 1000000) : aMakeSlice Tryz.prog σ 52 (.int .i64 (N : Int)) (.int .i64 (N : Int)) = some (.slice (some ⟨σ.next, 0, none⟩) N N, σ.new ⟨1, 60, 0, List.replicate N (.slice none 0 0), []⟩) := by
  obtain ⟨inf, h1, h2, h3, h4⟩ : ∃ inf, Tryz.prog.info? 60 = some inf ∧ inf.size = 1 ∧ inf.bytes = 24 ∧ inf.zero = some (.slice none 0 0) :=
    ⟨(Tryz.prog.info? 60).get!, by kernel_rfl, by kernel_rfl, by kernel_rfl, by kernel_rfl⟩
  unfold aMakeSlice
  simp only [Tryz.underlying52, h1, h2, h3, h4]
  rw [if_pos ⟨by omega, by omega, by omega, by omega, rfl, by decide⟩]
  have e : ((Array.range ((N : Int).toNat * 1)).map fun i => (Value.slice none 0 0).cells[i % (Value.slice none 0 0).cells.size]!).toList = List.replicate N (.slice none 0 0) := by
    rw [Nat.mul_one]
    exact map_range_const (fun v : Value => v) (.slice none 0 0) (fun i => (Value.slice none 0 0).cells[i % (Value.slice none 0 0).cells.size]!) (fun i => by
      have : i % (Value.slice none 0 0).cells.size = 0 := Nat.mod_one i
      rw [this]; rfl) N
  rw [e]
  rfl
theorem allocL {σ : AS} : opAlloc Tryz.prog σ 54 = some (.pointer (some ⟨σ.next, 0, none⟩), σ.new ⟨1, 54, 0, [.slice none 0 0], []⟩) := by kernel_rfl
theorem storeL {σ : AS} {b : Nat} {x : Value} {p : Option Addr} {n c : Nat} (h : σ.get b = ⟨1, 54, 0, [x], []⟩) :
    aStore Tryz.prog σ 54 (.agg #[.slice p n c]) (.pointer (some ⟨b, 0, none⟩)) = some (σ.put b ⟨1, 54, 0, [.slice p n c], []⟩) := by
  obtain ⟨inf, hi, hs⟩ : ∃ inf, Tryz.prog.info? 54 = some inf ∧ inf.size = 1 := ⟨(Tryz.prog.info? 54).get!, by kernel_rfl, by kernel_rfl⟩
  have hz : Nat.beq (Value.agg #[.slice p n c]).cells.size 1 = true := rfl
  unfold aStore
  simp only [hi, hs, hz, if_true]
  unfold aWrite
  simp only [h]
  rfl
theorem buildL {b n c : Nat} : aBuild Tryz.prog 54 [(0, .slice (some ⟨b, 0, none⟩) n c)] = some (.agg #[.slice (some ⟨b, 0, none⟩) n c]) := by kernel_rfl
theorem buildA {x y : Int} : aBuild Tryz.prog 62 [(0, .int .i64 x), (1, .int .i64 y)] = some (.agg #[.int .i64 x, .int .i64 y]) := by kernel_rfl
theorem sliceA1 {σ : AS} {x y : Int} : aBuildSlice Tryz.prog σ 60 1 [(0, .agg #[.int .i64 x, .int .i64 y])] = some (.slice (some ⟨σ.next, 0, none⟩) 1 1, σ.new ⟨1, 62, 0, [.int .i64 x, .int .i64 y], []⟩) := by kernel_rfl
/-- A row is put into a list of rows. -/
theorem storeR {σ : AS} {lb i : Nat} {rows : List Value} {v : Value} {b : Option Addr} {n c : Nat} (hv : v = .slice b n c) (h : σ.get lb = ⟨1, 60, 0, rows, []⟩) (hi : i < rows.length) :
    aStore Tryz.prog σ 60 v (.pointer (some ⟨lb, i, none⟩)) = some (σ.put lb ⟨1, 60, 0, rows.set i v, []⟩) := by
  subst hv
  obtain ⟨inf, hi2, hs⟩ : ∃ inf, Tryz.prog.info? 60 = some inf ∧ inf.size = 1 := ⟨(Tryz.prog.info? 60).get!, by kernel_rfl, by kernel_rfl⟩
  have hz : Nat.beq (Value.slice b n c).cells.size 1 = true := rfl
  have hc : (Value.slice b n c).cells.toList = [.slice b n c] := rfl
  have ho : one (Value.slice b n c) = true := rfl
  unfold aStore
  simp only [hi2, hs, hz, if_true, hc]
  unfold aWrite
  simp only [h, hasLen_eq, List.length_cons, List.length_nil, Nat.zero_add, List.all_cons, List.all_nil, ho]
  rw [ble_t (show i + 1 ≤ rows.length by omega), lsplice_cons, lsplice_nil]
  rfl
theorem rowAt {σ : AS} {lb i : Nat} {rows : List Value} {v : Value} (h : σ.get lb = ⟨1, 60, 0, rows, []⟩) (hi : rows[i]? = some v) : aLoad Tryz.prog σ 60 (.pointer (some ⟨lb, i, none⟩)) = some v := by
  obtain ⟨h1, h2⟩ := List.getElem?_eq_some_iff.1 hi
  exact load1 Tryz.underlying60 rfl (cells_at h (by rw [List.drop_eq_getElem_cons h1, h2]; rfl) (by omega))
theorem idxR0 {b len cap i : Nat} (h : i < len) : aIndexAddr Tryz.prog 52 (.slice (some ⟨b, 0, none⟩) len cap) (.int .i64 (i : Int)) = some (.pointer (some ⟨b, i, none⟩)) := by
  rw [idxR h, Nat.mul_one, Nat.zero_add]

section
variable {P : Program} {K : Tbl} {G n : Nat} {ops : Array Oper} {sj X : List Nat} {r : Regs} {σ s1 : AS} {l : List Oper} {Q : Regs → AS → Prop}
/-- An operation that makes blocks alone. -/
theorem Lg_qopX {k0 d : Nat} {op : Op} {ty : TypeId} {pos : String} {aft : Array Edge} {v : Value} (hs : ∀ callf, aStep P G callf r σ.reset op = some (v, s1)) (hd : d < n) (hm : memb sj k0 = false) (hq : σ.next ≤ s1.low)
    (h : Lg P K G n ops sj X (k0 + 1) l (rput r d v) (σ.merge s1) Q) : Lg P K G n ops sj X k0 (⟨some d, op, ty, pos, aft, none⟩ :: l) r σ Q := by
  refine ⟨fun _ => ⟨v, s1, 0, fun fuel _ => hs _, ⟨.inl hq, fun h => by rw [hm] at h; cases h⟩, _, ?_, h⟩, fun h => (nomatch h)⟩
  simp only [aPut, bite_eq]; rw [if_pos (by rw [Nat.blt_eq]; exact hd)]
/-- An operation that changes blocks, beside readers of others. -/
theorem Lg_opX {k0 d : Nat} {op : Op} {ty : TypeId} {pos : String} {aft : Array Edge} {v : Value} (hs : ∀ callf, aStep P G callf r σ.reset op = some (v, s1)) (hd : d < n) (hm : memb sj k0 = false) (hbar : barAt P ops sj k0 = true)
    (hx : ∀ x ∈ X, x < σ.next → s1.get x = σ.get x) (h : Lg P K G n ops sj X (k0 + 1) l (rput r d v) (σ.merge s1) Q) : Lg P K G n ops sj X k0 (⟨some d, op, ty, pos, aft, none⟩ :: l) r σ Q := by
  refine ⟨fun _ => ⟨v, s1, 0, fun fuel _ => hs _, ⟨.inr ⟨hbar, fun y hy hl => .inl (hx y hy hl)⟩, fun h => by rw [hm] at h; cases h⟩, _, ?_, h⟩, fun h => (nomatch h)⟩
  simp only [aPut, bite_eq]; rw [if_pos (by rw [Nat.blt_eq]; exact hd)]
end

/-- What is known while a system is generated: N states, the rows L done, the row l under way. -/
structure Gen (σ0 : AS) (tb lb b6 bo N lr : Nat) (lv : Value) (ints : List Int) (σ : AS) (R rows : List Value) (L : List (List Arc)) (v : Value) (l : List Arc) : Prop where
  tape0 : Tape tb σ0 lv ints
  own : ∃ pos : Nat, σ.get tb = ⟨1, 77, 0, [lv, .int .i64 (pos : Int)], []⟩
  lbg : σ.get lb = ⟨1, 60, 0, R, []⟩
  box : BoxAt σ b6 (.slice (some ⟨lb, 0, none⟩) N N)
  res : BoxAt σ bo (.slice none 0 0)
  done : RowsB lr σ rows L
  row : ALn lr σ v l
  ext : ExtX [tb] σ0 σ
  ok : ∀ l' ∈ L, l'.length ≤ 3 ∧ (∀ x ∈ l', x.1 ≤ 5 ∧ x.2 < N)
  okl : ∀ x ∈ l, x.1 ≤ 5 ∧ x.2 < N
  lrn : lr ≤ σ.next
  lr0 : σ0.next ≤ lr
  lbl : σ0.next ≤ lb ∧ lb < lr
  boxl : σ0.next ≤ b6 ∧ b6 < lr
  resl : σ0.next ≤ bo ∧ bo < lr
  b6o : b6 ≠ bo

section
variable {σ0 σ σ' : AS} {tb lb b6 bo N lr : Nat} {lv : Value} {ints : List Int} {R R' rows : List Value} {L : List (List Arc)} {v : Value} {l : List Arc}
theorem Gen.tape (h : Gen σ0 tb lb b6 bo N lr lv ints σ R rows L v l) : Tape tb σ lv ints := by
  obtain ⟨p, hp⟩ := h.own
  exact h.tape0.keep h.ext hp
theorem Gen.to (h : Gen σ0 tb lb b6 bo N lr lv ints σ R rows L v l) (e : Ext σ σ') : Gen σ0 tb lb b6 bo N lr lv ints σ' R rows L v l :=
  { h with own := (by
      obtain ⟨p, hp⟩ := h.own
      exact ⟨p, (e.get tb h.tape.lt).trans hp⟩), lbg := (e.get lb (Nat.lt_of_lt_of_le h.lbl.2 h.lrn)).trans h.lbg, box := h.box.ext e, res := h.res.ext e, done := h.done.ext e, row := h.row.ext e, ext := h.ext.trans (ExtX.of e), lrn := Nat.le_trans h.lrn e.nxt }
theorem Gen.tapeX (h : Gen σ0 tb lb b6 bo N lr lv ints σ R rows L v l) (e : ExtX [tb] σ σ') (t : Tape tb σ' lv ints) : Gen σ0 tb lb b6 bo N lr lv ints σ' R rows L v l := by
  have ht := h.tape0.lt
  have g : ∀ i, i < σ.next → σ0.next ≤ i → σ'.get i = σ.get i := fun i h1 h2 => e.get i h1 (by simp; omega)
  have hk : ∀ b, b < lr → b < σ.next → (σ.get b).kind = 2 → (σ.get b).elem = 62 → σ'.get b = σ.get b := fun b _ hb hk _ => e.get b hb (fun hm => by
    obtain rfl : b = tb := by simpa using hm
    obtain ⟨p, hp⟩ := h.own
    rw [hp] at hk
    cases hk)
  exact { h with own := t.own, lbg := (g lb (Nat.lt_of_lt_of_le h.lbl.2 h.lrn) h.lbl.1).trans h.lbg, box := ⟨Nat.lt_of_lt_of_le h.box.lt e.nxt, (g b6 h.box.lt h.boxl.1).trans h.box.get⟩, res := ⟨Nat.lt_of_lt_of_le h.res.lt e.nxt, (g bo h.res.lt h.resl.1).trans h.res.get⟩, done := h.done.keep e.nxt hk, row := h.row.keep e.nxt fun i ho hi => g i hi (Nat.le_trans h.lr0 (h.row.own ho).1), ext := h.ext.trans e, lrn := Nat.le_trans h.lrn e.nxt }
theorem Gen.neB (h : Gen σ0 tb lb b6 bo N lr lv ints σ R rows L v l) : b6 ≠ lb ∧ bo ≠ lb := by
  constructor
  · intro e
    have h1 := h.box.get
    rw [e, h.lbg] at h1
    exact absurd (show (60 : Nat) = 54 from congrArg Blk.elem h1) (by decide)
  · intro e
    have h1 := h.res.get
    rw [e, h.lbg] at h1
    exact absurd (show (60 : Nat) = 54 from congrArg Blk.elem h1) (by decide)
/-- The row under way grows: in memory alone. -/
theorem Gen.grow (h : Gen σ0 tb lb b6 bo N lr lv ints σ R rows L v l) {v' : Value} {x : Arc} (c : Chg lr σ σ' v) (a : ALn lr σ' v' (l ++ [x])) (hx : x.1 ≤ 5 ∧ x.2 < N) : Gen σ0 tb lb b6 bo N lr lv ints σ' R rows L v' (l ++ [x]) := by
  have hlt : ∀ i, i < lr → ¬ Own v i := fun i hi he => by have := (h.row.own he).1; omega
  have g : ∀ i, i < lr → σ'.get i = σ.get i := fun i h1 => c.get i (Nat.lt_of_lt_of_le h1 h.lrn) (hlt i h1)
  have hE : ExtX [tb] σ0 σ' := ExtX.chg h.ext c h.lr0 fun i hi => (h.row.own hi).1
  have ht := h.tape0.lt
  have hr0 := h.lr0
  refine { h with own := ?_, lbg := (g lb h.lbl.2).trans h.lbg, box := ⟨Nat.lt_of_lt_of_le h.box.lt c.nxt, (g b6 h.boxl.2).trans h.box.get⟩, res := ⟨Nat.lt_of_lt_of_le h.res.lt c.nxt, (g bo h.resl.2).trans h.res.get⟩, done := h.done.keep c.nxt fun b h1 h2 h3 h4 => g b h1, row := a, ext := hE, okl := ?_, lrn := Nat.le_trans h.lrn c.nxt }
  · obtain ⟨p, hp⟩ := h.own
    exact ⟨p, (g tb (by omega)).trans hp⟩
  · intro y hy
    rcases List.mem_append.1 hy with h1 | h1
    · exact h.okl y h1
    · obtain rfl : y = x := by simpa using h1
      exact hx
/-- The list of rows changes. -/
theorem Gen.put (h : Gen σ0 tb lb b6 bo N lr lv ints σ R rows L v l) : Gen σ0 tb lb b6 bo N lr lv ints (σ.put lb ⟨1, 60, 0, R', []⟩) R' rows L v l := by
  obtain ⟨n6, no⟩ := h.neB
  have ht := h.tape0.lt
  have hlb := h.lbl
  have g : ∀ i, i ≠ lb → (σ.put lb ⟨1, 60, 0, R', []⟩).get i = σ.get i := fun i h2 => by rw [AS.get_put, if_neg (fun e => h2 e.symm)]
  refine { h with own := ?_, lbg := by rw [AS.get_put, if_pos rfl], box := ⟨h.box.lt, (g b6 n6).trans h.box.get⟩, res := ⟨h.res.lt, (g bo no).trans h.res.get⟩, done := h.done.keep (Nat.le_refl _) fun b h1 h2 h3 h4 => g b fun e => ?_, row := h.row.keep (Nat.le_refl _) fun i hi _ => g i fun e => ?_, ext := ExtX.fresh h.ext h.lbl.1 _ }
  · obtain ⟨p, hp⟩ := h.own
    exact ⟨p, (g tb (by omega)).trans hp⟩
  · rw [e, h.lbg] at h3
    cases h3
  · have := (h.row.own hi).1
    omega
/-- The row is done, the next one begins. -/
theorem Gen.next (h : Gen σ0 tb lb b6 bo N lr lv ints σ R rows L v l) (hl : l.length ≤ 3) : Gen σ0 tb lb b6 bo N σ.next lv ints σ R (rows ++ [v]) (L ++ [l]) (.slice none 0 0) [] := by
  have := h.lrn
  have := h.lr0
  have := h.lbl
  have := h.boxl
  have := h.resl
  refine { h with done := (h.done.mono h.lrn).push h.row.rowB, row := .inl ⟨rfl, rfl⟩, ok := ?_, okl := by simp, lrn := Nat.le_refl _, lr0 := by omega, lbl := by omega, boxl := by omega, resl := by omega }
  intro l' hl'
  rcases List.mem_append.1 hl' with h1 | h1
  · exact h.ok l' h1
  · obtain rfl : l' = l := by simpa using h1
    exact ⟨hl, h.okl⟩
theorem Gen.merge {s : AS} {rows' : List Value} {L' : List (List Arc)} {v' : Value} {l' : List Arc} (h : Gen σ0 tb lb b6 bo N lr lv ints σ R rows L v l) (k : Gen σ0 tb lb b6 bo N lr lv ints s R' rows' L' v' l') : Gen σ0 tb lb b6 bo N lr lv ints (σ.merge s) R' rows' L' v' l' :=
  { k with own := k.own, lbg := k.lbg, box := ⟨k.box.lt, k.box.get⟩, res := ⟨k.res.lt, k.res.get⟩, done := k.done.keep (Nat.le_refl _) fun _ _ _ _ _ => rfl, row := k.row.keep (Nat.le_refl _) fun _ _ _ => rfl, ext := ⟨k.ext.nxt, k.ext.get, fun m g1 g2 g3 => Nat.le_min.2 ⟨h.ext.low m g1 g2 g3, k.ext.low m g1 g2 g3⟩⟩, lrn := k.lrn }
theorem Gen.fin (h : Gen σ0 tb lb b6 bo N lr lv ints σ R rows L v l) (hN : L.length = N) (h0 : 0 < N) (hR : R = rows) (B : Blk) : OutR (σ.put bo B) (.slice (some ⟨lb, 0, none⟩) N N) L ∧ ExtX [tb] σ0 (σ.put bo B) := by
  have hne := h.neB.2
  refine ⟨⟨fun e => by rw [e] at hN; simp at hN; omega, lb, 0, N, rows, by rw [hN], Nat.lt_of_lt_of_le h.lbl.2 h.lrn, ?_, (h.done.keep (σ' := σ.put bo B) (Nat.le_refl _) fun b _ _ h3 _ => ?_).all_⟩, ExtX.fresh h.ext h.resl.1 B⟩
  · subst hR
    have hl := h.done.len
    refine cells_at (e := 60) (s := 0) (ents := []) (vals := R) ?_ (by rw [List.drop_zero, List.take_of_length_le (by omega)]) (by omega)
    rw [AS.get_put, if_neg hne]
    exact h.lbg
  · rw [AS.get_put, if_neg]
    intro e
    rw [← e, h.res.get] at h3
    cases h3
/-- What is told in the end. -/
theorem Gen.small (h : Gen σ0 tb lb b6 bo N lr lv ints σ R rows L v l) (hN : L.length = N) (h0 : 0 < N) (h10 : N ≤ 10) : Small L :=
  ⟨fun e => by rw [e] at hN; simp at hN; omega, by omega, fun l' hl' => (h.ok l' hl').1, fun l' hl' x hx => ((h.ok l' hl').2 x hx).1, fun l' hl' x hx => by rw [hN]; exact ((h.ok l' hl').2 x hx).2⟩
theorem Gen.out (h : Gen σ0 tb lb b6 bo N lr lv ints σ R rows L v l) (hN : L.length = N) (h0 : 0 < N) (hR : R = rows) : OutR σ (.slice (some ⟨lb, 0, none⟩) N N) L := by
  refine ⟨fun e => by rw [e] at hN; simp at hN; omega, lb, 0, N, rows, by rw [hN], Nat.lt_of_lt_of_le h.lbl.2 h.lrn, ?_, h.done.all_⟩
  subst hR
  have hl := h.done.len
  exact cells_at h.lbg (by rw [List.drop_zero, List.take_of_length_le (by omega)]) (by omega)
end

end Go.Proofs.YtacpdefmnijhnaaGreat.U
