/- Rows that are read, lists of rows. -/
import Derived.Test.YtacpdefmnijhnaaGreatUI
set_option linter.unusedSimpArgs false
set_option linter.unusedVariables false
namespace Go.Proofs.YtacpdefmnijhnaaGreat.U
open Abs

section
variable {P : Program} {t : TypeId} (xo yo : Operand) {k : IntKind} {a b : Int}
theorem subI : aBin P .sub t xo yo (.int k a) (.int k b) = some (.int k (k.wrap (a - b))) := by simp only [aBin, aInts, aInt_eq, if_true]
theorem addI : aBin P .add t xo yo (.int k a) (.int k b) = some (.int k (k.wrap (a + b))) := by simp only [aBin, aInts, aInt_eq, if_true]
theorem lssI : aBin P .lss t xo yo (.int k a) (.int k b) = some (.bool (decide (a < b))) := by simp only [aBin, aInts, aInt_eq, if_true]
theorem gtrI : aBin P .gtr t xo yo (.int k a) (.int k b) = some (.bool (decide (a > b))) := by simp only [aBin, aInts, aInt_eq, if_true]
theorem geqI : aBin P .geq t xo yo (.int k a) (.int k b) = some (.bool (decide (a ≥ b))) := by simp only [aBin, aInts, aInt_eq, if_true]
theorem leqI : aBin P .leq t xo yo (.int k a) (.int k b) = some (.bool (decide (a ≤ b))) := by simp only [aBin, aInts, aInt_eq, if_true]
theorem eqII : aBin P .eql t xo yo (.int k a) (.int k b) = some (.bool (a == b)) := by simp only [aBin, aInts, aInt_eq, if_true]
theorem neII : aBin P .neq t xo yo (.int k a) (.int k b) = some (.bool (a != b)) := by simp only [aBin, aInts, aInt_eq, if_true]
end

theorem eqA (xo yo : Operand) (x y : Arc) : aBin Tryz.prog .eql 62 xo yo (vArc x) (vArc y) = some (.bool (decide (x = y))) ∧ aBin Tryz.prog .neq 62 xo yo (vArc x) (vArc y) = some (.bool (!decide (x = y))) := by
  obtain ⟨a, b⟩ := x
  obtain ⟨c, d⟩ := y
  refine aBin_struct Tryz.underlying62 (by kernel_rfl) rfl rfl ?_ (by kernel_rfl) xo yo
  have p1 : ∀ x y : Int, asPure Tryz.prog (part 3 #[.int .i64 x, .int .i64 y] 0) = some (.int .i64 x) := fun x y => by kernel_rfl
  have p2 : ∀ x y : Int, asPure Tryz.prog (part 3 #[.int .i64 x, .int .i64 y] 1) = some (.int .i64 y) := fun x y => by kernel_rfl
  simp only [eqFieldsO, p1, p2, Option.bind_some, asPure_equal_int 9998 _ _ Tryz.underlying3]
  have g1 : ((a : Int) == (c : Int)) = decide (a = c) := by
    by_cases h : a = c
    · simp [h]
    · have : ¬ ((a : Int) = (c : Int)) := by omega
      simp [h, this]
  have g2 : ((b : Int) == (d : Int)) = decide (b = d) := by
    by_cases h : b = d
    · simp [h]
    · have : ¬ ((b : Int) = (d : Int)) := by omega
      simp [h, this]
  simp only [g1, g2]
  by_cases h1 : a = c <;> by_cases h2 : b = d <;> simp [h1, h2]

/-- A part of cells that are known. -/
theorem cells_sub {σ : AS} {b off N i m : Nat} {cs : List Value} (h : aCells σ ⟨b, off, none⟩ N = some cs) (hi : i + m ≤ N) : aCells σ ⟨b, off + i, none⟩ m = some ((cs.drop i).take m) := by
  unfold aCells at h ⊢
  simp only [hasLen_eq] at h ⊢
  have key : ∀ l : List Value, (l.drop (off + i)).take m = (((l.drop off).take N).drop i).take m := fun l => by
    rw [List.drop_take, List.drop_drop, List.take_take, Nat.min_eq_left (by omega)]
  have hble : Nat.ble (off + N) (σ.get b).vals.length = true → Nat.ble (off + i + m) (σ.get b).vals.length = true := fun h => by
    rw [Nat.ble_eq] at h ⊢; omega
  by_cases h1 : (isCells (σ.get b) && Nat.ble (off + N) (σ.get b).vals.length) = true
  · rw [if_pos h1] at h
    simp only [Bool.and_eq_true] at h1
    rw [if_pos (by rw [h1.1, hble h1.2]; rfl), key, Option.some.inj h]
  · rw [if_neg h1] at h
    by_cases h2 : (Nat.beq (σ.get b).kind 5 && Nat.ble (off + N) (σ.get b).vals.length && (((σ.get b).vals.drop off).take N).all known) = true
    · rw [if_pos h2] at h
      simp only [Bool.and_eq_true] at h2
      obtain ⟨⟨h3, h4⟩, h5⟩ := h2
      have e := Option.some.inj h
      have hk : (((σ.get b).vals.drop (off + i)).take m).all known = true := by
        rw [key]
        rw [List.all_eq_true] at h5 ⊢
        exact fun x hx => h5 x (List.mem_of_mem_drop (List.mem_of_mem_take hx))
      by_cases h6 : (isCells (σ.get b) && Nat.ble (off + i + m) (σ.get b).vals.length) = true
      · rw [if_pos h6, key, e]
      · rw [if_neg h6, if_pos (by rw [h3, hble h4, hk]; rfl), key, e]
    · rw [if_neg h2] at h
      cases h

/-- The value reads as a list of arcs. -/
def RowV (σ : AS) (v : Value) (l : List Arc) : Prop := (v = .slice none 0 0 ∧ l = []) ∨ (l ≠ [] ∧ ∃ b off c, v = .slice (some ⟨b, off, none⟩) l.length c ∧ b < σ.next ∧ aCells σ ⟨b, off, none⟩ (l.length * 2) = some (cA l))
/-- The blocks that it lies in. -/
def In (v : Value) (i : Nat) : Prop := ∃ off n c, v = .slice (some ⟨i, off, none⟩) n c

section
variable {σ σ' : AS} {v : Value} {l : List Arc}

theorem RowV.keep (h : RowV σ v l) (hn : σ.next ≤ σ'.next) (hg : ∀ i, In v i → i < σ.next → σ'.get i = σ.get i) : RowV σ' v l :=
  h.imp_right fun ⟨h0, b, off, c, h1, h2, h3⟩ => ⟨h0, b, off, c, h1, Nat.lt_of_lt_of_le h2 hn, by
    rw [← h3]; unfold aCells; simp only [hg b ⟨_, _, _, h1⟩ h2]⟩
theorem RowV.ext (h : RowV σ v l) (e : Ext σ σ') : RowV σ' v l := h.keep e.nxt fun i _ hi => e.get i hi
theorem RowV.len (h : RowV σ v l) : ∃ base c, v = .slice base l.length c := by
  rcases h with ⟨rfl, rfl⟩ | ⟨_, b, off, c, rfl, _⟩
  · exact ⟨_, _, rfl⟩
  · exact ⟨_, _, rfl⟩
theorem RowV.in_lt (h : RowV σ v l) {i : Nat} (hi : In v i) : i < σ.next := by
  obtain ⟨o, n, c, e⟩ := hi
  rcases h with ⟨rfl, _⟩ | ⟨_, b, off, c', rfl, h2, _⟩
  · cases e
  · cases e; exact h2
theorem RowV.sv (h : RowV σ v l) : (vsc σ.next 9 v && veq 9 v v) = true := by
  rcases h with ⟨rfl, _⟩ | ⟨_, b, off, c', rfl, h2, _⟩
  · exact sv_nil
  · exact sv_slice h2

theorem RowV.at (h : RowV σ v l) {i : Nat} {x : Arc} (hx : l[i]? = some x) : ∃ b off c, v = .slice (some ⟨b, off, none⟩) l.length c ∧ b < σ.next ∧
    aIndexAddr Tryz.prog 60 v (.int .i64 (i : Int)) = some (.pointer (some ⟨b, off + i * 2, none⟩)) ∧
    (∀ σ' : AS, σ'.get b = σ.get b → aLoad Tryz.prog σ' 62 (.pointer (some ⟨b, off + i * 2, none⟩)) = some (vArc x)) ∧
    (∀ σ' : AS, σ'.get b = σ.get b → aLoad Tryz.prog σ' 3 (.pointer (some ⟨b, off + i * 2, none⟩)) = some (.int .i64 (x.1 : Int)) ∧ aLoad Tryz.prog σ' 3 (.pointer (some ⟨b, off + i * 2 + 1, none⟩)) = some (.int .i64 (x.2 : Int))) := by
  have hi := (List.getElem?_eq_some_iff.1 hx).1
  rcases h with ⟨rfl, rfl⟩ | ⟨_, b, off, c, rfl, h2, h3⟩
  · cases hi
  have h4 : ∀ σ' : AS, σ'.get b = σ.get b → aCells σ' ⟨b, off + i * 2, none⟩ 2 = some [.int .i64 (x.1 : Int), .int .i64 (x.2 : Int)] := fun σ' hg => by
    have h5 : aCells σ' ⟨b, off, none⟩ (l.length * 2) = some (cA l) := by rw [← h3]; unfold aCells; simp only [hg]
    rw [cells_sub h5 (show i * 2 + 2 ≤ l.length * 2 by omega), cA_at hx]
  exact ⟨b, off, c, rfl, h2, idxA hi, fun σ' hg => loadArc (x := x) (h4 σ' hg) rfl, fun σ' hg => ⟨load1 Tryz.underlying3 rfl (cells_two (h4 σ' hg)).1, load1 Tryz.underlying3 rfl (cells_two (h4 σ' hg)).2⟩⟩

theorem RowV.src (h : RowV σ v l) : ∀ inf : TypeInfo, inf.size = 2 → aSource Tryz.prog σ false inf v = some (l.length, cA l) := by
  intro inf hs
  rcases h with ⟨rfl, rfl⟩ | ⟨_, b, off, c, rfl, h2, h3⟩
  · rfl
  · unfold aSource
    simp only [Bool.false_eq_true, if_false, hs, aCellsS_none, h3]

/-- A growing list that is not empty reads as it is. -/
theorem AL.row {lo : Nat} (h : AL lo σ v l) (hl : l ≠ []) : RowV σ v l := by
  obtain ⟨c1, c2, ⟨h3, h0⟩ | ⟨b, n, vals, rfl, h4, h5, h6, h7, h8, h9⟩⟩ := h
  · exact absurd (List.length_eq_zero_iff.1 h0) hl
  · refine .inr ⟨hl, b, 0, _, rfl, h6, ?_⟩
    unfold aCells
    simp only [h7, hasLen_eq, Nat.zero_add]
    rw [ble_t (show l.length * 2 ≤ vals.length by omega), ← h9]
    rfl
/-- Its unused room is given up. -/
theorem AL.clip {lo : Nat} (h : AL lo σ v l) (hl : l ≠ []) (hn : l.length ≤ 1000000) : ∃ b c, v = .slice (some ⟨b, 0, none⟩) l.length c ∧ lo ≤ b ∧ b < σ.next ∧ (σ.get b).kind = 2 ∧ (σ.get b).elem = 62 ∧
    aSlice Tryz.prog σ 60 v none (some (.int .i64 (l.length : Int))) (some (.int .i64 (l.length : Int))) = some (.slice (some ⟨b, 0, none⟩) l.length l.length) ∧ RowV σ (.slice (some ⟨b, 0, none⟩) l.length l.length) l := by
  have hr := h.row hl
  obtain ⟨c1, c2, ⟨h3, h0⟩ | ⟨b, n, vals, rfl, h4, h5, h6, h7, h8, h9⟩⟩ := h
  · exact absurd (List.length_eq_zero_iff.1 h0) hl
  have hp := List.length_pos_iff.2 hl
  refine ⟨b, _, rfl, h5, h6, by rw [h7], by rw [h7], ?_, ?_⟩
  · obtain ⟨hu, ⟨inf, zz, g1, g2, g3, g4, g5, g6⟩, g7⟩ := elA
    unfold aSlice
    simp only [hu, g1, g2, open_cap, h7, if_true]
    rw [if_pos (by rfl)]
    unfold aSliceAt
    simp only [open_lb, abound_at l.length n h4, abound_at l.length l.length (Nat.le_refl _), aboundO]
    rw [if_neg (by rw [Nat.ble_eq]; unfold OPENCAP; omega), beq_f (show l.length ≠ 0 by omega)]
    simp only [Bool.false_eq_true, if_false, Option.map_some, Nat.zero_mul, Addr.add, Nat.sub_zero]
    rfl
  · rcases hr with ⟨e, _⟩ | ⟨_, b', off, c, e, g2, g3⟩
    · cases e
    · cases e
      exact .inr ⟨hl, b, 0, _, rfl, h6, g3⟩
end

/-! ### One element is appended -/

section
variable {P : Program} {lo T E E' z k : Nat} {σ : AS} {v : Value} {cs new : List Value} {b : Nat}
theorem src1 (hb : σ.get b = ⟨1, E', 0, new, []⟩) (hn : new.length = z) : ∀ inf : TypeInfo, inf.size = z → aSource P σ false inf (.slice (some ⟨b, 0, none⟩) 1 1) = some (1, new) := fun inf hi => by
  have hc : aCells σ ⟨b, 0, none⟩ z = some new := cells_at hb (by rw [List.drop_zero, List.take_of_length_le (by omega)]) (by omega)
  unfold aSource
  simp only [Bool.false_eq_true, if_false, hi, Nat.one_mul, aCellsS_none, hc]
theorem Stk.push1 (el : El P T E z) (h : Stk lo E z σ v k cs) (hlo : lo ≤ σ.next) (hb : σ.get b = ⟨1, E', 0, new, []⟩) (hn : new.length = z) (h1 : new.all one = true) (hk : k + 1 ≤ 1000000) :
    ∃ v' s, aAppend P σ #[T, T] v (.slice (some ⟨b, 0, none⟩) 1 1) = some (v', s) ∧ Stk lo E z s v' (k + 1) (cs ++ new) ∧ σ.next ≤ s.next ∧ (∀ i, i < σ.next → ¬ Own v i → s.get i = σ.get i) ∧ (∀ q, q ≤ lo → q ≤ σ.low → q ≤ s.low) ∧
      ∀ i, Own v' i → Own v i ∨ σ.next ≤ i :=
  Stk.push el h hlo (src1 hb hn) (by omega) h1 hk
theorem StkC.push1 (el : El P T E z) (h : StkC lo E z σ v k cs) (hlo : lo ≤ σ.next) (hb : σ.get b = ⟨1, E', 0, new, []⟩) (hn : new.length = z) (h1 : new.all one = true) (hk : k + 1 ≤ 1000000) :
    ∃ v' s, aAppend P σ #[T, T] v (.slice (some ⟨b, 0, none⟩) 1 1) = some (v', s) ∧ Stk lo E z s v' (k + 1) (cs ++ new) ∧ σ.next ≤ s.next ∧ (∀ i, i < σ.next → ¬ Own v i → s.get i = σ.get i) ∧ (∀ q, q ≤ lo → q ≤ σ.low → q ≤ s.low) ∧
      ∀ i, Own v' i → Own v i ∨ σ.next ≤ i :=
  StkC.push el h hlo (src1 (P := P) hb hn) (by omega) h1 hk (Nat.succ_pos 0)
end

/-! ### Lists of rows -/

/-- The values read as the rows. -/
structure Rows (σ : AS) (rows : List Value) (L : List (List Arc)) : Prop where
  len : rows.length = L.length
  row : ∀ (i : Nat) (v : Value) (l : List Arc), rows[i]? = some v → L[i]? = some l → RowV σ v l

/-- The value reads as a list of rows. -/
def OutR (σ : AS) (v : Value) (L : List (List Arc)) : Prop := L ≠ [] ∧ ∃ b off c rows, v = .slice (some ⟨b, off, none⟩) L.length c ∧ b < σ.next ∧ aCells σ ⟨b, off, none⟩ L.length = some rows ∧ Rows σ rows L

theorem idxR {b off len cap i : Nat} (h : i < len) : aIndexAddr Tryz.prog 52 (.slice (some ⟨b, off, none⟩) len cap) (.int .i64 (i : Int)) = some (.pointer (some ⟨b, off + i * 1, none⟩)) :=
  aIndexAddr_slice (inf := (Tryz.prog.info? 60).get!) Tryz.underlying52 (by kernel_rfl) (by kernel_rfl) h

section
variable {σ σ' : AS} {v : Value} {rows : List Value} {L : List (List Arc)}
theorem Rows.ext (h : Rows σ rows L) (e : Ext σ σ') : Rows σ' rows L := ⟨h.len, fun i v l h1 h2 => (h.row i v l h1 h2).ext e⟩
theorem OutR.ext (h : OutR σ v L) (e : Ext σ σ') : OutR σ' v L := by
  obtain ⟨h0, b, off, c, rows, h1, h2, h3, h4⟩ := h
  exact ⟨h0, b, off, c, rows, h1, e.lt h2, by rw [e.cells h2]; exact h3, h4.ext e⟩
theorem OutR.at (h : OutR σ v L) {i : Nat} {l : List Arc} (hl : L[i]? = some l) : ∃ b off c w, v = .slice (some ⟨b, off, none⟩) L.length c ∧ b < σ.next ∧
    aIndexAddr Tryz.prog 52 v (.int .i64 (i : Int)) = some (.pointer (some ⟨b, off + i * 1, none⟩)) ∧
    (∀ σ' : AS, σ'.get b = σ.get b → aLoad Tryz.prog σ' 60 (.pointer (some ⟨b, off + i * 1, none⟩)) = some w) ∧ RowV σ w l := by
  obtain ⟨h0, b, off, c, rows, rfl, h2, h3, h4⟩ := h
  have hi := (List.getElem?_eq_some_iff.1 hl).1
  have hir : i < rows.length := by rw [h4.len]; exact hi
  refine ⟨b, off, c, rows[i], rfl, h2, idxR hi, fun σ' hg => ?_, h4.row i _ l (List.getElem?_eq_getElem hir) hl⟩
  have h5 : aCells σ' ⟨b, off, none⟩ L.length = some rows := by rw [← h3]; unfold aCells; simp only [hg]
  refine load1 Tryz.underlying60 rfl ?_
  rw [cells_sub h5 (show i * 1 + 1 ≤ L.length by omega), Nat.mul_one, List.drop_eq_getElem_cons hir]
  rfl
theorem OutR.len (h : OutR σ v L) : ∃ base c, v = .slice base L.length c := by
  obtain ⟨h0, b, off, c, rows, rfl, _⟩ := h
  exact ⟨_, _, rfl⟩
end
end Go.Proofs.YtacpdefmnijhnaaGreat.U
