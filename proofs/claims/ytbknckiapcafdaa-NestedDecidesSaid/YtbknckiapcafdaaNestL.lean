/- Contracts of a tape: a new one, an event; an arc is put into a row. -/
import Derived.Test.YtbknckiapcafdaaNestJ
set_option linter.unusedSimpArgs false
set_option linter.unusedVariables false
namespace Go.Proofs.Ytbknckiapcafdaa.Nest
open Abs Abs2

theorem build60 {b : Option Addr} {n c : Nat} : aBuild Try.prog 60 [(0, .slice b n c)] = some (.agg #[.slice b n c, .int .i64 0]) := by kernel_rfl
theorem build27 {x y : Int} : aBuild Try.prog 27 [(0, .int .i64 x), (1, .int .i64 y)] = some (vArc (x, y)) := by kernel_rfl
def evs : List Int := [0, 0, 2, 3, 4, 2, 3, 1, 2, 5, 1025]
theorem evs_ok : ∀ x ∈ evs, 0 ≤ x ∧ x ≤ 1025 := by decide
theorem slice33 {σ : AS} : aBuildSlice Try.prog σ 33 11 [(0, .int .i64 0), (1, .int .i64 0), (2, .int .i64 2), (3, .int .i64 3), (4, .int .i64 4), (5, .int .i64 2), (6, .int .i64 3), (7, .int .i64 1), (8, .int .i64 2), (9, .int .i64 5), (10, .int .i64 1025)] =
    some (.slice (some ⟨σ.next, 0, none⟩) 11 11, σ.new ⟨1, 3, 0, evs.map (Value.int .i64), []⟩) := by kernel_rfl
theorem slice22 {σ : AS} {x : Arc} : aBuildSlice Try.prog σ 22 1 [(0, vArc x)] = some (.slice (some ⟨σ.next, 0, none⟩) 1 1, σ.new ⟨1, 27, 0, [.int .i64 x.1, .int .i64 x.2], []⟩) := by kernel_rfl
theorem slice22e {σ : AS} : aBuildSlice Try.prog σ 22 0 [] = some (.slice (some ⟨σ.next, 0, none⟩) 0 0, σ.new ⟨1, 27, 0, [], []⟩) := by kernel_rfl

set_option maxHeartbeats 4000000 in
theorem new_tape {σ : AS} {lv : Value} {ints : List Int} (h : RS 1 RInt σ lv ints) (hl : ints.length ≤ 2 ^ 62) : C Try.prog Kn 0 10 [lv] σ fun v σ' => v = .pointer (some ⟨σ.next, 0, none⟩) ∧ Tape σ.next σ' 0 ∧ Ext σ σ' := by
  obtain ⟨base, cap, rfl, -⟩ := id h
  refine C_of (kn (by decide)) Try.func10 rfl (Nat.le_of_ble_eq_true rfl) ?_
  show W _ _ _ 6 _ _ _ _
  unfold Try.f10
  dsimp only
  repeat apply W_assoc
  apply W_reg
  · intro callf
    simp +decide only [aOps, rinit, aWanted, ↓bite_eq, ↓reduceIte, aStep_eq, aStepOld, aOp, aev, ann, aPut]
    rfl
  repeat apply W_assoc
  apply W_reg
  · intro callf
    simp +decide only [aOps, aWanted, ↓bite_eq, ↓reduceIte, aStep_eq, aStepOld, aOp, opBox, opBuild, aRow, aev, aparts, ann, aPut, rget_rput, build60]
    rfl
  refine W_ret ⟨Nat.le_refl _, [.pointer (some ⟨σ.next, 0, none⟩)], ?_, rfl, ?_, Ext.new _ _⟩
  · simp +decide only [aResults, rget_rput, if_true, if_false]
  · have e : Ext σ (hid [σ.next] (σ.new ⟨1, 60, 0, [.slice base ints.length cap, .int .i64 ((0 : Nat) : Int)], []⟩)) := Ext.put (Ext.new _ _) (Nat.le_refl _) _
    exact ⟨Nat.lt_succ_self _, _, ints, _, by rw [AS.get_new, if_pos rfl]; rfl, h.ext RInt.keeps e, hl, by simp, by simp⟩

set_option maxHeartbeats 4000000 in
theorem event {σ : AS} {tb k : Nat} (h : Tape tb σ k) (hk : k < 2 ^ 62) : C Try.prog Kn 0 29 [.pointer (some ⟨tb, 0, none⟩)] σ fun v σ' => (∃ e : Int, v = .int .i64 e ∧ 0 ≤ e ∧ e ≤ 1025) ∧ Tape tb σ' (k + 1) ∧ ExtX [tb] σ σ' := by
  refine C_of (kn (by decide)) Try.func29 rfl (Nat.le_of_ble_eq_true rfl) ?_
  show W _ _ _ 12 _ _ _ _
  unfold Try.f29
  dsimp only
  repeat apply W_assoc
  apply W_reg
  · intro callf
    simp +decide only [aOps, rinit, aWanted, ↓bite_eq, ↓reduceIte, aStep_eq, aStepOld, aOp, aev, ann, aPut]
    rfl
  repeat apply W_assoc
  apply W_reg
  · intro callf
    simp +decide only [aOps, aWanted, ↓bite_eq, ↓reduceIte, aStep_eq, aStepOld, aOp, opBuildSlice, aev, aparts, ann, aPut, rget_rput, slice33]
    rfl
  have e1 := Ext.new σ ⟨1, 3, 0, evs.map (Value.int .i64), []⟩
  have hg : (σ.new ⟨1, 3, 0, evs.map (Value.int .i64), []⟩).get σ.next = ⟨1, 3, 0, evs.map (Value.int .i64), []⟩ := by rw [AS.get_new, if_pos rfl]
  have hlt : σ.next < (σ.new ⟨1, 3, 0, evs.map (Value.int .i64), []⟩).next := Nat.lt_succ_self _
  have h0 := h.lt
  generalize σ.new ⟨1, 3, 0, evs.map (Value.int .i64), []⟩ = σ1 at e1 hg hlt
  repeat apply W_assoc
  apply W_regL
  apply Ls_pre 4
  · intro callf
    simp +decide only [List.take, aOps, aWanted, ↓bite_eq, ↓reduceIte, aStep_eq, aStepOld, aOp, opCall, aev, aevs, ann, aPut, rget_rput, aBuiltin, aLen, List.getElem?_toArray, List.getElem?_cons_zero, Try.underlying33, goInt]
    rfl
  dsimp only [List.drop]
  refine Ls_fn (vs := [.pointer (some ⟨tb, 0, none⟩), .int .i64 ((11 : Nat) : Int)]) (by simp +decide only [aevs, aev, rget_rput, if_true, if_false]) (by decide) (C.mono (next_tape (h.ext e1) hk (n := ((11 : Nat) : Int)) (by decide)) ?_)
  rintro v σ' ⟨⟨m, rfl, hm⟩, T1, e2⟩
  obtain ⟨m0, m1⟩ := hm (by decide)
  obtain ⟨i, rfl⟩ : ∃ i : Nat, m = (i : Int) := ⟨m.toNat, by omega⟩
  have hi : i < 11 := by omega
  have hg2 := (e2.get σ.next hlt (by intro h; simp at h; omega)).trans hg
  obtain ⟨x, hx⟩ : ∃ x, evs[i]? = some x := ⟨evs[i]'hi, List.getElem?_eq_getElem hi⟩
  have L : aLoad Try.prog σ' 3 (.pointer (some ⟨σ.next, i, none⟩)) = some (.int .i64 x) := load1 Try.underlying3 rfl (cells_at hg2 (by
    rw [List.drop_eq_getElem_cons (by rw [List.length_map]; exact hi)]
    obtain ⟨h1, h2⟩ := List.getElem?_eq_some_iff.1 hx
    rw [List.getElem_map, h2]; rfl) (by rw [List.length_map]; exact hi))
  apply Ls_all
  · intro callf
    simp +decide only [aOps, aWanted, ↓bite_eq, ↓reduceIte, aStep_eq, aStepOld, aOp, opIndexAddr, opLoad, aev, ann, aPut, rget_rput, Nat.zero_add, idx33 hi, L, Nat.mul_one]
    rfl
  refine W_ret ⟨Nat.le_refl _, [.int .i64 x], ?_, ⟨x, rfl, evs_ok x (List.mem_of_getElem? hx)⟩, T1, (ExtX.of e1).trans e2⟩
  simp +decide only [aResults, rget_rput, if_true, if_false]

end Go.Proofs.Ytbknckiapcafdaa.Nest

/- Rows that are made by appending arcs. -/
set_option linter.unusedSimpArgs false
set_option linter.unusedVariables false
namespace Go.Proofs.Ytbknckiapcafdaa.Nest
open Abs Abs2

/-- The cells of a list of arcs. -/
def cellsOf : List Arc → List Value
  | [] => []
  | x :: l => .int .i64 x.1 :: .int .i64 x.2 :: cellsOf l

theorem cellsOf_length : ∀ l : List Arc, (cellsOf l).length = l.length * 2
  | [] => rfl
  | _ :: l => by show (cellsOf l).length + 1 + 1 = (l.length + 1) * 2; rw [cellsOf_length l]; omega
theorem cellsOf_append : ∀ l m : List Arc, cellsOf (l ++ m) = cellsOf l ++ cellsOf m
  | [], _ => rfl
  | x :: l, m => by show _ :: _ :: cellsOf (l ++ m) = _ :: _ :: (cellsOf l ++ cellsOf m); rw [cellsOf_append l m]
theorem cellsOf_take : ∀ (l : List Arc) (i : Nat), (cellsOf l).take (i * 2) = cellsOf (l.take i)
  | [], i => by simp [cellsOf]
  | x :: l, 0 => by simp [cellsOf]
  | x :: l, i + 1 => by
    rw [show (i + 1) * 2 = i * 2 + 1 + 1 by omega]
    show _ :: _ :: (cellsOf l).take (i * 2) = _ :: _ :: cellsOf (l.take i)
    rw [cellsOf_take l i]
theorem cellsOf_drop : ∀ (l : List Arc) (i : Nat), (cellsOf l).drop (i * 2) = cellsOf (l.drop i)
  | [], i => by simp [cellsOf]
  | x :: l, 0 => by simp [cellsOf]
  | x :: l, i + 1 => by
    rw [show (i + 1) * 2 = i * 2 + 1 + 1 by omega]
    exact cellsOf_drop l i
theorem cellsOf_at {l : List Arc} {i : Nat} {x : Arc} (h : l[i]? = some x) : ((cellsOf l).drop (i * 2)).take 2 = [.int .i64 x.1, .int .i64 x.2] := by
  obtain ⟨h1, h2⟩ := List.getElem?_eq_some_iff.1 h
  rw [cellsOf_drop, List.drop_eq_getElem_cons h1, h2]; rfl
theorem cellsOf_one : ∀ l : List Arc, (cellsOf l).all one = true
  | [] => rfl
  | x :: l => by show (_ && (_ && (cellsOf l).all one)) = true; rw [cellsOf_one l]; rfl

/-- A slice that is appended: the arcs of a list. -/
def Src (σ : AS) (x : Value) (m : List Arc) : Prop := ∀ inf : TypeInfo, inf.size = 2 → aSource Try.prog σ false inf x = some (m.length, cellsOf m)

theorem Src.of {σ : AS} {x : Value} {m : List Arc} (h : (∃ c, x = .slice none 0 c ∧ m = []) ∨ (∃ k, x = .chan (some k) ∧ m = []) ∨ ∃ b off c, x = .slice (some ⟨b, off, none⟩) m.length c ∧ aCells σ ⟨b, off, none⟩ (m.length * 2) = some (cellsOf m)) : Src σ x m := by
  intro inf hs
  rcases h with ⟨c, rfl, rfl⟩ | ⟨k, rfl, rfl⟩ | ⟨b, off, c, rfl, h⟩
  · rfl
  · rfl
  · unfold aSource
    simp only [Bool.false_eq_true, if_false, hs, aCellsS_none, h]

theorem Src.source {σ : AS} {x : Value} {m : List Arc} {inf : TypeInfo} (hs : inf.size = 2) (h : Src σ x m) : aSource Try.prog σ false inf x = some (m.length, cellsOf m) := h inf hs

/-- A row that was made. -/
def outV (b : Nat) (l : List Arc) : Value := .slice (some ⟨b, 0, none⟩) l.length (OPENCAP + l.length)
def outB (l : List Arc) : Blk := ⟨2, 27, 2, cellsOf l, []⟩

theorem open_cap (n : Nat) : isOpen (OPENCAP + n) = true := by unfold isOpen; rw [Nat.ble_eq]; omega
theorem open_lb (n : Nat) : capLB (OPENCAP + n) = n := by
  unfold capLB
  have : Nat.blt (OPENCAP + n) OPENCAP = false := by
    cases h : Nat.blt (OPENCAP + n) OPENCAP with
    | false => rfl
    | true => rw [Nat.blt_eq] at h; omega
  rw [this]; simp only [Bool.false_eq_true, if_false]; omega
theorem open_zero : isOpen 0 = false := by kernel_rfl
theorem ble_f {a b : Nat} (h : b < a) : Nat.ble a b = false := by
  cases e : Nat.ble a b with
  | false => rfl
  | true => rw [Nat.ble_eq] at e; omega
theorem ble_t {a b : Nat} (h : a ≤ b) : Nat.ble a b = true := by rw [Nat.ble_eq]; exact h

theorem info27 : ∃ inf z, Try.prog.info? 27 = some inf ∧ inf.size = 2 ∧ inf.bytes = 16 ∧ inf.zero = some z ∧ z.cells.size = 2 ∧ flat z = true :=
  ⟨(Try.prog.info? 27).get!, (((Try.prog.info? 27).get!).zero).get!, by kernel_rfl, by kernel_rfl, by kernel_rfl, by kernel_rfl, by kernel_rfl, by kernel_rfl⟩

section
variable {σ : AS} {x : Value} {l m : List Arc}

/-- Arcs are appended to the empty row. -/
theorem append_first {b0 : Nat} (hx : Src σ x m) (hm : m ≠ []) (hn : m.length ≤ 1000000) (hb : σ.get b0 = ⟨1, 27, 0, [], []⟩) :
    aAppend Try.prog σ #[22, 22] (.slice (some ⟨b0, 0, none⟩) 0 0) x = some (outV σ.next m, σ.new (outB m)) := by
  obtain ⟨inf, z, h1, h2, h3, h4, h5, h6⟩ := info27
  have hs := hx.source h2
  have hp : 0 < m.length := List.length_pos_iff.2 hm
  have hc : aCells σ ⟨b0, 0, none⟩ 0 = some [] := cells_at hb rfl (Nat.le_refl _)
  have d1 : Nat.beq (2 : Nat) 0 = false := rfl
  have d2 : Nat.beq (2 : Nat) 2 = true := rfl
  have d3 : Nat.ble ((4 * m.length + 4000) * 16) 281474976710656 = true := ble_t (by omega)
  have d4 : Nat.ble m.length 1000000000000 = true := ble_t (by omega)
  have d5 : Nat.beq (cellsOf m).length (m.length * 2) = true := by rw [cellsOf_length]; exact Nat.beq_refl _
  have d6 : Nat.ble m.length 0 = false := ble_f hp
  unfold aAppend
  simp only [List.getElem?_toArray, List.getElem?_cons_zero, List.getElem?_cons_succ, Try.underlying22, h1, h2, h3, h4, h5, h6, hs, d1, d2, Nat.zero_add, d3, d4, d5, d6, open_zero, aFirst, Nat.zero_mul, aCellsS_none, hc, Bool.not_true, Bool.or_false, Bool.false_eq_true, if_false, List.length_nil, Nat.beq_refl, if_true, List.nil_append]
  rfl

/-- Nothing is appended to the empty row. -/
theorem append_nil {b0 : Nat} (hx : Src σ x []) (hb : σ.get b0 = ⟨1, 27, 0, [], []⟩) :
    aAppend Try.prog σ #[22, 22] (.slice (some ⟨b0, 0, none⟩) 0 0) x = some (.slice (some ⟨b0, 0, none⟩) 0 0, σ) := by
  obtain ⟨inf, z, h1, h2, h3, h4, h5, h6⟩ := info27
  have hs := hx.source h2
  have d1 : Nat.beq (2 : Nat) 0 = false := rfl
  have d2 : Nat.beq (2 : Nat) 2 = true := rfl
  have d3 : Nat.ble ((4 * 0 + 4000) * 16) 281474976710656 = true := rfl
  have d4 : Nat.ble 0 1000000000000 = true := rfl
  have d6 : Nat.ble 0 0 = true := rfl
  have hw : aWriteS σ ⟨b0, 0 + 0 * 2, none⟩ [] = some σ := by
    rw [aWriteS_none]
    unfold aWrite
    simp only [hb]; rfl
  unfold aAppend
  simp only [List.getElem?_toArray, List.getElem?_cons_zero, List.getElem?_cons_succ, Try.underlying22, h1, h2, h3, h4, h5, h6, hs, d1, d2, List.length_nil, Nat.add_zero, d3, d4, d6, cellsOf, Nat.zero_mul, open_zero, Bool.not_true, Bool.or_false, Bool.false_eq_true, if_false, Nat.beq_refl, if_true]
  rw [show (⟨b0, 0 + 0 * 2, none⟩ : Addr) = ⟨b0, 0, none⟩ from rfl] at hw
  first | rw [hw] | simp only [hw]

/-- Arcs are appended to a row that was made: it is made anew. -/
theorem append_more {b : Nat} (hx : Src σ x m) (hm : m ≠ []) (hn : l.length + m.length ≤ 1000000) (hb : σ.get b = outB l) :
    aAppend Try.prog σ #[22, 22] (outV b l) x = some (outV σ.next (l ++ m), (σ.put b Blk.dead).new (outB (l ++ m))) := by
  obtain ⟨inf, z, h1, h2, h3, h4, h5, h6⟩ := info27
  have hs := hx.source h2
  have hp : 0 < m.length := List.length_pos_iff.2 hm
  have d1 : Nat.beq (2 : Nat) 0 = false := rfl
  have d2 : Nat.beq (2 : Nat) 2 = true := rfl
  have d3 : Nat.ble ((4 * (l.length + m.length) + 4000) * 16) 281474976710656 = true := ble_t (by omega)
  have d4 : Nat.ble (l.length + m.length) 1000000000000 = true := ble_t (by omega)
  have d5 : Nat.beq (cellsOf m).length (m.length * 2) = true := by rw [cellsOf_length]; exact Nat.beq_refl _
  have d6 : Nat.ble (l.length + m.length) l.length = false := ble_f (by omega)
  have d7 : Nat.ble (l.length * 2) (cellsOf l).length = true := ble_t (by rw [cellsOf_length]; omega)
  have d8 : (cellsOf l).take (l.length * 2) = cellsOf l := by rw [List.take_of_length_le (by rw [cellsOf_length]; omega)]
  unfold aAppend outV outB
  unfold outB at hb
  simp only [List.getElem?_toArray, List.getElem?_cons_zero, List.getElem?_cons_succ, Try.underlying22, h1, h2, h3, h4, h5, h6, hs, d1, d2, d3, d4, d5, d6, d7, d8, open_cap, open_lb, hb, cellsOf_one, cellsOf_append, List.length_append, Bool.not_true, Bool.or_false, Bool.and_self, Bool.false_eq_true, if_false, Nat.beq_refl, if_true]

/-- Nothing is appended to a row that was made. -/
theorem append_same {b : Nat} (hx : Src σ x []) (hn : l.length ≤ 1000000) (hb : σ.get b = outB l) :
    aAppend Try.prog σ #[22, 22] (outV b l) x = some (outV b l, σ) := by
  obtain ⟨inf, z, h1, h2, h3, h4, h5, h6⟩ := info27
  have hs := hx.source h2
  have d1 : Nat.beq (2 : Nat) 0 = false := rfl
  have d2 : Nat.beq (2 : Nat) 2 = true := rfl
  have d3 : Nat.ble ((4 * l.length + 4000) * 16) 281474976710656 = true := ble_t (by omega)
  have d4 : Nat.ble l.length 1000000000000 = true := ble_t (by omega)
  have d6 : Nat.ble l.length l.length = true := ble_t (Nat.le_refl _)
  have hw : aWrite σ ⟨b, 0 + l.length * 2, none⟩ [] = some σ := by
    unfold aWrite
    simp only [hb, List.length_nil, List.all_nil, hasLen_eq, outB, cellsOf_length, Nat.add_zero, Nat.zero_add]
    rw [ble_t (Nat.le_refl _)]
    rfl
  unfold aAppend outV
  simp only [List.getElem?_toArray, List.getElem?_cons_zero, List.getElem?_cons_succ, Try.underlying22, h1, h2, h3, h4, h5, h6, hs, d1, d2, List.length_nil, Nat.add_zero, d3, d4, d6, cellsOf, Nat.zero_mul, open_cap, open_lb, hb, Bool.not_true, Bool.or_false, Bool.false_eq_true, if_false, Nat.beq_refl, if_true, hw]
  first | rfl | (rw [show (Nat.beq (outB l).kind 2 && Nat.beq (outB l).esz 2) = true from rfl]; rfl) | skip
end

/-- A row of a system in the making. -/
def GRow (σ : AS) (v : Value) (l : List Arc) : Prop := (v = .slice none 0 0 ∧ l = []) ∨ (l ≠ [] ∧ ∃ b, v = outV b l ∧ b < σ.next ∧ σ.get b = outB l)

theorem GRow.shown {X : List Nat} {σ : AS} {v : Value} {l : List Arc} (h : GRow (hid X σ) v l) : GRow σ v l := by
  refine h.imp_right fun ⟨h0, b, h1, h2, h3⟩ => ⟨h0, b, h1, by rw [hid_next] at h2; exact h2, ?_⟩
  by_cases hb : b ∈ X
  · rw [hid_in _ hb] at h3
    have := congrArg Blk.kind h3
    simp [outB, Blk.dead] at this
  · rw [hid_out _ hb] at h3; exact h3

theorem GRow.ext {σ σ' : AS} {v : Value} {l : List Arc} (h : GRow σ v l) (e : Ext σ σ') : GRow σ' v l :=
  h.imp_right fun ⟨h0, b, h1, h2, h3⟩ => ⟨h0, b, h1, e.lt h2, (e.get b h2).trans h3⟩

theorem out_cells {σ : AS} {b : Nat} {l : List Arc} (h : σ.get b = outB l) {i n : Nat} (hi : i + n ≤ l.length) : aCells σ ⟨b, i * 2, none⟩ (n * 2) = some (cellsOf ((l.drop i).take n)) := by
  unfold aCells
  simp only [h, outB, hasLen_eq, cellsOf_length]
  rw [ble_t (by omega), cellsOf_drop, cellsOf_take]
  rfl

theorem GRow.rs {σ : AS} {v : Value} {l : List Arc} (h : GRow σ v l) : RS 2 RArc σ v l := by
  rcases h with ⟨rfl, rfl⟩ | ⟨h0, b, rfl, h2, h3⟩
  · exact ⟨none, 0, rfl, fun h => absurd rfl h⟩
  · refine ⟨_, _, rfl, fun _ => ⟨b, 0, rfl, h2, fun i x hx => ?_⟩⟩
    have hi : i < l.length := (List.getElem?_eq_some_iff.1 hx).1
    have := out_cells h3 (i := i) (n := 1) (by omega)
    rw [Nat.one_mul] at this
    rw [Nat.zero_add]
    refine ⟨_, this, ?_⟩
    show cellsOf _ = _
    obtain ⟨h1, h2⟩ := List.getElem?_eq_some_iff.1 hx
    rw [List.drop_eq_getElem_cons h1, h2]; rfl

theorem abound_le (i n : Nat) (h : i ≤ n) : abound (.int .i64 (i : Int)) n = some i := by
  show (if (0 : Int) ≤ (i : Int) ∧ (i : Int) ≤ (n : Int) then some (i : Int).toNat else none) = some i
  rw [if_pos ⟨by omega, by omega⟩]; rfl

/-- A row's beginning. -/
theorem GRow.slice_to {σ : AS} {v : Value} {l : List Arc} (h : GRow σ v l) {i : Nat} (hi : i ≤ l.length) : ∃ x, aSlice Try.prog σ 22 v none (some (.int .i64 (i : Int))) none = some x ∧ Src σ x (l.take i) := by
  obtain ⟨inf, z, h1, h2, -⟩ := info27
  rcases h with ⟨rfl, rfl⟩ | ⟨h0, b, rfl, hb, hg⟩
  · obtain rfl : i = 0 := by simpa using hi
    refine ⟨.slice none 0 0, ?_, Src.of (.inl ⟨0, rfl, by simp⟩)⟩
    unfold aSlice
    simp only [Try.underlying22, h1, open_zero, h2]
    rfl
  · refine ⟨.slice (some ⟨b, 0, none⟩) i (OPENCAP + l.length), ?_, Src.of (.inr (.inr ⟨b, 0, OPENCAP + l.length, by rw [List.length_take, Nat.min_eq_left hi], ?_⟩))⟩
    · unfold aSlice outV
      simp only [Try.underlying22, h1, h2, open_cap, hg, if_true]
      rw [show (Nat.beq (outB l).kind 2 && Nat.beq (outB l).esz 2) = true from rfl, if_pos rfl]
      unfold aSliceAt
      simp only [aboundO, open_lb, abound_le i _ hi, open_cap, if_true, Nat.beq_refl]
    · have := out_cells hg (i := 0) (n := i) (by omega)
      rw [List.length_take, Nat.min_eq_left hi]
      simpa using this

/-- A row's end. -/
theorem GRow.slice_from {σ : AS} {v : Value} {l : List Arc} (h : GRow σ v l) {i : Nat} (hi : i ≤ l.length) : ∃ x, aSlice Try.prog σ 22 v (some (.int .i64 (i : Int))) none none = some x ∧ Src σ x (l.drop i) := by
  obtain ⟨inf, z, h1, h2, -⟩ := info27
  rcases h with ⟨rfl, rfl⟩ | ⟨h0, b, rfl, hb, hg⟩
  · obtain rfl : i = 0 := by simpa using hi
    refine ⟨.slice none 0 0, ?_, Src.of (.inl ⟨0, rfl, by simp⟩)⟩
    unfold aSlice
    simp only [Try.underlying22, h1, open_zero, h2]
    rfl
  · have hs : ∀ x, aSliceAt 2 (some ⟨b, 0, none⟩) l.length (OPENCAP + l.length) (some (.int .i64 (i : Int))) none none = some x → aSlice Try.prog σ 22 (outV b l) (some (.int .i64 (i : Int))) none none = some x := fun x hx => by
      unfold aSlice outV
      simp only [Try.underlying22, h1, h2, open_cap, hg, if_true]
      rw [show (Nat.beq (outB l).kind 2 && Nat.beq (outB l).esz 2) = true from rfl, if_pos rfl]
      exact hx
    by_cases h3 : i = 0
    · subst h3
      refine ⟨_, hs (.slice (some ⟨b, 0, none⟩) l.length (OPENCAP + l.length)) ?_, Src.of (.inr (.inr ⟨b, 0, OPENCAP + l.length, by simp, ?_⟩))⟩
      · unfold aSliceAt
        simp only [aboundO, open_lb, abound_le 0 _ (Nat.zero_le _), open_cap, if_true, Nat.beq_refl]
      · have := out_cells hg (i := 0) (n := l.length) (by omega)
        simpa using this
    have d0 : Nat.beq i 0 = false := by
      cases e : Nat.beq i 0 with
      | false => rfl
      | true => exact absurd (Nat.eq_of_beq_eq_true e) h3
    by_cases h4 : i < l.length
    · refine ⟨_, hs (.slice (some ⟨b, i * 2, none⟩) (l.length - i) (OPENCAP + (l.length - i))) ?_, Src.of (.inr (.inr ⟨b, i * 2, OPENCAP + (l.length - i), by rw [List.length_drop], ?_⟩))⟩
      · unfold aSliceAt
        simp only [aboundO, open_lb, abound_le i _ hi, open_cap, if_true, d0, Bool.false_eq_true, if_false]
        rw [if_pos (by rw [Nat.blt_eq]; exact h4)]
        simp only [Option.map_some, Addr.add, Nat.zero_add]
        rw [if_neg (by omega)]
      · have := out_cells hg (i := i) (n := l.length - i) (by omega)
        rw [List.length_drop, this]
        rw [List.take_of_length_le (by rw [List.length_drop]; exact Nat.le_refl _)]
    · obtain rfl : i = l.length := by omega
      refine ⟨_, hs (.chan (some (voidCut ⟨b, 0, none⟩ (OPENCAP + l.length) l.length 2))) ?_, Src.of (.inr (.inl ⟨_, rfl, by simp⟩))⟩
      unfold aSliceAt
      have d1 : Nat.blt l.length l.length = false := by
        cases e : Nat.blt l.length l.length with
        | false => rfl
        | true => rw [Nat.blt_eq] at e; omega
      simp only [aboundO, open_lb, abound_le l.length _ (Nat.le_refl _), open_cap, if_true, d0, d1, Nat.beq_refl, Bool.false_eq_true, if_false, Option.map_some]

end Go.Proofs.Ytbknckiapcafdaa.Nest
