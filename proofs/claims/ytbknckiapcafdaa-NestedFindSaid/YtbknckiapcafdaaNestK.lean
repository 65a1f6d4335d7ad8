/- Contracts of a tape: a new one, an event; an arc is put into a row. -/
import Derived.Test.YtbknckiapcafdaaNestJ
set_option linter.unusedSimpArgs false
set_option linter.unusedVariables false
namespace Go.Proofs.Ytbknckiapcafdaa.Nest
open Abs Abs2

theorem build60 {b : Option Addr} {n c : Nat} : aBuild Try.prog 60 [(0, .slice b n c)] = some (.agg #[.slice b n c, .int .i64 0]) := by kernel_rfl
theorem build30 {b : Option Addr} {n c : Nat} : aBuild Try.prog 30 [(0, .slice b n c)] = some (.agg #[.slice b n c]) := by kernel_rfl
theorem build27 {x y : Int} : aBuild Try.prog 27 [(0, .int .i64 x), (1, .int .i64 y)] = some (vArc (x, y)) := by kernel_rfl
def evs : List Int := [0, 0, 2, 3, 4, 2, 3, 1, 2, 5, 1025]
theorem slice33 {σ : AS} : aBuildSlice Try.prog σ 33 11 [(0, .int .i64 0), (1, .int .i64 0), (2, .int .i64 2), (3, .int .i64 3), (4, .int .i64 4), (5, .int .i64 2), (6, .int .i64 3), (7, .int .i64 1), (8, .int .i64 2), (9, .int .i64 5), (10, .int .i64 1025)] =
    some (.slice (some ⟨σ.next, 0, none⟩) 11 11, σ.new ⟨1, 3, 0, evs.map (Value.int .i64), []⟩) := by kernel_rfl
theorem slice22 {σ : AS} {x : Arc} : aBuildSlice Try.prog σ 22 1 [(0, vArc x)] = some (.slice (some ⟨σ.next, 0, none⟩) 1 1, σ.new ⟨1, 27, 0, [.int .i64 x.1, .int .i64 x.2], []⟩) := by kernel_rfl
theorem slice22e {σ : AS} : aBuildSlice Try.prog σ 22 0 [] = some (.slice (some ⟨σ.next, 0, none⟩) 0 0, σ.new ⟨1, 27, 0, [], []⟩) := by kernel_rfl

set_option maxHeartbeats 4000000 in
theorem new_tape {σ : AS} {lv : Value} {ints : List Int} (h : RS 1 RInt σ lv ints) (hl : ints.length ≤ 2 ^ 62) : C Try.prog Kn 0 10 [lv] σ fun v σ' => v = .pointer (some ⟨σ.next, 0, none⟩) ∧ Tape σ.next σ' 0 ∧ Ext σ σ' := by
  obtain ⟨base, cap, rfl, -⟩ := id h
  refine C_of (kn (by decide)) Try.func10 rfl (Nat.le_of_ble_eq_true rfl) ?_
  show W _ _ _ 6 _ _ _ _
  unfold Try.f10
  dsimp only
  repeat apply W_assoc
  apply W_reg
  · intro callf
    simp +decide only [aOps, rinit, aWanted, ↓bite_eq, ↓reduceIte, aStep_eq, aStepOld, aOp, aev, ann, aPut]
    rfl
  repeat apply W_assoc
  apply W_reg
  · intro callf
    simp +decide only [aOps, aWanted, ↓bite_eq, ↓reduceIte, aStep_eq, aStepOld, aOp, opBox, opBuild, aRow, aev, aparts, ann, aPut, rget_rput, build60]
    rfl
  refine W_ret ⟨Nat.le_refl _, [.pointer (some ⟨σ.next, 0, none⟩)], ?_, rfl, ?_, Ext.new _ _⟩
  · simp +decide only [aResults, rget_rput, if_true, if_false]
  · have e : Ext σ (hid [σ.next] (σ.new ⟨1, 60, 0, [.slice base ints.length cap, .int .i64 ((0 : Nat) : Int)], []⟩)) := Ext.put (Ext.new _ _) (Nat.le_refl _) _
    exact ⟨Nat.lt_succ_self _, _, ints, _, by rw [AS.get_new, if_pos rfl]; rfl, h.ext RInt.keeps e, hl, by simp, by simp⟩

set_option maxHeartbeats 4000000 in
theorem event {σ : AS} {tb k : Nat} (h : Tape tb σ k) (hk : k < 2 ^ 62) : C Try.prog Kn 0 29 [.pointer (some ⟨tb, 0, none⟩)] σ fun v σ' => (∃ e : Int, v = .int .i64 e) ∧ Tape tb σ' (k + 1) ∧ ExtX [tb] σ σ' := by
  refine C_of (kn (by decide)) Try.func29 rfl (Nat.le_of_ble_eq_true rfl) ?_
  show W _ _ _ 12 _ _ _ _
  unfold Try.f29
  dsimp only
  repeat apply W_assoc
  apply W_reg
  · intro callf
    simp +decide only [aOps, rinit, aWanted, ↓bite_eq, ↓reduceIte, aStep_eq, aStepOld, aOp, aev, ann, aPut]
    rfl
  repeat apply W_assoc
  apply W_reg
  · intro callf
    simp +decide only [aOps, aWanted, ↓bite_eq, ↓reduceIte, aStep_eq, aStepOld, aOp, opBuildSlice, aev, aparts, ann, aPut, rget_rput, slice33]
    rfl
  have e1 := Ext.new σ ⟨1, 3, 0, evs.map (Value.int .i64), []⟩
  have hg : (σ.new ⟨1, 3, 0, evs.map (Value.int .i64), []⟩).get σ.next = ⟨1, 3, 0, evs.map (Value.int .i64), []⟩ := by rw [AS.get_new, if_pos rfl]
  have hlt : σ.next < (σ.new ⟨1, 3, 0, evs.map (Value.int .i64), []⟩).next := Nat.lt_succ_self _
  have h0 := h.lt
  generalize σ.new ⟨1, 3, 0, evs.map (Value.int .i64), []⟩ = σ1 at e1 hg hlt
  repeat apply W_assoc
  apply W_regL
  apply Ls_pre 4
  · intro callf
    simp +decide only [List.take, aOps, aWanted, ↓bite_eq, ↓reduceIte, aStep_eq, aStepOld, aOp, opCall, aev, aevs, ann, aPut, rget_rput, aBuiltin, aLen, List.getElem?_toArray, List.getElem?_cons_zero, Try.underlying33, goInt]
    rfl
  dsimp only [List.drop]
  refine Ls_fn (vs := [.pointer (some ⟨tb, 0, none⟩), .int .i64 ((11 : Nat) : Int)]) (by simp +decide only [aevs, aev, rget_rput, if_true, if_false]) (by decide) (C.mono (next_tape (h.ext e1) hk (n := ((11 : Nat) : Int)) (by decide)) ?_)
  rintro v σ' ⟨⟨m, rfl, hm⟩, T1, e2⟩
  obtain ⟨m0, m1⟩ := hm (by decide)
  obtain ⟨i, rfl⟩ : ∃ i : Nat, m = (i : Int) := ⟨m.toNat, by omega⟩
  have hi : i < 11 := by omega
  have hg2 := (e2.get σ.next hlt (by intro h; simp at h; omega)).trans hg
  obtain ⟨x, hx⟩ : ∃ x, evs[i]? = some x := ⟨evs[i]'hi, List.getElem?_eq_getElem hi⟩
  have L : aLoad Try.prog σ' 3 (.pointer (some ⟨σ.next, i, none⟩)) = some (.int .i64 x) := load1 Try.underlying3 rfl (cells_at hg2 (by
    rw [List.drop_eq_getElem_cons (by rw [List.length_map]; exact hi)]
    obtain ⟨h1, h2⟩ := List.getElem?_eq_some_iff.1 hx
    rw [List.getElem_map, h2]; rfl) (by rw [List.length_map]; exact hi))
  apply Ls_all
  · intro callf
    simp +decide only [aOps, aWanted, ↓bite_eq, ↓reduceIte, aStep_eq, aStepOld, aOp, opIndexAddr, opLoad, aev, ann, aPut, rget_rput, Nat.zero_add, idx33 hi, L, Nat.mul_one]
    rfl
  refine W_ret ⟨Nat.le_refl _, [.int .i64 x], ?_, ⟨x, rfl⟩, T1, (ExtX.of e1).trans e2⟩
  simp +decide only [aResults, rget_rput, if_true, if_false]

end Go.Proofs.Ytbknckiapcafdaa.Nest
