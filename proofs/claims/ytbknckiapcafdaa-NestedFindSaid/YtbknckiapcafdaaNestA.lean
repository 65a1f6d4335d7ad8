import Derived.Test.YtbknckiapcafdaaAbsT
import Derived.Test.YtbknckiapcafdaaProg
import Derived.KernelRfl
set_option linter.unusedSimpArgs false
set_option linter.unusedVariables false
namespace Go.Proofs.Ytbknckiapcafdaa.Nest
open Abs

abbrev Arc : Type := Int × Int
def RArc (_ : AS) (cs : List Value) (x : Arc) : Prop := cs = [.int .i64 x.1, .int .i64 x.2]
theorem RArc.keeps : Keeps RArc := fun _ _ _ _ _ h => h
def vArc (x : Arc) : Value := .agg #[.int .i64 x.1, .int .i64 x.2]

theorem eqArc (xo yo : Operand) (x y : Arc) : aBin Try.prog .eql 27 xo yo (vArc x) (vArc y) = some (.bool (decide (x = y))) := by
  obtain ⟨a, b⟩ := x
  obtain ⟨c, d⟩ := y
  refine (aBin_struct Try.underlying27 (by kernel_rfl) rfl rfl ?_ (by kernel_rfl) xo yo).1
  have p1 : ∀ x y : Int, asPure Try.prog (part 3 #[.int .i64 x, .int .i64 y] 0) = some (.int .i64 x) := fun x y => by kernel_rfl
  have p2 : ∀ x y : Int, asPure Try.prog (part 3 #[.int .i64 x, .int .i64 y] 1) = some (.int .i64 y) := fun x y => by kernel_rfl
  simp only [eqFieldsO, p1, p2, Option.bind_some, asPure_equal_int 9998 _ _ Try.underlying3]
  by_cases h1 : a = c <;> by_cases h2 : b = d <;> simp [h1, h2]

theorem idxOf_eq {l : List Arc} {x : Arc} {i : Nat} (h : l[i]? = some x) (hn : x ∉ l.take i) : l.idxOf x = i := by
  obtain ⟨hi, he⟩ := List.getElem?_eq_some_iff.1 h
  have e : l = l.take i ++ x :: l.drop (i + 1) := by rw [← he, List.getElem_cons_drop, List.take_append_drop]
  have hl : (l.take i).length = i := by rw [List.length_take]; omega
  rw [e, List.idxOf_append, if_neg hn, List.idxOf_cons_self, hl]; omega

/-- The first place of x, or -1. -/
def idxI (l : List Arc) (x : Arc) : Int := if x ∈ l then (l.idxOf x : Int) else -1

theorem wrap_add {i n : Nat} (h : i < n) (hn : n ≤ 2 ^ 62) : IntKind.i64.wrap ((i : Int) + 1) = ((i + 1 : Nat) : Int) := by
  rw [wrap64_id _ (by omega) (by omega)]; omega

theorem idx22 {b off len cap i : Nat} (h : i < len) : aIndexAddr Try.prog 22 (.slice (some ⟨b, off, none⟩) len cap) (.int .i64 (i : Int)) = some (.pointer (some ⟨b, off + i * 2, none⟩)) :=
  aIndexAddr_slice (inf := (Try.prog.info? 27).get!) Try.underlying22 (by kernel_rfl) (by kernel_rfl) h

theorem loadArc {σ : AS} {b off : Nat} {x : Arc} {cs : List Value} (h : aCells σ ⟨b, off, none⟩ 2 = some cs) (hc : RArc σ cs x) : aLoad Try.prog σ 27 (.pointer (some ⟨b, off, none⟩)) = some (vArc x) := by
  unfold RArc at hc
  subst hc
  exact loadN Try.underlying27 rfl (i := (Try.prog.info? 27).get!) (by kernel_rfl) (by rw [show ((Try.prog.info? 27).get!).size = 2 by kernel_rfl]; exact h)

set_option maxHeartbeats 1000000 in
theorem index_arcs {K : Tbl} (hk : ∀ xs, K 65 xs = none) {σ : AS} {s : Value} {l : List Arc} {x : Arc} (hs : RS 2 RArc σ s l) (hl : l.length ≤ 2 ^ 62) :
    C Try.prog K 0 65 [s, vArc x] σ fun v σ' => v = .int .i64 (idxI l x) ∧ Ext σ σ' := by
  have hs0 := hs
  obtain ⟨base, cap, rfl, hbase⟩ := hs
  refine C_of (hk _) Try.func65 rfl (Nat.le_of_ble_eq_true rfl) ?_
  show W _ _ _ 19 _ _ _ _
  unfold Try.f65
  dsimp only
  apply W_reg
  · intro callf
    simp +decide only [aOps, rinit, aWanted, bite_eq, aStep_eq, aStepOld, aOp, opBox, aRow, aev, ann, aPut, if_true, if_false, rget_rput, Nat.zero_add]
    rfl
  apply W_assoc
  apply W_reg
  · intro callf
    simp +decide only [aOps, aWanted, bite_eq, aStep_eq, aStepOld, aOp, opCall, aev, aevs, ann, aPut, if_true, if_false, rget_rput, aBuiltin, aLen, List.getElem?_toArray, List.getElem?_cons_zero, Try.underlying22]
    rfl
  generalize hσ1 : σ.new _ = σ1
  have e1 : Ext σ σ1 := by rw [← hσ1]; exact Ext.new _ _
  have g1 : σ1.get σ.next = ⟨1, 27, 0, (vArc x).cells.toList, []⟩ := by rw [← hσ1, AS.get_new, if_pos rfl]
  have n1 : σ.next < σ1.next := by rw [← hσ1]; exact Nat.lt_succ_self _
  generalize hr1 : rput _ 8 _ = r1
  refine W_for (fun (i : Nat) r σ' => i ≤ l.length ∧ Ext σ1 σ' ∧ rget r 0 = .slice base l.length cap ∧ rget r 3 = .pointer (some ⟨σ.next, 0, none⟩) ∧ rget r 7 = .int .i64 (l.length : Int) ∧ rget r 8 = .int .i64 (i : Int) ∧ x ∉ l.take i)
    (fun i => l.length - i) ?_ 0 ?_
  rotate_left
  · subst hr1
    simp +decide only [rget_rput, if_true, if_false, goInt]
    refine ⟨Nat.zero_le _, Ext.refl _, trivial, trivial, trivial, rfl, by simp⟩
  rintro i r σ2 ⟨hi, e2, h0, h3, h7, h8, hx⟩
  apply W_reg
  · intro callf
    simp +decide only [aOps, aWanted, bite_eq, aStep_eq, aStepOld, aOp, opBin, aev, ann, aPut, if_true, h7, h8, aBin, aInts, aInt_eq]
    rfl
  refine W_if (b := decide ((i : Int) < (l.length : Int))) ?_ ?_ ?_
  · simp +decide only [aev, rget_rput, if_true]
  rotate_left
  · -- the end
    intro hb
    have hb : i = l.length := by
      have := of_decide_eq_false hb
      omega
    refine W_exitq ⟨fun h => (nomatch h), fun _ => ?_, fun h1 h2 => absurd rfl h2⟩
    apply W_reg
    · intro callf
      simp +decide only [aOps, aWanted, bite_eq, aStep_eq, aStepOld, aOp, aev, ann, aPut, if_true]
      rfl
    refine W_ret ⟨Nat.le_refl _, [.int .i64 (-1)], ?_, ?_, e1.trans e2⟩
    · simp +decide only [aResults, rget_rput, if_true, if_false]
    · subst hb
      have : x ∉ l := by simpa using hx
      simp only [aResult, idxI, if_neg this]
  intro hb
  have hb : i < l.length := by
    have := of_decide_eq_true hb
    omega
  apply W_skipq
  refine W_blk ?_
  apply W_reg
  · intro callf
    simp +decide only [aOps, aWanted, bite_eq, aStep_eq, aStepOld, aOp, aev, ann, aPut, if_true, if_false, rget_rput, h8]
    rfl
  obtain ⟨y, hy⟩ : ∃ y, l[i]? = some y := ⟨l[i], by simp [hb]⟩
  obtain ⟨b, off, rfl, hbl, hat⟩ := hbase (fun h => by rw [h] at hy; simp at hy)
  obtain ⟨cs, hc1, hc2⟩ := hat i y hy
  have L2 : aLoad Try.prog σ2.reset 27 (.pointer (some ⟨b, off + i * 2, none⟩)) = some (vArc y) :=
    loadArc (by rw [((e1.trans e2).trans (Ext.reset _)).cells (a := ⟨b, off + i * 2, none⟩) hbl]; exact hc1) hc2
  have L1 : aLoad Try.prog σ2.reset 27 (.pointer (some ⟨σ.next, 0, none⟩)) = some (vArc x) := by
    refine loadArc ?_ rfl
    rw [(e2.trans (Ext.reset _)).cells (a := ⟨σ.next, 0, none⟩) n1]
    unfold aCells
    simp only [g1]
    rfl
  refine W_drw [] [] (by kernel_rfl) (by kernel_rfl) ?_
  apply Lg_all
  · intro callf
    simp +decide only [aQ, memb, List.any_nil, Bool.not_false, Bool.true_or, Bool.and_true, reset_merge, reset_reset, reset_next, reset_low, merge_next, merge_idem, ble_self, idx22 hb, eqArc, L1, L2, aWanted, bite_eq, aStep_eq, aStepOld, aOp, opBin, opIndexAddr, opLoad, aev, ann, aPut, if_true, if_false, rget_rput, Nat.zero_add, h0, h3]
    rfl
  have e3 : Ext σ1 (σ2.merge σ2.reset) := e2.trans (Ext.merge (Ext.refl _))
  generalize σ2.merge σ2.reset = σ3 at e3
  refine W_tail ?_
  refine W_if (b := decide (x = y)) ?_ ?_ ?_
  · simp +decide only [aev, rget_rput, if_true, if_false]
  · intro hxy
    have hxy := of_decide_eq_true hxy
    subst hxy
    apply W_assoc
    apply W_reg
    · intro callf
      simp +decide only [aOps, aWanted, bite_eq, aStep_eq, aStepOld, aOp, aev, ann, aPut, if_true, if_false, rget_rput]
      rfl
    refine W_retq ⟨fun h => (nomatch h), fun _ _ => ⟨fun h => (nomatch h), fun h => (nomatch h), fun _ _ => ⟨Nat.le_refl _, [.int .i64 (i : Int)], ?_, ?_, e1.trans e3⟩⟩⟩
    · simp +decide only [aResults, rget_rput, if_true, if_false]
    · have h1 : x ∈ l := List.mem_of_getElem? hy
      have h2 : l.idxOf x = i := idxOf_eq hy hx
      simp only [aResult, idxI, if_pos h1, h2]
  · intro hxy
    have hxy := of_decide_eq_false hxy
    refine W_skipq (W_skip ⟨fun _ => ?_, fun h => absurd rfl h⟩)
    refine W_tail ?_
    apply W_reg
    · intro callf
      simp +decide only [aOps, aWanted, bite_eq, aStep_eq, aStepOld, aOp, opBin, aev, ann, aPut, if_true, if_false, rget_rput, h8, aBin, aInts, aInt_eq, wrap_add hb hl]
      rfl
    refine W_skip ⟨fun _ => ⟨i + 1, ?_, ?_⟩, fun h => (nomatch h), fun h => absurd rfl h⟩
    · omega
    · simp +decide only [rget_rput, if_true, if_false, h0, h3, h7]
      refine ⟨by omega, e3, trivial, trivial, trivial, trivial, ?_⟩
      rw [List.take_add_one, hy]
      simp only [Option.toList_some, List.mem_append, List.mem_singleton]
      exact fun h => h.elim hx hxy
end Go.Proofs.Ytbknckiapcafdaa.Nest
