import Derived.Test.YtbknckiapcafdaaAbsT
import Derived.Test.YtbknckiapcafdaaProg
import Derived.KernelRfl
set_option linter.unusedSimpArgs false
set_option linter.unusedVariables false
namespace Go.Proofs.Ytbknckiapcafdaa.Nest
open Abs

abbrev Arc : Type := Int × Int
def RArc (_ : AS) (cs : List Value) (x : Arc) : Prop := cs = [.int .i64 x.1, .int .i64 x.2]
theorem RArc.keeps : Keeps RArc := fun _ _ _ _ _ h => h
def vArc (x : Arc) : Value := .agg #[.int .i64 x.1, .int .i64 x.2]

theorem eqArc (xo yo : Operand) (x y : Arc) : aBin Try.prog .eql 27 xo yo (vArc x) (vArc y) = some (.bool (decide (x = y))) := by
  obtain ⟨a, b⟩ := x
  obtain ⟨c, d⟩ := y
  refine (aBin_struct Try.underlying27 (by kernel_rfl) rfl rfl ?_ (by kernel_rfl) xo yo).1
  have p1 : ∀ x y : Int, asPure Try.prog (part 3 #[.int .i64 x, .int .i64 y] 0) = some (.int .i64 x) := fun x y => by kernel_rfl
  have p2 : ∀ x y : Int, asPure Try.prog (part 3 #[.int .i64 x, .int .i64 y] 1) = some (.int .i64 y) := fun x y => by kernel_rfl
  simp only [eqFieldsO, p1, p2, Option.bind_some, asPure_equal_int 9998 _ _ Try.underlying3]
  by_cases h1 : a = c <;> by_cases h2 : b = d <;> simp [h1, h2]

theorem idxOf_eq {l : List Arc} {x : Arc} {i : Nat} (h : l[i]? = some x) (hn : x ∉ l.take i) : l.idxOf x = i := by
  obtain ⟨hi, he⟩ := List.getElem?_eq_some_iff.1 h
  have e : l = l.take i ++ x :: l.drop (i + 1) := by rw [← he, List.getElem_cons_drop, List.take_append_drop]
  have hl : (l.take i).length = i := by rw [List.length_take]; omega
  rw [e, List.idxOf_append, if_neg hn, List.idxOf_cons_self, hl]; omega

/-- The first place of x, or -1. -/
def idxI (l : List Arc) (x : Arc) : Int := if x ∈ l then (l.idxOf x : Int) else -1

theorem wrap_add {i n : Nat} (h : i < n) (hn : n ≤ 2 ^ 62) : IntKind.i64.wrap ((i : Int) + 1) = ((i + 1 : Nat) : Int) := by
  rw [wrap64_id _ (by omega) (by omega)]; omega

theorem idx22 {b off len cap i : Nat} (h : i < len) : aIndexAddr Try.prog 22 (.slice (some ⟨b, off, none⟩) len cap) (.int .i64 (i : Int)) = some (.pointer (some ⟨b, off + i * 2, none⟩)) :=
  aIndexAddr_slice (inf := (Try.prog.info? 27).get!) Try.underlying22 (by kernel_rfl) (by kernel_rfl) h

theorem loadArc {σ : AS} {b off : Nat} {x : Arc} {cs : List Value} (h : aCells σ ⟨b, off, none⟩ 2 = some cs) (hc : RArc σ cs x) : aLoad Try.prog σ 27 (.pointer (some ⟨b, off, none⟩)) = some (vArc x) := by
  unfold RArc at hc
  subst hc
  exact loadN Try.underlying27 rfl (i := (Try.prog.info? 27).get!) (by kernel_rfl) (by rw [show ((Try.prog.info? 27).get!).size = 2 by kernel_rfl]; exact h)

set_option maxHeartbeats 1000000 in
theorem index_arcs {K : Tbl} (hk : ∀ xs, K 65 xs = none) {σ : AS} {s : Value} {l : List Arc} {x : Arc} (hs : RS 2 RArc σ s l) (hl : l.length ≤ 2 ^ 62) :
    C Try.prog K 0 65 [s, vArc x] σ fun v σ' => v = .int .i64 (idxI l x) ∧ Ext σ σ' := by
  have hs0 := hs
  obtain ⟨base, cap, rfl, hbase⟩ := hs
  refine C_of (hk _) Try.func65 rfl (Nat.le_of_ble_eq_true rfl) ?_
  show W _ _ _ 19 _ _ _ _
  unfold Try.f65
  dsimp only
  apply W_reg
  · intro callf
    simp +decide only [aOps, rinit, aWanted, bite_eq, aStep_eq, aStepOld, aOp, opBox, aRow, aev, ann, aPut, if_true, if_false, rget_rput, Nat.zero_add]
    rfl
  apply W_assoc
  apply W_reg
  · intro callf
    simp +decide only [aOps, aWanted, bite_eq, aStep_eq, aStepOld, aOp, opCall, aev, aevs, ann, aPut, if_true, if_false, rget_rput, aBuiltin, aLen, List.getElem?_toArray, List.getElem?_cons_zero, Try.underlying22]
    rfl
  generalize hσ1 : σ.new _ = σ1
  have e1 : Ext σ σ1 := by rw [← hσ1]; exact Ext.new _ _
  have g1 : σ1.get σ.next = ⟨1, 27, 0, (vArc x).cells.toList, []⟩ := by rw [← hσ1, AS.get_new, if_pos rfl]
  have n1 : σ.next < σ1.next := by rw [← hσ1]; exact Nat.lt_succ_self _
  generalize hr1 : rput _ 8 _ = r1
  refine W_for (fun (i : Nat) r σ' => i ≤ l.length ∧ Ext σ1 σ' ∧ rget r 0 = .slice base l.length cap ∧ rget r 3 = .pointer (some ⟨σ.next, 0, none⟩) ∧ rget r 7 = .int .i64 (l.length : Int) ∧ rget r 8 = .int .i64 (i : Int) ∧ x ∉ l.take i)
    (fun i => l.length - i) ?_ 0 ?_
  rotate_left
  · subst hr1
    simp +decide only [rget_rput, if_true, if_false, goInt]
    refine ⟨Nat.zero_le _, Ext.refl _, trivial, trivial, trivial, rfl, by simp⟩
  rintro i r σ2 ⟨hi, e2, h0, h3, h7, h8, hx⟩
  apply W_reg
  · intro callf
    simp +decide only [aOps, aWanted, bite_eq, aStep_eq, aStepOld, aOp, opBin, aev, ann, aPut, if_true, h7, h8, aBin, aInts, aInt_eq]
    rfl
  refine W_if (b := decide ((i : Int) < (l.length : Int))) ?_ ?_ ?_
  · simp +decide only [aev, rget_rput, if_true]
  rotate_left
  · -- the end
    intro hb
    have hb : i = l.length := by
      have := of_decide_eq_false hb
      omega
    refine W_exitq ⟨fun h => (nomatch h), fun _ => ?_, fun h1 h2 => absurd rfl h2⟩
    apply W_reg
    · intro callf
      simp +decide only [aOps, aWanted, bite_eq, aStep_eq, aStepOld, aOp, aev, ann, aPut, if_true]
      rfl
    refine W_ret ⟨Nat.le_refl _, [.int .i64 (-1)], ?_, ?_, e1.trans e2⟩
    · simp +decide only [aResults, rget_rput, if_true, if_false]
    · subst hb
      have : x ∉ l := by simpa using hx
      simp only [aResult, idxI, if_neg this]
  intro hb
  have hb : i < l.length := by
    have := of_decide_eq_true hb
    omega
  apply W_skipq
  refine W_blk ?_
  apply W_reg
  · intro callf
    simp +decide only [aOps, aWanted, bite_eq, aStep_eq, aStepOld, aOp, aev, ann, aPut, if_true, if_false, rget_rput, h8]
    rfl
  obtain ⟨y, hy⟩ : ∃ y, l[i]? = some y := ⟨l[i], by simp [hb]⟩
  obtain ⟨b, off, rfl, hbl, hat⟩ := hbase (fun h => by rw [h] at hy; simp at hy)
  obtain ⟨cs, hc1, hc2⟩ := hat i y hy
  have L2 : aLoad Try.prog σ2.reset 27 (.pointer (some ⟨b, off + i * 2, none⟩)) = some (vArc y) :=
    loadArc (by rw [((e1.trans e2).trans (Ext.reset _)).cells (a := ⟨b, off + i * 2, none⟩) hbl]; exact hc1) hc2
  have L1 : aLoad Try.prog σ2.reset 27 (.pointer (some ⟨σ.next, 0, none⟩)) = some (vArc x) := by
    refine loadArc ?_ rfl
    rw [(e2.trans (Ext.reset _)).cells (a := ⟨σ.next, 0, none⟩) n1]
    unfold aCells
    simp only [g1]
    rfl
  refine W_drw [] [] (by kernel_rfl) (by kernel_rfl) ?_
  apply Lg_all
  · intro callf
    simp +decide only [aQ, memb, List.any_nil, Bool.not_false, Bool.true_or, Bool.and_true, reset_merge, reset_reset, reset_next, reset_low, merge_next, merge_idem, ble_self, idx22 hb, eqArc, L1, L2, aWanted, bite_eq, aStep_eq, aStepOld, aOp, opBin, opIndexAddr, opLoad, aev, ann, aPut, if_true, if_false, rget_rput, Nat.zero_add, h0, h3]
    rfl
  have e3 : Ext σ1 (σ2.merge σ2.reset) := e2.trans (Ext.merge (Ext.refl _))
  generalize σ2.merge σ2.reset = σ3 at e3
  refine W_tail ?_
  refine W_if (b := decide (x = y)) ?_ ?_ ?_
  · simp +decide only [aev, rget_rput, if_true, if_false]
  · intro hxy
    have hxy := of_decide_eq_true hxy
    subst hxy
    apply W_assoc
    apply W_reg
    · intro callf
      simp +decide only [aOps, aWanted, bite_eq, aStep_eq, aStepOld, aOp, aev, ann, aPut, if_true, if_false, rget_rput]
      rfl
    refine W_retq ⟨fun h => (nomatch h), fun _ _ => ⟨fun h => (nomatch h), fun h => (nomatch h), fun _ _ => ⟨Nat.le_refl _, [.int .i64 (i : Int)], ?_, ?_, e1.trans e3⟩⟩⟩
    · simp +decide only [aResults, rget_rput, if_true, if_false]
    · have h1 : x ∈ l := List.mem_of_getElem? hy
      have h2 : l.idxOf x = i := idxOf_eq hy hx
      simp only [aResult, idxI, if_pos h1, h2]
  · intro hxy
    have hxy := of_decide_eq_false hxy
    refine W_skipq (W_skip ⟨fun _ => ?_, fun h => absurd rfl h⟩)
    refine W_tail ?_
    apply W_reg
    · intro callf
      simp +decide only [aOps, aWanted, bite_eq, aStep_eq, aStepOld, aOp, opBin, aev, ann, aPut, if_true, if_false, rget_rput, h8, aBin, aInts, aInt_eq, wrap_add hb hl]
      rfl
    refine W_skip ⟨fun _ => ⟨i + 1, ?_, ?_⟩, fun h => (nomatch h), fun h => absurd rfl h⟩
    · omega
    · simp +decide only [rget_rput, if_true, if_false, h0, h3, h7]
      refine ⟨by omega, e3, trivial, trivial, trivial, trivial, ?_⟩
      rw [List.take_add_one, hy]
      simp only [Option.toList_some, List.mem_append, List.mem_singleton]
      exact fun h => h.elim hx hxy
end Go.Proofs.Ytbknckiapcafdaa.Nest

/- Contracts of the small functions over arcs. -/
set_option linter.unusedSimpArgs false
set_option linter.unusedVariables false
namespace Go.Proofs.Ytbknckiapcafdaa.Nest
open Abs

/-- The calls that are known: the fixed example of the chapter. -/
noncomputable def Kn : Tbl := K0.add 9 [] (.bool true)
theorem kn {f : FuncId} (h : f ≠ 9) {xs : List Value} : Kn f xs = none := by
  unfold Kn Tbl.add
  rw [bite_eq, if_neg]
  · rfl
  · simp only [Bool.and_eq_true, not_and]
    intro h1
    exact absurd (Nat.eq_of_beq_eq_true h1) h

/-- A box that holds an arc. -/
structure ArcAt (σ : AS) (b : Nat) (x : Arc) : Prop where
  lt : b < σ.next
  get : σ.get b = ⟨1, 27, 0, (vArc x).cells.toList, []⟩

theorem ArcAt.ext {σ σ' : AS} {b : Nat} {x : Arc} (h : ArcAt σ b x) (e : Ext σ σ') : ArcAt σ' b x := ⟨e.lt h.lt, by rw [e.get b h.lt, h.get]⟩
theorem ArcAt.new (σ : AS) (x : Arc) : ArcAt (σ.new ⟨1, 27, 0, (vArc x).cells.toList, []⟩) σ.next x := ⟨Nat.lt_succ_self _, by rw [AS.get_new, if_pos rfl]⟩
theorem ArcAt.load {σ : AS} {b : Nat} {x : Arc} (h : ArcAt σ b x) : aLoad Try.prog σ 27 (.pointer (some ⟨b, 0, none⟩)) = some (vArc x) := loadArc (cells_at h.get rfl (Nat.le_refl _)) rfl
theorem ArcAt.ev {σ : AS} {b : Nat} {x : Arc} (h : ArcAt σ b x) : aLoad Try.prog σ 3 (.pointer (some ⟨b, 0, none⟩)) = some (.int .i64 x.1) := load1 Try.underlying3 rfl (cells_at h.get rfl (Nat.le_succ _))
theorem ArcAt.to {σ : AS} {b : Nat} {x : Arc} (h : ArcAt σ b x) : aLoad Try.prog σ 3 (.pointer (some ⟨b, 1, none⟩)) = some (.int .i64 x.2) := load1 Try.underlying3 rfl (cells_at h.get rfl (Nat.le_refl _))

theorem fld0 {b off : Nat} : aField Try.prog 27 0 (.pointer (some ⟨b, off, none⟩)) = some (.pointer (some ⟨b, off, none⟩)) :=
  aField_ptr (fd := ⟨"Event", 3, 0, false, "", "", 0⟩) (inf := (Try.prog.info? 3).get!) Try.underlying27 rfl (by kernel_rfl) (by kernel_rfl)
theorem fld1 {b off : Nat} : aField Try.prog 27 1 (.pointer (some ⟨b, off, none⟩)) = some (.pointer (some ⟨b, off + 1, none⟩)) :=
  aField_ptr (fd := ⟨"To", 3, 1, false, "", "", 8⟩) (inf := (Try.prog.info? 3).get!) Try.underlying27 rfl (by kernel_rfl) (by kernel_rfl)
theorem fldL {b off : Nat} : aField Try.prog 30 0 (.pointer (some ⟨b, off, none⟩)) = some (.pointer (some ⟨b, off, none⟩)) :=
  aField_ptr (fd := ⟨"Out", 28, 0, false, "", "", 0⟩) (inf := (Try.prog.info? 28).get!) Try.underlying30 rfl (by kernel_rfl) (by kernel_rfl)

theorem isNaN_int {σ : AS} (x : Int) : C Try.prog Kn 0 71 [.int .i64 x] σ fun v σ' => v = .bool false ∧ Ext σ σ' := by
  refine C_of (kn (by decide)) Try.func71 rfl (Nat.le_of_ble_eq_true rfl) ?_
  show W _ _ _ 6 _ _ _ _
  unfold Try.f71
  dsimp only
  repeat apply W_assoc
  apply W_reg
  · intro callf
    simp +decide only [aOps, rinit, aWanted, bite_eq, aStep_eq, aStepOld, aOp, aev, ann, aPut, if_true]
    rfl
  repeat apply W_assoc
  apply W_reg
  · intro callf
    simp +decide only [aOps, aWanted, bite_eq, aStep_eq, aStepOld, aOp, opBin, aev, ann, aPut, if_true, if_false, rget_rput, aBin, aInts, aInt_eq]
    rfl
  refine W_ret ⟨Nat.le_refl _, [.bool (x != x)], ?_, ?_, Ext.refl _⟩
  · simp +decide only [aResults, rget_rput, if_true, if_false]
  · simp [aResult]

def cmpI (x y : Int) : Int := if x < y then -1 else if y < x then 1 else 0

set_option maxHeartbeats 1000000 in
theorem compare_int {σ : AS} (x y : Int) : C Try.prog Kn 0 62 [.int .i64 x, .int .i64 y] σ fun v σ' => v = .int .i64 (cmpI x y) ∧ Ext σ σ' := by
  refine C_of (kn (by decide)) Try.func62 rfl (Nat.le_of_ble_eq_true rfl) ?_
  show W _ _ _ 20 _ _ _ _
  unfold Try.f62
  dsimp only
  repeat apply W_assoc
  apply W_reg
  · intro callf
    simp +decide only [aOps, rinit, aWanted, bite_eq, aStep_eq, aStepOld, aOp, aev, ann, aPut, if_true, Nat.zero_add]
    rfl
  repeat apply W_assoc
  apply W_regL
  apply Ls_pre 1
  · intro callf
    simp +decide only [List.take, aOps, aWanted, bite_eq, aStep_eq, aStepOld, aOp, aev, ann, aPut, if_true, if_false, rget_rput]
    rfl
  dsimp only [List.drop]
  refine Ls_fn (vs := [.int .i64 x]) (by simp +decide only [aevs, aev, rget_rput, if_true, if_false]) (by decide) (C.mono (isNaN_int x) ?_)
  rintro v σ' ⟨rfl, e1⟩
  apply Ls_all
  · intro callf
    simp +decide only [aOps, aWanted, bite_eq, aStep_eq, aStepOld, aOp, aev, ann, aPut, if_true, if_false, rget_rput]
    rfl
  repeat apply W_assoc
  apply W_regL
  apply Ls_pre 1
  · intro callf
    simp +decide only [List.take, aOps, aWanted, bite_eq, aStep_eq, aStepOld, aOp, aev, ann, aPut, if_true, if_false, rget_rput]
    rfl
  dsimp only [List.drop]
  refine Ls_fn (vs := [.int .i64 y]) (by simp +decide only [aevs, aev, rget_rput, if_true, if_false]) (by decide) (C.mono (isNaN_int y) ?_)
  rintro v σ' ⟨rfl, e2⟩
  apply Ls_all
  · intro callf
    simp +decide only [aOps, aWanted, bite_eq, aStep_eq, aStepOld, aOp, aev, ann, aPut, if_true, if_false, rget_rput]
    rfl
  repeat apply W_assoc
  apply W_reg
  · intro callf
    simp +decide only [aOps, aWanted, bite_eq, aStep_eq, aStepOld, aOp, aev, ann, aPut, if_true, if_false, rget_rput]
    rfl
  repeat apply W_assoc
  refine W_if (b := false) ?_ ?_ ?_
  · simp +decide only [aev, rget_rput, if_true, if_false]
  · intro h; cases h
  intro _
  apply W_skipq
  repeat apply W_assoc
  apply W_reg
  · intro callf
    simp +decide only [aOps, aWanted, bite_eq, aStep_eq, aStepOld, aOp, aev, ann, aPut, if_true, if_false, rget_rput]
    rfl
  repeat apply W_assoc
  refine W_if (b := false) ?_ ?_ ?_
  · simp +decide only [aev, rget_rput, if_true, if_false]
  · intro h; cases h
  intro _
  apply W_skipq
  repeat apply W_assoc
  apply W_reg
  · intro callf
    simp +decide only [aOps, aWanted, bite_eq, aStep_eq, aStepOld, aOp, opBin, aev, ann, aPut, if_true, if_false, rget_rput, aBin, aInts, aInt_eq]
    rfl
  repeat apply W_assoc
  refine W_if (b := decide (x < y)) ?_ ?_ ?_
  · simp +decide only [aev, rget_rput, if_true, if_false]
  · intro h
    have h := of_decide_eq_true h
    repeat apply W_assoc
    apply W_reg
    · intro callf
      simp +decide only [aOps, aWanted, bite_eq, aStep_eq, aStepOld, aOp, aev, ann, aPut, if_true]
      rfl
    refine W_retq ⟨Nat.le_refl _, [.int .i64 (-1)], ?_, ?_, e1.trans e2⟩
    · simp +decide only [aResults, rget_rput, if_true, if_false]
    · simp only [aResult, cmpI, if_pos h]
  intro h
  have h := of_decide_eq_false h
  apply W_skipq
  repeat apply W_assoc
  apply W_reg
  · intro callf
    simp +decide only [aOps, aWanted, bite_eq, aStep_eq, aStepOld, aOp, opBin, aev, ann, aPut, if_true, if_false, rget_rput, aBin, aInts, aInt_eq]
    rfl
  repeat apply W_assoc
  refine W_if (b := decide (x > y)) ?_ ?_ ?_
  · simp +decide only [aev, rget_rput, if_true, if_false]
  · intro h2
    have h2 := of_decide_eq_true h2
    repeat apply W_assoc
    apply W_reg
    · intro callf
      simp +decide only [aOps, aWanted, bite_eq, aStep_eq, aStepOld, aOp, aev, ann, aPut, if_true]
      rfl
    refine W_retq ⟨Nat.le_refl _, [.int .i64 1], ?_, ?_, e1.trans e2⟩
    · simp +decide only [aResults, rget_rput, if_true, if_false]
    · simp only [aResult, cmpI, if_neg h]; rw [if_pos (by omega)]
  intro h2
  have h2 := of_decide_eq_false h2
  apply W_skipq
  repeat apply W_assoc
  apply W_reg
  · intro callf
    simp +decide only [aOps, aWanted, bite_eq, aStep_eq, aStepOld, aOp, aev, ann, aPut, if_true]
    rfl
  refine W_ret ⟨Nat.le_refl _, [.int .i64 0], ?_, ?_, e1.trans e2⟩
  · simp +decide only [aResults, rget_rput, if_true, if_false]
  · simp only [aResult, cmpI, if_neg h]; rw [if_neg (by omega)]

def RInt (_ : AS) (cs : List Value) (x : Int) : Prop := cs = [.int .i64 x]
theorem RInt.keeps : Keeps RInt := fun _ _ _ _ _ h => h
theorem idx33 {b off len cap i : Nat} (h : i < len) : aIndexAddr Try.prog 33 (.slice (some ⟨b, off, none⟩) len cap) (.int .i64 (i : Int)) = some (.pointer (some ⟨b, off + i * 1, none⟩)) :=
  aIndexAddr_slice (inf := (Try.prog.info? 3).get!) Try.underlying33 (by kernel_rfl) (by kernel_rfl) h
theorem loadInt {σ : AS} {b off : Nat} {x : Int} {cs : List Value} (h : aCells σ ⟨b, off, none⟩ 1 = some cs) (hc : RInt σ cs x) : aLoad Try.prog σ 3 (.pointer (some ⟨b, off, none⟩)) = some (.int .i64 x) := by
  unfold RInt at hc; subst hc; exact load1 Try.underlying3 rfl h

def orI : List Int → Int
  | [] => 0
  | a :: l => if a = 0 then orI l else a

theorem orI_zero : ∀ {l : List Int}, (∀ a ∈ l, a = 0) → orI l = 0
  | [], _ => rfl
  | a :: l, h => by rw [orI, if_pos (h a (by simp))]; exact orI_zero fun b hb => h b (by simp [hb])
theorem orI_at : ∀ {l : List Int} {i : Nat} {a : Int}, (∀ b ∈ l.take i, b = 0) → l[i]? = some a → a ≠ 0 → orI l = a
  | [], i, a, _, h, _ => by simp at h
  | x :: l, 0, a, _, h, ha => by simp at h; subst h; rw [orI, if_neg ha]
  | x :: l, i + 1, a, h0, h, ha => by
    rw [orI, if_pos (h0 x (by simp))]
    exact orI_at (i := i) (fun b hb => h0 b (by rw [List.take_succ_cons]; exact List.mem_cons_of_mem _ hb)) (by simpa using h) ha

set_option maxHeartbeats 1000000 in
theorem or_ints {σ : AS} {s : Value} {l : List Int} (hs : RS 1 RInt σ s l) (hl : l.length ≤ 2 ^ 62) : C Try.prog Kn 0 61 [s] σ fun v σ' => v = .int .i64 (orI l) ∧ Ext σ σ' := by
  obtain ⟨base, cap, rfl, hbase⟩ := hs
  refine C_of (kn (by decide)) Try.func61 rfl (Nat.le_of_ble_eq_true rfl) ?_
  show W _ _ _ 18 _ _ _ _
  unfold Try.f61
  dsimp only
  repeat apply W_assoc
  apply W_reg
  · intro callf
    simp +decide only [aOps, rinit, aWanted, bite_eq, aStep_eq, aStepOld, aOp, aev, ann, aPut, if_true]
    rfl
  repeat apply W_assoc
  apply W_reg
  · intro callf
    simp +decide only [aOps, aWanted, bite_eq, aStep_eq, aStepOld, aOp, aev, ann, aPut, if_true]
    rfl
  repeat apply W_assoc
  apply W_reg
  · intro callf
    simp +decide only [aOps, aWanted, bite_eq, aStep_eq, aStepOld, aOp, opCall, aev, aevs, ann, aPut, if_true, if_false, rget_rput, aBuiltin, aLen, List.getElem?_toArray, List.getElem?_cons_zero, Try.underlying33]
    rfl
  repeat apply W_assoc
  refine W_for (fun (i : Nat) r σ' => i ≤ l.length ∧ Ext σ σ' ∧ rget r 3 = .int .i64 0 ∧ rget r 6 = .slice base l.length cap ∧ rget r 7 = .int .i64 (l.length : Int) ∧ rget r 8 = .int .i64 (i : Int) ∧ ∀ a ∈ l.take i, a = 0)
    (fun i => l.length - i) ?_ 0 ?_
  rotate_left
  · simp +decide only [rget_rput, if_true, if_false, goInt]
    refine ⟨Nat.zero_le _, Ext.refl _, trivial, trivial, trivial, rfl, by simp⟩
  rintro i r σ2 ⟨hi, e2, h3, h6, h7, h8, hz⟩
  repeat apply W_assoc
  apply W_reg
  · intro callf
    simp +decide only [aOps, aWanted, bite_eq, aStep_eq, aStepOld, aOp, opBin, aev, ann, aPut, if_true, h7, h8, aBin, aInts, aInt_eq]
    rfl
  repeat apply W_assoc
  refine W_if (b := decide ((i : Int) < (l.length : Int))) ?_ ?_ ?_
  · simp +decide only [aev, rget_rput, if_true]
  rotate_left
  · intro hb
    have hb : i = l.length := by
      have := of_decide_eq_false hb
      omega
    refine W_exitq ⟨fun h => (nomatch h), fun _ => ?_, fun h1 h2 => absurd rfl h2⟩
    repeat apply W_assoc
    apply W_reg
    · intro callf
      simp +decide only [aOps, aWanted, bite_eq, aStep_eq, aStepOld, aOp, aev, ann, aPut, if_true, if_false, rget_rput, h3]
      rfl
    refine W_ret ⟨Nat.le_refl _, [.int .i64 0], ?_, ?_, e2⟩
    · simp +decide only [aResults, rget_rput, if_true, if_false]
    · subst hb
      simp only [aResult, orI_zero (l := l) (by simpa using hz)]
  intro hb
  have hb : i < l.length := by
    have := of_decide_eq_true hb
    omega
  apply W_skipq
  refine W_blk ?_
  obtain ⟨y, hy⟩ : ∃ y, l[i]? = some y := ⟨l[i], by simp [hb]⟩
  obtain ⟨b, off, rfl, hbl, hat⟩ := hbase (fun h => by rw [h] at hy; simp at hy)
  obtain ⟨cs, hc1, hc2⟩ := hat i y hy
  have L : aLoad Try.prog σ2 3 (.pointer (some ⟨b, off + i * 1, none⟩)) = some (.int .i64 y) := loadInt (by rw [e2.cells (a := ⟨b, off + i * 1, none⟩) hbl]; exact hc1) hc2
  repeat apply W_assoc
  apply W_reg
  · intro callf
    simp +decide only [aOps, aWanted, bite_eq, aStep_eq, aStepOld, aOp, opIndexAddr, opLoad, aev, ann, aPut, if_true, if_false, rget_rput, h6, h8, idx33 hb, L]
    rfl
  repeat apply W_assoc
  apply W_reg
  · intro callf
    simp +decide only [aOps, aWanted, bite_eq, aStep_eq, aStepOld, aOp, opBin, aev, ann, aPut, if_true, if_false, rget_rput, h3, aBin, aInts, aInt_eq]
    rfl
  refine W_tail ?_
  repeat apply W_assoc
  refine W_if (b := (y != 0)) ?_ ?_ ?_
  · simp +decide only [aev, rget_rput, if_true, if_false]
  · intro h
    have h : y ≠ 0 := by simpa using h
    repeat apply W_assoc
    apply W_reg
    · intro callf
      simp +decide only [aOps, aWanted, bite_eq, aStep_eq, aStepOld, aOp, aev, ann, aPut, if_true, if_false, rget_rput]
      rfl
    refine W_retq ⟨fun h => (nomatch h), fun _ _ => ⟨fun h => (nomatch h), fun h => (nomatch h), fun _ _ => ⟨Nat.le_refl _, [.int .i64 y], ?_, ?_, e2⟩⟩⟩
    · simp +decide only [aResults, rget_rput, if_true, if_false]
    · simp only [aResult, orI_at hz hy h]
  · intro h
    have h : y = 0 := by simpa using h
    refine W_skipq (W_skip ⟨fun _ => ?_, fun h => absurd rfl h⟩)
    refine W_tail ?_
    repeat apply W_assoc
    apply W_reg
    · intro callf
      simp +decide only [aOps, aWanted, bite_eq, aStep_eq, aStepOld, aOp, opBin, aev, ann, aPut, if_true, if_false, rget_rput, h8, wrap_add hb hl, aBin, aInts, aInt_eq]
      rfl
    refine W_skip ⟨fun _ => ⟨i + 1, ?_, ?_⟩, fun h => (nomatch h), fun h => absurd rfl h⟩
    · omega
    · simp +decide only [rget_rput, if_true, if_false, h3, h6, h7]
      refine ⟨by omega, e2, trivial, trivial, trivial, trivial, ?_⟩
      rw [List.take_add_one, hy]
      simp only [Option.toList_some, List.mem_append, List.mem_singleton]
      exact fun a ha => ha.elim (hz a) (fun e => e.trans h)

theorem veq9_int {k : IntKind} {a : Int} : veq 9 (.int k a) (.int k a) = true := by unfold veq; simp
theorem vsc9_int {n : Nat} {k : IntKind} {a : Int} : vsc n 9 (.int k a) = true := rfl

def cmpA (a b : Arc) : Int := orI [cmpI a.1 b.1, cmpI a.2 b.2]

theorem fill2 {σ : AS} (x y : Int) : aBuildSlice Try.prog σ 33 2 [(0, .int .i64 x), (1, .int .i64 y)] = some (.slice (some ⟨σ.next, 0, none⟩) 2 2, σ.new ⟨1, 3, 0, [.int .i64 x, .int .i64 y], []⟩) := by kernel_rfl

set_option maxHeartbeats 1000000 in
theorem compare_arcs {σ : AS} (a b : Arc) : C Try.prog Kn 0 45 [vArc a, vArc b] σ fun v σ' => v = .int .i64 (cmpA a b) ∧ Ext σ σ' := by
  refine C_of (kn (by decide)) Try.func45 rfl (Nat.le_of_ble_eq_true rfl) ?_
  show W _ _ _ 17 _ _ _ _
  unfold Try.f45
  dsimp only
  repeat apply W_assoc
  apply W_reg
  · intro callf
    simp +decide only [aOps, rinit, aWanted, bite_eq, aStep_eq, aStepOld, aOp, opBox, aRow, aev, ann, aPut, if_true, if_false, rget_rput, Nat.zero_add]
    rfl
  generalize hσ1 : (σ.new _).new _ = σ1
  have e1 : Ext σ σ1 := by rw [← hσ1]; exact (Ext.new _ _).trans (Ext.new _ _)
  have A : ArcAt σ1 σ.next a := by rw [← hσ1]; exact (ArcAt.new σ a).ext (Ext.new _ _)
  have B : ArcAt σ1 (σ.new ⟨1, 27, 0, (vArc a).cells.toList, []⟩).next b := by rw [← hσ1]; exact ArcAt.new _ b
  generalize (σ.new ⟨1, 27, 0, (vArc a).cells.toList, []⟩).next = n2 at B
  repeat apply W_assoc
  refine W_drw [6, 8] [σ.next, n2] (by kernel_rfl) (by kernel_rfl) ?_
  have A0 := A.ext (Ext.reset _)
  have B0 := B.ext (Ext.reset _)
  apply Lg_pre 4
  · intro callf
    simp +decide only [List.take, aQ, memb, List.any_nil, List.any_cons, Bool.or_false, Bool.true_and, reset_merge, reset_reset, reset_next, reset_low, merge_next, merge_idem, ble_self, aWanted, bite_eq, aStep_eq, aStepOld, aOp, opFieldAddr, opLoad, aev, ann, aPut, if_true, if_false, rget_rput, Nat.zero_add, fld0, A0.ev, B0.ev]
    rfl
  dsimp only [List.drop, List.take, List.length]
  have A1 := A.ext ((Ext.refl _).merge (σ := σ1))
  have B1 := B.ext ((Ext.refl _).merge (σ := σ1))
  have e2 := e1.trans ((Ext.refl _).merge (σ := σ1))
  generalize σ1.merge σ1.reset = σ2 at A1 B1 e2
  refine Lg_fn (vs := [.int .i64 a.1, .int .i64 b.1]) (by simp +decide only [aevs, aev, rget_rput, if_true, if_false]) (by decide) rfl (C.mono (compare_int a.1 b.1) ?_)
  rintro v s1 ⟨rfl, e3⟩
  refine ⟨e3.quiet, ?_⟩
  have A2 := A1.ext e3.merge
  have B2 := B1.ext e3.merge
  have e4 := e2.trans e3.merge
  generalize σ2.merge s1 = σ3 at A2 B2 e4
  have A3 := A2.ext (Ext.reset _)
  have B3 := B2.ext (Ext.reset _)
  have q1 : Nat.blt σ.next σ3.next = true := by rw [Nat.blt_eq]; exact A2.lt
  have q2 : Nat.blt n2 σ3.next = true := by rw [Nat.blt_eq]; exact B2.lt
  apply Lg_pre 4
  · intro callf
    simp +decide only [List.take, aQ, memb, List.any_nil, List.any_cons, Bool.true_or, Bool.or_false, Bool.and_true, Bool.or_true, Bool.false_or, Bool.true_and, reset_merge, reset_reset, reset_next, reset_low, merge_next, merge_idem, ble_self, aWanted, bite_eq, aStep_eq, aStepOld, aOp, opFieldAddr, opLoad, aev, ann, aPut, if_true, if_false, rget_rput, Nat.zero_add, Bool.not_true, fld1, A3.to, B3.to, readOk, veq9_int, vsc9_int, fpOf, fpO, fpV, Nat.beq_refl, q1, q2]
    rfl
  dsimp only [List.drop, List.take, List.length]
  have e5 := e4.trans ((Ext.refl _).merge (σ := σ3))
  generalize σ3.merge σ3.reset = σ4 at e5
  refine Lg_fn (vs := [.int .i64 a.2, .int .i64 b.2]) (by simp +decide only [aevs, aev, rget_rput, if_true, if_false]) (by decide) rfl (C.mono (compare_int a.2 b.2) ?_)
  rintro v s1 ⟨rfl, e6⟩
  refine ⟨e6.quiet, ?_⟩
  have e7 := e5.trans e6.merge
  generalize σ4.merge s1 = σ5 at e7
  apply Lg_pre 1
  · intro callf
    simp +decide only [List.take, aQ, memb, List.any_nil, List.any_cons, Bool.or_false, Bool.true_and, reset_next, reset_low, new_low, ble_self, aWanted, bite_eq, aStep_eq, aStepOld, aOp, opBuildSlice, aev, aparts, aPut, if_true, if_false, rget_rput, Nat.zero_add, fill2]
    rfl
  dsimp only [List.drop, List.take, List.length]
  have e8 := e7.trans ((Ext.new σ5.reset ⟨1, 3, 0, [.int .i64 (cmpI a.1 b.1), .int .i64 (cmpI a.2 b.2)], []⟩).merge)
  have g6 : (σ5.merge (σ5.reset.new ⟨1, 3, 0, [.int .i64 (cmpI a.1 b.1), .int .i64 (cmpI a.2 b.2)], []⟩)).get σ5.next = ⟨1, 3, 0, [.int .i64 (cmpI a.1 b.1), .int .i64 (cmpI a.2 b.2)], []⟩ := by
    rw [get_merge, AS.get_new, reset_next, if_pos rfl]
  have l6 : σ5.next < (σ5.merge (σ5.reset.new ⟨1, 3, 0, [.int .i64 (cmpI a.1 b.1), .int .i64 (cmpI a.2 b.2)], []⟩)).next := Nat.lt_succ_self _
  generalize σ5.merge (σ5.reset.new ⟨1, 3, 0, [.int .i64 (cmpI a.1 b.1), .int .i64 (cmpI a.2 b.2)], []⟩) = σ6 at e8 g6 l6
  have S6 : RS 1 RInt σ6.reset (.slice (some ⟨σ5.next, 0, none⟩) 2 2) [cmpI a.1 b.1, cmpI a.2 b.2] := by
    refine RS.ext RInt.keeps (Ext.reset _) (RS.of_block (l := [cmpI a.1 b.1, cmpI a.2 b.2]) l6 g6 (Nat.le_refl _) fun i x hx => ?_)
    match i, hx with
    | 0, hx => cases hx; rfl
    | 1, hx => cases hx; rfl
    | i + 2, hx => simp at hx
  refine Lg_fn (vs := [.slice (some ⟨σ5.next, 0, none⟩) 2 2]) (by simp +decide only [aevs, aev, rget_rput, if_true, if_false]) (by decide) rfl (C.mono (or_ints S6 (by simp)) ?_)
  rintro v s1 ⟨rfl, e9⟩
  refine ⟨e9.quiet, ?_⟩
  apply Lg_all
  · intro callf
    simp +decide only [aQ, memb, List.any_nil, List.any_cons, Bool.or_false, Bool.true_and, reset_merge, reset_low, merge_next, ble_self, aWanted, bite_eq, aStep_eq, aStepOld, aOp, aev, ann, aPut, if_true, if_false, rget_rput, Nat.zero_add]
    rfl
  refine W_ret ⟨Nat.le_refl _, [.int .i64 (cmpA a b)], ?_, rfl, e8.trans (e9.merge.trans ?_)⟩
  · simp +decide only [aResults, rget_rput, if_true, if_false, cmpA]
  · exact (Ext.refl _).merge

end Go.Proofs.Ytbknckiapcafdaa.Nest
