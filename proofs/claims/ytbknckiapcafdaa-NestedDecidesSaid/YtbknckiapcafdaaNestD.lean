/- Contracts: paths in a transition system. -/
import Derived.Test.YtbknckiapcafdaaNestC
set_option linter.unusedSimpArgs false
set_option linter.unusedVariables false
namespace Go.Proofs.Ytbknckiapcafdaa.Nest
open Abs

abbrev Lts : Type := List (List Arc)

/-- What is asked of a system: targets are states, and nothing is longer than a machine's lists. -/
structure WF (L : Lts) : Prop where
  len : L.length ≤ 2 ^ 62
  row : ∀ r ∈ L, r.length ≤ 2 ^ 62
  to : ∀ r ∈ L, ∀ a ∈ r, 0 ≤ a.2 ∧ a.2 < L.length

def RRow (σ : AS) (cs : List Value) (row : List Arc) : Prop := ∃ v, cs = [v] ∧ RS 2 RArc σ v row
theorem RRow.keeps : Keeps RRow := fun _ _ _ _ e ⟨v, h1, h2⟩ => ⟨v, h1, h2.ext RArc.keeps e⟩
def RLts (σ : AS) (v : Value) (L : Lts) : Prop := ∃ s, v = .agg #[s] ∧ RS 1 RRow σ s L
/-- A box that holds a system. -/
structure LtsAt (σ : AS) (b : Nat) (s : Value) (L : Lts) : Prop where
  lt : b < σ.next
  get : σ.get b = ⟨1, 30, 0, [s], []⟩
  rd : RS 1 RRow σ s L
theorem LtsAt.ext {σ σ' : AS} {b : Nat} {s : Value} {L : Lts} (h : LtsAt σ b s L) (e : Ext σ σ') : LtsAt σ' b s L := ⟨e.lt h.lt, by rw [e.get b h.lt, h.get], h.rd.ext RRow.keeps e⟩
theorem LtsAt.new {σ : AS} {s : Value} {L : Lts} (h : RS 1 RRow σ s L) : LtsAt (σ.new ⟨1, 30, 0, (Value.agg #[s]).cells.toList, []⟩) σ.next s L :=
  ⟨Nat.lt_succ_self _, by rw [AS.get_new, if_pos rfl]; rfl, h.ext RRow.keeps (Ext.new _ _)⟩
theorem LtsAt.load {σ : AS} {b : Nat} {s : Value} {L : Lts} (h : LtsAt σ b s L) : aLoad Try.prog σ 30 (.pointer (some ⟨b, 0, none⟩)) = some (.agg #[s]) :=
  loadN Try.underlying30 rfl (i := (Try.prog.info? 30).get!) (by kernel_rfl) (by rw [show ((Try.prog.info? 30).get!).size = 1 by kernel_rfl]; exact cells_at h.get rfl (Nat.le_refl _))
theorem LtsAt.out {σ : AS} {b : Nat} {s : Value} {L : Lts} (h : LtsAt σ b s L) : aLoad Try.prog σ 28 (.pointer (some ⟨b, 0, none⟩)) = some s := load1 Try.underlying28 rfl (cells_at h.get rfl (Nat.le_refl _))

theorem idx28 {b off len cap i : Nat} (h : i < len) : aIndexAddr Try.prog 28 (.slice (some ⟨b, off, none⟩) len cap) (.int .i64 (i : Int)) = some (.pointer (some ⟨b, off + i * 1, none⟩)) :=
  aIndexAddr_slice (inf := (Try.prog.info? 22).get!) Try.underlying28 (by kernel_rfl) (by kernel_rfl) h

/-- A state's row. -/
theorem rowOf {σ : AS} {base : Option Addr} {len cap : Nat} {L : Lts} (h : RS 1 RRow σ (.slice base len cap) L) {i : Nat} {row : List Arc} (hi : L[i]? = some row) :
    len = L.length ∧ ∃ b off v, base = some ⟨b, off, none⟩ ∧ b < σ.next ∧ (∀ σ', Ext σ σ' → aLoad Try.prog σ' 22 (.pointer (some ⟨b, off + i * 1, none⟩)) = some v) ∧ RS 2 RArc σ v row := by
  obtain ⟨base', cap', e, hb⟩ := h
  cases e
  obtain ⟨b, off, rfl, h2, h3⟩ := hb (fun h => by rw [h] at hi; simp at hi)
  obtain ⟨cs, h4, v, rfl, h5⟩ := h3 i row hi
  exact ⟨rfl, b, off, v, rfl, h2, fun σ' e => load1 Try.underlying22 rfl (by rw [e.cells (a := ⟨b, off + i * 1, none⟩) h2]; exact h4), h5⟩

/-- An arc of a row. -/
theorem arcOf {σ : AS} {base : Option Addr} {len cap : Nat} {l : List Arc} (h : RS 2 RArc σ (.slice base len cap) l) {i : Nat} {a : Arc} (hi : l[i]? = some a) :
    len = l.length ∧ ∃ b off, base = some ⟨b, off, none⟩ ∧ b < σ.next ∧ ∀ σ', Ext σ σ' → aLoad Try.prog σ' 27 (.pointer (some ⟨b, off + i * 2, none⟩)) = some (vArc a) ∧
      aLoad Try.prog σ' 3 (.pointer (some ⟨b, off + i * 2, none⟩)) = some (.int .i64 a.1) ∧ aLoad Try.prog σ' 3 (.pointer (some ⟨b, off + i * 2 + 1, none⟩)) = some (.int .i64 a.2) := by
  obtain ⟨base', cap', e, hb⟩ := h
  cases e
  obtain ⟨b, off, rfl, h2, h3⟩ := hb (fun h => by rw [h] at hi; simp at hi)
  obtain ⟨cs, h4, h5⟩ := h3 i a hi
  refine ⟨rfl, b, off, rfl, h2, fun σ' e => ?_⟩
  have h6 : aCells σ' ⟨b, off + i * 2, none⟩ 2 = some [.int .i64 a.1, .int .i64 a.2] := by
    rw [e.cells (a := ⟨b, off + i * 2, none⟩) h2, h4]; exact congrArg some h5
  obtain ⟨h7, h8⟩ := cells_two h6
  exact ⟨loadArc h6 rfl, load1 Try.underlying3 rfl h7, load1 Try.underlying3 rfl h8⟩

/-- A variable is declared: an arc. -/
noncomputable def decl (σ : AS) (x : Arc) : AS := (σ.new ⟨1, 27, 0, [.int .i64 0, .int .i64 0], []⟩).put σ.next ⟨1, 27, 0, (vArc x).cells.toList, []⟩
theorem decl_ext (σ : AS) (x : Arc) : Ext σ (decl σ x) := Ext.put (Ext.new σ _) (Nat.le_refl _) _
theorem decl_at (σ : AS) (x : Arc) : ArcAt (decl σ x) σ.next x := ⟨Nat.lt_succ_self _, by unfold decl; rw [AS.get_put, if_pos rfl]⟩
theorem alloc27 {σ : AS} : opAlloc Try.prog σ 27 = some (.pointer (some ⟨σ.next, 0, none⟩), σ.new ⟨1, 27, 0, [.int .i64 0, .int .i64 0], []⟩) := by kernel_rfl
theorem store27 {σ : AS} {x : Arc} : aStore Try.prog (σ.new ⟨1, 27, 0, [.int .i64 0, .int .i64 0], []⟩) 27 (vArc x) (.pointer (some ⟨σ.next, 0, none⟩)) = some (decl σ x) := by
  obtain ⟨inf, hi, hs⟩ : ∃ inf, Try.prog.info? 27 = some inf ∧ inf.size = 2 := ⟨(Try.prog.info? 27).get!, by kernel_rfl, by kernel_rfl⟩
  have hz : Nat.beq (vArc x).cells.size 2 = true := rfl
  have g : (σ.new ⟨1, 27, 0, [.int .i64 0, .int .i64 0], []⟩).get σ.next = ⟨1, 27, 0, [.int .i64 0, .int .i64 0], []⟩ := by rw [AS.get_new, if_pos rfl]
  unfold aStore
  simp only [hi, hs, hz, if_true]
  unfold aWrite
  simp only [g]
  rfl
theorem not_b {P : Program} {b : Bool} : flatO (asPure P (Op.unary .not (.bool b))) = some (.bool (!b)) := by cases b <;> rfl

/-- A path is followed from a state: the state where it ends, and whether each arc was there. -/
def followF (L : Lts) : Nat → List Arc → Nat × Bool
  | k, [] => (k, true)
  | k, a :: p => if a ∈ L.getD k [] then followF L a.2.toNat p else (k, false)

theorem followF_step {L : Lts} {k i : Nat} {p : List Arc} {a : Arc} (h : p[i]? = some a) (hm : a ∈ L.getD k []) : followF L k (p.drop i) = followF L a.2.toNat (p.drop (i + 1)) := by
  obtain ⟨hi, he⟩ := List.getElem?_eq_some_iff.1 h
  rw [List.drop_eq_getElem_cons hi, he, followF, if_pos hm]
theorem followF_stop {L : Lts} {k i : Nat} {p : List Arc} {a : Arc} (h : p[i]? = some a) (hm : a ∉ L.getD k []) : followF L k (p.drop i) = (k, false) := by
  obtain ⟨hi, he⟩ := List.getElem?_eq_some_iff.1 h
  rw [List.drop_eq_getElem_cons hi, he, followF, if_neg hm]
theorem rowD {L : Lts} {k : Nat} {row : List Arc} (h : L[k]? = some row) : L.getD k [] = row := by rw [List.getD_eq_getElem?_getD, h]; rfl

set_option maxHeartbeats 1000000 in
theorem follow {σ : AS} {s p : Value} {L : Lts} {l : List Arc} {k : Nat} (hs : RS 1 RRow σ s L) (hw : WF L) (hk : k < L.length) (hp : RS 2 RArc σ p l) (hl : l.length ≤ 2 ^ 62) :
    C Try.prog Kn 0 36 [.agg #[s], .int .i64 (k : Int), p] σ fun v σ' => v = .tuple #[.int .i64 ((followF L k l).1 : Int), .bool (followF L k l).2] ∧ (followF L k l).1 < L.length ∧ Ext σ σ' := by
  refine C_of (kn (by decide)) Try.func36 rfl (Nat.le_of_ble_eq_true rfl) ?_
  show W _ _ _ 29 _ _ _ _
  unfold Try.f36
  dsimp only
  repeat apply W_assoc
  apply W_reg
  · intro callf
    simp +decide only [aOps, rinit, aWanted, ↓bite_eq, ↓reduceIte, aStep_eq, aStepOld, aOp, opBox, aRow, aev, ann, aPut, rget_rput, Nat.zero_add]
    rfl
  have B := LtsAt.new hs
  have e1 := Ext.new σ ⟨1, 30, 0, (Value.agg #[s]).cells.toList, []⟩
  have P1 := hp.ext RArc.keeps e1
  generalize σ.new ⟨1, 30, 0, (Value.agg #[s]).cells.toList, []⟩ = σ1 at B e1 P1
  obtain ⟨base, cap, rfl, -⟩ := id hp
  obtain ⟨sb, sc, rfl, -⟩ := id hs
  repeat apply W_assoc
  apply W_reg
  · intro callf
    simp +decide only [aOps, aWanted, ↓bite_eq, ↓reduceIte, aStep_eq, aStepOld, aOp, opCall, aev, aevs, ann, aPut, rget_rput, aBuiltin, aLen, List.getElem?_toArray, List.getElem?_cons_zero, Try.underlying22]
    rfl
  repeat apply W_assoc
  refine W_for (fun (x : Nat × Nat) r σ' => x.1 ≤ l.length ∧ x.2 < L.length ∧ Ext σ1 σ' ∧ rget r 1 = .int .i64 (x.2 : Int) ∧ rget r 3 = .pointer (some ⟨σ.next, 0, none⟩) ∧ rget r 10 = .slice base l.length cap ∧ rget r 11 = .int .i64 (l.length : Int) ∧ rget r 12 = .int .i64 (x.1 : Int) ∧ followF L k l = followF L x.2 (l.drop x.1))
    (fun x => l.length - x.1) ?_ (0, k) ?_
  rotate_left
  · simp +decide only [rget_rput, if_true, if_false, goInt]
    exact ⟨Nat.zero_le _, hk, Ext.refl _, trivial, trivial, trivial, trivial, rfl, rfl⟩
  rintro ⟨i, j⟩ r σ2 ⟨hi, hj, e2, h1, h3, h10, h11, h12, hf⟩
  dsimp only at hi hj h1 h12 hf
  repeat apply W_assoc
  apply W_reg
  · intro callf
    simp +decide only [aOps, aWanted, ↓bite_eq, ↓reduceIte, aStep_eq, aStepOld, aOp, opBin, aev, ann, aPut, h11, h12, aBin, aInts, aInt_eq]
    rfl
  repeat apply W_assoc
  refine W_if (b := decide ((i : Int) < (l.length : Int))) ?_ ?_ ?_
  · simp +decide only [aev, rget_rput, if_true]
  rotate_left
  · intro hb
    have hb : i = l.length := by
      have := of_decide_eq_false hb
      omega
    refine W_exitq ⟨fun h => (nomatch h), fun _ => ?_, fun h1 h2 => absurd rfl h2⟩
    repeat apply W_assoc
    apply W_reg
    · intro callf
      simp +decide only [aOps, aWanted, ↓bite_eq, ↓reduceIte, aStep_eq, aStepOld, aOp, aev, ann, aPut, rget_rput, h1]
      rfl
    subst hb
    rw [List.drop_length] at hf
    refine W_ret ⟨Nat.le_refl _, [.int .i64 (j : Int), .bool true], ?_, ?_, ?_, e1.trans e2⟩
    · simp +decide only [aResults, rget_rput, if_true, if_false]
    · rw [hf]; rfl
    · rw [hf]; exact hj
  intro hb
  have hb : i < l.length := by
    have := of_decide_eq_true hb
    omega
  apply W_skipq
  refine W_blk ?_
  obtain ⟨y, hy⟩ : ∃ y, l[i]? = some y := ⟨l[i], by simp [hb]⟩
  obtain ⟨-, b, off, rfl, hbl, hat⟩ := arcOf P1 hy
  obtain ⟨row, hrow⟩ : ∃ row, L[j]? = some row := ⟨L[j], by simp [hj]⟩
  obtain ⟨-, rb, roff, rv, rfl, hrb, hrl, hrs⟩ := rowOf B.rd hrow
  repeat apply W_assoc
  apply W_reg
  · intro callf
    simp +decide only [aOps, aWanted, ↓bite_eq, ↓reduceIte, aStep_eq, aStepOld, aOp, opIndexAddr, opLoad, opStore, aev, ann, unn, aPut, rget_rput, h10, h12, idx22 hb, (hat σ2 e2).1, alloc27, store27]
    rfl
  have D := decl_at σ2 y
  have e3 := e2.trans (decl_ext σ2 y)
  generalize decl σ2 y = σ3 at D e3
  repeat apply W_assoc
  refine W_drw [] [] (by kernel_rfl) (by kernel_rfl) ?_
  have B3 := (B.ext e3).ext (Ext.reset _)
  have D3 := D.ext (Ext.reset _)
  have L3 := hrl _ (e3.trans (Ext.reset _))
  apply Lg_pre 6
  · intro callf
    simp +decide only [List.take, aQ, memb, List.any_nil, Bool.true_or, Bool.and_true, reset_merge, reset_reset, reset_next, reset_low, merge_next, merge_idem, ble_self, aWanted, ↓bite_eq, ↓reduceIte, aStep_eq, aStepOld, aOp, opIndexAddr, opFieldAddr, opLoad, aev, ann, aPut, rget_rput, Nat.zero_add, Bool.not_false, h3, h1, fldL, B3.out, idx28 hj, L3, D3.load]
    rfl
  dsimp only [List.drop, List.take, List.length]
  have e4 := e3.trans ((Ext.refl _).merge (σ := σ3))
  have D4 := D.ext ((Ext.refl _).merge (σ := σ3))
  generalize σ3.merge σ3.reset = σ4 at e4 D4
  refine Lg_fn (vs := [rv, vArc y]) (by simp +decide only [aevs, aev, rget_rput, if_true, if_false]) (by decide) rfl (C.mono (contains_arcs (x := y) (hrs.ext RArc.keeps (e4.trans (Ext.reset _))) (hw.row row (List.mem_of_getElem? hrow))) ?_)
  rintro v s1 ⟨rfl, e5⟩
  refine ⟨e5.quiet, ?_⟩
  have e6 := e4.trans e5.merge
  have D6 := D4.ext e5.merge
  generalize σ4.merge s1 = σ5 at e6 D6
  apply Lg_all
  · intro callf
    simp +decide only [aQ, memb, List.any_nil, Bool.true_or, Bool.and_true, reset_low, ble_self, aWanted, ↓bite_eq, ↓reduceIte, aStep_eq, aStepOld, aOp, opUn, aev, ann, aPut, rget_rput, flat, flat1, Nat.zero_add, Bool.not_false, not_b]
    rfl
  have e7 := e6.trans ((Ext.refl _).merge (σ := σ5))
  have D7 := D6.ext ((Ext.refl _).merge (σ := σ5))
  generalize σ5.merge σ5.reset = σ6 at e7 D7
  repeat apply W_assoc
  refine W_if (b := (!decide (y ∈ row))) ?_ ?_ ?_
  · simp +decide only [aev, rget_rput, if_true, if_false]
  · intro h
    have h : y ∉ row := by simpa using h
    repeat apply W_assoc
    apply W_reg
    · intro callf
      simp +decide only [aOps, aWanted, ↓bite_eq, ↓reduceIte, aStep_eq, aStepOld, aOp, aev, ann, aPut, rget_rput, h1]
      rfl
    refine W_retq ⟨fun h => (nomatch h), fun _ _ => ⟨fun h => (nomatch h), fun h => (nomatch h), fun _ _ => ⟨Nat.le_refl _, [.int .i64 (j : Int), .bool false], ?_, ?_, ?_, e1.trans e7⟩⟩⟩
    · simp +decide only [aResults, rget_rput, if_true, if_false]
    · rw [hf, followF_stop hy (by rw [rowD hrow]; exact h)]; rfl
    · rw [hf, followF_stop hy (by rw [rowD hrow]; exact h)]; exact hj
  · intro h
    have h : y ∈ row := by simpa using h
    obtain ⟨t1, t2⟩ := hw.to row (List.mem_of_getElem? hrow) y h
    apply W_skipq
    refine W_tail ?_
    repeat apply W_assoc
    apply W_reg
    · intro callf
      simp +decide only [aOps, aWanted, ↓bite_eq, ↓reduceIte, aStep_eq, aStepOld, aOp, opFieldAddr, opLoad, aev, ann, aPut, rget_rput, Nat.zero_add, fld1, D7.to]
      rfl
    refine W_skip ⟨fun _ => ?_, fun h => absurd rfl h⟩
    refine W_tail ?_
    repeat apply W_assoc
    apply W_reg
    · intro callf
      simp +decide only [aOps, aWanted, ↓bite_eq, ↓reduceIte, aStep_eq, aStepOld, aOp, opBin, aev, ann, aPut, rget_rput, h12, wrap_add hb hl, aBin, aInts, aInt_eq]
      rfl
    refine W_skip ⟨fun _ => ⟨(i + 1, y.2.toNat), ?_, ?_⟩, fun h => (nomatch h), fun h => absurd rfl h⟩
    · show l.length - (i + 1) < l.length - i
      omega
    · simp +decide only [rget_rput, if_true, if_false, h3, h10, h11]
      refine ⟨by omega, by omega, e7, ?_, trivial, trivial, trivial, trivial, ?_⟩
      · rw [Int.toNat_of_nonneg t1]
      · rw [hf, followF_step hy (by rw [rowD hrow]; exact h)]

end Go.Proofs.Ytbknckiapcafdaa.Nest
