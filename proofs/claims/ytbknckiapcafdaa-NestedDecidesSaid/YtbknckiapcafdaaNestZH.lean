/- A new search of the program (24), the arcs of its edges (27). -/
import Derived.Test.YtbknckiapcafdaaNestZF
set_option linter.unusedSimpArgs false
set_option linter.unusedVariables false
namespace Go.Proofs.Ytbknckiapcafdaa.Nest
open Abs Abs2

theorem bmap_none (N : Nat) : bmap (List.replicate N false) = fun _ => none := by
  funext k
  unfold bmap
  rw [if_neg]
  rintro ⟨-, h⟩
  rw [List.getD_eq_getElem?_getD, List.getElem?_replicate] at h
  split at h <;> cases h
theorem pmap_none : pmap [] = fun _ => none := rfl
theorem cU_none : ∀ N : Nat, cU (List.replicate N false) (List.replicate N false) = 0
  | 0 => rfl
  | N + 1 => by rw [List.replicate_succ]; unfold cU; rw [cU_none N]; rfl
theorem build58 {fv : Value} {n : Int} {a b c : Nat} : aBuild Try.prog 58 [(0, .func (.func 25) #[] #[fv]), (1, .int .i64 n), (3, .map (some a)), (4, .map (some b)), (5, .map (some c))] = some (.agg #[.func (.func 25) #[] #[fv], .int .i64 n, .int .i64 0, .map (some a), .map (some b), .map (some c), .slice none 0 0, .slice none 0 0, .slice none 0 0, .slice none 0 0]) := by kernel_rfl

theorem MapAt.empty {lo r : Nat} {σ : AS} (h1 : lo ≤ r) (h2 : r < σ.next) (h : σ.get r = ⟨3, 0, 0, [], []⟩) : MapAt lo σ (.map (some r)) (fun _ => none) :=
  ⟨r, [], rfl, h1, h2, by rw [h], by rw [h]; rfl, List.nodup_nil, fun _ => rfl⟩
theorem Stk.nil {lo : Nat} {σ : AS} : Stk lo 53 2 σ (.slice none 0 0) 0 [] := ⟨rfl, rfl, .inl ⟨rfl, rfl⟩⟩

set_option maxHeartbeats 4000000 in
theorem newSearch_c {σ : AS} {b1 N : Nat} : C Try.prog Kn 0 24 [(.func (.func 25) #[] #[.pointer (some ⟨b1, 0, none⟩)]), .int .i64 (N : Int)] σ fun v σ' =>
    ∃ xb d, v = .pointer (some ⟨xb, 0, none⟩) ∧ PRepV σ σ' xb N (.func (.func 25) #[] #[.pointer (some ⟨b1, 0, none⟩)]) ⟨List.replicate N false, List.replicate N false, [], [], [], [], []⟩ d ∧ d.sv = .slice none 0 0 ∧ d.lv = .slice none 0 0 := by
  refine C_of (kn (by decide)) Try.func24 rfl (Nat.le_of_ble_eq_true rfl) ?_
  show W _ _ _ 12 _ _ _ _
  unfold Try.f24
  dsimp only
  repeat apply W_assoc
  apply W_reg
  · intro callf
    simp +decide only [aOps, rinit, aWanted, ↓bite_eq, ↓reduceIte, aStep_eq, aStepOld, aOp, aev, ann, aPut, Nat.zero_add]
    rfl
  repeat apply W_assoc
  apply W_reg
  · intro callf
    simp +decide only [aOps, aWanted, ↓bite_eq, ↓reduceIte, aStep_eq, aStepOld, aOp, opBox, opBuild, aRow, aev, aparts, ann, aPut, rget_rput, build58, aRow]
    rfl
  refine W_ret ⟨Nat.le_refl _, [.pointer (some ⟨σ.next + 1 + 1 + 1, 0, none⟩)], ?_, _, ⟨.map (some σ.next), .map (some (σ.next + 1)), .map (some (σ.next + 1 + 1)), .slice none 0 0, .slice none 0 0, .slice none 0 0, .slice none 0 0⟩, rfl, ?_, rfl, rfl⟩
  · simp +decide only [aResults, rget_rput, if_true, if_false]
    rfl
  generalize hA : (Value.agg _).cells.toList = vals
  obtain ⟨n1, hn1⟩ : ∃ n1, σ.next = n1 := ⟨_, rfl⟩
  have g0 : ((((σ.new ⟨3, 0, 0, [], []⟩).new ⟨3, 0, 0, [], []⟩).new ⟨3, 0, 0, [], []⟩).new ⟨1, 58, 0, vals, []⟩).get n1 = ⟨3, 0, 0, [], []⟩ := by
    rw [AS.get_new, if_neg (by show σ.next + 1 + 1 + 1 ≠ _; omega), AS.get_new, if_neg (by show σ.next + 1 + 1 ≠ _; omega), AS.get_new, if_neg (by show σ.next + 1 ≠ _; omega), AS.get_new, if_pos hn1]
  have g1 : ((((σ.new ⟨3, 0, 0, [], []⟩).new ⟨3, 0, 0, [], []⟩).new ⟨3, 0, 0, [], []⟩).new ⟨1, 58, 0, vals, []⟩).get (n1 + 1) = ⟨3, 0, 0, [], []⟩ := by
    rw [AS.get_new, if_neg (by show σ.next + 1 + 1 + 1 ≠ _; omega), AS.get_new, if_neg (by show σ.next + 1 + 1 ≠ _; omega), AS.get_new, if_pos (by show σ.next + 1 = _; omega)]
  have g2 : ((((σ.new ⟨3, 0, 0, [], []⟩).new ⟨3, 0, 0, [], []⟩).new ⟨3, 0, 0, [], []⟩).new ⟨1, 58, 0, vals, []⟩).get (n1 + 1 + 1) = ⟨3, 0, 0, [], []⟩ := by
    rw [AS.get_new, if_neg (by show σ.next + 1 + 1 + 1 ≠ _; omega), AS.get_new, if_pos (by show σ.next + 1 + 1 = _; omega)]
  have g3 : ((((σ.new ⟨3, 0, 0, [], []⟩).new ⟨3, 0, 0, [], []⟩).new ⟨3, 0, 0, [], []⟩).new ⟨1, 58, 0, vals, []⟩).get (n1 + 1 + 1 + 1) = ⟨1, 58, 0, vals, []⟩ := by
    rw [AS.get_new, if_pos (by show σ.next + 1 + 1 + 1 = _; omega)]
  have gn : ((((σ.new ⟨3, 0, 0, [], []⟩).new ⟨3, 0, 0, [], []⟩).new ⟨3, 0, 0, [], []⟩).new ⟨1, 58, 0, vals, []⟩).next = n1 + 4 := by show σ.next + 1 + 1 + 1 + 1 = _; omega
  have ge : Ext σ ((((σ.new ⟨3, 0, 0, [], []⟩).new ⟨3, 0, 0, [], []⟩).new ⟨3, 0, 0, [], []⟩).new ⟨1, 58, 0, vals, []⟩) := (((Ext.new _ _).trans (Ext.new _ _)).trans (Ext.new _ _)).trans (Ext.new _ _)
  show PMid σ ((((σ.new ⟨3, 0, 0, [], []⟩).new ⟨3, 0, 0, [], []⟩).new ⟨3, 0, 0, [], []⟩).new ⟨1, 58, 0, vals, []⟩) _ _ _ _ _ _ _
  generalize ((((σ.new ⟨3, 0, 0, [], []⟩).new ⟨3, 0, 0, [], []⟩).new ⟨3, 0, 0, [], []⟩).new ⟨1, 58, 0, vals, []⟩) = τ at g0 g1 g2 g3 gn ge
  refine ⟨⟨ge, by omega, by omega, ?_, ?_, by simp, by simp, ?_, ?_, ?_, ?_, ?_, ?_, Stk.nil, Stk.nil, fun i h => absurd h not_own_nil, Stk.nil, Stk.nil⟩, ?_⟩
  · rw [hn1, g3]
  · rw [hn1, g3]
  · rw [bmap_none]; exact MapAt.empty (Nat.le_refl _) (by omega) (by rw [hn1]; exact g0)
  · rw [bmap_none]; exact MapAt.empty (by show σ.next ≤ σ.next + 1; omega) (by show σ.next + 1 < _; omega) (by show τ.get (σ.next + 1) = _; rw [hn1]; exact g1)
  · rw [pmap_none]; exact MapAt.empty (by show σ.next ≤ σ.next + 1 + 1; omega) (by show σ.next + 1 + 1 < _; omega) (by show τ.get (σ.next + 1 + 1) = _; rw [hn1]; exact g2)
  · intro i h h2
    unfold MOwn at h h2
    have h3 := h.symm.trans (show Value.map (some σ.next) = .map (some σ.next) from rfl)
    cases h
    have h4 : (Value.map (some (σ.next + 1))) = .map (some σ.next) := h2
    simp at h4
  · intro i h h2
    unfold MOwn at h h2
    cases h
    have h4 : (Value.map (some (σ.next + 1 + 1))) = .map (some σ.next) := h2
    simp at h4
    omega
  · intro i h h2
    unfold MOwn at h h2
    cases h
    have h4 : (Value.map (some (σ.next + 1 + 1))) = .map (some (σ.next + 1)) := h2
    simp at h4
  · subst hn1
    rw [g3, ← hA]
    dsimp only
    rw [cU_none]
    rfl

/-- An edge in a variable. -/
structure EdgeAt (σ : AS) (b : Nat) (x : Arc) : Prop where
  lt : b < σ.next
  get : σ.get b = ⟨1, 53, 0, (vArc x).cells.toList, []⟩
theorem EdgeAt.ext {σ σ' : AS} {b : Nat} {x : Arc} (h : EdgeAt σ b x) (e : Ext σ σ') : EdgeAt σ' b x := ⟨e.lt h.lt, by rw [e.get b h.lt, h.get]⟩
theorem EdgeAt.from_ {σ : AS} {b : Nat} {x : Arc} (h : EdgeAt σ b x) : aLoad Try.prog σ 3 (.pointer (some ⟨b, 0, none⟩)) = some (.int .i64 x.1) := load1 Try.underlying3 rfl (cells_at h.get rfl (Nat.le_succ _))
theorem EdgeAt.index {σ : AS} {b : Nat} {x : Arc} (h : EdgeAt σ b x) : aLoad Try.prog σ 3 (.pointer (some ⟨b, 1, none⟩)) = some (.int .i64 x.2) := load1 Try.underlying3 rfl (cells_at h.get rfl (Nat.le_refl _))
noncomputable def declE (σ : AS) (x : Arc) : AS := (σ.new ⟨1, 53, 0, [.int .i64 0, .int .i64 0], []⟩).put σ.next ⟨1, 53, 0, (vArc x).cells.toList, []⟩
theorem declE_ext (σ : AS) (x : Arc) : Ext σ (declE σ x) := Ext.put (Ext.new σ _) (Nat.le_refl _) _
theorem declE_at (σ : AS) (x : Arc) : EdgeAt (declE σ x) σ.next x := ⟨Nat.lt_succ_self _, by unfold declE; rw [AS.get_put, if_pos rfl]⟩
theorem alloc53 {σ : AS} : opAlloc Try.prog σ 53 = some (.pointer (some ⟨σ.next, 0, none⟩), σ.new ⟨1, 53, 0, [.int .i64 0, .int .i64 0], []⟩) := by kernel_rfl
theorem store53 {σ : AS} {x : Arc} : aStore Try.prog (σ.new ⟨1, 53, 0, [.int .i64 0, .int .i64 0], []⟩) 53 (vArc x) (.pointer (some ⟨σ.next, 0, none⟩)) = some (declE σ x) := by
  obtain ⟨inf, hi, hs⟩ : ∃ inf, Try.prog.info? 53 = some inf ∧ inf.size = 2 := ⟨(Try.prog.info? 53).get!, by kernel_rfl, by kernel_rfl⟩
  have hz : Nat.beq (vArc x).cells.size 2 = true := rfl
  have g : (σ.new ⟨1, 53, 0, [.int .i64 0, .int .i64 0], []⟩).get σ.next = ⟨1, 53, 0, [.int .i64 0, .int .i64 0], []⟩ := by rw [AS.get_new, if_pos rfl]
  unfold aStore
  simp only [hi, hs, hz, if_true]
  unfold aWrite
  simp only [g]
  rfl
theorem load53 {σ : AS} {b off : Nat} {x : Arc} (h : aCells σ ⟨b, off, none⟩ 2 = some [.int .i64 x.1, .int .i64 x.2]) : aLoad Try.prog σ 53 (.pointer (some ⟨b, off, none⟩)) = some (vArc x) :=
  loadN Try.underlying53 rfl (i := (Try.prog.info? 53).get!) (by kernel_rfl) (by rw [show ((Try.prog.info? 53).get!).size = 2 by kernel_rfl]; exact h)
theorem fldE0 {b : Nat} : aField Try.prog 53 0 (.pointer (some ⟨b, 0, none⟩)) = some (.pointer (some ⟨b, 0, none⟩)) := by kernel_rfl
theorem fldE1 {b : Nat} : aField Try.prog 53 1 (.pointer (some ⟨b, 0, none⟩)) = some (.pointer (some ⟨b, 1, none⟩)) := by kernel_rfl
theorem idx51 {b off len cap i : Nat} (h : i < len) : aIndexAddr Try.prog 51 (.slice (some ⟨b, off, none⟩) len cap) (.int .i64 (i : Int)) = some (.pointer (some ⟨b, off + i * 2, none⟩)) :=
  aIndexAddr_slice (inf := (Try.prog.info? 53).get!) Try.underlying51 (by kernel_rfl) (by kernel_rfl) h

theorem cells_edge {l : List Arc} {i : Nat} {e : Arc} (h : l[i]? = some e) : ((cellsOf l).drop (i * 2)).take 2 = [.int .i64 e.1, .int .i64 e.2] := by
  obtain ⟨h1, h2⟩ := List.getElem?_eq_some_iff.1 h
  have e1 : cellsOf (l.drop i) = (cellsOf l).drop (i * 2) := (cellsOf_drop l i).symm
  rw [← e1, List.drop_eq_getElem_cons h1, h2]
  rfl

set_option maxHeartbeats 8000000 in
theorem edges_c {σ : AS} {lo b1 cap : Nat} {base : Option Addr} {L : Lts} {pv : Value} {l : List Arc} (hB : BoxAt σ b1 (.slice base L.length cap)) (hr : RS 1 RRow σ (.slice base L.length cap) L) (hw : WF L) (hp : Stk lo 53 2 σ pv l.length (cellsOf l)) (hl : l.length ≤ 10000) (hok : ∀ e ∈ l, EOk L e) :
    C Try.prog Kn 0 27 [pv, .pointer (some ⟨b1, 0, none⟩)] σ fun v σ' => (RS 2 RArc σ' v (l.map (arcAt L)) ∧ ∃ a c, v = .slice a l.length c) ∧ Ext σ σ' := by
  obtain ⟨pa, pc, hpv⟩ := hp.len
  refine C_of (kn (by decide)) Try.func27 rfl (Nat.le_of_ble_eq_true rfl) ?_
  show W _ _ _ 28 _ _ _ _
  unfold Try.f27
  dsimp only
  repeat apply W_assoc
  apply W_reg
  · intro callf
    simp +decide only [aOps, rinit, aWanted, ↓bite_eq, ↓reduceIte, aStep_eq, aStepOld, aOp, aev, ann, aPut, Nat.zero_add]
    rfl
  repeat apply W_assoc
  apply W_reg
  · intro callf
    simp +decide only [aOps, aWanted, ↓bite_eq, ↓reduceIte, aStep_eq, aStepOld, aOp, aev, ann, aPut]
    rfl
  repeat apply W_assoc
  apply W_reg
  · intro callf
    simp +decide only [aOps, aWanted, ↓bite_eq, ↓reduceIte, aStep_eq, aStepOld, aOp, opCall, aev, aevs, ann, aPut, rget_rput, aBuiltin, aLen, List.getElem?_toArray, List.getElem?_cons_zero, hpv, Try.underlying51, goInt]
    rfl
  repeat apply W_assoc
  refine W_for (fun (j : Nat) r σ' => j ≤ l.length ∧ Ext σ σ' ∧ rget r 1 = .pointer (some ⟨b1, 0, none⟩) ∧ rget r 7 = pv ∧ rget r 8 = .int .i64 (l.length : Int) ∧ rget r 9 = .int .i64 (j : Int) ∧ ∃ v, rget r 4 = v ∧ OutN σ σ' v ((l.take j).map (arcAt L)))
    (fun j => l.length - j) ?_ 0 ?_
  rotate_left
  · simp +decide only [rget_rput, if_true, if_false, hpv]
    refine ⟨Nat.zero_le _, Ext.refl _, ?_, ?_, ?_, ?_, _, rfl, .inl ⟨rfl, rfl⟩⟩ <;> first | exact True.intro | rfl
  rintro j r σ2 ⟨hj, e2, h1, h7, h8, h9, ov, h4, hO⟩
  by_cases hlt : j < l.length
  rotate_left
  · have d1 : decide ((j : Int) < (l.length : Int)) = false := decide_eq_false (by omega)
    repeat apply W_assoc
    apply W_reg
    · intro callf
      simp +decide only [aOps, aWanted, ↓bite_eq, ↓reduceIte, aStep_eq, aStepOld, aOp, opBin, aev, ann, aPut, h8, h9, d1, aBin, aInts, aInt_eq]
      rfl
    repeat apply W_assoc
    refine W_if (b := false) ?_ ?_ ?_
    · simp +decide only [aev, rget_rput, if_true]
    · intro h; cases h
    intro _
    refine W_exitq ⟨fun h => (nomatch h), fun _ => ?_, fun h1 h2 => absurd rfl h2⟩
    repeat apply W_assoc
    apply W_reg
    · intro callf
      simp +decide only [aOps, aWanted, ↓bite_eq, ↓reduceIte, aStep_eq, aStepOld, aOp, aev, ann, aPut, rget_rput, h4]
      rfl
    rw [List.take_of_length_le (by omega)] at hO
    have hG := hO.row (X := []) (by simp)
    have hG : GRow σ2 ov (l.map (arcAt L)) := hG
    obtain ⟨ga, gc, hg⟩ := hG.slice
    rw [List.length_map] at hg
    refine W_ret ⟨Nat.le_refl _, [ov], ?_, ⟨hG.rs, ga, gc, hg⟩, e2⟩
    simp +decide only [aResults, rget_rput, if_true, if_false]
  have d1 : decide ((j : Int) < (l.length : Int)) = true := decide_eq_true (by omega)
  repeat apply W_assoc
  apply W_reg
  · intro callf
    simp +decide only [aOps, aWanted, ↓bite_eq, ↓reduceIte, aStep_eq, aStepOld, aOp, opBin, aev, ann, aPut, h8, h9, d1, aBin, aInts, aInt_eq]
    rfl
  repeat apply W_assoc
  refine W_if (b := true) ?_ ?_ ?_
  · simp +decide only [aev, rget_rput, if_true]
  rotate_left
  · intro h; cases h
  intro _
  apply W_skipq
  refine W_blk ?_
  obtain ⟨e, he⟩ : ∃ e, l[j]? = some e := ⟨l[j], by simp [hlt]⟩
  obtain ⟨row, hrow, he1, he2, he3⟩ := hok e (List.mem_of_getElem? he)
  obtain ⟨pb, pc2, hpe, hpb, hcell⟩ := StkC.at (.inr hp) (i := j) hlt
  rw [cells_edge he] at hcell
  have hld : aLoad Try.prog σ2 53 (.pointer (some ⟨pb, j * 2, none⟩)) = some (vArc e) := by
    exact load53 (by rw [e2.cells (a := ⟨pb, j * 2, none⟩) hpb]; exact hcell)
  rw [hpe] at h7
  repeat apply W_assoc
  apply W_reg
  · intro callf
    simp +decide only [aOps, aWanted, ↓bite_eq, ↓reduceIte, aStep_eq, aStepOld, aOp, opIndexAddr, opLoad, opStore, aev, ann, unn, aPut, rget_rput, Nat.zero_add, h7, h9, idx51 hlt, hld, alloc53, store53]
    rfl
  have AY := declE_at σ2 e
  have ed := declE_ext σ2 e
  have hO := hO.ext ed
  generalize hab : σ2.next = ab at AY
  generalize declE σ2 e = σ3 at AY ed hO
  have e3 := e2.trans ed
  obtain ⟨hlen, b0, off0, rv, rfl, -, hrl2, hrv⟩ := rowOf hr hrow
  obtain ⟨rb, rc, rfl, -⟩ := id hrv
  have hi : e.1.toNat < L.length := (List.getElem?_eq_some_iff.1 hrow).1
  have ix1 : aIndexAddr Try.prog 28 (.slice (some ⟨b0, off0, none⟩) L.length cap) (.int .i64 e.1) = some (.pointer (some ⟨b0, off0 + e.1.toNat * 1, none⟩)) := by
    have := idx28 (b := b0) (off := off0) (cap := cap) hi
    rw [show ((e.1.toNat : Nat) : Int) = e.1 by omega] at this; exact this
  obtain ⟨y, hy⟩ : ∃ y, row[e.2.toNat]? = some y := ⟨row[e.2.toNat], by simp [he3]⟩
  obtain ⟨-, rb1, roff, rfl, -, hat⟩ := arcOf hrv hy
  have ix2 : aIndexAddr Try.prog 22 (.slice (some ⟨rb1, roff, none⟩) row.length rc) (.int .i64 e.2) = some (.pointer (some ⟨rb1, roff + e.2.toNat * 2, none⟩)) := by
    have := idx22 (b := rb1) (off := roff) (cap := rc) he3
    rw [show ((e.2.toNat : Nat) : Int) = e.2 by omega] at this; exact this
  have BQ := (hB.ext e3).ext (Ext.reset σ3)
  have AQ := AY.ext (Ext.reset σ3)
  have eQ := e3.trans (Ext.reset σ3)
  refine W_tail ?_
  repeat apply W_assoc
  refine W_drw [] [] (by kernel_rfl) (by kernel_rfl) ?_
  apply Lg_pre 11
  · intro callf
    simp +decide only [List.take, aQ, memb, List.any_nil, Bool.true_or, Bool.and_true, reset_merge, reset_reset, reset_next, reset_low, merge_next, merge_idem, ble_self, aWanted, ↓bite_eq, ↓reduceIte, aStep_eq, aStepOld, aOp, opIndexAddr, opFieldAddr, opLoad, aev, ann, aPut, rget_rput, Nat.zero_add, Bool.not_false, h1, h4, fldL, BQ.out, fldE0, fldE1, AQ.from_, AQ.index, ix1, ix2, hrl2 _ eQ, (hat _ eQ).1]
    rfl
  dsimp only [List.drop, List.take, List.length]
  have hO : OutN σ (σ3.merge σ3.reset) ov ((l.take j).map (arcAt L)) := hO
  have e4 : Ext σ3 (σ3.merge σ3.reset) := (Ext.refl _).merge
  generalize σ3.merge σ3.reset = σ4 at e4 hO
  have e5 := e3.trans e4
  apply Lg_pre 1
  · intro callf
    simp +decide only [List.take, aQ, memb, List.any_nil, Bool.true_or, Bool.and_true, reset_next, reset_low, new_low, ble_self, aWanted, ↓bite_eq, ↓reduceIte, aStep_eq, aStepOld, aOp, opBuildSlice, aev, aparts, aPut, rget_rput, Nat.zero_add, Bool.not_false, slice22]
    rfl
  dsimp only [List.drop, List.take, List.length]
  have e6 : Ext σ4 (σ4.merge (σ4.reset.new ⟨1, 27, 0, [.int .i64 y.1, .int .i64 y.2], []⟩)) := Ext.merge (Ext.new _ _)
  have hBk : (σ4.merge (σ4.reset.new ⟨1, 27, 0, [.int .i64 y.1, .int .i64 y.2], []⟩)).get σ4.next = ⟨1, 27, 0, [.int .i64 y.1, .int .i64 y.2], []⟩ := by
    rw [get_merge]
    exact (AS.get_new σ4.reset _ σ4.reset.next).trans (if_pos rfl)
  have hO := hO.ext e6
  generalize hn5 : σ4.next = n5 at hBk
  generalize σ4.merge (σ4.reset.new ⟨1, 27, 0, [.int .i64 y.1, .int .i64 y.2], []⟩) = σ5 at e6 hBk hO
  have e7 := e5.trans e6
  obtain ⟨o2, σ6, ha2, O2, eE, eL, eG⟩ := (hO.ext (Ext.reset σ5)).append (x := .slice (some ⟨n5, 0, none⟩) 1 1) (k := [y]) (X := []) (Src.of (.inr (.inr ⟨n5, 0, 1, rfl, cells_at (σ := σ5.reset) hBk rfl (Nat.le_refl _)⟩))) (by simp) (by simp; omega) (ExtX.of (e7.trans (Ext.reset σ5)))
  refine Lg_op (v := o2) (s1 := σ6) (by intro callf; simp +decide only [↓reduceIte, aStep_eq, aStepOld, aOp, opCall, aev, aevs, rget_rput, aBuiltin, ha2]) (by decide) (by kernel_rfl) ?_
  have eF : Ext σ σ6 := ⟨eE.nxt, fun i hi => eE.get i hi (by simp), fun m h1 h2 => eE.low m h1 h2 (by simp)⟩
  have eM := ext_merge (σ := σ5) e7 eF
  have O3 : OutN σ (σ5.merge σ6) o2 ((l.take j).map (arcAt L) ++ [y]) := O2
  generalize σ5.merge σ6 = σ7 at eM O3
  apply Lg_all
  · intro callf
    simp +decide only [aQ, memb, List.any_nil, Bool.true_or, Bool.and_true, reset_low, ble_self, aWanted, ↓bite_eq, ↓reduceIte, aStep_eq, aStepOld, aOp, aev, ann, aPut, rget_rput, Nat.zero_add, Bool.not_false]
    rfl
  have O3 : OutN σ (σ7.merge σ7.reset) o2 ((l.take j).map (arcAt L) ++ [y]) := O3
  have e8 : Ext σ7 (σ7.merge σ7.reset) := (Ext.refl _).merge
  generalize σ7.merge σ7.reset = σ8 at e8 O3
  have hy2 : arcAt L e = y := by
    have := arcAt_of (L := L) hrow hy
    rw [show ((e.1.toNat : Nat) : Int) = e.1 by omega, show ((e.2.toNat : Nat) : Int) = e.2 by omega] at this
    exact this
  have hstep : (l.take j).map (arcAt L) ++ [y] = (l.take (j + 1)).map (arcAt L) := by
    rw [List.take_add_one, he, List.map_append, ← hy2]; rfl
  rw [hstep] at O3
  refine W_skip ⟨fun _ => ?_, fun h => absurd rfl h⟩
  refine W_tail ?_
  have w1 : IntKind.i64.wrap ((j : Int) + 1) = ((j + 1 : Nat) : Int) := by rw [wrap64_id _ (by omega) (by omega)]; omega
  repeat apply W_assoc
  apply W_reg
  · intro callf
    simp +decide only [aOps, aWanted, ↓bite_eq, ↓reduceIte, aStep_eq, aStepOld, aOp, opBin, aev, ann, aPut, rget_rput, h9, w1, aBin, aInts, aInt_eq]
    rfl
  refine W_skip ⟨fun _ => ⟨j + 1, ?_, ?_⟩, fun h => (nomatch h), fun h => absurd rfl h⟩
  · omega
  · refine ⟨by omega, eM.trans e8, ?_, ?_, ?_, ?_, o2, ?_, O3⟩ <;> simp +decide only [rget_rput, if_true, if_false, h1, h7, h8, hpe]

end Go.Proofs.Ytbknckiapcafdaa.Nest

/- The program's Find (function 7). -/
set_option linter.unusedSimpArgs false
set_option linter.unusedVariables false
namespace Go.Proofs.Ytbknckiapcafdaa.Nest
open Abs Abs2

theorem Stk.sv {lo k : Nat} {σ : AS} {v : Value} {cs : List Value} (h : Stk lo 53 2 σ v k cs) {n : Nat} (hn : σ.next ≤ n) : (vsc n 9 v && veq 9 v v) = true := by
  obtain ⟨_, _, ⟨rfl, _⟩ | ⟨b, m, vals, rfl, _, _, hb, _⟩⟩ := h
  · exact sv_nil
  · exact sv_slice (by omega)

theorem valid_asc {L : Lts} (h : validB L = true) : ∀ row ∈ L, asc row = true := by
  unfold validB at h
  rw [Bool.and_eq_true] at h
  exact List.all_eq_true.1 h.2
theorem loose_ev {L : Lts} (h : looseB L = true) : ∀ row ∈ L, ∀ a ∈ row, 0 ≤ a.1 := fun row hr a ha => by
  unfold looseB at h
  simp only [Bool.and_eq_true] at h
  have h1 := List.all_eq_true.1 (List.all_eq_true.1 h.2 row hr) a ha
  unfold okA at h1
  simp only [Bool.and_eq_true, decide_eq_true_eq] at h1
  exact h1.1.1.1

theorem rs_last {σ σ' : AS} {v : Value} {l m : List Arc} (h : RS 2 RArc σ v l) (e : Ext σ σ') (hl : l = m) : RS 2 RArc σ' v m := by
  subst hl; exact h.ext RArc.keeps e

set_option maxHeartbeats 16000000 in
theorem find_prog {σ : AS} {s : Value} {L : Lts} (hs : RS 1 RRow σ s L) (hz : Small L) (hN : L.length ≤ 400) : C Try.prog Kn 0 7 [.agg #[s]] σ fun v σ' =>
    (∃ pv qv, v = .tuple #[pv, qv, .bool (findF L).2.2.1, .int .i64 (findF L).2.2.2] ∧ RS 2 RArc σ' pv (findF L).1 ∧ RS 2 RArc σ' qv (findF L).2.1 ∧ (findF L).1.length ≤ 2000 ∧ (findF L).2.1.length ≤ 1001) ∧ Ext σ σ' := by
  obtain ⟨sb, sc, rfl, -⟩ := id hs
  refine C_of (kn (by decide)) Try.func7 rfl (Nat.le_of_ble_eq_true rfl) ?_
  show W _ _ _ 33 _ _ _ _
  unfold Try.f7
  dsimp only
  have AT := LtsAt.new hs
  have e0 := Ext.new σ ⟨1, 30, 0, (Value.agg #[.slice sb L.length sc]).cells.toList, []⟩
  repeat apply W_assoc
  apply W_reg
  · intro callf
    simp +decide only [aOps, rinit, aWanted, ↓bite_eq, ↓reduceIte, aStep_eq, aStepOld, aOp, opBox, aRow, aev, ann, aPut, rget_rput]
    rfl
  generalize hb1 : σ.next = b1 at AT
  generalize σ.new ⟨1, 30, 0, (Value.agg #[.slice sb L.length sc]).cells.toList, []⟩ = σ1 at AT e0
  repeat apply W_assoc
  apply W_regL
  apply Ls_pre 1
  · intro callf
    simp +decide only [List.take, aOps, aWanted, ↓bite_eq, ↓reduceIte, aStep_eq, aStepOld, aOp, opLoad, aev, ann, aPut, rget_rput, AT.load]
    rfl
  dsimp only [List.drop]
  refine Ls_fn (vs := [.agg #[.slice sb L.length sc]]) (by simp +decide only [aevs, aev, rget_rput, if_true, if_false]) (by decide) (C.mono (valid_prog AT.rd hz) ?_)
  rintro v σ' ⟨rfl, e1⟩
  apply Ls_all
  · intro callf
    simp +decide only [aOps, aWanted, ↓bite_eq, ↓reduceIte, aStep_eq, aStepOld, aOp, opUn, aev, ann, aPut, rget_rput, flat, flat1, not_b]
    rfl
  have AT := AT.ext e1
  have e0 := e0.trans e1
  generalize σ' = σ2 at AT e0
  cases hv : validB L with
  | false =>
    repeat apply W_assoc
    refine W_if (b := true) ?_ ?_ ?_
    · simp +decide only [aev, rget_rput, Bool.not_false, if_true, if_false]
    rotate_left
    · intro h; cases h
    intro _
    repeat apply W_assoc
    apply W_reg
    · intro callf
      simp +decide only [aOps, aWanted, ↓bite_eq, ↓reduceIte, aStep_eq, aStepOld, aOp, aev, ann, aPut, Bool.not_false]
      rfl
    refine W_retq ⟨Nat.le_refl _, [.slice none 0 0, .slice none 0 0, .bool false, .int .i64 1], ?_, ?_, e0⟩
    simp +decide only [aResults, rget_rput, if_true, if_false]
    have hf : findF L = ([], [], false, 1) := by unfold findF; rw [if_neg (by rw [hv]; decide)]
    rw [hf]
    exact ⟨_, _, rfl, ⟨none, 0, rfl, fun h => absurd rfl h⟩, ⟨none, 0, rfl, fun h => absurd rfl h⟩, Nat.zero_le _, Nat.zero_le _⟩
  | true =>
    repeat apply W_assoc
    refine W_if (b := false) ?_ ?_ ?_
    · simp +decide only [aev, rget_rput, Bool.not_true, if_true, if_false]
    · intro h; cases h
    intro _
    apply W_skipq
    have hlo := valid_loose hv
    have hpos := loose_pos hlo
    have hw := loose_wf hlo hz
    have hasc := valid_asc hv
    have hev := loose_ev hlo
    have BX : BoxAt σ2 b1 (.slice sb L.length sc) := ⟨AT.lt, AT.get⟩
    repeat apply W_assoc
    apply W_regL
    apply Ls_pre 4
    · intro callf
      simp +decide only [List.take, aOps, aWanted, ↓bite_eq, ↓reduceIte, aStep_eq, aStepOld, aOp, opCall, opFieldAddr, opLoad, aev, aevs, ann, aPut, rget_rput, aBuiltin, aLen, List.getElem?_toArray, List.getElem?_cons_zero, Bool.not_true, opFunc, fldL, AT.out, Try.underlying28, goInt]
      rfl
    dsimp only [List.drop]
    refine Ls_fn (vs := [(.func (.func 25) #[] #[.pointer (some ⟨b1, 0, none⟩)]), .int .i64 (L.length : Int)]) (by simp +decide only [aevs, aev, rget_rput, if_true, if_false]) (by decide) (C.mono (newSearch_c (σ := σ2) (b1 := b1) (N := L.length)) ?_)
    rintro v σ' ⟨xb, d, rfl, R3, hnil⟩
    apply Ls_all
    · intro callf
      simp +decide only [aOps, aWanted, ↓bite_eq, ↓reduceIte, aStep_eq, aStepOld, aOp, aev, ann, aPut, rget_rput]
      rfl
    generalize σ' = σ3 at R3
    have CC := @out_c σ2 xb b1 sc sb L AT.rd BX hw hN hasc hev L.length σ3 (initS L.length) 0 ⟨d, [], [], R3, hnil, rfl, rfl, fun e he => (nomatch he)⟩ hpos rfl rfl (by simp [initS]; exact Nat.le_trans (cnt_le _) (by simp)) (by simp [initS, hpos]) (by show 0 + L.length ≤ 900; omega)
    have hop := outerF_spec L hN L.length (initS L.length) 0 rfl (by show 0 + L.length ≤ 1000; omega)
    generalize hy : outerF L L.length (initS L.length) 0 = y at CC hop
    repeat apply W_assoc
    apply W_regL
    apply Ls_pre 1
    · intro callf
      simp +decide only [List.take, aOps, aWanted, ↓bite_eq, ↓reduceIte, aStep_eq, aStepOld, aOp, aev, ann, aPut, rget_rput]
      rfl
    dsimp only [List.drop]
    refine Ls_fn (vs := [.pointer (some ⟨xb, 0, none⟩), .int .i64 0]) (by simp +decide only [aevs, aev, rget_rput, if_true, if_false]) (by decide) (C.mono (CC) ?_)
    rintro v σ' ⟨rfl, hno, hyes⟩
    apply Ls_all
    · intro callf
      simp +decide only [aOps, aWanted, ↓bite_eq, ↓reduceIte, aStep_eq, aStepOld, aOp, aev, ann, aPut, rget_rput]
      rfl
    generalize σ' = σ4 at hno hyes
    have key : ∃ d z c, PMid σ2 σ4 xb L.length (.func (.func 25) #[] #[.pointer (some ⟨b1, 0, none⟩)]) c z d d ∧ z.stem.map (arcAt L) = (findF L).1 ∧ z.loop.map (arcAt L) = (findF L).2.1 ∧ (∀ e ∈ z.stem ++ z.loop, EOk L e) ∧ (findF L).1.length ≤ 2000 ∧ (findF L).2.1.length ≤ 1001 ∧ (findF L).2.2.1 = y.found ∧ (findF L).2.2.2 = 0 := by
      cases hyf : y.found with
      | false =>
        obtain ⟨d4, ei, ep, R4, hn4, -⟩ := hno hyf
        have hf : findF L = ([], [], false, 0) := by unfold findF; rw [if_pos hv, hy, if_neg (by rw [hyf]; decide)]
        rw [hf]
        exact ⟨d4, _, _, R4, rfl, rfl, fun e he => (nomatch he), Nat.zero_le _, Nat.zero_le _, rfl, rfl⟩
      | true =>
        obtain ⟨d4, z, c, R4, h1, h2, h3⟩ := hyes hyf
        have hf : findF L = (y.stem, y.loop, true, 0) := by unfold findF; rw [if_pos hv, hy, if_pos hyf]
        rw [hf]
        exact ⟨d4, z, c, R4, h1, h2, h3, (hop.yes hyf).1, (hop.yes hyf).2, rfl, rfl⟩
    obtain ⟨d4, z, c, R4, hz1, hz2, hz3, hl1, hl2, hfd, he0⟩ := key
    rw [← hfd]
    clear hno hyes R3
    repeat apply W_assoc
    apply W_reg
    · intro callf
      simp +decide only [aOps, aWanted, ↓bite_eq, ↓reduceIte, aStep_eq, aStepOld, aOp, aev, aevs, ann, aPut, rget_rput, opFunc]
      rfl
    have hzs : z.stem.length ≤ 10000 := by have := congrArg List.length hz1; rw [List.length_map] at this; omega
    have hzl : z.loop.length ≤ 10000 := by have := congrArg List.length hz2; rw [List.length_map] at this; omega
    have RQ := R4.ext (Ext.reset σ4)
    repeat apply W_assoc
    refine W_drw [10] [xb] (by kernel_rfl) (by kernel_rfl) ?_
    apply Lg_pre 5
    · intro callf
      simp +decide only [List.take, aQ, memb, List.any_nil, List.any_cons, Bool.or_false, Bool.true_and, reset_merge, reset_reset, reset_next, reset_low, merge_next, merge_idem, ble_self, aWanted, ↓bite_eq, ↓reduceIte, aStep_eq, aStepOld, aOp, opFieldAddr, opLoad, aev, ann, aPut, rget_rput, Nat.zero_add, opNil, fld58_8, RQ.ld8]
      rfl
    dsimp only [List.drop, List.take, List.length]
    have e5 : Ext σ4 (σ4.merge σ4.reset) := (Ext.refl _).merge
    generalize σ4.merge σ4.reset = σ5 at e5
    have R5 := R4.ext e5
    have R5Q := R5.ext (Ext.reset σ5)
    refine Lg_call (first := #[]) (captured := #[.pointer (some ⟨b1, 0, none⟩)]) (fid := 27) (vs := [d4.sv]) (by simp +decide only [aev, rget_rput, if_true, if_false]) (by simp +decide only [aevs, aev, rget_rput, if_true, if_false]) (by decide) rfl (C.mono (edges_c (BX.ext R5Q.c.ext) (AT.rd.ext RRow.keeps R5Q.c.ext) hw R5Q.c.stem hzs (fun e he => hz3 e (List.mem_append.2 (.inl he)))) ?_)
    rintro v s1 ⟨⟨RS1, -⟩, eC⟩
    refine ⟨.inl eC.quiet, ?_⟩
    have e6 := eC.merge
    have RS1 : RS 2 RArc (σ5.merge s1) v (z.stem.map (arcAt L)) := RS1
    generalize σ5.merge s1 = σ6 at e6 RS1
    have R6 := R5.ext e6
    apply Lg_pre 4
    · intro callf
      simp +decide only [List.take, aQ, memb, List.any_nil, List.any_cons, Bool.or_false, Bool.true_and, reset_merge, reset_reset, reset_next, reset_low, merge_next, merge_idem, ble_self, aWanted, ↓bite_eq, ↓reduceIte, aStep_eq, aStepOld, aOp, opFieldAddr, aev, ann, aPut, rget_rput, Nat.zero_add, opNil, fld58_9]
      rfl
    dsimp only [List.drop, List.take, List.length]
    have e7 : Ext σ6 (σ6.merge σ6.reset) := (Ext.refl _).merge
    generalize σ6.merge σ6.reset = σ7 at e7
    have R7 := R6.ext e7
    refine Lg_load (b := xb) (off := 9) (v := d4.lv) (by simp +decide only [aev, rget_rput, if_true, if_false]) (R7.ext (Ext.reset σ7)).ld9 (R7.c.loop.sv (Nat.le_refl _)) R7.c.lt (by simp [memb]) (by decide) ?_
    have e8 : Ext σ7 (σ7.merge σ7.reset) := (Ext.refl _).merge
    generalize σ7.merge σ7.reset = σ8 at e8
    have R8 := R7.ext e8
    have R8Q := R8.ext (Ext.reset σ8)
    refine Lg_call (first := #[]) (captured := #[.pointer (some ⟨b1, 0, none⟩)]) (fid := 27) (vs := [d4.lv]) (by simp +decide only [aev, rget_rput, if_true, if_false]) (by simp +decide only [aevs, aev, rget_rput, if_true, if_false]) (by decide) rfl (C.mono (edges_c (BX.ext R8Q.c.ext) (AT.rd.ext RRow.keeps R8Q.c.ext) hw R8Q.c.loop hzl (fun e he => hz3 e (List.mem_append.2 (.inr he)))) ?_)
    rintro v2 s1 ⟨⟨RS2, -⟩, eC⟩
    refine ⟨.inl eC.quiet, ?_⟩
    have e9 := eC.merge
    have RS2 : RS 2 RArc (σ8.merge s1) v2 (z.loop.map (arcAt L)) := RS2
    generalize σ8.merge s1 = σ9 at e9 RS2
    have R9 := R8.ext e9
    apply Lg_all
    · intro callf
      simp +decide only [aQ, memb, List.any_nil, List.any_cons, Bool.or_false, Bool.true_and, reset_merge, reset_reset, reset_next, reset_low, merge_next, merge_idem, ble_self, aWanted, ↓bite_eq, ↓reduceIte, aStep_eq, aStepOld, aOp, aev, ann, aPut, rget_rput, Nat.zero_add]
      rfl
    have e10 : Ext σ9 (σ9.merge σ9.reset) := (Ext.refl _).merge
    generalize σ9.merge σ9.reset = σ10 at e10
    refine W_ret ⟨Nat.le_refl _, [v, v2, .bool (findF L).2.2.1, .int .i64 0], ?_, ⟨v, v2, by rw [he0]; rfl, rs_last RS1 (((e7.trans e8).trans e9).trans e10) hz1, rs_last RS2 e10 hz2, hl1, hl2⟩, e0.trans (R9.ext e10).c.ext⟩
    simp +decide only [aResults, rget_rput, if_true, if_false]

end Go.Proofs.Ytbknckiapcafdaa.Nest
