/- Law 18: the function with a number, as the checker of cores finds it. -/
import Derived.Test.YtacpdefmnijhnaaGreatKnowC
import Derived.Test.YtacpdefmnijhnaaGreatVE
set_option linter.unusedSimpArgs false
set_option linter.unusedVariables false
namespace Go.Proofs.YtacpdefmnijhnaaGreat.U18
open Abs U

theorem cellAt {σ : AS} {b i E z k : Nat} {T : TypeId} {d : TypeDesc} (hd : Tryz.prog.underlying T = some d) (hs : aisAgg d = false) {vals : List Value} {v : Value} {en : List (Value × Value)} (h : σ.get b = ⟨k, E, z, vals, en⟩) (hk : k = 1 ∨ k = 2) (hi : vals[i]? = some v) : aLoad Tryz.prog σ T (.pointer (some ⟨b, i, none⟩)) = some v := by
  obtain ⟨h1, h2⟩ := List.getElem?_eq_some_iff.1 hi
  refine load1 hd hs ?_
  unfold aCells
  simp only [h]
  rw [hasLen_eq, if_pos]
  · rw [List.drop_eq_getElem_cons h1, h2]; rfl
  · simp only [Bool.and_eq_true, Nat.ble_eq]
    exact ⟨by rcases hk with rfl | rfl <;> rfl, by omega⟩
theorem cellsK {σ : AS} {b E z k : Nat} {vals : List Value} {en : List (Value × Value)} (h : σ.get b = ⟨k, E, z, vals, en⟩) (hk : k = 1 ∨ k = 2) {off n : Nat} {cs : List Value} (hc : (vals.drop off).take n = cs) (hn : off + n ≤ vals.length) :
    aCells σ ⟨b, off, none⟩ n = some cs := by
  unfold aCells
  simp only [h]
  rw [hasLen_eq, hc, if_pos]
  simp only [Bool.and_eq_true, Nat.ble_eq]
  exact ⟨by rcases hk with rfl | rfl <;> rfl, hn⟩

theorem loadFn {σ : AS} {b off : Nat} {cs : List Value} (h : aCells σ ⟨b, off, none⟩ 6 = some cs) : aLoad Tryz.prog σ 47 (.pointer (some ⟨b, off, none⟩)) = some (.agg cs.toArray) :=
  loadN Tryz.underlying47 rfl (i := (Tryz.prog.info? 47).get!) (by kernel_rfl) (by rw [show ((Tryz.prog.info? 47).get!).size = 6 by kernel_rfl]; exact h)
theorem idxF {b len cap i : Nat} (h : i < len) : aIndexAddr Tryz.prog 29 (.slice (some ⟨b, 0, none⟩) len cap) (.int .i64 (i : Int)) = some (.pointer (some ⟨b, i * 6, none⟩)) := by
  have := aIndexAddr_slice (off := 0) (cap := cap) (k := .i64) (inf := (Tryz.prog.info? 47).get!) Tryz.underlying29 (by kernel_rfl) (sz := 6) (by kernel_rfl) h (b := b)
  rw [Nat.zero_add] at this
  exact this

def fnZ : List Value := [.string ⟨#[]⟩, .int .i64 0, .bool false, .int .i64 0, .int .i64 0, .slice none 0 0]
theorem allocFn {σ : AS} : opAlloc Tryz.prog σ 47 = some (.pointer (some ⟨σ.next, 0, none⟩), σ.new ⟨1, 47, 0, fnZ, []⟩) := by kernel_rfl

/-- The checker's cells. -/
def chkC (p0 p1 p2 p3 p4 : Option Addr) (l0 l1 l2 l3 l4 c0 c1 c2 c3 c4 : Nat) : List Value := [.slice p0 l0 c0, .slice p1 l1 c1, .slice p2 l2 c2, .slice p3 l3 c3, .slice p4 l4 c4]
theorem fldX {b : Nat} : aField Tryz.prog 192 0 (.pointer (some ⟨b, 0, none⟩)) = some (.pointer (some ⟨b, 0, none⟩)) := by kernel_rfl
theorem fldC0 {b : Nat} : aField Tryz.prog 34 0 (.pointer (some ⟨b, 0, none⟩)) = some (.pointer (some ⟨b, 0, none⟩)) := by kernel_rfl
theorem fldC1 {b : Nat} : aField Tryz.prog 34 1 (.pointer (some ⟨b, 0, none⟩)) = some (.pointer (some ⟨b, 1, none⟩)) := by kernel_rfl
theorem storeFn {σ : AS} {b : Nat} {vals : List Value} {s : ByteArray} {a pl pc : Int} {pr : Bool} {q : Option Addr} {l c : Nat} (h : σ.get b = ⟨1, 47, 0, vals, []⟩) (hl : vals.length = 6) :
    aStore Tryz.prog σ 47 (.agg #[.string s, .int .i64 a, .bool pr, .int .i64 pl, .int .i64 pc, .slice q l c]) (.pointer (some ⟨b, 0, none⟩)) = some (σ.put b ⟨1, 47, 0, [.string s, .int .i64 a, .bool pr, .int .i64 pl, .int .i64 pc, .slice q l c], []⟩) := by
  obtain ⟨inf, hi, hs⟩ : ∃ inf, Tryz.prog.info? 47 = some inf ∧ inf.size = 6 := ⟨(Tryz.prog.info? 47).get!, by kernel_rfl, by kernel_rfl⟩
  have hz : Nat.beq (Value.agg #[.string s, .int .i64 a, .bool pr, .int .i64 pl, .int .i64 pc, .slice q l c]).cells.size 6 = true := rfl
  unfold aStore
  simp only [hi, hs, hz, if_true]
  unfold aWrite
  match vals, hl with
  | [_, _, _, _, _, _], _ =>
    simp only [h]
    rfl

set_option maxHeartbeats 64000000 in
theorem function_c {σ : AS} {b len cap j : Nat} {p1 p2 p3 p4 : Option Addr} {l1 l2 l3 l4 c1 c2 c3 c4 : Nat} {s : ByteArray} {a pl pc : Int} {pr : Bool} {q : Option Addr} {l c : Nat} (hj : j < len) (hb : b < σ.next)
    (hc : aCells σ ⟨b, j * 6, none⟩ 6 = some [.string s, .int .i64 a, .bool pr, .int .i64 pl, .int .i64 pc, .slice q l c]) :
    C Tryz.prog KD 0 302 [.agg #[.slice (some ⟨b, 0, none⟩) len cap, .slice p1 l1 c1, .slice p2 l2 c2, .slice p3 l3 c3, .slice p4 l4 c4], .int .i64 (j : Int)] σ fun u s' => u = .tuple #[.agg #[.string s, .int .i64 a, .bool pr, .int .i64 pl, .int .i64 pc, .slice q l c], .bool true] ∧ Ext σ s' := by
  refine C_of (rfl) Tryz.func302 rfl (Nat.le_of_ble_eq_true rfl) ?_
  show W _ _ _ 23 _ _ _ _
  unfold Tryz.f302
  dsimp only
  repeat apply W_assoc
  apply W_regL
  apply Ls_pre 1
  · intro callf
    simp +decide only [List.take, aOps, rinit, aWanted, ↓bite_eq, ↓reduceIte, aStep_eq, aStepOld, aOp, opBox, opBin, opUn, opCall, opIndexAddr, opFieldAddr, opLoad, opStore, opPick, opExtract, opSlice, opBuildSlice, opBuild, aRow, aev, aevs, aparts, ann, unn, aPut, if_true, if_false, rget_rput, flat, flat1, Nat.blt_eq, aBuiltin, aLen, List.getElem?_toArray, List.getElem?_cons_zero, List.getElem?_cons_succ, Nat.zero_add, Option.bind_some, beq_self_eq_true, Bool.not_true, Bool.not_false, Bool.true_beq, Bool.false_beq]
    rfl
  dsimp only [List.drop]
  show Ls _ _ _ _ _ _ _ (σ.new ⟨1, 192, 0, [.slice (some ⟨b, 0, none⟩) len cap, .slice p1 l1 c1, .slice p2 l2 c2, .slice p3 l3 c3, .slice p4 l4 c4], []⟩) _
  have e1 := Ext.new σ ⟨1, 192, 0, [.slice (some ⟨b, 0, none⟩) len cap, .slice p1 l1 c1, .slice p2 l2 c2, .slice p3 l3 c3, .slice p4 l4 c4], []⟩
  have g1 : (σ.new ⟨1, 192, 0, [.slice (some ⟨b, 0, none⟩) len cap, .slice p1 l1 c1, .slice p2 l2 c2, .slice p3 l3 c3, .slice p4 l4 c4], []⟩).get σ.next = ⟨1, 192, 0, [.slice (some ⟨b, 0, none⟩) len cap, .slice p1 l1 c1, .slice p2 l2 c2, .slice p3 l3 c3, .slice p4 l4 c4], []⟩ := by rw [AS.get_new, if_pos rfl]
  have n1 : σ.next + 1 = (σ.new ⟨1, 192, 0, [.slice (some ⟨b, 0, none⟩) len cap, .slice p1 l1 c1, .slice p2 l2 c2, .slice p3 l3 c3, .slice p4 l4 c4], []⟩).next := rfl
  generalize σ.new ⟨1, 192, 0, [.slice (some ⟨b, 0, none⟩) len cap, .slice p1 l1 c1, .slice p2 l2 c2, .slice p3 l3 c3, .slice p4 l4 c4], []⟩ = s1 at e1 g1 n1 ⊢
  apply Ls_all
  · intro callf
    simp +decide only [aOps, rinit, aWanted, ↓bite_eq, ↓reduceIte, aStep_eq, aStepOld, aOp, opBox, opBin, opUn, opCall, opIndexAddr, opFieldAddr, opLoad, opStore, opPick, opExtract, opSlice, opBuildSlice, opBuild, aRow, aev, aevs, aparts, ann, unn, aPut, if_true, if_false, rget_rput, flat, flat1, Nat.blt_eq, aBuiltin, aLen, List.getElem?_toArray, List.getElem?_cons_zero, List.getElem?_cons_succ, Nat.zero_add, Option.bind_some, beq_self_eq_true, Bool.not_true, Bool.not_false, Bool.true_beq, Bool.false_beq, allocFn]
    rfl
  have e2 := Ext.new s1 ⟨1, 47, 0, fnZ, []⟩
  have g2 : (s1.new ⟨1, 47, 0, fnZ, []⟩).get s1.next = ⟨1, 47, 0, fnZ, []⟩ := by rw [AS.get_new, if_pos rfl]
  have g1 := (e2.get σ.next (by omega)).trans g1
  have e12 := e1.trans e2
  generalize s1.new ⟨1, 47, 0, fnZ, []⟩ = s2 at e2 g2 g1 e12 ⊢
  have hd1 : decide ((j : Int) < 0) = false := decide_eq_false (by omega)
  have hd2 : decide ((j : Int) ≥ (len : Int)) = false := decide_eq_false (by omega)
  have ld : aLoad Tryz.prog s2 29 (.pointer (some ⟨σ.next, 0, none⟩)) = some (.slice (some ⟨b, 0, none⟩) len cap) := cellAt Tryz.underlying29 rfl g1 (.inl rfl) rfl
  repeat apply W_assoc
  apply W_reg
  · intro callf
    simp +decide only [aOps, rinit, aWanted, ↓bite_eq, ↓reduceIte, aStep_eq, aStepOld, aOp, opBox, opBin, opUn, opCall, opIndexAddr, opFieldAddr, opLoad, opStore, opPick, opExtract, opSlice, opBuildSlice, opBuild, aRow, aev, aevs, aparts, ann, unn, aPut, if_true, if_false, rget_rput, flat, flat1, Nat.blt_eq, aBuiltin, aLen, List.getElem?_toArray, List.getElem?_cons_zero, List.getElem?_cons_succ, Nat.zero_add, Option.bind_some, beq_self_eq_true, Bool.not_true, Bool.not_false, Bool.true_beq, Bool.false_beq, fldX, fldC0, ld, Tryz.underlying29, goInt, hd1, hd2, aBin, aInts, aInt_eq]
    rfl
  repeat apply W_assoc
  refine W_if (b := false) ?_ ?_ ?_
  · simp +decide only [aevs, aev, aResults, rget_rput, if_true, if_false]
  · intro h; cases h
  intro _
  apply W_skipq
  have hc2 : aCells s2 ⟨b, j * 6, none⟩ 6 = some [.string s, .int .i64 a, .bool pr, .int .i64 pl, .int .i64 pc, .slice q l c] := by
    unfold aCells at hc ⊢
    dsimp only at hc ⊢
    rw [e12.get b hb]
    exact hc
  have ld2 := loadFn hc2
  have ix := idxF (b := b) (cap := cap) hj
  have sto := storeFn (s := s) (a := a) (pl := pl) (pc := pc) (pr := pr) (q := q) (l := l) (c := c) g2 rfl
  repeat apply W_assoc
  apply W_reg
  · intro callf
    simp +decide only [aOps, rinit, aWanted, ↓bite_eq, ↓reduceIte, aStep_eq, aStepOld, aOp, opBox, opBin, opUn, opCall, opIndexAddr, opFieldAddr, opLoad, opStore, opPick, opExtract, opSlice, opBuildSlice, opBuild, aRow, aev, aevs, aparts, ann, unn, aPut, if_true, if_false, rget_rput, flat, flat1, Nat.blt_eq, aBuiltin, aLen, List.getElem?_toArray, List.getElem?_cons_zero, List.getElem?_cons_succ, Nat.zero_add, Option.bind_some, beq_self_eq_true, Bool.not_true, Bool.not_false, Bool.true_beq, Bool.false_beq, fldX, fldC0, ld, ix, ld2, sto]
    rfl
  refine W_ret ⟨Nat.le_refl _, [.agg #[.string s, .int .i64 a, .bool pr, .int .i64 pl, .int .i64 pc, .slice q l c], .bool true], ?_, rfl, ?_⟩
  · have hl : aLoad Tryz.prog (s2.put s1.next ⟨1, 47, 0, [.string s, .int .i64 a, .bool pr, .int .i64 pl, .int .i64 pc, .slice q l c], []⟩) 47 (.pointer (some ⟨s1.next, 0, none⟩)) = some (.agg #[.string s, .int .i64 a, .bool pr, .int .i64 pl, .int .i64 pc, .slice q l c]) :=
      loadFn (cellsK (by rw [AS.get_put, if_pos rfl]) (.inl rfl) rfl (Nat.le_refl _))
    simp +decide only [aevs, aev, aResults, rget_rput, if_true, if_false, hl]
  · exact Ext.put e12 e1.nxt _


end Go.Proofs.YtacpdefmnijhnaaGreat.U18
