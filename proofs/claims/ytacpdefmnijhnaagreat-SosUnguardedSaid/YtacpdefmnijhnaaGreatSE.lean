/- A core is generated: the walk. -/
import Derived.Test.YtacpdefmnijhnaaGreatSD
set_option linter.unusedSimpArgs false
set_option linter.unusedVariables false
namespace Go.Proofs.YtacpdefmnijhnaaGreat.U
open Abs

theorem ExtX.mergeX {X : List Nat} {σ0 σ s : AS} (h : ExtX X σ0 σ) (k : ExtX X σ0 s) : ExtX X σ0 (σ.merge s) := ⟨k.nxt, k.get, fun m g1 g2 g3 => Nat.le_min.2 ⟨h.low m g1 g2 g3, k.low m g1 g2 g3⟩⟩

theorem body3 : BodyC 3 true := by
  have b0 : BodyC 0 false := by
    intro σ tb lv ints hT
    exact body_step 0 (by decide) false (fun _ => rfl) (fun h => by rcases h with h | h; omega; cases h) hT
  have b1 : ∀ g, BodyC 1 g := by
    intro g σ tb lv ints hT
    exact body_step 1 (by decide) g (fun h => by cases h) (fun _ g' hg => by rw [hg (by decide)]; exact @b0) hT
  have b2 : ∀ g, BodyC 2 g := by
    intro g σ tb lv ints hT
    exact body_step 2 (by decide) g (fun h => by cases h) (fun _ g' _ => @b1 g') hT
  intro σ tb lv ints hT
  exact body_step 3 (by decide) true (fun h => by cases h) (fun _ g' _ => @b2 g') hT

theorem dot_c {σ : AS} {i : Nat} {dt : ByteArray} (h : dots[i]? = some (.string dt)) : C Tryz.prog KA 0 29 [.int .i64 (i : Int), .slice none 0 0] σ fun u σ' => u = .string dt ∧ Ext σ σ' := by
  have hi : i < 4 := (List.getElem?_eq_some_iff.1 h).1
  match i, hi with
  | 0, _ => cases h; exact C_known (σ' := σ) (v := .string ⟨#[7, 0, 1, 10, 0, 0]⟩) (by kernel_rfl) ⟨rfl, Ext.refl _⟩
  | 1, _ => cases h; exact C_known (σ' := σ) (v := .string ⟨#[7, 0, 1, 10, 0, 1]⟩) (by kernel_rfl) ⟨rfl, Ext.refl _⟩
  | 2, _ => cases h; exact C_known (σ' := σ) (v := .string ⟨#[7, 0, 1, 10, 0, 2]⟩) (by kernel_rfl) ⟨rfl, Ext.refl _⟩
  | 3, _ => cases h; exact C_known (σ' := σ) (v := .string ⟨#[7, 0, 1, 10, 0, 3]⟩) (by kernel_rfl) ⟨rfl, Ext.refl _⟩

def infoC (v : Value) : List Value := [v, .int .i64 (-1), .slice none 0 0, .slice none 0 0]
def ncsOf (i : Nat) : List Value := ((names.take i).map infoC).flatten
def ecsOf (i : Nat) : List Value := dots.take i
theorem ncs_step {i : Nat} {v : Value} (h : names[i]? = some v) : ncsOf (i + 1) = ncsOf i ++ infoC v := by
  unfold ncsOf
  rw [List.take_add_one, h, List.map_append, List.flatten_append]
  simp
theorem ecs_step {i : Nat} {v : Value} (h : dots[i]? = some v) : ecsOf (i + 1) = ecsOf i ++ [v] := by
  unfold ecsOf
  rw [List.take_add_one, h]
  rfl

theorem loadCo {σ : AS} {b : Nat} {f n e : Value} (h : σ.get b = ⟨1, 34, 0, [f, n, .slice none 0 0, e], []⟩) : aLoad Tryz.prog σ 34 (.pointer (some ⟨b, 0, none⟩)) = some (.agg #[f, n, .slice none 0 0, e]) :=
  loadN Tryz.underlying34 rfl (i := (Tryz.prog.info? 34).get!) (by kernel_rfl) (by rw [show ((Tryz.prog.info? 34).get!).size = 4 by kernel_rfl]; exact cells_at h rfl (Nat.le_refl _))
theorem storeCo {σ : AS} {b : Nat} {f n e : Value} {p q t : Option Addr} {n1 c1 n2 c2 n3 c3 : Nat} (h : σ.get b = ⟨1, 34, 0, [f, n, .slice none 0 0, e], []⟩) :
    aStore Tryz.prog σ 34 (.agg #[.slice p n1 c1, .slice q n2 c2, .slice none 0 0, .slice t n3 c3]) (.pointer (some ⟨b, 0, none⟩)) = some (σ.put b ⟨1, 34, 0, [.slice p n1 c1, .slice q n2 c2, .slice none 0 0, .slice t n3 c3], []⟩) := by
  obtain ⟨inf, hi, hs⟩ : ∃ inf, Tryz.prog.info? 34 = some inf ∧ inf.size = 4 := ⟨(Tryz.prog.info? 34).get!, by kernel_rfl, by kernel_rfl⟩
  have hz : Nat.beq (Value.agg #[.slice p n1 c1, .slice q n2 c2, .slice none 0 0, .slice t n3 c3]).cells.size 4 = true := rfl
  unfold aStore
  simp only [hi, hs, hz, if_true]
  unfold aWrite
  simp only [h]
  rfl

set_option maxHeartbeats 64000000 in
theorem core_c {σ : AS} {tb : Nat} {lv : Value} {ints : List Int} (hT : Tape tb σ lv ints) : C Tryz.prog KA 0 12 [.pointer (some ⟨tb, 0, none⟩), .int .i64 1, .bool true] σ fun u σ' => ∃ fv nv ev pB nB cB, u = .agg #[fv, nv, .slice none 0 0, ev] ∧ ExtX [tb] σ σ' ∧ StkX σ.next 47 6 σ' fv 1 (fcells (.slice pB nB cB)) ∧ StkX σ.next 80 4 σ' nv 4 (ncsOf 4) ∧ StkX σ.next 25 1 σ' ev 4 (ecsOf 4) := by
  refine C_of (ka rfl rfl) Tryz.func12 rfl (Nat.le_of_ble_eq_true rfl) ?_
  show W _ _ _ 51 _ _ _ _
  unfold Tryz.f12
  dsimp only
  repeat apply W_assoc
  apply W_reg
  · intro callf
    simp +decide only [aOps, rinit, aWanted, ↓bite_eq, ↓reduceIte, aStep_eq, aStepOld, aOp, opBox, opBin, opUn, opCall, opIndexAddr, opFieldAddr, opLoad, opStore, opPick, opExtract, opSlice, opBuildSlice, opBuild, aRow, aev, aevs, aparts, ann, unn, aPut, if_true, if_false, rget_rput, flat, flat1, Nat.blt_eq, aBuiltin, aLen, List.getElem?_toArray, List.getElem?_cons_zero, List.getElem?_cons_succ, Nat.zero_add, Option.bind_some, beq_self_eq_true, Bool.not_true, Bool.not_false, Bool.true_beq, Bool.false_beq, allocK]
    rfl
  have e1 := Ext.new σ ⟨1, 34, 0, [.slice none 0 0, .slice none 0 0, .slice none 0 0, .slice none 0 0], []⟩
  have gO : (σ.new ⟨1, 34, 0, [.slice none 0 0, .slice none 0 0, .slice none 0 0, .slice none 0 0], []⟩).get σ.next = ⟨1, 34, 0, [.slice none 0 0, .slice none 0 0, .slice none 0 0, .slice none 0 0], []⟩ := by rw [AS.get_new, if_pos rfl]
  have nO : σ.next < (σ.new ⟨1, 34, 0, [.slice none 0 0, .slice none 0 0, .slice none 0 0, .slice none 0 0], []⟩).next := Nat.lt_succ_self _
  generalize σ.new ⟨1, 34, 0, [.slice none 0 0, .slice none 0 0, .slice none 0 0, .slice none 0 0], []⟩ = s1 at e1 gO nO
  repeat apply W_assoc
  apply W_reg
  · intro callf
    simp +decide only [aOps, rinit, aWanted, ↓bite_eq, ↓reduceIte, aStep_eq, aStepOld, aOp, opBox, opBin, opUn, opCall, opIndexAddr, opFieldAddr, opLoad, opStore, opPick, opExtract, opSlice, opBuildSlice, opBuild, aRow, aev, aevs, aparts, ann, unn, aPut, if_true, if_false, rget_rput, flat, flat1, Nat.blt_eq, aBuiltin, aLen, List.getElem?_toArray, List.getElem?_cons_zero, List.getElem?_cons_succ, Nat.zero_add, Option.bind_some, beq_self_eq_true, Bool.not_true, Bool.not_false, Bool.true_beq, Bool.false_beq, allocK]
    rfl
  have e2 := Ext.new s1 ⟨1, 34, 0, [.slice none 0 0, .slice none 0 0, .slice none 0 0, .slice none 0 0], []⟩
  have gK : (s1.new ⟨1, 34, 0, [.slice none 0 0, .slice none 0 0, .slice none 0 0, .slice none 0 0], []⟩).get s1.next = ⟨1, 34, 0, [.slice none 0 0, .slice none 0 0, .slice none 0 0, .slice none 0 0], []⟩ := by rw [AS.get_new, if_pos rfl]
  have nK : s1.next < (s1.new ⟨1, 34, 0, [.slice none 0 0, .slice none 0 0, .slice none 0 0, .slice none 0 0], []⟩).next := Nat.lt_succ_self _
  have gO := (e2.get _ nO).trans gO
  have e12 := e1.trans e2
  generalize s1.new ⟨1, 34, 0, [.slice none 0 0, .slice none 0 0, .slice none 0 0, .slice none 0 0], []⟩ = s2 at e2 e12 gO gK nK
  repeat apply W_assoc
  apply W_reg
  · intro callf
    simp +decide only [aOps, rinit, aWanted, ↓bite_eq, ↓reduceIte, aStep_eq, aStepOld, aOp, opBox, opBin, opUn, opCall, opIndexAddr, opFieldAddr, opLoad, opStore, opPick, opExtract, opSlice, opBuildSlice, opBuild, aRow, aev, aevs, aparts, ann, unn, aPut, if_true, if_false, rget_rput, flat, flat1, Nat.blt_eq, aBuiltin, aLen, List.getElem?_toArray, List.getElem?_cons_zero, List.getElem?_cons_succ, Nat.zero_add, Option.bind_some, beq_self_eq_true, Bool.not_true, Bool.not_false, Bool.true_beq, Bool.false_beq, sliceS4]
    rfl
  have e3 := Ext.new s2 ⟨1, 9, 0, names, []⟩
  have gN : (s2.new ⟨1, 9, 0, names, []⟩).get s2.next = ⟨1, 9, 0, names, []⟩ := by rw [AS.get_new, if_pos rfl]
  have nN : s2.next < (s2.new ⟨1, 9, 0, names, []⟩).next := Nat.lt_succ_self _
  have gO := (e3.get _ (Nat.lt_of_lt_of_le nO e2.nxt)).trans gO
  have gK := (e3.get _ nK).trans gK
  have e13 := e12.trans e3
  have x1 := e1.nxt
  have x2 := e2.nxt
  have x3 := e3.nxt
  have ht := hT.lt
  have gW : ∃ pos : Nat, (s2.new ⟨1, 9, 0, names, []⟩).get tb = ⟨1, 77, 0, [lv, .int .i64 (pos : Int)], []⟩ := by
    obtain ⟨p, hp⟩ := hT.own
    exact ⟨p, (e13.get tb ht).trans hp⟩
  have G : Co σ tb s1.next σ.next s2.next lv ints (s2.new ⟨1, 9, 0, names, []⟩) (.slice none 0 0) (.slice none 0 0) (.slice none 0 0) [] (ncsOf 0) (ecsOf 0) 0 0 0 := { tape0 := hT, own := gW, ext := ExtX.of e13, box := gK, res := gO, str := gN, fs := ⟨rfl, rfl, .inl ⟨rfl, rfl⟩⟩, ns := ⟨rfl, rfl, .inl ⟨rfl, rfl⟩⟩, es := ⟨rfl, rfl, .inl ⟨rfl, rfl⟩⟩, bkl := by omega, bol := by omega, bnl := by omega, ne1 := by omega, ne2 := by omega }
  clear e1 e2 e3 e12 e13 gO gK gN gW
  generalize hbo : σ.next = bo at G
  generalize hbk : s1.next = bk at G
  generalize hbn : s2.next = bn at G
  generalize s2.new ⟨1, 9, 0, names, []⟩ = s3 at G
  repeat apply W_assoc
  apply W_reg
  · intro callf
    simp +decide only [aOps, rinit, aWanted, ↓bite_eq, ↓reduceIte, aStep_eq, aStepOld, aOp, opBox, opBin, opUn, opCall, opIndexAddr, opFieldAddr, opLoad, opStore, opPick, opExtract, opSlice, opBuildSlice, opBuild, aRow, aev, aevs, aparts, ann, unn, aPut, if_true, if_false, rget_rput, flat, flat1, Nat.blt_eq, aBuiltin, aLen, List.getElem?_toArray, List.getElem?_cons_zero, List.getElem?_cons_succ, Nat.zero_add, Option.bind_some, beq_self_eq_true, Bool.not_true, Bool.not_false, Bool.true_beq, Bool.false_beq]
    rfl
  repeat apply W_assoc
  refine W_for (fun (x : Nat × Value × Value) r s => x.1 ≤ 4 ∧ Co σ tb bk bo bn lv ints s (.slice none 0 0) x.2.1 x.2.2 [] (ncsOf x.1) (ecsOf x.1) 0 x.1 x.1 ∧ rget r 0 = .pointer (some ⟨tb, 0, none⟩) ∧ rget r 1 = .int .i64 1 ∧ rget r 2 = .bool true ∧ rget r 6 = .pointer (some ⟨bo, 0, none⟩) ∧ rget r 7 = .pointer (some ⟨bk, 0, none⟩) ∧ rget r 8 = .slice (some ⟨bn, 0, none⟩) 4 4 ∧ rget r 9 = .int .i64 (x.1 : Int)) (fun x => 4 - x.1) ?_ (0, .slice none 0 0, .slice none 0 0) ?_
  rotate_left
  · refine ⟨Nat.zero_le _, G, ?_, ?_, ?_, ?_, ?_, ?_, ?_⟩ <;> simp +decide only [rget_rput, rinit, if_true, if_false, goInt, hbo, hbk, hbn] <;> first | exact True.intro | rfl
  clear G nO nK nN x1 x2 x3
  rintro ⟨i, nv, ev⟩ r s ⟨hi, G, h0, h1, h2, h6, h7, h8, h9⟩
  dsimp only at hi G h9
  by_cases hlt : i < 4
  rotate_left
  · have d1 : decide ((i : Int) < ((4 : Nat) : Int)) = false := decide_eq_false (by omega)
    obtain rfl : i = 4 := by omega
    repeat apply W_assoc
    apply W_reg
    · intro callf
      simp +decide only [aOps, rinit, aWanted, ↓bite_eq, ↓reduceIte, aStep_eq, aStepOld, aOp, opBox, opBin, opUn, opCall, opIndexAddr, opFieldAddr, opLoad, opStore, opPick, opExtract, opSlice, opBuildSlice, opBuild, aRow, aev, aevs, aparts, ann, unn, aPut, if_true, if_false, rget_rput, flat, flat1, Nat.blt_eq, aBuiltin, aLen, List.getElem?_toArray, List.getElem?_cons_zero, List.getElem?_cons_succ, Nat.zero_add, Option.bind_some, beq_self_eq_true, Bool.not_true, Bool.not_false, Bool.true_beq, Bool.false_beq, h8, h9, Tryz.underlying78, goInt, lssI, d1]
      rfl
    repeat apply W_assoc
    refine W_if (b := false) ?_ ?_ ?_
    · simp +decide only [aevs, aev, aResults, rget_rput, if_true, if_false, decide_true, decide_false, d1]
    · intro h; cases h
    intro _
    refine W_exitq ⟨fun h => (nomatch h), fun _ => ?_, fun h1 h2 => absurd rfl h2⟩
    repeat apply W_assoc
    apply W_reg
    · intro callf
      simp +decide only [aOps, rinit, aWanted, ↓bite_eq, ↓reduceIte, aStep_eq, aStepOld, aOp, opBox, opBin, opUn, opCall, opIndexAddr, opFieldAddr, opLoad, opStore, opPick, opExtract, opSlice, opBuildSlice, opBuild, aRow, aev, aevs, aparts, ann, unn, aPut, if_true, if_false, rget_rput, flat, flat1, Nat.blt_eq, aBuiltin, aLen, List.getElem?_toArray, List.getElem?_cons_zero, List.getElem?_cons_succ, Nat.zero_add, Option.bind_some, beq_self_eq_true, Bool.not_true, Bool.not_false, Bool.true_beq, Bool.false_beq]
      rfl
    repeat apply W_assoc
    refine W_for (fun (x : Nat × Value × List Value) r s => x.1 ≤ 1 ∧ Co σ tb bk bo bn lv ints s x.2.1 nv ev x.2.2 (ncsOf 4) (ecsOf 4) x.1 4 4 ∧ (x.1 = 1 → ∃ p n c, x.2.2 = fcells (.slice p n c)) ∧ rget r 0 = .pointer (some ⟨tb, 0, none⟩) ∧ rget r 1 = .int .i64 1 ∧ rget r 2 = .bool true ∧ rget r 6 = .pointer (some ⟨bo, 0, none⟩) ∧ rget r 7 = .pointer (some ⟨bk, 0, none⟩) ∧ rget r 10 = .int .i64 (x.1 : Int)) (fun x => 1 - x.1) ?_ (0, .slice none 0 0, []) ?_
    rotate_left
    · refine ⟨Nat.zero_le _, G, (fun h => by cases h), ?_, ?_, ?_, ?_, ?_, ?_⟩ <;> simp +decide only [rget_rput, rinit, if_true, if_false, goInt, h0, h1, h2, h6, h7] <;> first | exact True.intro | rfl
    clear G h0 h1 h2 h6 h7 h8 h9
    rintro ⟨j, fv, fcs⟩ r s ⟨hj, G, hf, h0, h1, h2, h6, h7, h10⟩
    dsimp only at hj G hf h10
    by_cases hj1 : j < 1
    rotate_left
    · have d2 : decide ((j : Int) < (1 : Int)) = false := decide_eq_false (by omega)
      obtain rfl : j = 1 := by omega
      obtain ⟨pB, nB, cB, rfl⟩ := hf rfl
      obtain ⟨fa, fc, hfv⟩ := StkX.len G.fs
      obtain ⟨na, nc, hnv⟩ := StkX.len G.ns
      obtain ⟨ea, ec, hev⟩ := StkX.len G.es
      repeat apply W_assoc
      apply W_reg
      · intro callf
        simp +decide only [aOps, rinit, aWanted, ↓bite_eq, ↓reduceIte, aStep_eq, aStepOld, aOp, opBox, opBin, opUn, opCall, opIndexAddr, opFieldAddr, opLoad, opStore, opPick, opExtract, opSlice, opBuildSlice, opBuild, aRow, aev, aevs, aparts, ann, unn, aPut, if_true, if_false, rget_rput, flat, flat1, Nat.blt_eq, aBuiltin, aLen, List.getElem?_toArray, List.getElem?_cons_zero, List.getElem?_cons_succ, Nat.zero_add, Option.bind_some, beq_self_eq_true, Bool.not_true, Bool.not_false, Bool.true_beq, Bool.false_beq, h1, h10, lssI, d2]
        rfl
      repeat apply W_assoc
      refine W_if (b := false) ?_ ?_ ?_
      · simp +decide only [aevs, aev, aResults, rget_rput, if_true, if_false, decide_true, decide_false]
      · intro h; cases h
      intro _
      refine W_exitq ⟨fun h => (nomatch h), fun _ => ?_, fun h1 h2 => absurd rfl h2⟩
      have hst := storeCo (p := fa) (q := na) (t := ea) (n1 := 1) (c1 := fc) (n2 := 4) (c2 := nc) (n3 := 4) (c3 := ec) G.res
      rw [← hfv, ← hnv, ← hev] at hst
      repeat apply W_assoc
      apply W_reg
      · intro callf
        simp +decide only [aOps, rinit, aWanted, ↓bite_eq, ↓reduceIte, aStep_eq, aStepOld, aOp, opBox, opBin, opUn, opCall, opIndexAddr, opFieldAddr, opLoad, opStore, opPick, opExtract, opSlice, opBuildSlice, opBuild, aRow, aev, aevs, aparts, ann, unn, aPut, if_true, if_false, rget_rput, flat, flat1, Nat.blt_eq, aBuiltin, aLen, List.getElem?_toArray, List.getElem?_cons_zero, List.getElem?_cons_succ, Nat.zero_add, Option.bind_some, beq_self_eq_true, Bool.not_true, Bool.not_false, Bool.true_beq, Bool.false_beq, h6, h7, loadCo G.box, hst]
        rfl
      have hbo' := G.bol
      have hbk' := G.bkl
      have g : ∀ i, i ≠ bo → (s.put bo ⟨1, 34, 0, [fv, nv, .slice none 0 0, ev], []⟩).get i = s.get i := fun i hi => by rw [AS.get_put, if_neg (fun e => hi e.symm)]
      have kb : ∀ {i : Nat}, (s.get i).kind = 2 → i ≠ bo := fun {i} hk e => by rw [e, G.res] at hk; cases hk
      have fs := G.fs.keep (σ' := s.put bo ⟨1, 34, 0, [fv, nv, .slice none 0 0, ev], []⟩) (Nat.le_refl _) fun i ho _ => g i (kb (G.fs.own ho).2.2.1)
      have ns := G.ns.keep (σ' := s.put bo ⟨1, 34, 0, [fv, nv, .slice none 0 0, ev], []⟩) (Nat.le_refl _) fun i ho _ => g i (kb (G.ns.own ho).2.2.1)
      have es := G.es.keep (σ' := s.put bo ⟨1, 34, 0, [fv, nv, .slice none 0 0, ev], []⟩) (Nat.le_refl _) fun i ho _ => g i (kb (G.es.own ho).2.2.1)
      have eE : ExtX [tb] σ (s.put bo ⟨1, 34, 0, [fv, nv, .slice none 0 0, ev], []⟩) := ExtX.fresh G.ext hbo'.1 _
      have gB : (s.put bo ⟨1, 34, 0, [fv, nv, .slice none 0 0, ev], []⟩).get bo = ⟨1, 34, 0, [fv, nv, .slice none 0 0, ev], []⟩ := by rw [AS.get_put, if_pos rfl]
      generalize s.put bo ⟨1, 34, 0, [fv, nv, .slice none 0 0, ev], []⟩ = sE at fs ns es eE gB
      rw [hbo] at fs ns es
      refine W_ret ⟨Nat.le_refl _, [.agg #[fv, nv, .slice none 0 0, ev]], ?_, fv, nv, ev, pB, nB, cB, rfl, eE, fs, ns, es⟩
      simp +decide only [aResults, rget_rput, if_true, if_false, h6, loadCo gB]
    have d2 : decide ((j : Int) < (1 : Int)) = true := decide_eq_true (by omega)
    obtain rfl : j = 0 := by omega
    obtain rfl : fcs = [] := List.length_eq_zero_iff.1 (by have := G.fs.1; simpa using this)
    repeat apply W_assoc
    apply W_reg
    · intro callf
      simp +decide only [aOps, rinit, aWanted, ↓bite_eq, ↓reduceIte, aStep_eq, aStepOld, aOp, opBox, opBin, opUn, opCall, opIndexAddr, opFieldAddr, opLoad, opStore, opPick, opExtract, opSlice, opBuildSlice, opBuild, aRow, aev, aevs, aparts, ann, unn, aPut, if_true, if_false, rget_rput, flat, flat1, Nat.blt_eq, aBuiltin, aLen, List.getElem?_toArray, List.getElem?_cons_zero, List.getElem?_cons_succ, Nat.zero_add, Option.bind_some, beq_self_eq_true, Bool.not_true, Bool.not_false, Bool.true_beq, Bool.false_beq, h1, h10, lssI, d2]
      rfl
    repeat apply W_assoc
    refine W_if (b := true) ?_ ?_ ?_
    · simp +decide only [aevs, aev, aResults, rget_rput, if_true, if_false, decide_true, decide_false]
    rotate_left
    · intro h; cases h
    intro _
    apply W_skipq
    refine W_blk ?_
    refine W_tail ?_
    repeat apply W_assoc
    refine W_drw [1] [bk] (by kernel_rfl) (by kernel_rfl) ?_
    apply Lg_pre 1
    · intro callf
      simp +decide only [List.take, aQ, memb, List.any_nil, List.any_cons, Bool.true_or, Bool.or_false, Bool.and_true, Bool.or_true, Bool.false_or, Bool.true_and, reset_merge, reset_reset, reset_next, reset_low, merge_next, merge_idem, new_low, ble_self, aOps, rinit, aWanted, ↓bite_eq, ↓reduceIte, aStep_eq, aStepOld, aOp, opBox, opBin, opUn, opCall, opIndexAddr, opFieldAddr, opLoad, opStore, opPick, opExtract, opSlice, opBuildSlice, opBuild, aRow, aev, aevs, aparts, ann, unn, aPut, if_true, if_false, rget_rput, flat, flat1, Nat.blt_eq, aBuiltin, aLen, List.getElem?_toArray, List.getElem?_cons_zero, List.getElem?_cons_succ, Nat.zero_add, Option.bind_some, beq_self_eq_true, Bool.not_true, Bool.not_false, Bool.true_beq, Bool.false_beq, h7, fldK0]
      rfl
    dsimp only [List.drop, List.take, List.length]
    have e0 : Ext s (s.merge s.reset) := (Ext.refl _).merge (σ := s)
    have G := G.to e0
    clear e0
    generalize s.merge s.reset = sa at G
    refine Lg_load (b := bk) (off := 0) (v := fv) (by simp +decide only [aevs, aev, aResults, rget_rput, if_true, if_false]) (cellAt Tryz.underlying29 rfl (G.to (Ext.reset sa)).box rfl) (Stk.svA G.fs.stk).1 G.bkl.2 (by simp [memb]) (by decide) ?_
    have e0 : Ext sa (sa.merge sa.reset) := (Ext.refl _).merge (σ := sa)
    have G := G.to e0
    clear e0
    generalize sa.merge sa.reset = sb at G
    apply Lg_pre 3
    · intro callf
      simp +decide only [List.take, aQ, memb, List.any_nil, List.any_cons, Bool.true_or, Bool.or_false, Bool.and_true, Bool.or_true, Bool.false_or, Bool.true_and, reset_merge, reset_reset, reset_next, reset_low, merge_next, merge_idem, new_low, ble_self, aOps, rinit, aWanted, ↓bite_eq, ↓reduceIte, aStep_eq, aStepOld, aOp, opBox, opBin, opUn, opCall, opIndexAddr, opFieldAddr, opLoad, opStore, opPick, opExtract, opSlice, opBuildSlice, opBuild, aRow, aev, aevs, aparts, ann, unn, aPut, if_true, if_false, rget_rput, flat, flat1, Nat.blt_eq, aBuiltin, aLen, List.getElem?_toArray, List.getElem?_cons_zero, List.getElem?_cons_succ, Nat.zero_add, Option.bind_some, beq_self_eq_true, Bool.not_true, Bool.not_false, Bool.true_beq, Bool.false_beq, h0, h1, h2]
      rfl
    dsimp only [List.drop, List.take, List.length]
    have e0 : Ext sb (sb.merge sb.reset) := (Ext.refl _).merge (σ := sb)
    have G := G.to e0
    clear e0
    generalize sb.merge sb.reset = sc at G
    refine Lg_bar (vs := [.pointer (some ⟨tb, 0, none⟩), .int .i64 3, .int .i64 1, .bool true]) (by simp +decide only [aevs, aev, aResults, rget_rput, if_true, if_false]) (by decide) (by kernel_rfl) (by kernel_rfl) (C.mono (body3 (G.to (Ext.reset sc)).tape) ?_)
    rintro y1 sm ⟨⟨m1, C1, hm1⟩, T1, E1⟩
    refine ⟨fun x hx hlt => E1.get x hlt (by have h3 := G.bkl; have h4 := G.tape0.lt; simp at hx ⊢; omega), ?_⟩
    have G := G.tapeX (E1.merge (σ := sc)) T1.own
    clear T1 E1
    generalize sc.merge sm = sd at G
    obtain ⟨p1, n1, k1, rfl⟩ := C1.sl
    apply Lg_pre 1
    · intro callf
      simp +decide only [List.take, aQ, memb, List.any_nil, List.any_cons, Bool.true_or, Bool.or_false, Bool.and_true, Bool.or_true, Bool.false_or, Bool.true_and, reset_merge, reset_reset, reset_next, reset_low, merge_next, merge_idem, new_low, ble_self, aOps, rinit, aWanted, ↓bite_eq, ↓reduceIte, aStep_eq, aStepOld, aOp, opBox, opBin, opUn, opCall, opIndexAddr, opFieldAddr, opLoad, opStore, opPick, opExtract, opSlice, opBuildSlice, opBuild, aRow, aev, aevs, aparts, ann, unn, aPut, if_true, if_false, rget_rput, flat, flat1, Nat.blt_eq, aBuiltin, aLen, List.getElem?_toArray, List.getElem?_cons_zero, List.getElem?_cons_succ, Nat.zero_add, Option.bind_some, beq_self_eq_true, Bool.not_true, Bool.not_false, Bool.true_beq, Bool.false_beq, buildF]
      rfl
    dsimp only [List.drop, List.take, List.length]
    have e0 : Ext sd (sd.merge sd.reset) := (Ext.refl _).merge (σ := sd)
    have G := G.to e0
    clear e0
    generalize sd.merge sd.reset = se at G
    refine Lg_qopX (v := .slice (some ⟨se.next, 0, none⟩) 1 1) (s1 := se.reset.new ⟨1, 47, 0, fcells (.slice p1 n1 k1), []⟩) (by intro callf; simp +decide only [aOps, rinit, aWanted, ↓bite_eq, ↓reduceIte, aStep_eq, aStepOld, aOp, opBox, opBin, opUn, opCall, opIndexAddr, opFieldAddr, opLoad, opStore, opPick, opExtract, opSlice, opBuildSlice, opBuild, aRow, aev, aevs, aparts, ann, unn, aPut, if_true, if_false, rget_rput, flat, flat1, Nat.blt_eq, aBuiltin, aLen, List.getElem?_toArray, List.getElem?_cons_zero, List.getElem?_cons_succ, Nat.zero_add, Option.bind_some, beq_self_eq_true, Bool.not_true, Bool.not_false, Bool.true_beq, Bool.false_beq, sliceF1]; rfl) (by decide) (by kernel_rfl) (Nat.le_refl _) ?_
    have G := G.to (Ext.merge (Ext.new se.reset ⟨1, 47, 0, fcells (.slice p1 n1 k1), []⟩))
    have hbb : (se.merge (se.reset.new ⟨1, 47, 0, fcells (.slice p1 n1 k1), []⟩)).reset.get se.next = ⟨1, 47, 0, fcells (.slice p1 n1 k1), []⟩ := by
      show (se.reset.new ⟨1, 47, 0, fcells (.slice p1 n1 k1), []⟩).get se.next = _
      rw [AS.get_new]; exact if_pos rfl
    generalize se.merge (se.reset.new ⟨1, 47, 0, fcells (.slice p1 n1 k1), []⟩) = sf at G hbb
    obtain ⟨x', sp, ga, ⟨p, n, c, hx⟩, gk, ge, gl⟩ := (G.to (Ext.reset sf)).pushF hbb rfl (by rfl) (by omega)
    refine Lg_opX (v := x') (s1 := sp) (by intro callf; simp +decide only [aOps, rinit, aWanted, ↓bite_eq, ↓reduceIte, aStep_eq, aStepOld, aOp, opBox, opBin, opUn, opCall, opIndexAddr, opFieldAddr, opLoad, opStore, opPick, opExtract, opSlice, opBuildSlice, opBuild, aRow, aev, aevs, aparts, ann, unn, aPut, if_true, if_false, rget_rput, flat, flat1, Nat.blt_eq, aBuiltin, aLen, List.getElem?_toArray, List.getElem?_cons_zero, List.getElem?_cons_succ, Nat.zero_add, Option.bind_some, beq_self_eq_true, Bool.not_true, Bool.not_false, Bool.true_beq, Bool.false_beq, ga]) (by decide) (by kernel_rfl) (by kernel_rfl) (fun y hy hlt => gk y hlt (by
      obtain rfl : y = bk := by simpa using hy
      rw [(G.to (Ext.reset sf)).box]
      exact (by decide : (1 : Nat) ≠ 2))) ?_
    have eG : ExtX [tb] σ (sf.merge sp) := ExtX.mergeX G.ext ge
    have gn : (sf.merge sp).next = sp.next := rfl
    have gg : ∀ i, (sf.merge sp).get i = sp.get i := fun _ => rfl
    have gb : (sf.merge sp).get bk = ⟨1, 34, 0, [fv, nv, .slice none 0 0, ev], []⟩ := (gk bk G.bkl.2 (by
      rw [(G.to (Ext.reset sf)).box]
      exact (by decide : (1 : Nat) ≠ 2))).trans G.box
    have hbk0 := G.bkl.1
    clear hbb
    generalize sf.merge sp = sg at eG gn gg gb
    apply Lg_pre 1
    · intro callf
      simp +decide only [List.take, aQ, memb, List.any_nil, List.any_cons, Bool.true_or, Bool.or_false, Bool.and_true, Bool.or_true, Bool.false_or, Bool.true_and, reset_merge, reset_reset, reset_next, reset_low, merge_next, merge_idem, new_low, ble_self, aOps, rinit, aWanted, ↓bite_eq, ↓reduceIte, aStep_eq, aStepOld, aOp, opBox, opBin, opUn, opCall, opIndexAddr, opFieldAddr, opLoad, opStore, opPick, opExtract, opSlice, opBuildSlice, opBuild, aRow, aev, aevs, aparts, ann, unn, aPut, if_true, if_false, rget_rput, flat, flat1, Nat.blt_eq, aBuiltin, aLen, List.getElem?_toArray, List.getElem?_cons_zero, List.getElem?_cons_succ, Nat.zero_add, Option.bind_some, beq_self_eq_true, Bool.not_true, Bool.not_false, Bool.true_beq, Bool.false_beq, h7, fldK0]
      rfl
    dsimp only [List.drop, List.take, List.length]
    have e0 := (Ext.refl _).merge (σ := sg)
    have eG := eG.trans (ExtX.of e0)
    have gn : (sg.merge sg.reset).next = sp.next := gn
    have gg : ∀ i, (sg.merge sg.reset).get i = sp.get i := gg
    have gb : (sg.merge sg.reset).get bk = ⟨1, 34, 0, [fv, nv, .slice none 0 0, ev], []⟩ := gb
    clear e0
    generalize sg.merge sg.reset = sh at eG gn gg gb
    have hsto : aStore Tryz.prog sh.reset 29 x' (.pointer (some ⟨bk, 0, none⟩)) = some (sh.reset.put bk ⟨1, 34, 0, [x', nv, .slice none 0 0, ev], []⟩) := storeS (T := 29) ⟨(Tryz.prog.info? 29).get!, by kernel_rfl, by kernel_rfl⟩ (i := 0) hx (show sh.reset.get bk = _ from gb) (Nat.le_of_ble_eq_true rfl)
    refine Lg_store (b := bk) (off := 0) (v := x') (by simp +decide only [aevs, aev, aResults, rget_rput, if_true, if_false]) (by simp +decide only [aevs, aev, aResults, rget_rput, if_true, if_false]) hsto (fun y hy => by rw [AS.get_put, if_neg (fun e => hy e.symm)]; rfl) (by kernel_rfl) (by kernel_rfl) (by kernel_rfl) ?_
    have G := gl (sh.merge (sh.reset.put bk ⟨1, 34, 0, [x', nv, .slice none 0 0, ev], []⟩)) gn (fun i hi => by rw [get_merge, AS.get_put, if_neg (fun e => hi e.symm)]; exact gg i) (by rw [get_merge, AS.get_put, if_pos rfl]) (ExtX.mergeX eG (ExtX.fresh (eG.trans (ExtX.of (Ext.reset sh))) hbk0 _))
    clear gl ge gk ga eG gn gg gb hsto
    generalize sh.merge (sh.reset.put bk ⟨1, 34, 0, [x', nv, .slice none 0 0, ev], []⟩) = si at G
    show W _ _ _ 51 _ _ _ _
    refine W_skip ⟨fun _ => ?_, fun h => absurd rfl h⟩
    refine W_tail ?_
    repeat apply W_assoc
    apply W_reg
    · intro callf
      simp +decide only [aOps, rinit, aWanted, ↓bite_eq, ↓reduceIte, aStep_eq, aStepOld, aOp, opBox, opBin, opUn, opCall, opIndexAddr, opFieldAddr, opLoad, opStore, opPick, opExtract, opSlice, opBuildSlice, opBuild, aRow, aev, aevs, aparts, ann, unn, aPut, if_true, if_false, rget_rput, flat, flat1, Nat.blt_eq, aBuiltin, aLen, List.getElem?_toArray, List.getElem?_cons_zero, List.getElem?_cons_succ, Nat.zero_add, Option.bind_some, beq_self_eq_true, Bool.not_true, Bool.not_false, Bool.true_beq, Bool.false_beq, h10, aBin, aInts, aInt_eq]
      rfl
    refine W_skip ⟨fun _ => ⟨(1, x', [] ++ fcells (.slice p1 n1 k1)), ?_, ?_⟩, fun h => (nomatch h), fun h => absurd rfl h⟩
    · show 1 - 1 < 1 - 0
      omega
    · refine ⟨Nat.le_refl _, G, fun _ => ⟨_, _, _, rfl⟩, ?_, ?_, ?_, ?_, ?_, ?_⟩ <;> simp +decide only [rget_rput, if_true, if_false, h0, h1, h2, h6, h7]
      all_goals first | exact True.intro | rfl
  have d1 : decide ((i : Int) < ((4 : Nat) : Int)) = true := decide_eq_true (by omega)
  repeat apply W_assoc
  apply W_reg
  · intro callf
    simp +decide only [aOps, rinit, aWanted, ↓bite_eq, ↓reduceIte, aStep_eq, aStepOld, aOp, opBox, opBin, opUn, opCall, opIndexAddr, opFieldAddr, opLoad, opStore, opPick, opExtract, opSlice, opBuildSlice, opBuild, aRow, aev, aevs, aparts, ann, unn, aPut, if_true, if_false, rget_rput, flat, flat1, Nat.blt_eq, aBuiltin, aLen, List.getElem?_toArray, List.getElem?_cons_zero, List.getElem?_cons_succ, Nat.zero_add, Option.bind_some, beq_self_eq_true, Bool.not_true, Bool.not_false, Bool.true_beq, Bool.false_beq, h8, h9, Tryz.underlying78, goInt, lssI, d1]
    rfl
  repeat apply W_assoc
  refine W_if (b := true) ?_ ?_ ?_
  · simp +decide only [aevs, aev, aResults, rget_rput, if_true, if_false, decide_true, decide_false, d1]
  rotate_left
  · intro h; cases h
  intro _
  apply W_skipq
  refine W_blk ?_
  refine W_tail ?_
  obtain ⟨nm, hnm⟩ : ∃ nm : ByteArray, names[i]? = some (.string nm) := by
    match i, hlt with
    | 0, _ => exact ⟨_, rfl⟩
    | 1, _ => exact ⟨_, rfl⟩
    | 2, _ => exact ⟨_, rfl⟩
    | 3, _ => exact ⟨_, rfl⟩
  have q1 := cellAt (T := 30) (i := 1) Tryz.underlying30 rfl (G.to (Ext.reset s)).box rfl
  have q2 := cellAt (T := 9) (i := i) Tryz.underlying9 rfl (G.to (Ext.reset s)).str hnm
  repeat apply W_assoc
  refine W_drw [] [] (by kernel_rfl) (by kernel_rfl) ?_
  apply Lg_pre 7
  · intro callf
    simp +decide only [List.take, aQ, memb, List.any_nil, List.any_cons, Bool.true_or, Bool.or_false, Bool.and_true, Bool.or_true, Bool.false_or, Bool.true_and, reset_merge, reset_reset, reset_next, reset_low, merge_next, merge_idem, new_low, ble_self, aOps, rinit, aWanted, ↓bite_eq, ↓reduceIte, aStep_eq, aStepOld, aOp, opBox, opBin, opUn, opCall, opIndexAddr, opFieldAddr, opLoad, opStore, opPick, opExtract, opSlice, opBuildSlice, opBuild, aRow, aev, aevs, aparts, ann, unn, aPut, if_true, if_false, rget_rput, flat, flat1, Nat.blt_eq, aBuiltin, aLen, List.getElem?_toArray, List.getElem?_cons_zero, List.getElem?_cons_succ, Nat.zero_add, Option.bind_some, beq_self_eq_true, Bool.not_true, Bool.not_false, Bool.true_beq, Bool.false_beq, h7, h8, h9, fldK1, q1, idxS hlt, q2, buildIn]
    rfl
  dsimp only [List.drop, List.take, List.length]
  clear q1 q2
  have e0 : Ext s (s.merge s.reset) := (Ext.refl _).merge (σ := s)
  have G := G.to e0
  clear e0
  generalize s.merge s.reset = sa at G
  refine Lg_qop (v := .slice (some ⟨sa.next, 0, none⟩) 1 1) (s1 := sa.reset.new ⟨1, 80, 0, [.string nm, .int .i64 (-1), .slice none 0 0, .slice none 0 0], []⟩) (by intro callf; simp +decide only [aOps, rinit, aWanted, ↓bite_eq, ↓reduceIte, aStep_eq, aStepOld, aOp, opBox, opBin, opUn, opCall, opIndexAddr, opFieldAddr, opLoad, opStore, opPick, opExtract, opSlice, opBuildSlice, opBuild, aRow, aev, aevs, aparts, ann, unn, aPut, if_true, if_false, rget_rput, flat, flat1, Nat.blt_eq, aBuiltin, aLen, List.getElem?_toArray, List.getElem?_cons_zero, List.getElem?_cons_succ, Nat.zero_add, Option.bind_some, beq_self_eq_true, Bool.not_true, Bool.not_false, Bool.true_beq, Bool.false_beq, sliceIn1]; rfl) (by decide) (Nat.le_refl _) ?_
  have G := G.to (Ext.merge (Ext.new sa.reset ⟨1, 80, 0, [.string nm, .int .i64 (-1), .slice none 0 0, .slice none 0 0], []⟩))
  have hbb : (sa.merge (sa.reset.new ⟨1, 80, 0, [.string nm, .int .i64 (-1), .slice none 0 0, .slice none 0 0], []⟩)).reset.get sa.next = ⟨1, 80, 0, [.string nm, .int .i64 (-1), .slice none 0 0, .slice none 0 0], []⟩ := by
    show (sa.reset.new ⟨1, 80, 0, [.string nm, .int .i64 (-1), .slice none 0 0, .slice none 0 0], []⟩).get sa.next = _
    rw [AS.get_new]; exact if_pos rfl
  generalize sa.merge (sa.reset.new ⟨1, 80, 0, [.string nm, .int .i64 (-1), .slice none 0 0, .slice none 0 0], []⟩) = sb at G hbb
  obtain ⟨x', sp, ga, ⟨p, n, c, hx⟩, gk, ge, gl⟩ := (G.to (Ext.reset sb)).pushN hbb rfl (by rfl) (by omega)
  refine Lg_op (v := x') (s1 := sp) (by intro callf; simp +decide only [aOps, rinit, aWanted, ↓bite_eq, ↓reduceIte, aStep_eq, aStepOld, aOp, opBox, opBin, opUn, opCall, opIndexAddr, opFieldAddr, opLoad, opStore, opPick, opExtract, opSlice, opBuildSlice, opBuild, aRow, aev, aevs, aparts, ann, unn, aPut, if_true, if_false, rget_rput, flat, flat1, Nat.blt_eq, aBuiltin, aLen, List.getElem?_toArray, List.getElem?_cons_zero, List.getElem?_cons_succ, Nat.zero_add, Option.bind_some, beq_self_eq_true, Bool.not_true, Bool.not_false, Bool.true_beq, Bool.false_beq, ga]) (by decide) (by kernel_rfl) ?_
  have eG : ExtX [tb] σ (sb.merge sp) := ExtX.mergeX G.ext ge
  have gn : (sb.merge sp).next = sp.next := rfl
  have gg : ∀ i, (sb.merge sp).get i = sp.get i := fun _ => rfl
  have gb : (sb.merge sp).get bk = ⟨1, 34, 0, [.slice none 0 0, nv, .slice none 0 0, ev], []⟩ := (gk bk G.bkl.2 (by
    rw [(G.to (Ext.reset sb)).box]
    exact (by decide : (1 : Nat) ≠ 2))).trans G.box
  have hbk0 := G.bkl.1
  clear hbb
  generalize sb.merge sp = sc at eG gn gg gb
  apply Lg_pre 1
  · intro callf
    simp +decide only [List.take, aQ, memb, List.any_nil, List.any_cons, Bool.true_or, Bool.or_false, Bool.and_true, Bool.or_true, Bool.false_or, Bool.true_and, reset_merge, reset_reset, reset_next, reset_low, merge_next, merge_idem, new_low, ble_self, aOps, rinit, aWanted, ↓bite_eq, ↓reduceIte, aStep_eq, aStepOld, aOp, opBox, opBin, opUn, opCall, opIndexAddr, opFieldAddr, opLoad, opStore, opPick, opExtract, opSlice, opBuildSlice, opBuild, aRow, aev, aevs, aparts, ann, unn, aPut, if_true, if_false, rget_rput, flat, flat1, Nat.blt_eq, aBuiltin, aLen, List.getElem?_toArray, List.getElem?_cons_zero, List.getElem?_cons_succ, Nat.zero_add, Option.bind_some, beq_self_eq_true, Bool.not_true, Bool.not_false, Bool.true_beq, Bool.false_beq, h7, fldK1]
    rfl
  dsimp only [List.drop, List.take, List.length]
  have e0 := (Ext.refl _).merge (σ := sc)
  have eG := eG.trans (ExtX.of e0)
  have gn : (sc.merge sc.reset).next = sp.next := gn
  have gg : ∀ i, (sc.merge sc.reset).get i = sp.get i := gg
  have gb : (sc.merge sc.reset).get bk = ⟨1, 34, 0, [.slice none 0 0, nv, .slice none 0 0, ev], []⟩ := gb
  clear e0
  generalize sc.merge sc.reset = sd at eG gn gg gb
  have hsto : aStore Tryz.prog sd.reset 30 x' (.pointer (some ⟨bk, 1, none⟩)) = some (sd.reset.put bk ⟨1, 34, 0, [.slice none 0 0, x', .slice none 0 0, ev], []⟩) := storeS (T := 30) ⟨(Tryz.prog.info? 30).get!, by kernel_rfl, by kernel_rfl⟩ (i := 1) hx (show sd.reset.get bk = _ from gb) (Nat.le_of_ble_eq_true rfl)
  refine Lg_st (v := undef) (s1 := sd.reset.put bk ⟨1, 34, 0, [.slice none 0 0, x', .slice none 0 0, ev], []⟩) (by intro callf; simp +decide only [aOps, rinit, aWanted, ↓bite_eq, ↓reduceIte, aStep_eq, aStepOld, aOp, opBox, opBin, opUn, opCall, opIndexAddr, opFieldAddr, opLoad, opStore, opPick, opExtract, opSlice, opBuildSlice, opBuild, aRow, aev, aevs, aparts, ann, unn, aPut, if_true, if_false, rget_rput, flat, flat1, Nat.blt_eq, aBuiltin, aLen, List.getElem?_toArray, List.getElem?_cons_zero, List.getElem?_cons_succ, Nat.zero_add, Option.bind_some, beq_self_eq_true, Bool.not_true, Bool.not_false, Bool.true_beq, Bool.false_beq, hsto]) (by kernel_rfl) ?_
  have G := gl (sd.merge (sd.reset.put bk ⟨1, 34, 0, [.slice none 0 0, x', .slice none 0 0, ev], []⟩)) gn (fun i hi => by rw [get_merge, AS.get_put, if_neg (fun e => hi e.symm)]; exact gg i) (by rw [get_merge, AS.get_put, if_pos rfl]) (ExtX.mergeX eG (ExtX.fresh (eG.trans (ExtX.of (Ext.reset sd))) hbk0 _))
  clear gl ge gk ga eG gn gg gb hsto
  have hnc := ncs_step hnm
  unfold infoC at hnc
  rw [← hnc] at G
  clear hnc hnm
  generalize sd.merge (sd.reset.put bk ⟨1, 34, 0, [.slice none 0 0, x', .slice none 0 0, ev], []⟩) = se at G
  show W _ _ _ 51 _ _ _ _
  generalize x' = nv2 at G
  clear hx p n c
  obtain ⟨dt, hdt⟩ : ∃ dt : ByteArray, dots[i]? = some (.string dt) := by
    match i, hlt with
    | 0, _ => exact ⟨_, rfl⟩
    | 1, _ => exact ⟨_, rfl⟩
    | 2, _ => exact ⟨_, rfl⟩
    | 3, _ => exact ⟨_, rfl⟩
  repeat apply W_assoc
  refine W_drw [1] [bk] (by kernel_rfl) (by kernel_rfl) ?_
  apply Lg_pre 1
  · intro callf
    simp +decide only [List.take, aQ, memb, List.any_nil, List.any_cons, Bool.true_or, Bool.or_false, Bool.and_true, Bool.or_true, Bool.false_or, Bool.true_and, reset_merge, reset_reset, reset_next, reset_low, merge_next, merge_idem, new_low, ble_self, aOps, rinit, aWanted, ↓bite_eq, ↓reduceIte, aStep_eq, aStepOld, aOp, opBox, opBin, opUn, opCall, opIndexAddr, opFieldAddr, opLoad, opStore, opPick, opExtract, opSlice, opBuildSlice, opBuild, aRow, aev, aevs, aparts, ann, unn, aPut, if_true, if_false, rget_rput, flat, flat1, Nat.blt_eq, aBuiltin, aLen, List.getElem?_toArray, List.getElem?_cons_zero, List.getElem?_cons_succ, Nat.zero_add, Option.bind_some, beq_self_eq_true, Bool.not_true, Bool.not_false, Bool.true_beq, Bool.false_beq, h7, fldK3]
    rfl
  dsimp only [List.drop, List.take, List.length]
  have e0 : Ext se (se.merge se.reset) := (Ext.refl _).merge (σ := se)
  have G := G.to e0
  clear e0
  generalize se.merge se.reset = sf at G
  refine Lg_load (b := bk) (off := 3) (v := ev) (by simp +decide only [aevs, aev, aResults, rget_rput, if_true, if_false]) (cellAt Tryz.underlying32 rfl (G.to (Ext.reset sf)).box rfl) (Stk.svA G.es.stk).1 G.bkl.2 (by simp [memb]) (by decide) ?_
  have e0 : Ext sf (sf.merge sf.reset) := (Ext.refl _).merge (σ := sf)
  have G := G.to e0
  clear e0
  generalize sf.merge sf.reset = sg at G
  apply Lg_pre 1
  · intro callf
    simp +decide only [List.take, aQ, memb, List.any_nil, List.any_cons, Bool.true_or, Bool.or_false, Bool.and_true, Bool.or_true, Bool.false_or, Bool.true_and, reset_merge, reset_reset, reset_next, reset_low, merge_next, merge_idem, new_low, ble_self, aOps, rinit, aWanted, ↓bite_eq, ↓reduceIte, aStep_eq, aStepOld, aOp, opBox, opBin, opUn, opCall, opIndexAddr, opFieldAddr, opLoad, opStore, opPick, opExtract, opSlice, opBuildSlice, opBuild, aRow, aev, aevs, aparts, ann, unn, aPut, if_true, if_false, rget_rput, flat, flat1, Nat.blt_eq, aBuiltin, aLen, List.getElem?_toArray, List.getElem?_cons_zero, List.getElem?_cons_succ, Nat.zero_add, Option.bind_some, beq_self_eq_true, Bool.not_true, Bool.not_false, Bool.true_beq, Bool.false_beq, h9]
    rfl
  dsimp only [List.drop, List.take, List.length]
  have e0 : Ext sg (sg.merge sg.reset) := (Ext.refl _).merge (σ := sg)
  have G := G.to e0
  clear e0
  generalize sg.merge sg.reset = sh at G
  refine Lg_fn (vs := [.int .i64 (i : Int), .slice none 0 0]) (by simp +decide only [aevs, aev, aResults, rget_rput, if_true, if_false]) (by decide) (by kernel_rfl) (C.mono (dot_c hdt) ?_)
  rintro yd sm ⟨rfl, E1⟩
  refine ⟨E1.quiet, ?_⟩
  have G := G.to E1.merge
  clear E1
  generalize sh.merge sm = si at G
  refine Lg_qopX (v := .slice (some ⟨si.next, 0, none⟩) 1 1) (s1 := si.reset.new ⟨1, 25, 0, [.string dt], []⟩) (by intro callf; simp +decide only [aOps, rinit, aWanted, ↓bite_eq, ↓reduceIte, aStep_eq, aStepOld, aOp, opBox, opBin, opUn, opCall, opIndexAddr, opFieldAddr, opLoad, opStore, opPick, opExtract, opSlice, opBuildSlice, opBuild, aRow, aev, aevs, aparts, ann, unn, aPut, if_true, if_false, rget_rput, flat, flat1, Nat.blt_eq, aBuiltin, aLen, List.getElem?_toArray, List.getElem?_cons_zero, List.getElem?_cons_succ, Nat.zero_add, Option.bind_some, beq_self_eq_true, Bool.not_true, Bool.not_false, Bool.true_beq, Bool.false_beq, sliceV1]; rfl) (by decide) (by kernel_rfl) (Nat.le_refl _) ?_
  have G := G.to (Ext.merge (Ext.new si.reset ⟨1, 25, 0, [.string dt], []⟩))
  have hbb : (si.merge (si.reset.new ⟨1, 25, 0, [.string dt], []⟩)).reset.get si.next = ⟨1, 25, 0, [.string dt], []⟩ := by
    show (si.reset.new ⟨1, 25, 0, [.string dt], []⟩).get si.next = _
    rw [AS.get_new]; exact if_pos rfl
  generalize si.merge (si.reset.new ⟨1, 25, 0, [.string dt], []⟩) = sj at G hbb
  obtain ⟨x', sp, ga, ⟨p, n, c, hx⟩, gk, ge, gl⟩ := (G.to (Ext.reset sj)).pushE hbb rfl (by rfl) (by omega)
  refine Lg_opX (v := x') (s1 := sp) (by intro callf; simp +decide only [aOps, rinit, aWanted, ↓bite_eq, ↓reduceIte, aStep_eq, aStepOld, aOp, opBox, opBin, opUn, opCall, opIndexAddr, opFieldAddr, opLoad, opStore, opPick, opExtract, opSlice, opBuildSlice, opBuild, aRow, aev, aevs, aparts, ann, unn, aPut, if_true, if_false, rget_rput, flat, flat1, Nat.blt_eq, aBuiltin, aLen, List.getElem?_toArray, List.getElem?_cons_zero, List.getElem?_cons_succ, Nat.zero_add, Option.bind_some, beq_self_eq_true, Bool.not_true, Bool.not_false, Bool.true_beq, Bool.false_beq, ga]) (by decide) (by kernel_rfl) (by kernel_rfl) (fun y hy hlt => gk y hlt (by
    obtain rfl : y = bk := by simpa using hy
    rw [(G.to (Ext.reset sj)).box]
    exact (by decide : (1 : Nat) ≠ 2))) ?_
  have eG : ExtX [tb] σ (sj.merge sp) := ExtX.mergeX G.ext ge
  have gn : (sj.merge sp).next = sp.next := rfl
  have gg : ∀ i, (sj.merge sp).get i = sp.get i := fun _ => rfl
  have gb : (sj.merge sp).get bk = ⟨1, 34, 0, [.slice none 0 0, nv2, .slice none 0 0, ev], []⟩ := (gk bk G.bkl.2 (by
    rw [(G.to (Ext.reset sj)).box]
    exact (by decide : (1 : Nat) ≠ 2))).trans G.box
  have hbk0 := G.bkl.1
  clear hbb
  generalize sj.merge sp = sk at eG gn gg gb
  apply Lg_pre 1
  · intro callf
    simp +decide only [List.take, aQ, memb, List.any_nil, List.any_cons, Bool.true_or, Bool.or_false, Bool.and_true, Bool.or_true, Bool.false_or, Bool.true_and, reset_merge, reset_reset, reset_next, reset_low, merge_next, merge_idem, new_low, ble_self, aOps, rinit, aWanted, ↓bite_eq, ↓reduceIte, aStep_eq, aStepOld, aOp, opBox, opBin, opUn, opCall, opIndexAddr, opFieldAddr, opLoad, opStore, opPick, opExtract, opSlice, opBuildSlice, opBuild, aRow, aev, aevs, aparts, ann, unn, aPut, if_true, if_false, rget_rput, flat, flat1, Nat.blt_eq, aBuiltin, aLen, List.getElem?_toArray, List.getElem?_cons_zero, List.getElem?_cons_succ, Nat.zero_add, Option.bind_some, beq_self_eq_true, Bool.not_true, Bool.not_false, Bool.true_beq, Bool.false_beq, h7, fldK3]
    rfl
  dsimp only [List.drop, List.take, List.length]
  have e0 := (Ext.refl _).merge (σ := sk)
  have eG := eG.trans (ExtX.of e0)
  have gn : (sk.merge sk.reset).next = sp.next := gn
  have gg : ∀ i, (sk.merge sk.reset).get i = sp.get i := gg
  have gb : (sk.merge sk.reset).get bk = ⟨1, 34, 0, [.slice none 0 0, nv2, .slice none 0 0, ev], []⟩ := gb
  clear e0
  generalize sk.merge sk.reset = sl at eG gn gg gb
  have hsto : aStore Tryz.prog sl.reset 32 x' (.pointer (some ⟨bk, 3, none⟩)) = some (sl.reset.put bk ⟨1, 34, 0, [.slice none 0 0, nv2, .slice none 0 0, x'], []⟩) := storeS (T := 32) ⟨(Tryz.prog.info? 32).get!, by kernel_rfl, by kernel_rfl⟩ (i := 3) hx (show sl.reset.get bk = _ from gb) (Nat.le_of_ble_eq_true rfl)
  refine Lg_store (b := bk) (off := 3) (v := x') (by simp +decide only [aevs, aev, aResults, rget_rput, if_true, if_false]) (by simp +decide only [aevs, aev, aResults, rget_rput, if_true, if_false]) hsto (fun y hy => by rw [AS.get_put, if_neg (fun e => hy e.symm)]; rfl) (by kernel_rfl) (by kernel_rfl) (by kernel_rfl) ?_
  have G := gl (sl.merge (sl.reset.put bk ⟨1, 34, 0, [.slice none 0 0, nv2, .slice none 0 0, x'], []⟩)) gn (fun i hi => by rw [get_merge, AS.get_put, if_neg (fun e => hi e.symm)]; exact gg i) (by rw [get_merge, AS.get_put, if_pos rfl]) (ExtX.mergeX eG (ExtX.fresh (eG.trans (ExtX.of (Ext.reset sl))) hbk0 _))
  clear gl ge gk ga eG gn gg gb hsto
  rw [← ecs_step hdt] at G
  generalize sl.merge (sl.reset.put bk ⟨1, 34, 0, [.slice none 0 0, nv2, .slice none 0 0, x'], []⟩) = sm2 at G
  show W _ _ _ 51 _ _ _ _
  refine W_skip ⟨fun _ => ?_, fun h => absurd rfl h⟩
  refine W_tail ?_
  have w6 : IntKind.i64.wrap ((i : Int) + 1) = ((i + 1 : Nat) : Int) := by rw [wrap64_id _ (by omega) (by omega)]; omega
  repeat apply W_assoc
  apply W_reg
  · intro callf
    simp +decide only [aOps, rinit, aWanted, ↓bite_eq, ↓reduceIte, aStep_eq, aStepOld, aOp, opBox, opBin, opUn, opCall, opIndexAddr, opFieldAddr, opLoad, opStore, opPick, opExtract, opSlice, opBuildSlice, opBuild, aRow, aev, aevs, aparts, ann, unn, aPut, if_true, if_false, rget_rput, flat, flat1, Nat.blt_eq, aBuiltin, aLen, List.getElem?_toArray, List.getElem?_cons_zero, List.getElem?_cons_succ, Nat.zero_add, Option.bind_some, beq_self_eq_true, Bool.not_true, Bool.not_false, Bool.true_beq, Bool.false_beq, h9, w6, aBin, aInts, aInt_eq]
    rfl
  refine W_skip ⟨fun _ => ⟨(i + 1, nv2, x'), ?_, ?_⟩, fun h => (nomatch h), fun h => absurd rfl h⟩
  · show 4 - (i + 1) < 4 - i
    omega
  · refine ⟨by show i + 1 ≤ 4; omega, G, ?_, ?_, ?_, ?_, ?_, ?_, ?_⟩ <;> simp +decide only [rget_rput, if_true, if_false, h0, h1, h2, h6, h7, h8]

end Go.Proofs.YtacpdefmnijhnaaGreat.U
