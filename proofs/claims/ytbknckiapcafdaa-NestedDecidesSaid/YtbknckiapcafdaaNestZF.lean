/- The program's outer search (function 26). -/
import Derived.Test.YtbknckiapcafdaaNestZE
set_option linter.unusedSimpArgs false
set_option linter.unusedVariables false
namespace Go.Proofs.Ytbknckiapcafdaa.Nest
open Abs Abs2

section
variable {P : Program} {K : Tbl} {G n : Nat} {ops : Array Oper} {r : Regs} {σ : AS} {l : List Oper} {Q Q' : Regs → AS → Prop}
theorem Ls_mono (h : Ls P K G n ops l r σ Q) (hq : ∀ r' σ', Q r' σ' → Q' r' σ') : Ls P K G n ops l r σ Q' := by
  obtain ⟨r', σ', N, h1, h2⟩ := h
  exact ⟨r', σ', N, h1, hq _ _ h2⟩
end

set_option maxHeartbeats 32000000 in
theorem out_c {σ0 : AS} {xb b1 cap : Nat} {base : Option Addr} {L : Lts} (hr : RS 1 RRow σ0 (.slice base L.length cap) L) (hB1 : BoxAt σ0 b1 (.slice base L.length cap)) (hw : WF L) (hN : L.length ≤ 400) (hasc : ∀ row ∈ L, asc row = true) (hev : ∀ row ∈ L, ∀ a ∈ row, 0 ≤ a.1) :
    ∀ (f : Nat) {σ : AS} {x : SS} {s : Nat}, PNo L σ0 σ xb (.func (.func 25) #[] #[.pointer (some ⟨b1, 0, none⟩)]) x [] [] → s < L.length → x.found = false → x.loop = [] → cnt x.outer ≤ f → x.outer[s]? = some false →
      x.stem.length + f ≤ 900 → C Try.prog Kn 0 26 [.pointer (some ⟨xb, 0, none⟩), .int .i64 (s : Int)] σ fun v σ' =>
        v = .bool (outerF L f x s).found ∧ ((outerF L f x s).found = false → PNo L σ0 σ' xb (.func (.func 25) #[] #[.pointer (some ⟨b1, 0, none⟩)]) (outerF L f x s) [] []) ∧ ((outerF L f x s).found = true → PYes L σ0 σ' xb (.func (.func 25) #[] #[.pointer (some ⟨b1, 0, none⟩)]) (outerF L f x s)) := by
  have INN := @in_c σ0 xb b1 cap base L hr hB1 hw hN hasc hev L.length
  intro f
  induction f with
  | zero =>
    intro σ x s _ _ _ _ hc hs
    have := cnt_set hs
    omega
  | succ f ih =>
    intro σ x s hP hs hfd hlp hc hout hst
    obtain ⟨row, hrow⟩ : ∃ row, L[s]? = some row := ⟨L[s], by simp [hs]⟩
    have hrm : row ∈ L := List.mem_of_getElem? hrow
    have hgd : L.getD s [] = row := by simp [List.getD, hrow]
    have hrl := hw.row row hrm
    have hto := hw.to row hrm
    obtain ⟨-, b0, off0, rv, rfl, -, hrl2, hrv⟩ := rowOf hr hrow
    obtain ⟨rb, rc, rfl, -⟩ := id hrv
    obtain ⟨d, ei, ep, R, hnil, hei, hep, heok⟩ := hP
    have hcs := cnt_set hout
    refine C_of (kn (by decide)) Try.func26 rfl (Nat.le_of_ble_eq_true rfl) ?_
    show W _ _ _ 84 _ _ _ _
    unfold Try.f26
    dsimp only
    repeat apply W_assoc
    apply W_reg
    · intro callf
      simp +decide only [aOps, rinit, aWanted, ↓bite_eq, ↓reduceIte, aStep_eq, aStepOld, aOp, aev, ann, aPut, Nat.zero_add]
      rfl
    have RQ := R.ext (Ext.reset σ)
    repeat apply W_assoc
    refine W_drw [] [] (by kernel_rfl) (by kernel_rfl) ?_
    apply Lg_pre 10
    · intro callf
      simp +decide only [List.take, aQ, memb, List.any_nil, Bool.true_or, Bool.and_true, reset_merge, reset_reset, reset_next, reset_low, merge_next, merge_idem, ble_self, aWanted, ↓bite_eq, ↓reduceIte, aStep_eq, aStepOld, aOp, opFieldAddr, opLoad, aev, ann, aPut, rget_rput, Nat.zero_add, Bool.not_false, opNil, fld58_3, fld58_4, RQ.ld3, RQ.ld4]
      rfl
    dsimp only [List.drop, List.take, List.length]
    have e1 : Ext σ (σ.merge σ.reset) := (Ext.refl _).merge
    generalize σ.merge σ.reset = σ1 at e1
    have R1 := R.ext e1
    refine Lg_bar (vs := [.pointer (some ⟨xb, 0, none⟩), d.om, d.im, .int .i64 (s : Int)]) (by simp +decide only [aevs, aev, rget_rput, if_true, if_false]) (by decide) rfl (by kernel_rfl) (C.mono (mark_outer (R1.ext (Ext.reset σ1)) hs (by omega) hout) ?_)
    rintro v s1 M1
    refine ⟨fun y hy => (nomatch hy), ?_⟩
    have R2 := M1.merge R1.c.ext
    generalize σ1.merge s1 = σ2 at R2
    clear M1 R1 RQ
    apply Lg_all
    · intro callf
      rfl
    show W _ _ _ 84 _ _ _ _
    have hcu := cU_le (x.outer.set s true) x.inner
    rw [R2.c.ol] at hcu
    have hfin : ∀ (y : SS), y = outerGo (outerF L f) row (enterF L { x with outer := x.outer.set s true } s) → outerF L (f + 1) x s = y := fun y e => by
      have e2 : outerF L (f + 1) x s = outerGo (outerF L f) (L.getD s []) (enterF L { x with outer := x.outer.set s true } s) := rfl
      rw [e2, hgd, ← e]
    have hOP := enterF_spec L hN (x := { x with outer := x.outer.set s true }) (s := s) hfd (by show x.stem.length ≤ 1000; omega)
    have hx1 : ({ x with outer := x.outer.set s true } : SS).found = false := hfd
    have hx2 : ({ x with outer := x.outer.set s true } : SS).loop = [] := hlp
    have hx3 : cnt ({ x with outer := x.outer.set s true } : SS).outer ≤ f := by show cnt (x.outer.set s true) ≤ f; omega
    have hx4 : ({ x with outer := x.outer.set s true } : SS).stem = x.stem := rfl
    have hP1 : PRepV σ0 σ2 xb L.length (.func (.func 25) #[] #[.pointer (some ⟨b1, 0, none⟩)]) ⟨({ x with outer := x.outer.set s true } : SS).outer, ({ x with outer := x.outer.set s true } : SS).inner, [], ep, ei, [], []⟩ d := R2
    have hcu1 : cU ({ x with outer := x.outer.set s true } : SS).outer ({ x with outer := x.outer.set s true } : SS).inner ≤ L.length := hcu
    rw [← hx4] at hep
    have hst1 : ({ x with outer := x.outer.set s true } : SS).stem.length ≤ 900 := by rw [hx4]; omega
    generalize ({ x with outer := x.outer.set s true } : SS) = x1 at hfin hx1 hx2 hx3 hx4 hOP hP1 hcu1 hep hst1
    clear R2 hcu
    repeat apply W_assoc
    apply W_regL
    refine Ls_mono (Q := fun r σ' => rget r 0 = .pointer (some ⟨xb, 0, none⟩) ∧ rget r 1 = .int .i64 (s : Int) ∧ rget r 33 = .bool (enterF L x1 s).found ∧ ((enterF L x1 s).found = false → PNo L σ0 σ' xb (.func (.func 25) #[] #[.pointer (some ⟨b1, 0, none⟩)]) (enterF L x1 s) [] []) ∧ ((enterF L x1 s).found = true → PYes L σ0 σ' xb (.func (.func 25) #[] #[.pointer (some ⟨b1, 0, none⟩)]) (enterF L x1 s))) ?_ ?_
    · apply Ls_pre 1
      · intro callf
        simp +decide only [List.take, aOps, aWanted, ↓bite_eq, ↓reduceIte, aStep_eq, aStepOld, aOp, aev, ann, aPut, rget_rput]
        rfl
      dsimp only [List.drop]
      refine Ls_fn (vs := [.pointer (some ⟨xb, 0, none⟩)]) (by simp +decide only [aevs, aev, rget_rput, if_true, if_false]) (by decide) (C.mono (full_c hP1 hcu1) ?_)
      rintro v σ' ⟨rfl, e3⟩
      have R3 := hP1.ext e3
      generalize σ' = σ3 at R3
      have lk := look55 R3.c.inner s
      dsimp only at lk
      have hil := R3.c.il
      dsimp only at hil
      have hgd2 : x1.inner.getD s true = x1.inner.getD s false := by
        have h1 : s < x1.inner.length := by rw [hil]; exact hs
        simp [List.getD, h1]
      cases hb : x1.inner.getD s false with
      | true =>
        rw [hb] at lk
        have he : enterF L x1 s = x1 := by
          unfold enterF
          rw [if_pos (by rw [hgd2, hb])]
        rw [he]
        apply Ls_all
        · intro callf
          simp +decide only [aOps, aWanted, ↓bite_eq, ↓reduceIte, aStep_eq, aStepOld, aOp, opUn, opFieldAddr, opLoad, opPick, aev, ann, aPut, rget_rput, List.getElem?_toArray, List.getElem?_cons_zero, List.getElem?_cons_succ, Option.bind_some, beq_self_eq_true, Bool.not_true, Bool.false_beq, opNil, fld58_4, opLookup, R3.ld4, lk, not_b, opPick]
          rfl
        refine ⟨?_, ?_, ?_, fun _ => ⟨d, ei, ep, R3, hnil, hei, hep, heok⟩, fun h => by rw [hx1] at h; cases h⟩
        · simp +decide only [rget_rput, if_true, if_false]
        · simp +decide only [rget_rput, if_true, if_false]
        · simp +decide only [rget_rput, if_true, if_false, hx1]
      | false =>
        rw [hb] at lk
        have he : enterF L x1 s = innerF L L.length { x1 with path := [], on := [(s : Int)] } s := by
          unfold enterF
          rw [if_neg (by rw [hgd2, hb]; decide)]
        have hit : x1.inner[s]? = some false := by
          have h1 : s < x1.inner.length := by rw [hil]; exact hs
          rw [List.getD_eq_getElem?_getD, List.getElem?_eq_getElem h1] at hb
          rw [List.getElem?_eq_getElem h1]
          exact congrArg some hb
        have CC := INN (σ := σ3) (x := { x1 with path := [], on := [(s : Int)] }) (s := s) (oo := []) ⟨d, ei, ep, R3, hnil, hei, hep, heok⟩ rfl hs hx1 hx2 rfl (by have := cnt_le x1.inner; rw [hil] at this; exact this) hit (fun t ht => (nomatch ht)) (by show 0 + L.length ≤ 900; omega) (by show x1.stem.length ≤ 1000; omega)
        rw [← he] at CC
        apply Ls_pre 11
        · intro callf
          simp +decide only [List.take, aOps, aWanted, ↓bite_eq, ↓reduceIte, aStep_eq, aStepOld, aOp, opUn, opFieldAddr, opLoad, aev, ann, aPut, rget_rput, List.getElem?_toArray, List.getElem?_cons_zero, List.getElem?_cons_succ, Option.bind_some, beq_self_eq_true, Bool.not_false, opNil, fld58_4, opLookup, R3.ld4, lk, not_b]
          rfl
        dsimp only [List.drop]
        refine Ls_fnG (vs := [.pointer (some ⟨xb, 0, none⟩), .int .i64 (s : Int)]) (by simp +decide only [aWanted, List.getElem?_toArray, List.getElem?_cons_zero, List.getElem?_cons_succ, Option.bind_some, rget_rput, if_true, if_false]) (by simp +decide only [aevs, aev, rget_rput, if_true, if_false]) (by decide) (C.mono CC ?_)
        rintro v σ' ⟨rfl, hno, hyes⟩
        apply Ls_all
        · intro callf
          simp +decide only [aOps, aWanted, ↓bite_eq, ↓reduceIte, aStep_eq, aStepOld, aOp, opPick, aev, aPut, rget_rput, List.getElem?_toArray, List.getElem?_cons_zero, List.getElem?_cons_succ, Option.bind_some, beq_self_eq_true, opPick]
          rfl
        refine ⟨?_, ?_, ?_, hno, hyes⟩ <;> simp +decide only [rget_rput, if_true, if_false]
    rintro r σ3 ⟨h0, h1, h33, hno, hyes⟩
    cases hzf : (enterF L x1 s).found with
    | true =>
      obtain ⟨dz, yz, cz, RZ, hz1, hz2, hz3⟩ := hyes hzf
      rw [hzf] at h33
      repeat apply W_assoc
      refine W_if (b := true) ?_ ?_ ?_
      · simp +decide only [aev, h33]
      rotate_left
      · intro h; cases h
      intro _
      repeat apply W_assoc
      apply W_reg
      · intro callf
        simp +decide only [aOps, aWanted, ↓bite_eq, ↓reduceIte, aStep_eq, aStepOld, aOp, aev, ann, aPut]
        rfl
      refine W_retq ⟨Nat.le_refl _, [.bool true], ?_, ?_⟩
      · simp +decide only [aResults, rget_rput, if_true]
      · rw [hfin _ (outerGo_found _ hzf row).symm]
        exact ⟨by rw [hzf]; rfl, (fun h => by rw [hzf] at h; cases h), fun _ => ⟨dz, yz, cz, RZ, hz1, hz2, hz3⟩⟩
    | false =>
      have hP2 := hno hzf
      rw [hzf] at h33
      repeat apply W_assoc
      refine W_if (b := false) ?_ ?_ ?_
      · simp +decide only [aev, h33]
      · intro h; cases h
      intro _
      apply W_skipq
      have hs2 : (enterF L x1 s).stem = x.stem := (hOP.no hzf).1.trans hx4
      have hl2 : (enterF L x1 s).loop = [] := (hOP.no hzf).2.trans hx2
      have hc2 : cnt (enterF L x1 s).outer ≤ f := Nat.le_trans hOP.cnt hx3
      generalize enterF L x1 s = x2 at hP2 hfin hs2 hl2 hc2 hzf
      clear hno hyes hOP INN hP1 hep
      obtain ⟨d3, ei3, ep3, R3, hnil3, hei3, hep3, heok3⟩ := hP2
      have BB := hB1.ext R3.c.ext
      repeat apply W_assoc
      apply W_regL
      apply Ls_pre 5
      · intro callf
        simp +decide only [List.take, aOps, aWanted, ↓bite_eq, ↓reduceIte, aStep_eq, aStepOld, aOp, opFieldAddr, opLoad, aev, ann, aPut, rget_rput, opNil, fld58_0, h0, h1, R3.ld0]
        rfl
      dsimp only [List.drop]
      refine Ls_call (first := #[]) (captured := #[.pointer (some ⟨b1, 0, none⟩)]) (fid := 25) (vs := [.int .i64 (s : Int)]) (by simp +decide only [aev, rget_rput, if_true, if_false]) (by simp +decide only [aevs, aev, rget_rput, if_true, if_false]) (by decide) (C.mono (arcs_c BB hs fun σ' e => hrl2 _ (R3.c.ext.trans e)) ?_)
      rintro v σ' ⟨rfl, e6⟩
      apply Ls_all
      · intro callf
        simp +decide only [aOps, aWanted, ↓bite_eq, ↓reduceIte, aStep_eq, aStepOld, aOp, opCall, aev, aevs, ann, aPut, rget_rput, aBuiltin, aLen, List.getElem?_toArray, List.getElem?_cons_zero, Try.underlying22, goInt]
        rfl
      have R6 := R3.ext e6
      generalize σ' = σ6 at R6
      repeat apply W_assoc
      refine W_forM (fun (p : Nat × SS) r σ' => p.1 ≤ row.length ∧ p.2.found = false ∧ p.2.stem = x.stem ∧ p.2.loop = [] ∧ cnt p.2.outer ≤ f ∧ PNo L σ0 σ' xb (.func (.func 25) #[] #[.pointer (some ⟨b1, 0, none⟩)]) p.2 [] [] ∧
          outerGo (outerF L f) (row.drop p.1) p.2 = outerGo (outerF L f) row x2 ∧ rget r 0 = .pointer (some ⟨xb, 0, none⟩) ∧ rget r 1 = .int .i64 (s : Int) ∧ rget r 39 = .slice rb row.length rc ∧ rget r 40 = .int .i64 (row.length : Int) ∧ rget r 41 = .int .i64 (p.1 : Int))
        (fun p => row.length - p.1) (fun r σ' => ∃ y : SS, y.found = false ∧ PNo L σ0 σ' xb (.func (.func 25) #[] #[.pointer (some ⟨b1, 0, none⟩)]) y [] [] ∧ y = outerGo (outerF L f) row x2) ?_ ?_ (0, x2) ?_
      rotate_left 2
      · simp +decide only [rget_rput, if_true, if_false, h0, h1]
        refine ⟨Nat.zero_le _, hzf, hs2, hl2, hc2, ⟨d3, ei3, ep3, R6, hnil3, hei3, hep3, heok3⟩, rfl, ?_⟩
        exact ⟨trivial, trivial, trivial, trivial, rfl⟩
      rotate_left
      · rintro r σ7 ⟨y, hyf, hP7, hy⟩
        repeat apply W_assoc
        repeat apply W_assoc
        apply W_reg
        · intro callf
          simp +decide only [aOps, aWanted, ↓bite_eq, ↓reduceIte, aStep_eq, aStepOld, aOp, aev, ann, aPut]
          rfl
        refine W_ret ⟨Nat.le_refl _, [.bool false], ?_, ?_⟩
        · simp +decide only [aResults, rget_rput, if_true]
        · rw [hfin y hy]
          exact ⟨by rw [hyf]; rfl, fun _ => hP7, (fun h => by rw [hyf] at h; cases h)⟩
      clear h0 h1 h33 R3 R6 BB hep3 heok3 hei3
      rintro ⟨i, y⟩ r σ7 ⟨hi, hyf, hs2, hl2, hc2, hP7, hgo, h0, h1, h37, h38, h39⟩
      dsimp only at hi hyf hs2 hl2 hc2 hP7 hgo h39
      by_cases hlt : i < row.length
      rotate_left
      · have d1 : decide ((i : Int) < (row.length : Int)) = false := decide_eq_false (by omega)
        repeat apply W_assoc
        apply W_reg
        · intro callf
          simp +decide only [aOps, aWanted, ↓bite_eq, ↓reduceIte, aStep_eq, aStepOld, aOp, opBin, aev, ann, aPut, h38, h39, d1, aBin, aInts, aInt_eq]
          rfl
        repeat apply W_assoc
        refine W_if (b := false) ?_ ?_ ?_
        · simp +decide only [aev, rget_rput, if_true]
        · intro h; cases h
        intro _
        refine W_exitq ⟨fun h => (nomatch h), fun _ => ⟨y, hyf, hP7, ?_⟩, fun h1 h2 => absurd rfl h2⟩
        rw [List.drop_eq_nil_of_le (by omega)] at hgo
        exact hgo
      have d1 : decide ((i : Int) < (row.length : Int)) = true := decide_eq_true (by omega)
      repeat apply W_assoc
      apply W_reg
      · intro callf
        simp +decide only [aOps, aWanted, ↓bite_eq, ↓reduceIte, aStep_eq, aStepOld, aOp, opBin, aev, ann, aPut, h38, h39, d1, aBin, aInts, aInt_eq]
        rfl
      repeat apply W_assoc
      refine W_if (b := true) ?_ ?_ ?_
      · simp +decide only [aev, rget_rput, if_true]
      rotate_left
      · intro h; cases h
      intro _
      apply W_skipq
      refine W_blk ?_
      obtain ⟨a, ha⟩ : ∃ a, row[i]? = some a := ⟨row[i], by simp [hlt]⟩
      obtain ⟨-, b1', off1, rfl, -, hat⟩ := arcOf hrv ha
      have hdrop : row.drop i = a :: row.drop (i + 1) := by
        rw [List.drop_eq_getElem_cons hlt, (List.getElem?_eq_some_iff.1 ha).2]
      have hat2 := hto a (List.mem_of_getElem? ha)
      rw [hdrop] at hgo
      obtain ⟨d7, ei, ep, R7, hnil, hei, hep, heok⟩ := hP7
      repeat apply W_assoc
      apply W_reg
      · intro callf
        simp +decide only [aOps, aWanted, ↓bite_eq, ↓reduceIte, aStep_eq, aStepOld, aOp, opIndexAddr, opLoad, opStore, aev, ann, unn, aPut, rget_rput, h37, h39, idx22 hlt, (hat _ R7.c.ext).1, alloc27, store27]
        rfl
      have AY := decl_at σ7 a
      have ed := decl_ext σ7 a
      generalize hab : σ7.next = ab at AY
      generalize decl σ7 a = σ8 at AY ed
      have R8 := R7.ext ed
      have w1 : IntKind.i64.wrap ((i : Int) + 1) = ((i + 1 : Nat) : Int) := by rw [wrap64_id _ (by omega) (by omega)]; omega
      have et : ((a.2.toNat : Nat) : Int) = a.2 := by omega
      have ht : a.2.toNat < L.length := by omega
      have RQ := R8.ext (Ext.reset σ8)
      have lk5 := look55 RQ.c.outer a.2.toNat
      rw [et] at lk5
      dsimp only at lk5
      have hol := R8.c.ol
      dsimp only at hol
      have hgd2 : y.outer.getD a.2.toNat true = y.outer.getD a.2.toNat false := by
        have h1 : a.2.toNat < y.outer.length := by rw [hol]; exact ht
        simp [List.getD, h1]
      repeat apply W_assoc
      refine W_drw [] [] (by kernel_rfl) (by kernel_rfl) ?_
      apply Lg_all
      · intro callf
        simp +decide only [aQ, memb, List.any_nil, Bool.true_or, Bool.and_true, reset_merge, reset_reset, reset_next, reset_low, merge_next, merge_idem, ble_self, aWanted, ↓bite_eq, ↓reduceIte, aStep_eq, aStepOld, aOp, opFieldAddr, opLoad, aev, ann, aPut, rget_rput, Nat.zero_add, Bool.not_false, opNil, fld58_3, h0, opLookup, RQ.ld3, lk5, fld1, (AY.ext (Ext.reset σ8)).to]
        rfl
      have e9 : Ext σ8 (σ8.merge σ8.reset) := (Ext.refl _).merge
      generalize σ8.merge σ8.reset = σ9 at e9
      have R9 := R8.ext e9
      have A9 := AY.ext e9
      cases hb : y.outer.getD a.2.toNat false with
      | true =>
        repeat apply W_assoc
        refine W_if (b := true) ?_ ?_ ?_
        · simp +decide only [aev, rget_rput, if_true, if_false]
        rotate_left
        · intro h; cases h
        intro _
        have hgo2 : outerGo (outerF L f) (row.drop (i + 1)) y = outerGo (outerF L f) row x2 := by
          rw [← hgo]
          show _ = outerGo (outerF L f) (a :: row.drop (i + 1)) y
          conv => rhs; unfold outerGo
          rw [if_neg (by rw [hyf]; decide), if_pos (by rw [hgd2, hb])]
        refine W_exitq ⟨fun _ => ?_, fun h1 h2 => absurd rfl (h2 : 1 + 2 ≠ 1 + 2)⟩
        refine W_tail ?_
        repeat apply W_assoc
        apply W_reg
        · intro callf
          simp +decide only [aOps, aWanted, ↓bite_eq, ↓reduceIte, aStep_eq, aStepOld, aOp, opBin, aev, ann, aPut, rget_rput, h39, w1, aBin, aInts, aInt_eq]
          rfl
        refine W_skip ⟨fun _ => ⟨(i + 1, y), ?_, ?_⟩, fun h => (nomatch h), fun h => absurd rfl h⟩
        · show row.length - (i + 1) < row.length - i
          omega
        · refine ⟨by show i + 1 ≤ row.length; omega, hyf, hs2, hl2, hc2, ⟨d7, ei, ep, R9, hnil, hei, hep, heok⟩, hgo2, ?_, ?_, ?_, ?_, ?_⟩ <;> simp +decide only [rget_rput, if_true, if_false, h0, h1, h37, h38, h39]
      | false =>
        repeat apply W_assoc
        refine W_if (b := false) ?_ ?_ ?_
        · simp +decide only [aev, rget_rput, if_true, if_false]
        · intro h; cases h
        intro _
        apply W_skipq
        have hB : (σ9.new ⟨1, 53, 0, [.int .i64 (s : Int), .int .i64 (i : Int)], []⟩).get σ9.next = ⟨1, 53, 0, [.int .i64 (s : Int), .int .i64 (i : Int)], []⟩ := by rw [AS.get_new, if_pos rfl]
        have e10 := Ext.new σ9 ⟨1, 53, 0, [.int .i64 (s : Int), .int .i64 (i : Int)], []⟩
        have heps : ep.length = x.stem.length := by rw [← hs2, ← hep, List.length_map]
        obtain ⟨v3, s9, ha9, M9, hv9, hA9⟩ := (R9.ext e10).pushP (y := .slice (some ⟨σ9.next, 0, none⟩) 1 1) (Src.of (m := [((s : Int), (i : Int))]) (.inr (.inr ⟨σ9.next, 0, 1, rfl, cells_at hB rfl (Nat.le_refl _)⟩))) ⟨rfl, rfl⟩ hnil (by show ep.length + 1 ≤ _; omega)
        have A10 := hA9 _ _ (A9.ext e10)
        have hst9 := M9.st6 hv9
        repeat apply W_assoc
        apply W_reg
        · intro callf
          simp +decide only [aOps, aWanted, ↓bite_eq, ↓reduceIte, aStep_eq, aStepOld, aOp, opCall, opFieldAddr, opLoad, opStore, opBuildSlice, opBuild, aev, aevs, aparts, ann, unn, aPut, rget_rput, aBuiltin, opNil, fld58_6, h0, h1, R9.ld6, build53, slice51a, ha9, hst9]
          rfl
        have R10 := M9.put
        have A10 := A10.putP M9.c.kd M9.c.el (pblk (.func (.func 25) #[] #[.pointer (some ⟨b1, 0, none⟩)]) L.length (cU y.outer y.inner) { d7 with pv := v3 })
        generalize s9.put xb (pblk (.func (.func 25) #[] #[.pointer (some ⟨b1, 0, none⟩)]) L.length (cU y.outer y.inner) { d7 with pv := v3 }) = σ10 at R10 A10
        clear M9 A9 hA9 ha9 hst9 hB e10
        dsimp only at R10
        have heok2 : ∀ e ∈ (ep ++ [((s : Int), (i : Int))]) ++ ei, EOk L e := fun e he => by
          rcases List.mem_append.1 he with h | h
          · rcases List.mem_append.1 h with h | h
            · exact heok e (List.mem_append.2 (.inl h))
            · rw [List.mem_singleton.1 h]
              exact ⟨row, by rw [Int.toNat_natCast]; exact hrow, by show (0 : Int) ≤ (s : Int); omega, by show (0 : Int) ≤ (i : Int); omega, by rw [Int.toNat_natCast]; exact hlt⟩
          · exact heok e (List.mem_append.2 (.inr h))
        have hmap2 : (ep ++ [((s : Int), (i : Int))]).map (arcAt L) = y.stem ++ [a] := by
          rw [List.map_append, hep, List.map_cons, List.map_nil, arcAt_of hrow ha]
        have hit : y.outer[a.2.toNat]? = some false := by
          have h1 : a.2.toNat < y.outer.length := by rw [hol]; exact ht
          rw [List.getD_eq_getElem?_getD, List.getElem?_eq_getElem h1] at hb
          rw [List.getElem?_eq_getElem h1]
          exact congrArg some hb
        have CC := ih (σ := σ10) (x := { y with stem := y.stem ++ [a] }) (s := a.2.toNat) ⟨_, ei, _, R10, hnil, hei, hmap2, heok2⟩ ht hyf hl2 hc2 hit (by show (y.stem ++ [a]).length + f ≤ 900; rw [hs2]; simp; omega)
        have hsp := outerF_spec L hN f { y with stem := y.stem ++ [a] } a.2.toNat hyf (by show (y.stem ++ [a]).length + f ≤ 1000; rw [hs2]; simp; omega)
        have hgo2 := hgo
        conv at hgo2 => lhs; unfold outerGo
        rw [if_neg (by rw [hyf]; decide), if_neg (by rw [hgd2, hb]; decide)] at hgo2
        rw [et] at CC
        generalize outerF L f { y with stem := y.stem ++ [a] } a.2.toNat = z at CC hsp hgo2
        clear R7 R8 R9 R10 RQ
        repeat apply W_assoc
        apply W_regL
        apply Ls_pre 3
        · intro callf
          simp +decide only [List.take, aOps, aWanted, ↓bite_eq, ↓reduceIte, aStep_eq, aStepOld, aOp, opFieldAddr, opLoad, aev, ann, aPut, rget_rput, Nat.zero_add, h0, A10.to, fld1]
          rfl
        dsimp only [List.drop]
        refine Ls_fn (vs := [.pointer (some ⟨xb, 0, none⟩), .int .i64 a.2]) (by simp +decide only [aevs, aev, rget_rput, if_true, if_false]) (by decide) (C.mono (CC) ?_)
        rintro v σ' ⟨rfl, hno, hyes⟩
        apply Ls_all
        · intro callf
          simp +decide only [aOps]
          rfl
        generalize σ' = σ14 at hno hyes
        cases hzf : z.found with
        | true =>
          obtain ⟨dz, yz, cz, RZ, hz1, hz2, hz3⟩ := hyes hzf
          repeat apply W_assoc
          refine W_if (b := true) ?_ ?_ ?_
          · simp +decide only [aev, rget_rput, if_true, if_false]
          rotate_left
          · intro h; cases h
          intro _
          repeat apply W_assoc
          apply W_reg
          · intro callf
            simp +decide only [aOps, aWanted, ↓bite_eq, ↓reduceIte, aStep_eq, aStepOld, aOp, aev, ann, aPut]
            rfl
          rw [if_pos hzf, outerGo_found _ hzf] at hgo2
          refine W_retq ⟨fun h => h.elim (fun h => (nomatch h)) (fun h => (nomatch h)), fun _ _ => ⟨fun h => (nomatch h), fun h => (nomatch h), fun _ _ => ⟨Nat.le_refl _, [.bool true], ?_, ?_⟩⟩⟩
          · simp +decide only [aResults, rget_rput, if_true, if_false]
          · rw [hfin z hgo2]
            refine ⟨by rw [hzf]; rfl, fun h => ?_, fun _ => ⟨dz, yz, cz, RZ, hz1, hz2, hz3⟩⟩
            rw [hzf] at h; cases h
        | false =>
          obtain ⟨dz, ez, pz, RZ, hnz, hmz, hpz, hokz⟩ := hno hzf
          repeat apply W_assoc
          refine W_if (b := false) ?_ ?_ ?_
          · simp +decide only [aev, rget_rput, if_true, if_false]
          · intro h; cases h
          intro _
          apply W_skipq
          obtain ⟨g3, g4⟩ := hsp.no hzf
          dsimp only at g3 g4
          have hzl : z.loop = [] := by rw [g4]; exact hl2
          have q1 : z.stem.dropLast = x.stem := by rw [g3, hs2]; simp
          have hzp : pz.length = x.stem.length + 1 := by rw [← List.length_map (f := arcAt L), hpz, g3, hs2]; simp
          rw [if_neg (by rw [hzf]; decide)] at hgo2
          refine W_tail ?_
          have RQ := RZ.ext (Ext.reset σ14)
          obtain ⟨v5, hs5, M5, hv5⟩ := RQ.popP ⟨rfl, rfl⟩ hnz
          obtain ⟨pa, pc, hpv⟩ := RQ.c.path.len
          have l7 := RQ.ld6
          dsimp only at l7 hs5 hpv M5
          rw [hpv] at l7 hs5
          have w9 : IntKind.i64.wrap ((pz.length : Int) - 1) = ((pz.length - 1 : Nat) : Int) := by rw [wrap64_id _ (by omega) (by omega)]; omega
          repeat apply W_assoc
          refine W_drw [] [] (by kernel_rfl) (by kernel_rfl) ?_
          apply Lg_pre 14
          · intro callf
            simp +decide only [List.take, aQ, memb, List.any_nil, Bool.true_or, Bool.and_true, reset_merge, reset_reset, reset_next, reset_low, merge_next, merge_idem, ble_self, aWanted, ↓bite_eq, ↓reduceIte, aStep_eq, aStepOld, aOp, opBin, opCall, opFieldAddr, opLoad, opSlice, aev, aevs, ann, aPut, rget_rput, aBuiltin, aLen, List.getElem?_toArray, List.getElem?_cons_zero, Nat.zero_add, Bool.not_false, opNil, fld58_6, h0, l7, w9, hs5, aopt, Try.underlying51, goInt, aBin, aInts, aInt_eq]
            rfl
          dsimp only [List.drop, List.take, List.length]
          have M8 := M5.merge RZ.c.ext
          generalize σ14.merge σ14.reset = τ1 at M8
          refine Lg_st (v := undef) (s1 := τ1.reset.put xb (pblk (.func (.func 25) #[] #[.pointer (some ⟨b1, 0, none⟩)]) L.length (cU z.outer z.inner) { dz with pv := v5 })) (by intro callf; simp +decide only [↓reduceIte, aStep_eq, aStepOld, aOp, opStore, aev, unn, rget_rput, (M8.ext (Ext.reset τ1)).st6 hv5]) (by kernel_rfl) ?_
          have RP := (M8.ext (Ext.reset τ1)).put.merge M8.c.ext
          clear M5 hs5 l7 hpv RQ w9 M8
          generalize τ1.merge (τ1.reset.put xb (pblk (.func (.func 25) #[] #[.pointer (some ⟨b1, 0, none⟩)]) L.length (cU z.outer z.inner) { dz with pv := v5 })) = τ2 at RP
          show W _ _ _ 84 _ _ _ _
          refine W_skip ⟨fun _ => ?_, fun h => absurd rfl h⟩
          refine W_tail ?_
          repeat apply W_assoc
          apply W_reg
          · intro callf
            simp +decide only [aOps, aWanted, ↓bite_eq, ↓reduceIte, aStep_eq, aStepOld, aOp, opBin, aev, ann, aPut, rget_rput, h39, w1, aBin, aInts, aInt_eq]
            rfl
          refine W_skip ⟨fun _ => ⟨(i + 1, ({ z with stem := z.stem.dropLast } : SS)), ?_, ?_⟩, fun h => (nomatch h), fun h => absurd rfl h⟩
          · show row.length - (i + 1) < row.length - i
            omega
          · refine ⟨by show i + 1 ≤ row.length; omega, hzf, q1, hzl, Nat.le_trans hsp.cnt hc2, ⟨{ dz with pv := v5 }, ez, pz.dropLast, RP, hnz, hmz, by rw [List.map_dropLast, hpz], fun e he => hokz e (List.mem_append.2 ((List.mem_append.1 he).imp (fun h => (List.dropLast_sublist _).subset h) id))⟩, hgo2, ?_, ?_, ?_, ?_, ?_⟩ <;> simp +decide only [rget_rput, if_true, if_false, h0, h1, h37, h38, h39]

end Go.Proofs.Ytbknckiapcafdaa.Nest
