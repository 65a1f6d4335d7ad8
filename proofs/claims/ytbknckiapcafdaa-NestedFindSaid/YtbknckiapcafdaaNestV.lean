/- The outer search (function 33). -/
import Derived.Test.YtbknckiapcafdaaNestU
set_option linter.unusedSimpArgs false
set_option linter.unusedVariables false
namespace Go.Proofs.Ytbknckiapcafdaa.Nest
open Abs Abs2

set_option maxHeartbeats 16000000 in
theorem outer_c {σ0 : AS} {xb cap : Nat} {base : Option Addr} {L : Lts} (hr : RS 1 RRow σ0 (.slice base L.length cap) L) (hw : WF L) (hN : L.length ≤ 400) :
    ∀ (f : Nat) {σ : AS} {x : SS} {s : Nat}, Rep σ0 σ xb (.slice base L.length cap) L.length x → s < L.length → x.found = false → x.loop = [] → cnt x.outer ≤ f → x.outer[s]? = some false →
      x.stem.length + f ≤ 900 → C Try.prog Kn 0 33 [.pointer (some ⟨xb, 0, none⟩), .int .i64 (s : Int)] σ fun _ σ' => Rep σ0 σ' xb (.slice base L.length cap) L.length (outerF L f x s) := by
  intro f
  induction f with
  | zero =>
    intro σ x s _ _ _ _ hc hs
    have := cnt_set hs
    omega
  | succ f ih =>
    intro σ x s hR hs hfd hlp hc hout hsf
    have INN := @inner_c σ0 xb cap base L hr hw hN L.length
    obtain ⟨row, hrow⟩ : ∃ row, L[s]? = some row := ⟨L[s], by simp [hs]⟩
    have hrm : row ∈ L := List.mem_of_getElem? hrow
    have hgd : L.getD s [] = row := by simp [List.getD, hrow]
    have hrl := hw.row row hrm
    have hto := hw.to row hrm
    obtain ⟨-, b0, off0, rv, rfl, -, hrl2, hrv⟩ := rowOf hr hrow
    obtain ⟨rb, rc, rfl, -⟩ := id hrv
    obtain ⟨d, R⟩ := hR
    have hcs := cnt_set hout
    obtain ⟨mb, -, hm1, hm2, R1⟩ := R.markO hs
    refine C_of (kn (by decide)) Try.func33 rfl (Nat.le_of_ble_eq_true rfl) ?_
    show W _ _ _ 104 _ _ _ _
    unfold Try.f33
    dsimp only
    repeat apply W_assoc
    apply W_reg
    · intro callf
      simp +decide only [aOps, rinit, aWanted, ↓bite_eq, ↓reduceIte, aStep_eq, aStepOld, aOp, opIndexAddr, opFieldAddr, opLoad, opStore, aev, ann, unn, aPut, rget_rput, Nat.zero_add, opNil, fld66_1, R.ld1, hm1, hm2]
      rfl
    generalize σ.put mb ⟨1, 4, 0, (x.outer.set s true).map Value.bool, []⟩ = σ1 at R1
    show W _ _ _ 104 _ _ _ _
    have hfin : ∀ σ' (y : SS), y = outerGo (outerF L f) row (enterF L { x with outer := x.outer.set s true } s) → Rep σ0 σ' xb (.slice (some ⟨b0, off0, none⟩) L.length cap) L.length y → Rep σ0 σ' xb (.slice (some ⟨b0, off0, none⟩) L.length cap) L.length (outerF L (f + 1) x s) := fun σ' y e h => by
      have e2 : outerF L (f + 1) x s = outerGo (outerF L f) (L.getD s []) (enterF L { x with outer := x.outer.set s true } s) := rfl
      rw [e2, hgd, ← e]; exact h
    have hx1f : cnt (x.outer.set s true) ≤ f := by omega
    have hx1s : ({ x with outer := x.outer.set s true } : SS).stem.length ≤ 900 := by show x.stem.length ≤ 900; omega
    have hOP := enterF_spec L hN (x := { x with outer := x.outer.set s true }) (s := s) hfd (by omega)
    have hx1 : ({ x with outer := x.outer.set s true } : SS).found = false := hfd
    have hx2 : ({ x with outer := x.outer.set s true } : SS).loop = [] := hlp
    have hx3 : cnt ({ x with outer := x.outer.set s true } : SS).outer ≤ f := hx1f
    have hx4 : ({ x with outer := x.outer.set s true } : SS).stem = x.stem := rfl
    generalize ({ x with outer := x.outer.set s true } : SS) = x1 at R1 hfin hx1 hx2 hx3 hx4 hx1s hOP
    obtain ⟨ib, -, -, -, -, hix, hld, -⟩ := R1.c.inner.at (i := s) (by rw [R1.c.il]; exact hs)
    have hld := hld _ (Ext.refl _)
    repeat apply W_assoc
    apply W_reg
    · intro callf
      simp +decide only [aOps, aWanted, ↓bite_eq, ↓reduceIte, aStep_eq, aStepOld, aOp, opUn, opIndexAddr, opFieldAddr, opLoad, aev, ann, aPut, rget_rput, flat, flat1, opNil, fld66_2, R1.ld2, hix, hld, not_b]
      rfl
    repeat apply W_assoc
    refine W_join (b := !(x1.inner.getD s true)) (fun r σ' => Rep σ0 σ' xb (.slice (some ⟨b0, off0, none⟩) L.length cap) L.length (enterF L x1 s) ∧ rget r 0 = .pointer (some ⟨xb, 0, none⟩) ∧ rget r 1 = .int .i64 (s : Int)) ?_ ?_ ?_ ?_
    · simp +decide only [aev, rget_rput, if_true, if_false]
    · intro hb
      have hb : x1.inner.getD s true = false := by simpa using hb
      have he : enterF L x1 s = innerF L L.length { x1 with path := [], on := [(s : Int)] } s := by
        unfold enterF
        rw [if_neg (by rw [hb]; decide)]
      have hit : x1.inner[s]? = some false := by
        rw [List.getD_eq_getElem?_getD] at hb
        cases hq : x1.inner[s]? with
        | none => rw [hq] at hb; cases hb
        | some q => rw [hq] at hb; exact congrArg some hb
      have RB := R1.begin (s : Int) hx2
      have g1 : (σ1.new ⟨1, 3, 0, [.int .i64 (s : Int)], []⟩).get xb = fblk (.slice (some ⟨b0, off0, none⟩) L.length cap) x1.found d := by
        rw [AS.get_new, if_neg (by have := R1.c.lt; omega)]; exact R1.get
      have s1 := st3g (v' := .slice none 0 0) g1 ⟨_, _, _, rfl⟩
      have g2 : ((σ1.new ⟨1, 3, 0, [.int .i64 (s : Int)], []⟩).put xb (fblk (.slice (some ⟨b0, off0, none⟩) L.length cap) x1.found { d with pv := .slice none 0 0 })).get xb = fblk (.slice (some ⟨b0, off0, none⟩) L.length cap) x1.found { d with pv := .slice none 0 0 } := by rw [AS.get_put, if_pos rfl]
      have s2 := st4g (v' := .slice (some ⟨σ1.next, 0, none⟩) 1 1) g2 ⟨_, _, _, rfl⟩
      repeat apply W_assoc
      apply W_reg
      · intro callf
        simp +decide only [aOps, aWanted, ↓bite_eq, ↓reduceIte, aStep_eq, aStepOld, aOp, opFieldAddr, opStore, opBuildSlice, aev, aparts, ann, unn, aPut, rget_rput, opNil, fld66_3, fld66_4, slice33a, s1, s2]
        rfl
      generalize ((σ1.new ⟨1, 3, 0, [.int .i64 (s : Int)], []⟩).put xb (fblk (.slice (some ⟨b0, off0, none⟩) L.length cap) x1.found { d with pv := .slice none 0 0 })).put xb (fblk (.slice (some ⟨b0, off0, none⟩) L.length cap) x1.found { d with pv := .slice none 0 0, nv := .slice (some ⟨σ1.next, 0, none⟩) 1 1 }) = σ2 at RB
      have CC := INN (x := { x1 with path := [], on := [(s : Int)] }) ⟨_, RB⟩ hs hx1 rfl hx2 (by have := cnt_le x1.inner; rw [R1.c.il] at this; exact this) hit (by show 0 + L.length ≤ 900; omega) (by show x1.stem.length ≤ 1000; omega)
      rw [← he] at CC
      refine W_tail ?_
      repeat apply W_assoc
      apply W_regL
      apply Ls_pre 2
      · intro callf
        simp +decide only [List.take, aOps, aWanted, ↓bite_eq, ↓reduceIte, aStep_eq, aStepOld, aOp, aev, ann, aPut, rget_rput]
        rfl
      dsimp only [List.drop]
      refine Ls_fn (vs := [.pointer (some ⟨xb, 0, none⟩), .int .i64 (s : Int)]) (by simp +decide only [aevs, aev, rget_rput, if_true, if_false]) (by decide) (C.mono (CC) ?_)
      rintro v σ' RZ
      apply Ls_all
      · intro callf
        simp +decide only [aOps]
        rfl
      refine W_skip ⟨rfl, RZ, ?_, ?_⟩ <;> simp +decide only [rget_rput, if_true, if_false]
    · intro hb
      have hb : x1.inner.getD s true = true := by simpa using hb
      have he : enterF L x1 s = x1 := by
        unfold enterF
        rw [if_pos hb]
      rw [he]
      refine W_skip ⟨rfl, ⟨d, R1⟩, ?_, ?_⟩ <;> simp +decide only [rget_rput, if_true, if_false]
    rintro r σ3 ⟨⟨d3, R3⟩, h0, h1⟩
    have hgoodE : (enterF L x1 s).found = true ∨ ((enterF L x1 s).found = false ∧ (enterF L x1 s).stem = x.stem ∧ (enterF L x1 s).loop = [] ∧ cnt (enterF L x1 s).outer ≤ f) := by
      cases hq : (enterF L x1 s).found with
      | true => exact .inl rfl
      | false => exact .inr ⟨rfl, (hOP.no hq).1.trans hx4, (hOP.no hq).2.trans hx2, Nat.le_trans hOP.cnt hx3⟩
    generalize enterF L x1 s = x2 at R3 hfin hgoodE hOP
    repeat apply W_assoc
    apply W_reg
    · intro callf
      simp +decide only [aOps, aWanted, ↓bite_eq, ↓reduceIte, aStep_eq, aStepOld, aOp, aev, ann, aPut]
      rfl
    refine W_tail ?_
    repeat apply W_assoc
    refine W_for (fun (p : Nat × SS) r σ' => p.1 ≤ row.length ∧ Rep σ0 σ' xb (.slice (some ⟨b0, off0, none⟩) L.length cap) L.length p.2 ∧ outerGo (outerF L f) (row.drop p.1) p.2 = outerGo (outerF L f) row x2 ∧
        (p.2.found = true ∨ (p.2.found = false ∧ p.2.stem = x.stem ∧ p.2.loop = [] ∧ cnt p.2.outer ≤ f)) ∧ rget r 0 = .pointer (some ⟨xb, 0, none⟩) ∧ rget r 1 = .int .i64 (s : Int) ∧ rget r 4 = .int .i64 (p.1 : Int))
      (fun p => row.length - p.1) ?_ (0, x2) ?_
    rotate_left
    · refine ⟨Nat.zero_le _, ⟨d3, R3⟩, rfl, hgoodE, ?_⟩
      simp +decide only [rget_rput, if_true, if_false, h0, h1]
      refine ⟨?_, ?_, ?_⟩ <;> first | exact True.intro | rfl
    clear h0 h1
    rintro ⟨i, y⟩ r σ2 ⟨hi, ⟨d2, R2⟩, hgo, hgood, h0, h1, h4⟩
    dsimp only at hi R2 hgo hgood h4
    have rl := hrl2 _ R2.c.ext
    by_cases hlt : i < row.length
    rotate_left
    · have d1 : decide ((i : Int) < (row.length : Int)) = false := decide_eq_false (by omega)
      repeat apply W_assoc
      apply W_reg
      · intro callf
        simp +decide only [aOps, aWanted, ↓bite_eq, ↓reduceIte, aStep_eq, aStepOld, aOp, opBin, opCall, opIndexAddr, opFieldAddr, opLoad, opPick, aev, aevs, ann, aPut, rget_rput, aBuiltin, aLen, List.getElem?_toArray, List.getElem?_cons_zero, List.getElem?_cons_succ, Option.bind_some, Bool.not_true, Bool.false_beq, opNil, fld66_0, fldL, h0, h1, h4, R2.ld0, idx28 hs, rl, d1, Try.underlying22, goInt, aBin, aInts, aInt_eq]
        rfl
      repeat apply W_assoc
      refine W_if (b := false) ?_ ?_ ?_
      · simp +decide only [aev, rget_rput, if_true, if_false]
      · intro h; cases h
      intro _
      refine W_exitq ⟨fun h => (nomatch h), fun _ => ?_, fun h1 h2 => absurd rfl h2⟩
      refine W_skip ⟨Nat.zero_le _, [], rfl, hfin _ y ?_ ⟨d2, R2⟩⟩
      rw [List.drop_eq_nil_of_le (by omega)] at hgo
      exact hgo
    have d1 : decide ((i : Int) < (row.length : Int)) = true := decide_eq_true (by omega)
    cases hyf : y.found with
    | true =>
      repeat apply W_assoc
      apply W_reg
      · intro callf
        simp +decide only [aOps, aWanted, ↓bite_eq, ↓reduceIte, aStep_eq, aStepOld, aOp, opBin, opUn, opCall, opIndexAddr, opFieldAddr, opLoad, opPick, aev, aevs, ann, aPut, rget_rput, aBuiltin, aLen, List.getElem?_toArray, List.getElem?_cons_zero, List.getElem?_cons_succ, Option.bind_some, beq_self_eq_true, Bool.not_true, opNil, fld66_0, fld66_7, fldL, h0, h1, h4, R2.ld0, R2.ld7, hyf, not_b, idx28 hs, rl, d1, Try.underlying22, goInt, aBin, aInts, aInt_eq]
        rfl
      repeat apply W_assoc
      refine W_if (b := false) ?_ ?_ ?_
      · simp +decide only [aev, rget_rput, if_true, if_false]
      · intro h; cases h
      intro _
      refine W_exitq ⟨fun h => (nomatch h), fun _ => ?_, fun h1 h2 => absurd rfl h2⟩
      refine W_skip ⟨Nat.zero_le _, [], rfl, hfin _ y ?_ ⟨d2, R2⟩⟩
      rw [outerGo_found _ hyf] at hgo
      exact hgo
    | false =>
      repeat apply W_assoc
      apply W_reg
      · intro callf
        simp +decide only [aOps, aWanted, ↓bite_eq, ↓reduceIte, aStep_eq, aStepOld, aOp, opBin, opUn, opCall, opIndexAddr, opFieldAddr, opLoad, opPick, aev, aevs, ann, aPut, rget_rput, aBuiltin, aLen, List.getElem?_toArray, List.getElem?_cons_zero, List.getElem?_cons_succ, Option.bind_some, beq_self_eq_true, Bool.not_false, opNil, fld66_0, fld66_7, fldL, h0, h1, h4, R2.ld0, R2.ld7, hyf, not_b, idx28 hs, rl, d1, Try.underlying22, goInt, aBin, aInts, aInt_eq]
        rfl
      repeat apply W_assoc
      refine W_if (b := true) ?_ ?_ ?_
      · simp +decide only [aev, rget_rput, if_true, if_false]
      rotate_left
      · intro h; cases h
      intro _
      apply W_skipq
      refine W_blk ?_
      obtain ⟨a, ha⟩ : ∃ a, row[i]? = some a := ⟨row[i], by simp [hlt]⟩
      obtain ⟨-, b1, off1, rfl, -, hat⟩ := arcOf hrv ha
      have hdrop : row.drop i = a :: row.drop (i + 1) := by
        rw [List.drop_eq_getElem_cons hlt, (List.getElem?_eq_some_iff.1 ha).2]
      have hat2 := hto a (List.mem_of_getElem? ha)
      rw [hdrop] at hgo
      obtain ⟨-, hs2, hl2, hc2⟩ := hgood.resolve_left (by rw [hyf]; decide)
      repeat apply W_assoc
      apply W_reg
      · intro callf
        simp +decide only [aOps, aWanted, ↓bite_eq, ↓reduceIte, aStep_eq, aStepOld, aOp, opIndexAddr, opFieldAddr, opLoad, opStore, aev, ann, unn, aPut, rget_rput, opNil, fld66_0, fldL, h0, h1, h4, R2.ld0, idx28 hs, rl, idx22 hlt, (hat _ R2.c.ext).1, alloc27, store27]
        rfl
      have AY := decl_at σ2 a
      have ed := decl_ext σ2 a
      generalize hab : σ2.next = ab at AY
      generalize decl σ2 a = σ4 at AY ed
      have R4 := R2.ext ed
      have A4 := AY
      have w1 : IntKind.i64.wrap ((i : Int) + 1) = ((i + 1 : Nat) : Int) := by rw [wrap64_id _ (by omega) (by omega)]; omega
      have et : ((a.2.toNat : Nat) : Int) = a.2 := by omega
      have ht : a.2.toNat < L.length := by omega
      obtain ⟨ob, -, -, -, -, hix, hld, -⟩ := R4.c.outer.at (i := a.2.toNat) (by rw [R4.c.ol]; exact ht)
      rw [et] at hix
      have h5 : True := trivial
      repeat apply W_assoc
      refine W_drw [] [] (by kernel_rfl) (by kernel_rfl) ?_
      apply Lg_all
      · intro callf
        simp +decide only [aQ, memb, List.any_nil, Bool.true_or, Bool.and_true, reset_merge, reset_reset, reset_next, reset_low, merge_next, merge_idem, ble_self, aWanted, ↓bite_eq, ↓reduceIte, aStep_eq, aStepOld, aOp, opUn, opIndexAddr, opFieldAddr, opLoad, aev, ann, aPut, rget_rput, flat, flat1, Nat.zero_add, Bool.not_false, opNil, fld66_1, h0, (R4.ext (Ext.reset σ4)).ld1, (A4.ext (Ext.reset σ4)).to, fld1, hix, hld _ (Ext.reset σ4), not_b]
        rfl
      have e5 : Ext σ4 (σ4.merge σ4.reset) := (Ext.refl _).merge
      generalize σ4.merge σ4.reset = σ5 at e5
      have R5 := R4.ext e5
      have A5 := A4.ext e5
      refine W_tail ?_
      repeat apply W_assoc
      refine W_if (b := !(y.outer.getD a.2.toNat true)) ?_ ?_ ?_
      · simp +decide only [aev, rget_rput, if_true, if_false]
      rotate_left
      · intro hb
        have hb : y.outer.getD a.2.toNat true = true := by simpa using hb
        have hgo2 : outerGo (outerF L f) (row.drop (i + 1)) y = outerGo (outerF L f) row x2 := by
          rw [← hgo]
          show _ = outerGo (outerF L f) (a :: row.drop (i + 1)) y
          conv => rhs; unfold outerGo
          rw [if_neg (by rw [hyf]; decide), if_pos hb]
        apply W_skipq
        refine W_skip ⟨fun _ => ?_, fun h => absurd rfl h⟩
        refine W_tail ?_
        repeat apply W_assoc
        apply W_reg
        · intro callf
          simp +decide only [aOps, aWanted, ↓bite_eq, ↓reduceIte, aStep_eq, aStepOld, aOp, opBin, aev, ann, aPut, rget_rput, h4, w1, aBin, aInts, aInt_eq]
          rfl
        refine W_skip ⟨fun _ => ⟨(i + 1, y), ?_, ?_⟩, fun h => (nomatch h), fun h => absurd rfl h⟩
        · show row.length - (i + 1) < row.length - i
          omega
        · refine ⟨by show i + 1 ≤ row.length; omega, ⟨d2, R5⟩, hgo2, hgood, ?_, ?_, ?_⟩ <;> simp +decide only [rget_rput, if_true, if_false, h0, h1, h4]
      intro hb
      have hb : y.outer.getD a.2.toNat true = false := by simpa using hb
      have RQ := R5.ext (Ext.reset σ5)
      have AQ := A5.ext (Ext.reset σ5)
      repeat apply W_assoc
      refine W_drw [] [] (by kernel_rfl) (by kernel_rfl) ?_
      apply Lg_pre 6
      · intro callf
        simp +decide only [List.take, aQ, memb, List.any_nil, Bool.true_or, Bool.and_true, reset_merge, reset_reset, reset_next, reset_low, merge_next, merge_idem, ble_self, aWanted, ↓bite_eq, ↓reduceIte, aStep_eq, aStepOld, aOp, opFieldAddr, opLoad, aev, ann, aPut, rget_rput, Nat.zero_add, Bool.not_false, opNil, fld66_5, h0, RQ.ld5, AQ.load]
        rfl
      dsimp only [List.drop, List.take, List.length]
      have eq : Ext σ5 (σ5.merge σ5.reset) := (Ext.refl _).merge
      generalize σ5.merge σ5.reset = σq at eq
      have RB := R5.ext eq
      have AB := A5.ext eq
      apply Lg_pre 1
      · intro callf
        simp +decide only [List.take, aQ, memb, List.any_nil, Bool.true_or, Bool.and_true, reset_next, reset_low, new_low, ble_self, aWanted, ↓bite_eq, ↓reduceIte, aStep_eq, aStepOld, aOp, opBuildSlice, aev, aparts, aPut, rget_rput, Nat.zero_add, Bool.not_false, slice22]
        rfl
      dsimp only [List.drop, List.take, List.length]
      have e6 : Ext σq (σq.merge (σq.reset.new ⟨1, 27, 0, [.int .i64 a.1, .int .i64 a.2], []⟩)) := Ext.merge (Ext.new _ _)
      have hB : (σq.merge (σq.reset.new ⟨1, 27, 0, [.int .i64 a.1, .int .i64 a.2], []⟩)).get σq.next = ⟨1, 27, 0, [.int .i64 a.1, .int .i64 a.2], []⟩ := by
        rw [get_merge]
        exact (AS.get_new σq.reset _ σq.reset.next).trans (if_pos rfl)
      generalize hn5 : σq.next = n5 at hB
      generalize σq.merge (σq.reset.new ⟨1, 27, 0, [.int .i64 a.1, .int .i64 a.2], []⟩) = σ6 at e6 hB
      have RR := (RB.ext e6).ext (Ext.reset σ6)
      have AR := (AB.ext e6).ext (Ext.reset σ6)
      obtain ⟨v3, s9, ha9, M9, hv9, hA9⟩ := RR.pushStem (y := .slice (some ⟨n5, 0, none⟩) 1 1) (Src.of (m := [a]) (.inr (.inr ⟨n5, 0, 1, rfl, cells_at hB rfl (Nat.le_refl _)⟩))) hl2 (by rw [hs2]; show x.stem.length + 1 ≤ _; omega)
      refine Lg_op (v := v3) (s1 := s9) (by intro callf; simp +decide only [↓reduceIte, aStep_eq, aStepOld, aOp, opCall, aev, aevs, rget_rput, aBuiltin, ha9]) (by decide) (by kernel_rfl) ?_
      have M8 := M9.merge (RB.ext e6).c.ext
      have A8 := arc_merge (σ := σ6) (hA9 _ _ AR)
      clear M9 hA9 ha9 hB RR AR RQ AQ
      generalize σ6.merge s9 = σ7 at M8 A8
      apply Lg_pre 2
      · intro callf
        simp +decide only [List.take, aQ, memb, List.any_nil, Bool.true_or, Bool.and_true, reset_merge, reset_reset, reset_next, reset_low, merge_next, merge_idem, ble_self, aWanted, ↓bite_eq, ↓reduceIte, aStep_eq, aStepOld, aOp, opFieldAddr, aev, ann, aPut, rget_rput, Nat.zero_add, Bool.not_false, opNil, fld66_5]
        rfl
      dsimp only [List.drop, List.take, List.length]
      have e7 : Ext σ7 (σ7.merge σ7.reset) := (Ext.refl _).merge
      generalize σ7.merge σ7.reset = σ8 at e7
      have M7 := M8.ext e7
      have A7 := A8.ext e7
      refine Lg_st (v := undef) (s1 := σ8.reset.put xb (fblk (.slice (some ⟨b0, off0, none⟩) L.length cap) y.found { d2 with sv := v3 })) (by intro callf; simp +decide only [↓reduceIte, aStep_eq, aStepOld, aOp, opStore, aev, unn, rget_rput, (M7.ext (Ext.reset σ8)).st5 hv9]) (by kernel_rfl) ?_
      have R9 := (M7.ext (Ext.reset σ8)).put.merge M7.c.ext
      have A9 := arc_merge (σ := σ8) ((A7.ext (Ext.reset σ8)).putX (M7.ext (Ext.reset σ8)).c.el (fblk (.slice (some ⟨b0, off0, none⟩) L.length cap) y.found { d2 with sv := v3 }))
      generalize σ8.merge (σ8.reset.put xb (fblk (.slice (some ⟨b0, off0, none⟩) L.length cap) y.found { d2 with sv := v3 })) = σ9 at R9 A9
      show W _ _ _ 104 _ _ _ _
      have hit : y.outer[a.2.toNat]? = some false := by
        rw [List.getD_eq_getElem?_getD] at hb
        cases hq : y.outer[a.2.toNat]? with
        | none => rw [hq] at hb; cases hb
        | some q => rw [hq] at hb; exact congrArg some hb
      have CC := ih (x := { y with stem := y.stem ++ [a] }) ⟨_, R9⟩ ht hyf hl2 hc2 hit (by show (y.stem ++ [a]).length + f ≤ 900; rw [hs2]; simp; omega)
      have hsp := outerF_spec L hN f { y with stem := y.stem ++ [a] } a.2.toNat hyf (by show (y.stem ++ [a]).length + f ≤ 1000; rw [hs2]; simp; omega)
      have hgo2 := hgo
      conv at hgo2 => lhs; unfold outerGo
      rw [if_neg (by rw [hyf]; decide), if_neg (by rw [hb]; decide)] at hgo2
      rw [et] at CC
      generalize outerF L f { y with stem := y.stem ++ [a] } a.2.toNat = z at CC hsp hgo2
      repeat apply W_assoc
      apply W_regL
      apply Ls_pre 3
      · intro callf
        simp +decide only [List.take, aOps, aWanted, ↓bite_eq, ↓reduceIte, aStep_eq, aStepOld, aOp, opFieldAddr, opLoad, aev, ann, aPut, rget_rput, Nat.zero_add, h0, A9.to, fld1]
        rfl
      dsimp only [List.drop]
      refine Ls_fn (vs := [.pointer (some ⟨xb, 0, none⟩), .int .i64 a.2]) (by simp +decide only [aevs, aev, rget_rput, if_true, if_false]) (by decide) (C.mono (CC) ?_)
      rintro v σ' RZ
      apply Ls_all
      · intro callf
        simp +decide only [aOps]
        rfl
      obtain ⟨d4, RZ⟩ := RZ
      generalize σ' = σ14 at RZ
      cases hzf : z.found with
      | true =>
        repeat apply W_assoc
        apply W_reg
        · intro callf
          simp +decide only [aOps, aWanted, ↓bite_eq, ↓reduceIte, aStep_eq, aStepOld, aOp, opUn, opFieldAddr, opLoad, aev, ann, aPut, rget_rput, Bool.not_true, opNil, fld66_7, h0, RZ.ld7, hzf, not_b]
          rfl
        repeat apply W_assoc
        refine W_if (b := false) ?_ ?_ ?_
        · simp +decide only [aev, rget_rput, if_true, if_false]
        · intro h; cases h
        intro _
        apply W_skipq
        refine W_skip ⟨fun _ => ?_, fun h => absurd rfl h⟩
        rw [if_pos hzf] at hgo2
        refine W_tail ?_
        repeat apply W_assoc
        apply W_reg
        · intro callf
          simp +decide only [aOps, aWanted, ↓bite_eq, ↓reduceIte, aStep_eq, aStepOld, aOp, opBin, aev, ann, aPut, rget_rput, h4, w1, aBin, aInts, aInt_eq]
          rfl
        refine W_skip ⟨fun _ => ⟨(i + 1, z), ?_, ?_⟩, fun h => (nomatch h), fun h => absurd rfl h⟩
        · show row.length - (i + 1) < row.length - i
          omega
        · refine ⟨by show i + 1 ≤ row.length; omega, ⟨d4, RZ⟩, hgo2, .inl hzf, ?_, ?_, ?_⟩ <;> simp +decide only [rget_rput, if_true, if_false, h0, h1, h4]
      | false =>
        repeat apply W_assoc
        apply W_reg
        · intro callf
          simp +decide only [aOps, aWanted, ↓bite_eq, ↓reduceIte, aStep_eq, aStepOld, aOp, opUn, opFieldAddr, opLoad, aev, ann, aPut, rget_rput, Bool.not_false, opNil, fld66_7, h0, RZ.ld7, hzf, not_b]
          rfl
        repeat apply W_assoc
        refine W_if (b := true) ?_ ?_ ?_
        · simp +decide only [aev, rget_rput, if_true, if_false]
        rotate_left
        · intro h; cases h
        intro _
        obtain ⟨g3, g4⟩ := hsp.no hzf
        dsimp only at g3 g4
        rw [if_neg (by rw [hzf]; decide)] at hgo2
        have hzl : z.loop = [] := by rw [g4]; exact hl2
        have hzp : z.stem.length = x.stem.length + 1 := by rw [g3, hs2]; simp
        have q1 : z.stem.dropLast = x.stem := by rw [g3, hs2]; simp
        have RQ := RZ.ext (Ext.reset σ14)
        obtain ⟨pa, pc, hpv⟩ := RQ.c.stem.len
        obtain ⟨v5, hs9, M9, hv9⟩ := RQ.popStem hzl
        have l9 := RQ.ld5
        rw [hpv] at l9 hs9
        have w9 : IntKind.i64.wrap ((z.stem.length : Int) - 1) = ((z.stem.length - 1 : Nat) : Int) := by rw [wrap64_id _ (by omega) (by omega)]; omega
        repeat apply W_assoc
        refine W_drw [] [] (by kernel_rfl) (by kernel_rfl) ?_
        apply Lg_pre 14
        · intro callf
          simp +decide only [List.take, aQ, memb, List.any_nil, Bool.true_or, Bool.and_true, reset_merge, reset_reset, reset_next, reset_low, merge_next, merge_idem, ble_self, aWanted, ↓bite_eq, ↓reduceIte, aStep_eq, aStepOld, aOp, opBin, opCall, opFieldAddr, opLoad, opSlice, aev, aevs, ann, aPut, rget_rput, aBuiltin, aLen, List.getElem?_toArray, List.getElem?_cons_zero, Nat.zero_add, Bool.not_false, opNil, fld66_5, h0, l9, w9, hs9, aopt, Try.underlying22, goInt, aBin, aInts, aInt_eq]
          rfl
        dsimp only [List.drop, List.take, List.length]
        have M8 := M9.merge RZ.c.ext
        generalize σ14.merge σ14.reset = σ15 at M8
        refine Lg_st (v := undef) (s1 := σ15.reset.put xb (fblk (.slice (some ⟨b0, off0, none⟩) L.length cap) z.found { d4 with sv := v5 })) (by intro callf; simp +decide only [↓reduceIte, aStep_eq, aStepOld, aOp, opStore, aev, unn, rget_rput, (M8.ext (Ext.reset σ15)).st5 hv9]) (by kernel_rfl) ?_
        have R16 := (M8.ext (Ext.reset σ15)).put.merge M8.c.ext
        clear M9 hs9 l9 hpv RQ w9
        generalize σ15.merge (σ15.reset.put xb (fblk (.slice (some ⟨b0, off0, none⟩) L.length cap) z.found { d4 with sv := v5 })) = σ16 at R16
        show W _ _ _ 104 _ _ _ _
        refine W_skip ⟨fun _ => ?_, fun h => absurd rfl h⟩
        refine W_tail ?_
        repeat apply W_assoc
        apply W_reg
        · intro callf
          simp +decide only [aOps, aWanted, ↓bite_eq, ↓reduceIte, aStep_eq, aStepOld, aOp, opBin, aev, ann, aPut, rget_rput, h4, w1, aBin, aInts, aInt_eq]
          rfl
        refine W_skip ⟨fun _ => ⟨(i + 1, { z with stem := z.stem.dropLast }), ?_, ?_⟩, fun h => (nomatch h), fun h => absurd rfl h⟩
        · show row.length - (i + 1) < row.length - i
          omega
        · refine ⟨by show i + 1 ≤ row.length; omega, ⟨_, R16⟩, hgo2, .inr ⟨hzf, q1, hzl, Nat.le_trans hsp.cnt hc2⟩, ?_, ?_, ?_⟩ <;> simp +decide only [rget_rput, if_true, if_false, h0, h1, h4]

end Go.Proofs.Ytbknckiapcafdaa.Nest
