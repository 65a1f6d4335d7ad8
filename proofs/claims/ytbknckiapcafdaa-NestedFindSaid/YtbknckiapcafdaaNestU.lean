/- The inner search (function 51). -/
import Derived.Test.YtbknckiapcafdaaNestT
set_option linter.unusedSimpArgs false
set_option linter.unusedVariables false
namespace Go.Proofs.Ytbknckiapcafdaa.Nest
open Abs Abs2

theorem slice33a {σ : AS} {t : Int} : aBuildSlice Try.prog σ 33 1 [(0, .int .i64 t)] = some (.slice (some ⟨σ.next, 0, none⟩) 1 1, σ.new ⟨1, 3, 0, [.int .i64 t], []⟩) := by kernel_rfl
theorem src33 {σ : AS} {b : Nat} {t : Int} (h : σ.get b = ⟨1, 3, 0, [.int .i64 t], []⟩) (inf : TypeInfo) (hi : inf.size = 1) : aSource Try.prog σ false inf (.slice (some ⟨b, 0, none⟩) 1 1) = some (1, [.int .i64 t]) := by
  have hc : aCells σ ⟨b, 0, none⟩ 1 = some [.int .i64 t] := cells_at h rfl (Nat.le_refl _)
  unfold aSource
  simp only [Bool.false_eq_true, if_false, hi, Nat.mul_one, aCellsS_none, hc]

set_option maxHeartbeats 16000000 in
theorem inner_c {σ0 : AS} {xb cap : Nat} {base : Option Addr} {L : Lts} (hr : RS 1 RRow σ0 (.slice base L.length cap) L) (hw : WF L) (hN : L.length ≤ 400) :
    ∀ (f : Nat) {σ : AS} {x : SS} {s : Nat}, Rep σ0 σ xb (.slice base L.length cap) L.length x → s < L.length → x.found = false → x.on.length = x.path.length + 1 → x.loop = [] → cnt x.inner ≤ f → x.inner[s]? = some false →
      x.path.length + f ≤ 900 → x.stem.length ≤ 1000 → C Try.prog Kn 0 51 [.pointer (some ⟨xb, 0, none⟩), .int .i64 (s : Int)] σ fun _ σ' => Rep σ0 σ' xb (.slice base L.length cap) L.length (innerF L f x s) := by
  intro f
  induction f with
  | zero =>
    intro σ x s _ _ _ _ _ hc hs
    have := cnt_set hs
    omega
  | succ f ih =>
    intro σ x s hR hs hfd hon hlp hc hin hpf hst
    obtain ⟨row, hrow⟩ : ∃ row, L[s]? = some row := ⟨L[s], by simp [hs]⟩
    have hrm : row ∈ L := List.mem_of_getElem? hrow
    have hgd : L.getD s [] = row := by simp [List.getD, hrow]
    have hrl := hw.row row hrm
    have hto := hw.to row hrm
    obtain ⟨-, b0, off0, rv, rfl, -, hrl2, hrv⟩ := rowOf hr hrow
    obtain ⟨rb, rc, rfl, -⟩ := id hrv
    obtain ⟨d, R⟩ := hR
    have hcs := cnt_set hin
    obtain ⟨mb, -, hm1, hm2, R1⟩ := R.mark hs
    refine C_of (kn (by decide)) Try.func51 rfl (Nat.le_of_ble_eq_true rfl) ?_
    show W _ _ _ 164 _ _ _ _
    unfold Try.f51
    dsimp only
    repeat apply W_assoc
    apply W_reg
    · intro callf
      simp +decide only [aOps, rinit, aWanted, ↓bite_eq, ↓reduceIte, aStep_eq, aStepOld, aOp, opIndexAddr, opFieldAddr, opLoad, opStore, aev, ann, unn, aPut, rget_rput, Nat.zero_add, opNil, fld66_2, R.ld2, hm1, hm2]
      rfl
    generalize σ.put mb ⟨1, 4, 0, (x.inner.set s true).map Value.bool, []⟩ = σ1 at R1
    show W _ _ _ 164 _ _ _ _
    repeat apply W_assoc
    apply W_reg
    · intro callf
      simp +decide only [aOps, aWanted, ↓bite_eq, ↓reduceIte, aStep_eq, aStepOld, aOp, aev, ann, aPut]
      rfl
    have hfin : ∀ σ' (y : SS), y = innerGo (innerF L f) row { x with inner := x.inner.set s true } → Rep σ0 σ' xb (.slice (some ⟨b0, off0, none⟩) L.length cap) L.length y → Rep σ0 σ' xb (.slice (some ⟨b0, off0, none⟩) L.length cap) L.length (innerF L (f + 1) x s) := fun σ' y e h => by
      have e2 : innerF L (f + 1) x s = innerGo (innerF L f) (L.getD s []) { x with inner := x.inner.set s true } := rfl
      rw [e2, hgd, ← e]; exact h
    have hx1f : cnt (x.inner.set s true) ≤ f := by omega
    have good1 : ({ x with inner := x.inner.set s true } : SS).found = true ∨ (({ x with inner := x.inner.set s true } : SS).found = false ∧ ({ x with inner := x.inner.set s true } : SS).path = x.path ∧ ({ x with inner := x.inner.set s true } : SS).on = x.on ∧ ({ x with inner := x.inner.set s true } : SS).stem = x.stem ∧ ({ x with inner := x.inner.set s true } : SS).loop = [] ∧ cnt ({ x with inner := x.inner.set s true } : SS).inner ≤ f) := .inr ⟨hfd, rfl, rfl, rfl, hlp, hx1f⟩
    generalize hx1 : ({ x with inner := x.inner.set s true } : SS) = x1 at R1 hfin good1
    refine W_tail ?_
    repeat apply W_assoc
    refine W_for (fun (p : Nat × SS) r σ' => p.1 ≤ row.length ∧ Rep σ0 σ' xb (.slice (some ⟨b0, off0, none⟩) L.length cap) L.length p.2 ∧ innerGo (innerF L f) (row.drop p.1) p.2 = innerGo (innerF L f) row x1 ∧
        (p.2.found = true ∨ (p.2.found = false ∧ p.2.path = x.path ∧ p.2.on = x.on ∧ p.2.stem = x.stem ∧ p.2.loop = [] ∧ cnt p.2.inner ≤ f)) ∧ rget r 0 = .pointer (some ⟨xb, 0, none⟩) ∧ rget r 1 = .int .i64 (s : Int) ∧ rget r 4 = .int .i64 (p.1 : Int))
      (fun p => row.length - p.1) ?_ (0, x1) ?_
    rotate_left
    · refine ⟨Nat.zero_le _, ⟨d, R1⟩, rfl, good1, ?_⟩
      simp +decide only [rget_rput, if_true, if_false]
      refine ⟨?_, ?_, ?_⟩ <;> first | exact True.intro | rfl
    rintro ⟨i, y⟩ r σ2 ⟨hi, ⟨d2, R2⟩, hgo, hgood, h0, h1, h4⟩
    dsimp only at hi R2 hgo hgood h4
    have rl := hrl2 _ R2.c.ext
    by_cases hlt : i < row.length
    rotate_left
    · have d1 : decide ((i : Int) < (row.length : Int)) = false := decide_eq_false (by omega)
      repeat apply W_assoc
      apply W_reg
      · intro callf
        simp +decide only [aOps, aWanted, ↓bite_eq, ↓reduceIte, aStep_eq, aStepOld, aOp, opBin, opCall, opIndexAddr, opFieldAddr, opLoad, opPick, aev, aevs, ann, aPut, rget_rput, aBuiltin, aLen, List.getElem?_toArray, List.getElem?_cons_zero, List.getElem?_cons_succ, Option.bind_some, Bool.not_true, Bool.false_beq, opNil, fld66_0, fldL, h0, h1, h4, R2.ld0, idx28 hs, rl, d1, Try.underlying22, goInt, aBin, aInts, aInt_eq]
        rfl
      repeat apply W_assoc
      refine W_if (b := false) ?_ ?_ ?_
      · simp +decide only [aev, rget_rput, if_true, if_false]
      · intro h; cases h
      intro _
      refine W_exitq ⟨fun h => (nomatch h), fun _ => ?_, fun h1 h2 => absurd rfl h2⟩
      refine W_skip ⟨Nat.zero_le _, [], rfl, hfin _ y ?_ ⟨d2, R2⟩⟩
      rw [List.drop_eq_nil_of_le (by omega)] at hgo
      exact hgo
    have d1 : decide ((i : Int) < (row.length : Int)) = true := decide_eq_true (by omega)
    cases hyf : y.found with
    | true =>
      repeat apply W_assoc
      apply W_reg
      · intro callf
        simp +decide only [aOps, aWanted, ↓bite_eq, ↓reduceIte, aStep_eq, aStepOld, aOp, opBin, opUn, opCall, opIndexAddr, opFieldAddr, opLoad, opPick, aev, aevs, ann, aPut, rget_rput, aBuiltin, aLen, List.getElem?_toArray, List.getElem?_cons_zero, List.getElem?_cons_succ, Option.bind_some, beq_self_eq_true, Bool.not_true, opNil, fld66_0, fld66_7, fldL, h0, h1, h4, R2.ld0, R2.ld7, hyf, not_b, idx28 hs, rl, d1, Try.underlying22, goInt, aBin, aInts, aInt_eq]
        rfl
      repeat apply W_assoc
      refine W_if (b := false) ?_ ?_ ?_
      · simp +decide only [aev, rget_rput, if_true, if_false]
      · intro h; cases h
      intro _
      refine W_exitq ⟨fun h => (nomatch h), fun _ => ?_, fun h1 h2 => absurd rfl h2⟩
      refine W_skip ⟨Nat.zero_le _, [], rfl, hfin _ y ?_ ⟨d2, R2⟩⟩
      rw [innerGo_found _ hyf] at hgo
      exact hgo
    | false =>
      repeat apply W_assoc
      apply W_reg
      · intro callf
        simp +decide only [aOps, aWanted, ↓bite_eq, ↓reduceIte, aStep_eq, aStepOld, aOp, opBin, opUn, opCall, opIndexAddr, opFieldAddr, opLoad, opPick, aev, aevs, ann, aPut, rget_rput, aBuiltin, aLen, List.getElem?_toArray, List.getElem?_cons_zero, List.getElem?_cons_succ, Option.bind_some, beq_self_eq_true, Bool.not_false, opNil, fld66_0, fld66_7, fldL, h0, h1, h4, R2.ld0, R2.ld7, hyf, not_b, idx28 hs, rl, d1, Try.underlying22, goInt, aBin, aInts, aInt_eq]
        rfl
      repeat apply W_assoc
      refine W_if (b := true) ?_ ?_ ?_
      · simp +decide only [aev, rget_rput, if_true, if_false]
      rotate_left
      · intro h; cases h
      intro _
      apply W_skipq
      refine W_blk ?_
      obtain ⟨a, ha⟩ : ∃ a, row[i]? = some a := ⟨row[i], by simp [hlt]⟩
      obtain ⟨-, b1, off1, rfl, -, hat⟩ := arcOf hrv ha
      have hdrop : row.drop i = a :: row.drop (i + 1) := by
        rw [List.drop_eq_getElem_cons hlt, (List.getElem?_eq_some_iff.1 ha).2]
      have hat2 := hto a (List.mem_of_getElem? ha)
      rw [hdrop] at hgo
      obtain ⟨-, hp2, hn2, hs2, hl2, hc2⟩ := hgood.resolve_left (by rw [hyf]; decide)
      repeat apply W_assoc
      apply W_reg
      · intro callf
        simp +decide only [aOps, aWanted, ↓bite_eq, ↓reduceIte, aStep_eq, aStepOld, aOp, opIndexAddr, opFieldAddr, opLoad, opStore, aev, ann, unn, aPut, rget_rput, opNil, fld66_0, fldL, h0, h1, h4, R2.ld0, idx28 hs, rl, idx22 hlt, (hat _ R2.c.ext).1, alloc27, store27]
        rfl
      have AY := decl_at σ2 a
      have ed := decl_ext σ2 a
      generalize hab : σ2.next = ab at AY
      generalize decl σ2 a = σ3 at AY ed
      have R3 := R2.ext ed
      have w1 : IntKind.i64.wrap ((i : Int) + 1) = ((i + 1 : Nat) : Int) := by rw [wrap64_id _ (by omega) (by omega)]; omega
      by_cases hev : a.1 = 0
      rotate_left
      · have d3 : (a.1 != 0) = true := by rw [bne_iff_ne]; exact hev
        repeat apply W_assoc
        apply W_reg
        · intro callf
          simp +decide only [aOps, aWanted, ↓bite_eq, ↓reduceIte, aStep_eq, aStepOld, aOp, opBin, opFieldAddr, opLoad, aev, ann, aPut, rget_rput, fld0, AY.ev, d3, aBin, aInts, aInt_eq]
          rfl
        repeat apply W_assoc
        refine W_if (b := true) ?_ ?_ ?_
        · simp +decide only [aev, rget_rput, if_true, if_false]
        rotate_left
        · intro h; cases h
        intro _
        refine W_exitq ⟨fun _ => ?_, fun h1 h2 => absurd rfl (h2 : 1 + 2 ≠ 1 + 2)⟩
        have hgo2 : innerGo (innerF L f) (row.drop (i + 1)) y = innerGo (innerF L f) row x1 := by
          rw [← hgo]
          show _ = innerGo (innerF L f) (a :: row.drop (i + 1)) y
          conv => rhs; unfold innerGo
          rw [if_neg (by rw [hyf]; decide), if_pos hev]
        refine W_tail ?_
        repeat apply W_assoc
        apply W_reg
        · intro callf
          simp +decide only [aOps, aWanted, ↓bite_eq, ↓reduceIte, aStep_eq, aStepOld, aOp, opBin, aev, ann, aPut, rget_rput, h4, w1, aBin, aInts, aInt_eq]
          rfl
        refine W_skip ⟨fun _ => ⟨(i + 1, y), ?_, ?_⟩, fun h => (nomatch h), fun h => absurd rfl h⟩
        · show row.length - (i + 1) < row.length - i
          omega
        · refine ⟨by show i + 1 ≤ row.length; omega, ⟨d2, R3⟩, hgo2, hgood, ?_, ?_, ?_⟩ <;> simp +decide only [rget_rput, if_true, if_false, h0, h1, h4]
      have d3 : (a.1 != 0) = false := by rw [bne_eq_false_iff_eq]; exact hev
      repeat apply W_assoc
      apply W_reg
      · intro callf
        simp +decide only [aOps, aWanted, ↓bite_eq, ↓reduceIte, aStep_eq, aStepOld, aOp, opBin, opFieldAddr, opLoad, aev, ann, aPut, rget_rput, fld0, AY.ev, d3, aBin, aInts, aInt_eq]
        rfl
      repeat apply W_assoc
      refine W_if (b := false) ?_ ?_ ?_
      · simp +decide only [aev, rget_rput, if_true, if_false]
      · intro h; cases h
      intro _
      apply W_skipq
      repeat apply W_assoc
      apply W_reg
      · intro callf
        simp +decide only [aOps, aWanted, ↓bite_eq, ↓reduceIte, aStep_eq, aStepOld, aOp, aev, ann, aPut]
        rfl
      obtain ⟨na, nc, hnv⟩ := R3.c.on.len
      repeat apply W_assoc
      refine W_for (fun (k : Nat) r σ' => k ≤ y.on.length ∧ Ext σ3 σ' ∧ (∀ j, j < k → y.on[j]? ≠ some a.2) ∧ rget r 0 = .pointer (some ⟨xb, 0, none⟩) ∧ rget r 1 = .int .i64 (s : Int) ∧ rget r 4 = .int .i64 (i : Int) ∧ rget r 5 = .pointer (some ⟨ab, 0, none⟩) ∧ rget r 6 = .int .i64 (k : Int))
        (fun k => y.on.length - k) ?_ 0 ?_
      rotate_left
      · simp +decide only [rget_rput, if_true, if_false, h0, h1, h4]
        refine ⟨Nat.zero_le _, Ext.refl _, by omega, ?_, ?_, ?_, ?_, ?_⟩ <;> first | exact True.intro | rfl
      clear h0 h1 h4
      rintro k r σ4 ⟨hk, e4, hnk, h0, h1, h4, h5, h6⟩
      have R4 := R3.ext e4
      have A4 := AY.ext e4
      have l4 := R4.ld4
      rw [hnv] at l4
      by_cases hkl : k < y.on.length
      rotate_left
      · have d4 : decide ((k : Int) < (y.on.length : Int)) = false := decide_eq_false (by omega)
        repeat apply W_assoc
        apply W_reg
        · intro callf
          simp +decide only [aOps, aWanted, ↓bite_eq, ↓reduceIte, aStep_eq, aStepOld, aOp, opBin, opCall, opFieldAddr, opLoad, aev, aevs, ann, aPut, rget_rput, aBuiltin, aLen, List.getElem?_toArray, List.getElem?_cons_zero, opNil, fld66_4, h0, h6, l4, d4, Try.underlying33, goInt, aBin, aInts, aInt_eq]
          rfl
        repeat apply W_assoc
        refine W_if (b := false) ?_ ?_ ?_
        · simp +decide only [aev, rget_rput, if_true, if_false]
        · intro h; cases h
        intro _
        refine W_exitq ⟨fun h => (nomatch h), fun _ => ?_, fun h1 h2 => absurd rfl h2⟩
        have hfn : findOn y.on a.2 = none := findOn_none fun j hj => hnk j (by omega)
        have et : ((a.2.toNat : Nat) : Int) = a.2 := by omega
        have ht : a.2.toNat < L.length := by omega
        obtain ⟨ib, -, -, -, -, hix, hld, -⟩ := R4.c.inner.at (i := a.2.toNat) (by rw [R4.c.il]; exact ht)
        rw [et] at hix
        repeat apply W_assoc
        refine W_drw [] [] (by kernel_rfl) (by kernel_rfl) ?_
        apply Lg_all
        · intro callf
          simp +decide only [aQ, memb, List.any_nil, Bool.true_or, Bool.and_true, reset_merge, reset_reset, reset_next, reset_low, merge_next, merge_idem, ble_self, aWanted, ↓bite_eq, ↓reduceIte, aStep_eq, aStepOld, aOp, opUn, opIndexAddr, opFieldAddr, opLoad, aev, ann, aPut, rget_rput, flat, flat1, Nat.zero_add, Bool.not_false, opNil, fld66_2, h0, h5, (R4.ext (Ext.reset σ4)).ld2, (A4.ext (Ext.reset σ4)).to, fld1, hix, hld _ (Ext.reset σ4), not_b]
          rfl
        have e5 : Ext σ4 (σ4.merge σ4.reset) := (Ext.refl _).merge
        generalize σ4.merge σ4.reset = σ5 at e5
        have R5 := R4.ext e5
        have A5 := A4.ext e5
        refine W_tail ?_
        repeat apply W_assoc
        refine W_if (b := !(y.inner.getD a.2.toNat true)) ?_ ?_ ?_
        · simp +decide only [aev, rget_rput, if_true, if_false]
        rotate_left
        · intro hb
          have hb : y.inner.getD a.2.toNat true = true := by simpa using hb
          have hgo2 : innerGo (innerF L f) (row.drop (i + 1)) y = innerGo (innerF L f) row x1 := by
            rw [← hgo]
            show _ = innerGo (innerF L f) (a :: row.drop (i + 1)) y
            conv => rhs; unfold innerGo
            rw [if_neg (by rw [hyf]; decide), if_neg (by rw [hev]; decide), hfn]
            dsimp only
            rw [if_pos hb]
          apply W_skipq
          refine W_skip ⟨fun _ => ?_, fun h => absurd rfl h⟩
          refine W_tail ?_
          repeat apply W_assoc
          apply W_reg
          · intro callf
            simp +decide only [aOps, aWanted, ↓bite_eq, ↓reduceIte, aStep_eq, aStepOld, aOp, opBin, aev, ann, aPut, rget_rput, h4, w1, aBin, aInts, aInt_eq]
            rfl
          refine W_skip ⟨fun _ => ⟨(i + 1, y), ?_, ?_⟩, fun h => (nomatch h), fun h => absurd rfl h⟩
          · show row.length - (i + 1) < row.length - i
            omega
          · refine ⟨by show i + 1 ≤ row.length; omega, ⟨d2, R5⟩, hgo2, hgood, ?_, ?_, ?_⟩ <;> simp +decide only [rget_rput, if_true, if_false, h0, h1, h4]
        intro hb
        have hb : y.inner.getD a.2.toNat true = false := by simpa using hb
        have RQ := R5.ext (Ext.reset σ5)
        have AQ := A5.ext (Ext.reset σ5)
        repeat apply W_assoc
        refine W_drw [] [] (by kernel_rfl) (by kernel_rfl) ?_
        apply Lg_pre 6
        · intro callf
          simp +decide only [List.take, aQ, memb, List.any_nil, Bool.true_or, Bool.and_true, reset_merge, reset_reset, reset_next, reset_low, merge_next, merge_idem, ble_self, aWanted, ↓bite_eq, ↓reduceIte, aStep_eq, aStepOld, aOp, opFieldAddr, opLoad, aev, ann, aPut, rget_rput, Nat.zero_add, Bool.not_false, opNil, fld66_3, h0, h5, RQ.ld3, AQ.load]
          rfl
        dsimp only [List.drop, List.take, List.length]
        have eq : Ext σ5 (σ5.merge σ5.reset) := (Ext.refl _).merge
        generalize σ5.merge σ5.reset = σq at eq
        have RB := R5.ext eq
        have AB := A5.ext eq
        apply Lg_pre 1
        · intro callf
          simp +decide only [List.take, aQ, memb, List.any_nil, Bool.true_or, Bool.and_true, reset_next, reset_low, new_low, ble_self, aWanted, ↓bite_eq, ↓reduceIte, aStep_eq, aStepOld, aOp, opBuildSlice, aev, aparts, aPut, rget_rput, Nat.zero_add, Bool.not_false, slice22]
          rfl
        dsimp only [List.drop, List.take, List.length]
        have e6 : Ext σq (σq.merge (σq.reset.new ⟨1, 27, 0, [.int .i64 a.1, .int .i64 a.2], []⟩)) := Ext.merge (Ext.new _ _)
        have hB : (σq.merge (σq.reset.new ⟨1, 27, 0, [.int .i64 a.1, .int .i64 a.2], []⟩)).get σq.next = ⟨1, 27, 0, [.int .i64 a.1, .int .i64 a.2], []⟩ := by
          rw [get_merge]
          exact (AS.get_new σq.reset _ σq.reset.next).trans (if_pos rfl)
        generalize hn5 : σq.next = n5 at hB
        generalize σq.merge (σq.reset.new ⟨1, 27, 0, [.int .i64 a.1, .int .i64 a.2], []⟩) = σ6 at e6 hB
        have RR := (RB.ext e6).ext (Ext.reset σ6)
        have AR := (AB.ext e6).ext (Ext.reset σ6)
        obtain ⟨v3, s9, ha9, M9, hv9, hA9⟩ := RR.pushPath (y := .slice (some ⟨n5, 0, none⟩) 1 1) (Src.of (m := [a]) (.inr (.inr ⟨n5, 0, 1, rfl, cells_at hB rfl (Nat.le_refl _)⟩))) hl2 (by rw [hp2]; show x.path.length + 1 ≤ _; omega)
        refine Lg_op (v := v3) (s1 := s9) (by intro callf; simp +decide only [↓reduceIte, aStep_eq, aStepOld, aOp, opCall, aev, aevs, rget_rput, aBuiltin, ha9]) (by decide) (by kernel_rfl) ?_
        have M8 := M9.merge (RB.ext e6).c.ext
        have A8 := arc_merge (σ := σ6) (hA9 _ _ AR)
        clear M9 hA9 ha9 hB RR AR RQ AQ
        generalize σ6.merge s9 = σ7 at M8 A8
        apply Lg_pre 2
        · intro callf
          simp +decide only [List.take, aQ, memb, List.any_nil, Bool.true_or, Bool.and_true, reset_merge, reset_reset, reset_next, reset_low, merge_next, merge_idem, ble_self, aWanted, ↓bite_eq, ↓reduceIte, aStep_eq, aStepOld, aOp, opFieldAddr, aev, ann, aPut, rget_rput, Nat.zero_add, Bool.not_false, opNil, fld66_3]
          rfl
        dsimp only [List.drop, List.take, List.length]
        have e7 : Ext σ7 (σ7.merge σ7.reset) := (Ext.refl _).merge
        generalize σ7.merge σ7.reset = σ8 at e7
        have M7 := M8.ext e7
        have A7 := A8.ext e7
        refine Lg_st (v := undef) (s1 := σ8.reset.put xb (fblk (.slice (some ⟨b0, off0, none⟩) L.length cap) y.found { d2 with pv := v3 })) (by intro callf; simp +decide only [↓reduceIte, aStep_eq, aStepOld, aOp, opStore, aev, unn, rget_rput, (M7.ext (Ext.reset σ8)).st3 hv9]) (by kernel_rfl) ?_
        have R9 := (M7.ext (Ext.reset σ8)).put.merge M7.c.ext
        have A9 := arc_merge (σ := σ8) ((A7.ext (Ext.reset σ8)).putX (M7.ext (Ext.reset σ8)).c.el (fblk (.slice (some ⟨b0, off0, none⟩) L.length cap) y.found { d2 with pv := v3 }))
        generalize σ8.merge (σ8.reset.put xb (fblk (.slice (some ⟨b0, off0, none⟩) L.length cap) y.found { d2 with pv := v3 })) = σ9 at R9 A9
        show W _ _ _ 164 _ _ _ _
        have RQ := R9.ext (Ext.reset σ9)
        have AQ := A9.ext (Ext.reset σ9)
        repeat apply W_assoc
        refine W_drw [] [] (by kernel_rfl) (by kernel_rfl) ?_
        apply Lg_pre 7
        · intro callf
          simp +decide only [List.take, aQ, memb, List.any_nil, Bool.true_or, Bool.and_true, reset_merge, reset_reset, reset_next, reset_low, merge_next, merge_idem, ble_self, aWanted, ↓bite_eq, ↓reduceIte, aStep_eq, aStepOld, aOp, opFieldAddr, opLoad, aev, ann, aPut, rget_rput, Nat.zero_add, Bool.not_false, opNil, fld66_4, h0, h5, RQ.ld4, AQ.to, fld1]
          rfl
        dsimp only [List.drop, List.take, List.length]
        have eq : Ext σ9 (σ9.merge σ9.reset) := (Ext.refl _).merge
        generalize σ9.merge σ9.reset = σq at eq
        have RB := R9.ext eq
        have AB := A9.ext eq
        apply Lg_pre 1
        · intro callf
          simp +decide only [List.take, aQ, memb, List.any_nil, Bool.true_or, Bool.and_true, reset_next, reset_low, new_low, ble_self, aWanted, ↓bite_eq, ↓reduceIte, aStep_eq, aStepOld, aOp, opBuildSlice, aev, aparts, aPut, rget_rput, Nat.zero_add, Bool.not_false, slice33a]
          rfl
        dsimp only [List.drop, List.take, List.length]
        have e6 : Ext σq (σq.merge (σq.reset.new ⟨1, 3, 0, [.int .i64 a.2], []⟩)) := Ext.merge (Ext.new _ _)
        have hB : (σq.merge (σq.reset.new ⟨1, 3, 0, [.int .i64 a.2], []⟩)).get σq.next = ⟨1, 3, 0, [.int .i64 a.2], []⟩ := by
          rw [get_merge]
          exact (AS.get_new σq.reset _ σq.reset.next).trans (if_pos rfl)
        generalize hn5 : σq.next = n5 at hB
        generalize σq.merge (σq.reset.new ⟨1, 3, 0, [.int .i64 a.2], []⟩) = σ10 at e6 hB
        have RR := (RB.ext e6).ext (Ext.reset σ10)
        have AR := (AB.ext e6).ext (Ext.reset σ10)
        obtain ⟨v4, s9, ha9, M9, hv9, hA9⟩ := RR.pushOn (y := .slice (some ⟨n5, 0, none⟩) 1 1) (src33 (t := a.2) hB) hl2 (by show y.on.length + 1 ≤ _; rw [hn2, hon]; omega)
        refine Lg_op (v := v4) (s1 := s9) (by intro callf; simp +decide only [↓reduceIte, aStep_eq, aStepOld, aOp, opCall, aev, aevs, rget_rput, aBuiltin, ha9]) (by decide) (by kernel_rfl) ?_
        have M8 := M9.merge (RB.ext e6).c.ext
        have A8 := arc_merge (σ := σ10) (hA9 _ _ AR)
        clear M9 hA9 ha9 hB RR AR RQ AQ
        generalize σ10.merge s9 = σ11 at M8 A8
        apply Lg_pre 2
        · intro callf
          simp +decide only [List.take, aQ, memb, List.any_nil, Bool.true_or, Bool.and_true, reset_merge, reset_reset, reset_next, reset_low, merge_next, merge_idem, ble_self, aWanted, ↓bite_eq, ↓reduceIte, aStep_eq, aStepOld, aOp, opFieldAddr, aev, ann, aPut, rget_rput, Nat.zero_add, Bool.not_false, opNil, fld66_4]
          rfl
        dsimp only [List.drop, List.take, List.length]
        have e7 : Ext σ11 (σ11.merge σ11.reset) := (Ext.refl _).merge
        generalize σ11.merge σ11.reset = σ12 at e7
        have M7 := M8.ext e7
        have A7 := A8.ext e7
        refine Lg_st (v := undef) (s1 := σ12.reset.put xb (fblk (.slice (some ⟨b0, off0, none⟩) L.length cap) y.found { d2 with pv := v3, nv := v4 })) (by intro callf; simp +decide only [↓reduceIte, aStep_eq, aStepOld, aOp, opStore, aev, unn, rget_rput, (M7.ext (Ext.reset σ12)).st4 hv9]) (by kernel_rfl) ?_
        have R13 := (M7.ext (Ext.reset σ12)).put.merge M7.c.ext
        have A13 := arc_merge (σ := σ12) ((A7.ext (Ext.reset σ12)).putX (M7.ext (Ext.reset σ12)).c.el (fblk (.slice (some ⟨b0, off0, none⟩) L.length cap) y.found { d2 with pv := v3, nv := v4 }))
        generalize σ12.merge (σ12.reset.put xb (fblk (.slice (some ⟨b0, off0, none⟩) L.length cap) y.found { d2 with pv := v3, nv := v4 })) = σ13 at R13 A13
        show W _ _ _ 164 _ _ _ _
        have hit : y.inner[a.2.toNat]? = some false := by
          rw [List.getD_eq_getElem?_getD] at hb
          cases hq : y.inner[a.2.toNat]? with
          | none => rw [hq] at hb; cases hb
          | some q => rw [hq] at hb; exact congrArg some hb
        have CC := ih (x := { y with path := y.path ++ [a], on := y.on ++ [a.2] }) ⟨_, R13⟩ ht hyf (by show (y.on ++ [a.2]).length = (y.path ++ [a]).length + 1; rw [hp2, hn2]; simp; omega) hl2 hc2 hit (by show (y.path ++ [a]).length + f ≤ 900; rw [hp2]; simp; omega) (by show y.stem.length ≤ 1000; rw [hs2]; exact hst)
        have hsp := innerF_spec L f { y with path := y.path ++ [a], on := y.on ++ [a.2] } a.2.toNat hyf (by show (y.path ++ [a]).length + f ≤ 1000; rw [hp2]; simp; omega)
        have hgo2 := hgo
        conv at hgo2 => lhs; unfold innerGo
        rw [if_neg (by rw [hyf]; decide), if_neg (by rw [hev]; decide), hfn] at hgo2
        dsimp only at hgo2
        rw [if_neg (by rw [hb]; decide)] at hgo2
        rw [et] at CC
        generalize innerF L f { y with path := y.path ++ [a], on := y.on ++ [a.2] } a.2.toNat = z at CC hsp hgo2
        repeat apply W_assoc
        apply W_regL
        apply Ls_pre 3
        · intro callf
          simp +decide only [List.take, aOps, aWanted, ↓bite_eq, ↓reduceIte, aStep_eq, aStepOld, aOp, opFieldAddr, opLoad, aev, ann, aPut, rget_rput, Nat.zero_add, h0, h5, A13.to, fld1]
          rfl
        dsimp only [List.drop]
        refine Ls_fn (vs := [.pointer (some ⟨xb, 0, none⟩), .int .i64 a.2]) (by simp +decide only [aevs, aev, rget_rput, if_true, if_false]) (by decide) (C.mono (CC) ?_)
        rintro v σ' RZ
        apply Ls_all
        · intro callf
          simp +decide only [aOps]
          rfl
        obtain ⟨d4, RZ⟩ := RZ
        generalize σ' = σ14 at RZ
        cases hzf : z.found with
        | true =>
          repeat apply W_assoc
          apply W_reg
          · intro callf
            simp +decide only [aOps, aWanted, ↓bite_eq, ↓reduceIte, aStep_eq, aStepOld, aOp, opUn, opFieldAddr, opLoad, aev, ann, aPut, rget_rput, Bool.not_true, opNil, fld66_7, h0, RZ.ld7, hzf, not_b]
            rfl
          repeat apply W_assoc
          refine W_if (b := false) ?_ ?_ ?_
          · simp +decide only [aev, rget_rput, if_true, if_false]
          · intro h; cases h
          intro _
          apply W_skipq
          refine W_skip ⟨fun _ => ?_, fun h => absurd rfl h⟩
          rw [if_pos hzf] at hgo2
          refine W_tail ?_
          repeat apply W_assoc
          apply W_reg
          · intro callf
            simp +decide only [aOps, aWanted, ↓bite_eq, ↓reduceIte, aStep_eq, aStepOld, aOp, opBin, aev, ann, aPut, rget_rput, h4, w1, aBin, aInts, aInt_eq]
            rfl
          refine W_skip ⟨fun _ => ⟨(i + 1, z), ?_, ?_⟩, fun h => (nomatch h), fun h => absurd rfl h⟩
          · show row.length - (i + 1) < row.length - i
            omega
          · refine ⟨by show i + 1 ≤ row.length; omega, ⟨d4, RZ⟩, hgo2, .inl hzf, ?_, ?_, ?_⟩ <;> simp +decide only [rget_rput, if_true, if_false, h0, h1, h4]
        | false =>
          repeat apply W_assoc
          apply W_reg
          · intro callf
            simp +decide only [aOps, aWanted, ↓bite_eq, ↓reduceIte, aStep_eq, aStepOld, aOp, opUn, opFieldAddr, opLoad, aev, ann, aPut, rget_rput, Bool.not_false, opNil, fld66_7, h0, RZ.ld7, hzf, not_b]
            rfl
          repeat apply W_assoc
          refine W_if (b := true) ?_ ?_ ?_
          · simp +decide only [aev, rget_rput, if_true, if_false]
          rotate_left
          · intro h; cases h
          intro _
          obtain ⟨g1, g2, g3, g4⟩ := hsp.no hzf
          dsimp only at g1 g2 g3 g4
          rw [if_neg (by rw [hzf]; decide)] at hgo2
          have hzl : z.loop = [] := by rw [g4]; exact hl2
          have hzp : z.path.length = x.path.length + 1 := by rw [g1, hp2]; simp
          have hzo : z.on.length = x.path.length + 2 := by rw [g2, hn2]; simp; omega
          have q1 : z.path.dropLast = x.path := by rw [g1, hp2]; simp
          have q2 : z.on.dropLast = x.on := by rw [g2, hn2]; simp
          have RQ := RZ.ext (Ext.reset σ14)
          obtain ⟨pa, pc, hpv⟩ := RQ.c.path.len
          obtain ⟨v5, hs9, M9, hv9⟩ := RQ.popPath hzl
          have l9 := RQ.ld3
          rw [hpv] at l9 hs9
          have w9 : IntKind.i64.wrap ((z.path.length : Int) - 1) = ((z.path.length - 1 : Nat) : Int) := by rw [wrap64_id _ (by omega) (by omega)]; omega
          repeat apply W_assoc
          refine W_drw [] [] (by kernel_rfl) (by kernel_rfl) ?_
          apply Lg_pre 14
          · intro callf
            simp +decide only [List.take, aQ, memb, List.any_nil, Bool.true_or, Bool.and_true, reset_merge, reset_reset, reset_next, reset_low, merge_next, merge_idem, ble_self, aWanted, ↓bite_eq, ↓reduceIte, aStep_eq, aStepOld, aOp, opBin, opCall, opFieldAddr, opLoad, opSlice, aev, aevs, ann, aPut, rget_rput, aBuiltin, aLen, List.getElem?_toArray, List.getElem?_cons_zero, Nat.zero_add, Bool.not_false, opNil, fld66_3, h0, l9, w9, hs9, aopt, Try.underlying22, goInt, aBin, aInts, aInt_eq]
            rfl
          dsimp only [List.drop, List.take, List.length]
          have M8 := M9.merge RZ.c.ext
          generalize σ14.merge σ14.reset = σ15 at M8
          refine Lg_st (v := undef) (s1 := σ15.reset.put xb (fblk (.slice (some ⟨b0, off0, none⟩) L.length cap) z.found { d4 with pv := v5 })) (by intro callf; simp +decide only [↓reduceIte, aStep_eq, aStepOld, aOp, opStore, aev, unn, rget_rput, (M8.ext (Ext.reset σ15)).st3 hv9]) (by kernel_rfl) ?_
          have R16 := (M8.ext (Ext.reset σ15)).put.merge M8.c.ext
          clear M9 hs9 l9 hpv RQ w9
          generalize σ15.merge (σ15.reset.put xb (fblk (.slice (some ⟨b0, off0, none⟩) L.length cap) z.found { d4 with pv := v5 })) = σ16 at R16
          show W _ _ _ 164 _ _ _ _
          refine W_tail ?_
          have RQ := R16.ext (Ext.reset σ16)
          obtain ⟨pa, pc, hpv⟩ := RQ.c.on.len
          obtain ⟨v6, hs9, M9, hv9⟩ := RQ.popOn hzl (by show z.on.length ≠ 1; omega)
          have l9 := RQ.ld4
          rw [hpv] at l9 hs9
          have w9 : IntKind.i64.wrap ((z.on.length : Int) - 1) = ((z.on.length - 1 : Nat) : Int) := by rw [wrap64_id _ (by omega) (by omega)]; omega
          repeat apply W_assoc
          refine W_drw [] [] (by kernel_rfl) (by kernel_rfl) ?_
          apply Lg_pre 14
          · intro callf
            simp +decide only [List.take, aQ, memb, List.any_nil, Bool.true_or, Bool.and_true, reset_merge, reset_reset, reset_next, reset_low, merge_next, merge_idem, ble_self, aWanted, ↓bite_eq, ↓reduceIte, aStep_eq, aStepOld, aOp, opBin, opCall, opFieldAddr, opLoad, opSlice, aev, aevs, ann, aPut, rget_rput, aBuiltin, aLen, List.getElem?_toArray, List.getElem?_cons_zero, Nat.zero_add, Bool.not_false, opNil, fld66_4, h0, l9, w9, hs9, aopt, Try.underlying33, goInt, aBin, aInts, aInt_eq]
            rfl
          dsimp only [List.drop, List.take, List.length]
          have M8 := M9.merge R16.c.ext
          generalize σ16.merge σ16.reset = σ17 at M8
          refine Lg_st (v := undef) (s1 := σ17.reset.put xb (fblk (.slice (some ⟨b0, off0, none⟩) L.length cap) z.found { d4 with pv := v5, nv := v6 })) (by intro callf; simp +decide only [↓reduceIte, aStep_eq, aStepOld, aOp, opStore, aev, unn, rget_rput, (M8.ext (Ext.reset σ17)).st4 hv9]) (by kernel_rfl) ?_
          have R18 := (M8.ext (Ext.reset σ17)).put.merge M8.c.ext
          clear M9 hs9 l9 hpv RQ w9
          generalize σ17.merge (σ17.reset.put xb (fblk (.slice (some ⟨b0, off0, none⟩) L.length cap) z.found { d4 with pv := v5, nv := v6 })) = σ18 at R18
          show W _ _ _ 164 _ _ _ _
          apply W_skipq
          refine W_skip ⟨fun _ => ?_, fun h => absurd rfl h⟩
          refine W_tail ?_
          repeat apply W_assoc
          apply W_reg
          · intro callf
            simp +decide only [aOps, aWanted, ↓bite_eq, ↓reduceIte, aStep_eq, aStepOld, aOp, opBin, aev, ann, aPut, rget_rput, h4, w1, aBin, aInts, aInt_eq]
            rfl
          refine W_skip ⟨fun _ => ⟨(i + 1, { z with path := z.path.dropLast, on := z.on.dropLast }), ?_, ?_⟩, fun h => (nomatch h), fun h => absurd rfl h⟩
          · show row.length - (i + 1) < row.length - i
            omega
          · refine ⟨by show i + 1 ≤ row.length; omega, ⟨_, R18⟩, hgo2, .inr ⟨hzf, q1, q2, g3.trans hs2, hzl, Nat.le_trans hsp.cnt hc2⟩, ?_, ?_, ?_⟩ <;> simp +decide only [rget_rput, if_true, if_false, h0, h1, h4]
      have d4 : decide ((k : Int) < (y.on.length : Int)) = true := decide_eq_true (by omega)
      repeat apply W_assoc
      apply W_reg
      · intro callf
        simp +decide only [aOps, aWanted, ↓bite_eq, ↓reduceIte, aStep_eq, aStepOld, aOp, opBin, opCall, opFieldAddr, opLoad, aev, aevs, ann, aPut, rget_rput, aBuiltin, aLen, List.getElem?_toArray, List.getElem?_cons_zero, opNil, fld66_4, h0, h6, l4, d4, Try.underlying33, goInt, aBin, aInts, aInt_eq]
        rfl
      repeat apply W_assoc
      refine W_if (b := true) ?_ ?_ ?_
      · simp +decide only [aev, rget_rput, if_true, if_false]
      rotate_left
      · intro h; cases h
      intro _
      apply W_skipq
      refine W_blk ?_
      obtain ⟨t, htk⟩ : ∃ t, y.on[k]? = some t := ⟨y.on[k], by simp [hkl]⟩
      have RQ := R4.ext (Ext.reset σ4)
      obtain ⟨sb, sc, hsv, -, hcell⟩ := RQ.c.on.at (i := k) hkl
      have lq := RQ.ld4
      rw [hsv] at lq
      have hcl : ((y.on.map (Value.int .i64)).drop (k * 1)).take 1 = [.int .i64 t] := by
        obtain ⟨g1, g2⟩ := List.getElem?_eq_some_iff.1 htk
        rw [Nat.mul_one, List.drop_eq_getElem_cons (by rw [List.length_map]; exact g1), List.getElem_map, g2]; rfl
      rw [hcl] at hcell
      have lc : aLoad Try.prog σ4.reset 3 (.pointer (some ⟨sb, k * 1, none⟩)) = some (.int .i64 t) := load1 Try.underlying3 rfl hcell
      repeat apply W_assoc
      refine W_drw [] [] (by kernel_rfl) (by kernel_rfl) ?_
      apply Lg_all
      · intro callf
        simp +decide only [aQ, memb, List.any_nil, Bool.true_or, Bool.and_true, reset_merge, reset_reset, reset_next, reset_low, merge_next, merge_idem, ble_self, aWanted, ↓bite_eq, ↓reduceIte, aStep_eq, aStepOld, aOp, opBin, opIndexAddr, opFieldAddr, opLoad, aev, ann, aPut, rget_rput, Nat.zero_add, Bool.not_false, opNil, fld66_4, h0, h5, h6, lq, lc, idx33 hkl, (A4.ext (Ext.reset σ4)).to, fld1, aBin, aInts, aInt_eq]
        rfl
      have e5 : Ext σ4 (σ4.merge σ4.reset) := (Ext.refl _).merge
      generalize σ4.merge σ4.reset = σ5 at e5
      have R5 := R4.ext e5
      have A5 := A4.ext e5
      refine W_tail ?_
      by_cases hta : t = a.2
      rotate_left
      · have d5 : (t == a.2) = false := by rw [beq_eq_false_iff_ne]; exact hta
        rw [d5]
        repeat apply W_assoc
        refine W_if (b := false) ?_ ?_ ?_
        · simp +decide only [aev, rget_rput, if_true, if_false]
        · intro h; cases h
        intro _
        apply W_skipq
        refine W_skip ⟨fun _ => ?_, fun h => absurd rfl h⟩
        refine W_tail ?_
        have w6 : IntKind.i64.wrap ((k : Int) + 1) = ((k + 1 : Nat) : Int) := by rw [wrap64_id _ (by omega) (by rw [hn2, hon] at hkl; omega)]; omega
        repeat apply W_assoc
        apply W_reg
        · intro callf
          simp +decide only [aOps, aWanted, ↓bite_eq, ↓reduceIte, aStep_eq, aStepOld, aOp, opBin, aev, ann, aPut, rget_rput, h6, w6, aBin, aInts, aInt_eq]
          rfl
        refine W_skip ⟨fun _ => ⟨k + 1, ?_, ?_⟩, fun h => (nomatch h), fun h => absurd rfl h⟩
        · omega
        · refine ⟨by omega, e4.trans e5, fun j hj => ?_, ?_, ?_, ?_, ?_, ?_⟩
          · by_cases hjk : j = k
            · subst hjk
              rw [htk]
              exact fun h => hta (Option.some.inj h)
            · exact hnk j (by omega)
          all_goals simp +decide only [rget_rput, if_true, if_false, h0, h1, h4, h5]
      have d5 : (t == a.2) = true := by rw [beq_iff_eq]; exact hta
      rw [d5]
      repeat apply W_assoc
      refine W_if (b := true) ?_ ?_ ?_
      · simp +decide only [aev, rget_rput, if_true, if_false]
      rotate_left
      · intro h; cases h
      intro _
      have hfn : findOn y.on a.2 = some k := findOn_some hnk (by rw [htk, hta])
      have hkp : k ≤ y.path.length := by rw [hn2, hon] at hkl; rw [hp2]; omega
      have hyp : y.path.length ≤ 900 := by rw [hp2]; omega
      repeat apply W_assoc
      apply W_reg
      · intro callf
        simp +decide only [aOps, aWanted, ↓bite_eq, ↓reduceIte, aStep_eq, aStepOld, aOp, opFieldAddr, opStore, aev, ann, unn, aPut, rget_rput, opNil, fld66_7, h0, R5.st7]
        rfl
      have R6 := R5.find
      have A6 := A5.putX R5.c.el (fblk (.slice (some ⟨b0, off0, none⟩) L.length cap) true d2)
      generalize σ5.put xb (fblk (.slice (some ⟨b0, off0, none⟩) L.length cap) true d2) = σ6 at R6 A6
      clear RQ lq lc hcell hsv hcl l4
      have RQ := R6.ext (Ext.reset σ6)
      obtain ⟨ys, hys, hsr⟩ := Stk.src RQ.c.path hkp
      repeat apply W_assoc
      refine W_drw [] [] (by kernel_rfl) (by kernel_rfl) ?_
      apply Lg_pre 11
      · intro callf
        simp +decide only [List.take, aQ, memb, List.any_nil, Bool.true_or, Bool.and_true, reset_merge, reset_reset, reset_next, reset_low, merge_next, merge_idem, ble_self, aWanted, ↓bite_eq, ↓reduceIte, aStep_eq, aStepOld, aOp, opFieldAddr, opLoad, opSlice, aev, ann, aPut, rget_rput, Nat.zero_add, Bool.not_false, opNil, fld66_3, fld66_5, h0, h6, RQ.ld5, RQ.ld3, aopt, hys]
        rfl
      dsimp only [List.drop, List.take, List.length]
      have hsr : Src (σ6.merge σ6.reset).reset ys (y.path.take k) := hsr
      have e7 : Ext σ6 (σ6.merge σ6.reset) := (Ext.refl _).merge
      generalize σ6.merge σ6.reset = σ7 at e7 hsr
      have RR := (R6.ext e7).ext (Ext.reset σ7)
      obtain ⟨v5, s9, ha9, M9, hv9, hA9⟩ := RR.pushStem hsr hl2 (by show y.stem.length + (y.path.take k).length ≤ _; rw [List.length_take, hs2]; omega)
      refine Lg_op (v := v5) (s1 := s9) (by intro callf; simp +decide only [↓reduceIte, aStep_eq, aStepOld, aOp, opCall, aev, aevs, rget_rput, aBuiltin, ha9]) (by decide) (by kernel_rfl) ?_
      have M8 := M9.merge (R6.ext e7).c.ext
      have A8 := arc_merge (σ := σ7) (hA9 _ _ ((A6.ext e7).ext (Ext.reset σ7)))
      generalize σ7.merge s9 = σ8 at M8 A8
      apply Lg_pre 2
      · intro callf
        simp +decide only [List.take, aQ, memb, List.any_nil, Bool.true_or, Bool.and_true, reset_merge, reset_reset, reset_next, reset_low, merge_next, merge_idem, ble_self, aWanted, ↓bite_eq, ↓reduceIte, aStep_eq, aStepOld, aOp, opFieldAddr, aev, ann, aPut, rget_rput, Nat.zero_add, Bool.not_false, opNil, fld66_5]
        rfl
      dsimp only [List.drop, List.take, List.length]
      have e9 : Ext σ8 (σ8.merge σ8.reset) := (Ext.refl _).merge
      generalize σ8.merge σ8.reset = σ9 at e9
      have M7 := M8.ext e9
      have A7 := A8.ext e9
      refine Lg_st (v := undef) (s1 := σ9.reset.put xb (fblk (.slice (some ⟨b0, off0, none⟩) L.length cap) true { d2 with sv := v5 })) (by intro callf; simp +decide only [↓reduceIte, aStep_eq, aStepOld, aOp, opStore, aev, unn, rget_rput, (M7.ext (Ext.reset σ9)).st5 hv9]) (by kernel_rfl) ?_
      have R10 := (M7.ext (Ext.reset σ9)).put.merge M7.c.ext
      have A10 := arc_merge (σ := σ9) ((A7.ext (Ext.reset σ9)).putX (M7.ext (Ext.reset σ9)).c.el (fblk (.slice (some ⟨b0, off0, none⟩) L.length cap) true { d2 with sv := v5 }))
      generalize σ9.merge (σ9.reset.put xb (fblk (.slice (some ⟨b0, off0, none⟩) L.length cap) true { d2 with sv := v5 })) = σ10 at R10 A10
      clear M7 M8 M9 A7 A8 hA9 ha9 RR RQ hys hsr A6 R6
      show W _ _ _ 164 _ _ _ _
      have RQ := R10.ext (Ext.reset σ10)
      obtain ⟨ys, hys, hsr⟩ := Stk.srcFrom RQ.c.path (k := k) hkp
      repeat apply W_assoc
      refine W_drw [] [] (by kernel_rfl) (by kernel_rfl) ?_
      apply Lg_pre 1
      · intro callf
        simp +decide only [List.take, aQ, memb, List.any_nil, Bool.true_or, Bool.and_true, reset_low, ble_self, aWanted, ↓bite_eq, ↓reduceIte, aStep_eq, aStepOld, aOp, aev, ann, aPut, rget_rput, Bool.not_false, h0]
        rfl
      dsimp only [List.drop, List.take, List.length]
      have e11 : Ext σ10 (σ10.merge σ10.reset) := (Ext.refl _).merge
      generalize σ10.merge σ10.reset = σ11 at e11
      apply Lg_pre 1
      · intro callf
        simp +decide only [List.take, aQ, memb, List.any_nil, Bool.true_or, Bool.and_true, reset_next, reset_low, new_low, ble_self, aWanted, ↓bite_eq, ↓reduceIte, aStep_eq, aStepOld, aOp, opBuildSlice, aparts, aPut, Nat.zero_add, Bool.not_false, slice22e]
        rfl
      dsimp only [List.drop, List.take, List.length]
      have e12 : Ext σ11 (σ11.merge (σ11.reset.new ⟨1, 27, 0, [], []⟩)) := Ext.merge (Ext.new _ _)
      have hB : (σ11.merge (σ11.reset.new ⟨1, 27, 0, [], []⟩)).get σ11.next = ⟨1, 27, 0, [], []⟩ := by
        rw [get_merge]
        exact (AS.get_new σ11.reset _ σ11.reset.next).trans (if_pos rfl)
      have hBn : σ11.next < (σ11.merge (σ11.reset.new ⟨1, 27, 0, [], []⟩)).next := Nat.lt_succ_self _
      have hBl : σ10.next ≤ σ11.next := e11.nxt
      generalize hn5 : σ11.next = n5 at hB hBn hBl
      generalize σ11.merge (σ11.reset.new ⟨1, 27, 0, [], []⟩) = σ12 at e12 hB hBn
      have e12 := e11.trans e12
      have R12 := R10.ext e12
      have RQ := R12.ext (Ext.reset σ12)
      obtain ⟨ys, hys, hsr⟩ := Stk.srcFrom RQ.c.path (k := k) hkp
      apply Lg_pre 6
      · intro callf
        simp +decide only [List.take, aQ, memb, List.any_nil, Bool.true_or, Bool.and_true, reset_merge, reset_reset, reset_next, reset_low, merge_next, merge_idem, ble_self, aWanted, ↓bite_eq, ↓reduceIte, aStep_eq, aStepOld, aOp, opFieldAddr, opLoad, opSlice, aev, ann, aPut, rget_rput, Nat.zero_add, Bool.not_false, opNil, fld66_3, h0, h6, RQ.ld3, aopt, hys]
        rfl
      dsimp only [List.drop, List.take, List.length]
      have hsr : Src (σ12.merge σ12.reset).reset ys (y.path.drop k) := hsr
      have e13 : Ext σ12 (σ12.merge σ12.reset) := (Ext.refl _).merge
      generalize σ12.merge σ12.reset = σ13 at e13 hsr
      have hB13 := (e13.get n5 hBn).trans hB
      have hn13 := e13.lt hBn
      have e13 := e12.trans e13
      obtain ⟨v6, s6, ha6, O6, E6⟩ := Out.first (σ0 := σ10) (σ := σ13.reset) (b := n5) (k := y.path.drop k) hB13 hBl hn13 hsr (by rw [List.length_drop]; omega) (e13.trans (Ext.reset _))
      refine Lg_qop (v := v6) (s1 := s6) (by intro callf; simp +decide only [↓reduceIte, aStep_eq, aStepOld, aOp, opCall, aev, aevs, rget_rput, aBuiltin, ha6]) (by decide) E6.quiet ?_
      have O7 : Out σ10 (σ13.merge s6) v6 (y.path.drop k) := O6
      have e14 := e13.trans E6.merge
      generalize σ13.merge s6 = σ14 at O7 e14
      clear ha6 O6 E6 hB13 hn13 hB hBn hsr hys RQ R12
      apply Lg_pre 1
      · intro callf
        simp +decide only [List.take, aQ, memb, List.any_nil, Bool.true_or, Bool.and_true, reset_low, ble_self, aWanted, ↓bite_eq, ↓reduceIte, aStep_eq, aStepOld, aOp, opLoad, aev, ann, aPut, rget_rput, Nat.zero_add, Bool.not_false, h5, (A10.ext (e14.trans (Ext.reset σ14))).load]
        rfl
      dsimp only [List.drop, List.take, List.length]
      have e15 : Ext σ14 (σ14.merge σ14.reset) := (Ext.refl _).merge
      generalize σ14.merge σ14.reset = σ15 at e15
      have O8 := O7.ext e15
      have e15 := e14.trans e15
      apply Lg_pre 1
      · intro callf
        simp +decide only [List.take, aQ, memb, List.any_nil, Bool.true_or, Bool.and_true, reset_next, reset_low, new_low, ble_self, aWanted, ↓bite_eq, ↓reduceIte, aStep_eq, aStepOld, aOp, opBuildSlice, aev, aparts, aPut, rget_rput, Nat.zero_add, Bool.not_false, slice22]
        rfl
      dsimp only [List.drop, List.take, List.length]
      have e16 : Ext σ15 (σ15.merge (σ15.reset.new ⟨1, 27, 0, [.int .i64 a.1, .int .i64 a.2], []⟩)) := Ext.merge (Ext.new _ _)
      have hB : (σ15.merge (σ15.reset.new ⟨1, 27, 0, [.int .i64 a.1, .int .i64 a.2], []⟩)).get σ15.next = ⟨1, 27, 0, [.int .i64 a.1, .int .i64 a.2], []⟩ := by
        rw [get_merge]
        exact (AS.get_new σ15.reset _ σ15.reset.next).trans (if_pos rfl)
      generalize hn7 : σ15.next = n7 at hB
      generalize σ15.merge (σ15.reset.new ⟨1, 27, 0, [.int .i64 a.1, .int .i64 a.2], []⟩) = σ16 at e16 hB
      have O9 := O8.ext (e16.trans (Ext.reset _))
      have e16 := e15.trans e16
      obtain ⟨v7, s7, ha7, O10, E10⟩ := O9.append (x := .slice (some ⟨n7, 0, none⟩) 1 1) (k := [a]) (Src.of (m := [a]) (.inr (.inr ⟨n7, 0, 1, rfl, cells_at (σ := σ16.reset) hB rfl (Nat.le_refl _)⟩))) (by rw [List.length_drop]; simp; omega) (e16.trans (Ext.reset _))
      refine Lg_op (v := v7) (s1 := s7) (by intro callf; simp +decide only [↓reduceIte, aStep_eq, aStepOld, aOp, opCall, aev, aevs, rget_rput, aBuiltin, ha7]) (by decide) (by kernel_rfl) ?_
      have O11 : Out σ10 (σ16.merge s7) v7 (y.path.drop k ++ [a]) := O10
      have e17 := ext_merge e16 E10
      generalize σ16.merge s7 = σ17 at O11 e17
      apply Lg_pre 2
      · intro callf
        simp +decide only [List.take, aQ, memb, List.any_nil, Bool.true_or, Bool.and_true, reset_merge, reset_reset, reset_next, reset_low, merge_next, merge_idem, ble_self, aWanted, ↓bite_eq, ↓reduceIte, aStep_eq, aStepOld, aOp, opFieldAddr, aev, ann, aPut, rget_rput, Nat.zero_add, Bool.not_false, opNil, fld66_6]
        rfl
      dsimp only [List.drop, List.take, List.length]
      have e18 : Ext σ17 (σ17.merge σ17.reset) := (Ext.refl _).merge
      generalize σ17.merge σ17.reset = σ18 at e18
      have O12 := O11.ext e18
      have e18 := e17.trans e18
      have G12 : GRow σ18 v7 (y.path.drop k ++ [a]) := O12.row (X := []) (by simp) (by simp)
      have M12 := (R10.ext e18).setLoop G12
      obtain ⟨ga, gc, hga⟩ := G12.slice
      refine Lg_st (v := undef) (s1 := σ18.reset.put xb (fblk (.slice (some ⟨b0, off0, none⟩) L.length cap) true { d2 with sv := v5, lv := v7 })) (by intro callf; simp +decide only [↓reduceIte, aStep_eq, aStepOld, aOp, opStore, aev, unn, rget_rput, (M12.ext (Ext.reset σ18)).st6 ⟨_, _, _, hga⟩]) (by kernel_rfl) ?_
      have R19 := (M12.ext (Ext.reset σ18)).put.merge M12.c.ext
      generalize σ18.merge (σ18.reset.put xb (fblk (.slice (some ⟨b0, off0, none⟩) L.length cap) true { d2 with sv := v5, lv := v7 })) = σ19 at R19
      show W _ _ _ 164 _ _ _ _
      have hfine : innerGo (innerF L f) (a :: row.drop (i + 1)) y = { y with found := true, stem := y.stem ++ y.path.take k, loop := y.path.drop k ++ [a] } := by
        conv => lhs; unfold innerGo
        rw [if_neg (by rw [hyf]; decide), if_neg (by rw [hev]; decide), hfn]
      rw [hfine] at hgo
      refine W_retq ⟨fun h => h.elim (fun h => (nomatch h)) (fun h => (nomatch h)), fun _ _ => ⟨fun h => (nomatch h), fun h => (nomatch h), fun _ _ => ⟨fun h => h.elim (fun h => (nomatch h)) (fun h => (nomatch h)), fun _ _ => ⟨fun h => (nomatch h), fun h => (nomatch h), fun _ _ => ⟨Nat.le_refl _, [], rfl, hfin _ _ hgo ⟨_, R19⟩⟩⟩⟩⟩⟩

end Go.Proofs.Ytbknckiapcafdaa.Nest
