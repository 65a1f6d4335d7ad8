/- The law NestedFind (function 4). -/
import Derived.Test.YtbknckiapcafdaaNestZL
set_option linter.unusedSimpArgs false
set_option linter.unusedVariables false
namespace Go.Proofs.Ytbknckiapcafdaa.Nest
open Abs Abs2

theorem kn9z : Kn 9 [] = some (.bool true) := rfl
theorem ext_tape {tb : Nat} {σ σT σ' : AS} (h : Ext σ σT) (ht : σ.next ≤ tb) (k : ExtX [tb] σT σ') : Ext σ σ' :=
  ⟨Nat.le_trans h.nxt k.nxt, fun i hi => by rw [k.get i (Nat.lt_of_lt_of_le hi h.nxt) (by simp; omega)]; exact h.get i hi, fun m h1 h2 => k.low m (h.low m h1 h2) (Nat.le_trans h2 h.nxt) (by simp; omega)⟩
theorem Gen.finds {tb lb cap m : Nat} {σ : AS} {L : Lts} (h : Gen tb lb σ L m) (hm : m ≤ 1000) (hL : L.length ≤ 100) : C Try.prog Kn 0 12 [.agg #[.slice (some ⟨lb, 0, none⟩) L.length cap]] σ fun v σ' => v = .bool true ∧ Ext σ σ' :=
  finds_c (RS.shown RRow.shown h.rs) ⟨by omega, fun r hr => by have := (h.row r hr).1; omega⟩ (by omega)

set_option maxHeartbeats 32000000 in
theorem find_law {σ : AS} {tv sv : Value} {ints : List Int} {LL : Lts} (ht : RS 1 RInt σ tv ints) (htl : ints.length ≤ 2 ^ 62) (hs : RS 1 RRow σ sv LL) (hz : Small LL) :
    C Try.prog Kn 0 4 [tv, .agg #[sv]] σ fun v _ => v = .bool true := by
  obtain ⟨sb, sc, rfl, -⟩ := id hs
  refine C_of (kn (by decide)) Try.func4 rfl (Nat.le_of_ble_eq_true rfl) ?_
  show W _ _ _ 47 _ _ _ _
  unfold Try.f4
  dsimp only
  repeat apply W_assoc
  apply W_reg
  · intro callf
    simp +decide only [aOps, rinit, aWanted, ↓bite_eq, ↓reduceIte, aStep_eq, aStepOld, aOp, opBox, aRow, aev, ann, aPut, rget_rput, Nat.zero_add]
    rfl
  have E0 := Ext.new σ ⟨1, 30, 0, (Value.agg #[.slice sb LL.length sc]).cells.toList, []⟩
  have BA : BoxAt (σ.new ⟨1, 30, 0, (Value.agg #[.slice sb LL.length sc]).cells.toList, []⟩) σ.next (.slice sb LL.length sc) := ⟨Nat.lt_succ_self _, by rw [AS.get_new, if_pos rfl]; rfl⟩
  generalize hb3 : σ.next = b3 at BA
  generalize σ.new ⟨1, 30, 0, (Value.agg #[.slice sb LL.length sc]).cells.toList, []⟩ = σ1 at E0 BA
  have hb31 : b3 < σ1.next := BA.lt
  repeat apply W_assoc
  apply W_regL
  apply Ls_pre 1
  · intro callf
    simp +decide only [List.take, aOps, aWanted, ↓bite_eq, ↓reduceIte, aStep_eq, aStepOld, aOp, aev, ann, aPut, rget_rput]
    rfl
  dsimp only [List.drop]
  refine Ls_fn (vs := [tv]) (by simp +decide only [aevs, aev, rget_rput, if_true, if_false]) (by decide) (C.mono (new_tape (ht.ext RInt.keeps E0) htl) ?_)
  rintro v σ' ⟨rfl, TP, ET⟩
  apply Ls_all
  · intro callf
    simp +decide only [aOps, aWanted, ↓bite_eq, ↓reduceIte, aStep_eq, aStepOld, aOp, aev, ann, aPut, rget_rput]
    rfl
  generalize htb : σ1.next = tb at TP hb31
  have E0n : σ.next ≤ tb := by rw [← htb]; exact E0.nxt
  have BA := BA.ext ET
  have ET := E0.trans ET
  generalize σ' = σT at TP ET BA
  repeat apply W_assoc
  apply W_reg
  · intro callf
    simp +decide only [aOps, aWanted, ↓bite_eq, ↓reduceIte, aStep_eq, aStepOld, aOp, aev, ann, aPut]
    rfl
  repeat apply W_assoc
  refine W_forM (fun (i : Nat) r σ' => i ≤ 5 ∧ rget r 3 = .pointer (some ⟨b3, 0, none⟩) ∧ rget r 5 = .pointer (some ⟨tb, 0, none⟩) ∧ rget r 6 = .int .i64 (i : Int) ∧ Tape tb σ' (10000 * i) ∧ BoxAt σ' b3 (.slice sb LL.length sc) ∧ ExtX [tb] σT σ')
    (fun i => 5 - i) (fun r σ' => rget r 3 = .pointer (some ⟨b3, 0, none⟩) ∧ Tape tb σ' 100000 ∧ BoxAt σ' b3 (.slice sb LL.length sc) ∧ ExtX [tb] σT σ') ?_ ?_ 0 ?_
  rotate_left 2
  · refine ⟨by omega, ?_, ?_, ?_, TP, BA, ExtX.refl _ _⟩ <;> simp +decide only [rget_rput, if_true, if_false, ← hb3] <;> first | exact True.intro | rfl
  rotate_left
  · clear TP BA
    rintro r σ2 ⟨h3, TP, BA, EE⟩
    have eL := ext_tape ET E0n EE
    have hsL := hs.ext RRow.keeps eL
    clear TP
    repeat apply W_assoc
    apply W_regL
    apply Ls_pre 1
    · intro callf
      simp +decide only [List.take, aOps, aWanted, ↓bite_eq, ↓reduceIte, aStep_eq, aStepOld, aOp, opLoad, aev, ann, aPut, h3, BA.load]
      rfl
    dsimp only [List.drop]
    refine Ls_fn (vs := [.agg #[.slice sb LL.length sc]]) (by simp +decide only [aevs, aev, rget_rput, if_true]) (by decide) (C.mono (huge12 hsL hz) ?_)
    rintro v σ' ⟨⟨hg, rfl, hsm⟩, e3⟩
    have BA := BA.ext e3
    have hsL := hsL.ext RRow.keeps e3
    generalize σ' = σ3 at BA hsL
    cases hg with
    | true =>
      apply Ls_all
      · intro callf
        simp +decide only [aOps, aWanted, ↓bite_eq, ↓reduceIte, aStep_eq, aStepOld, aOp, opPick, aev, ann, aPut, rget_rput, List.getElem?_toArray, List.getElem?_cons_zero, List.getElem?_cons_succ, Option.bind_some, Bool.true_beq, opPick]
        rfl
      refine W_ret ⟨Nat.le_refl _, [.bool true], ?_, rfl⟩
      simp +decide only [aResults, rget_rput, if_true, if_false]
    | false =>
      apply Ls_pre 2
      · intro callf
        simp +decide only [List.take, aOps, aWanted, ↓bite_eq, ↓reduceIte, aStep_eq, aStepOld, aOp, opLoad, aev, ann, aPut, rget_rput, List.getElem?_toArray, List.getElem?_cons_zero, List.getElem?_cons_succ, Option.bind_some, beq_self_eq_true, h3, BA.load]
        rfl
      dsimp only [List.drop]
      refine Ls_fnG (vs := [.agg #[.slice sb LL.length sc]]) (by simp +decide only [aWanted, List.getElem?_toArray, List.getElem?_cons_zero, List.getElem?_cons_succ, Option.bind_some, rget_rput, if_true, if_false]) (by simp +decide only [aevs, aev, rget_rput, if_true, if_false]) (by decide) (C.mono (finds_c hsL hz (by have := hsm rfl; omega)) ?_)
      rintro v σ' ⟨rfl, e4⟩
      apply Ls_pre 1
      · intro callf
        simp +decide only [List.take, aOps, aWanted, ↓bite_eq, ↓reduceIte, aStep_eq, aStepOld, aOp, aev, ann, aPut, rget_rput, List.getElem?_toArray, List.getElem?_cons_zero, List.getElem?_cons_succ, Option.bind_some, beq_self_eq_true]
        rfl
      dsimp only [List.drop]
      refine Ls_fnG (vs := []) (by simp +decide only [aWanted, List.getElem?_toArray, List.getElem?_cons_zero, List.getElem?_cons_succ, Option.bind_some, rget_rput, if_true, if_false]) (by simp +decide only [aevs]) (by decide) (C.mono (C_known (v := .bool true) (Q := fun v s1 => v = .bool true) kn9z rfl) ?_)
      rintro v σ' rfl
      apply Ls_all
      · intro callf
        simp +decide only [aOps, aWanted, ↓bite_eq, ↓reduceIte, aStep_eq, aStepOld, aOp, opPick, aev, ann, aPut, rget_rput, List.getElem?_toArray, List.getElem?_cons_zero, List.getElem?_cons_succ, Option.bind_some, beq_self_eq_true, opPick]
        rfl
      refine W_ret ⟨Nat.le_refl _, [.bool true], ?_, rfl⟩
      simp +decide only [aResults, rget_rput, if_true, if_false]
  clear TP BA
  rintro i r σ2 ⟨hi, h3, h5, h6, TP, BA, EE⟩
  have hbt : b3 ≠ tb := by omega
  by_cases hlt : i < 5
  rotate_left
  · have d1 : decide ((i : Int) < 5) = false := decide_eq_false (by omega)
    repeat apply W_assoc
    apply W_reg
    · intro callf
      simp +decide only [aOps, aWanted, ↓bite_eq, ↓reduceIte, aStep_eq, aStepOld, aOp, opBin, aev, ann, aPut, rget_rput, h6, d1, aBin, aInts, aInt_eq]
      rfl
    repeat apply W_assoc
    refine W_if (b := false) ?_ ?_ ?_
    · simp +decide only [aev, rget_rput, if_true, if_false]
    · intro h; cases h
    intro _
    refine W_exitq ⟨fun h => (nomatch h), fun _ => ⟨?_, TP.up (by omega), BA, EE⟩, fun h1 h2 => absurd rfl h2⟩
    simp +decide only [rget_rput, if_false, h3]
  have d1 : decide ((i : Int) < 5) = true := decide_eq_true (by omega)
  repeat apply W_assoc
  apply W_reg
  · intro callf
    simp +decide only [aOps, aWanted, ↓bite_eq, ↓reduceIte, aStep_eq, aStepOld, aOp, opBin, aev, ann, aPut, rget_rput, h6, d1, aBin, aInts, aInt_eq]
    rfl
  repeat apply W_assoc
  refine W_if (b := true) ?_ ?_ ?_
  · simp +decide only [aev, rget_rput, if_true, if_false]
  rotate_left
  · intro h; cases h
  intro _
  apply W_skipq
  refine W_blk ?_
  repeat apply W_assoc
  apply W_regL
  apply Ls_pre 1
  · intro callf
    simp +decide only [List.take, aOps, aWanted, ↓bite_eq, ↓reduceIte, aStep_eq, aStepOld, aOp, aev, ann, aPut, rget_rput, h5]
    rfl
  dsimp only [List.drop]
  refine Ls_fn (vs := [.pointer (some ⟨tb, 0, none⟩), .int .i64 7]) (by simp +decide only [aevs, aev, rget_rput, if_true, if_false]) (by decide) (C.mono (chain insert lts TP (by omega) (n := 7) (by omega) (by omega)) ?_)
  rintro v σ' ⟨lb, L, cap, rfl, hlb, TP, E1, GN, hL1, hL2⟩
  have BA := BA.extX E1 (by simpa using hbt)
  have EE := EE.trans E1
  generalize hb7 : σ'.next = b7
  have hb7t : tb < b7 := by rw [← hb7]; exact TP.lt
  apply Ls_all
  · intro callf
    simp +decide only [aOps, aWanted, ↓bite_eq, ↓reduceIte, aStep_eq, aStepOld, aOp, opStore, aev, unn, aPut, rget_rput, alloc30, hb7, store30 (σ := σ'.new ⟨1, 30, 0, [.slice none 0 0], []⟩) (b := b7) (x := .slice none 0 0) (by rw [AS.get_new, if_pos hb7])]
    rfl
  have e2 : Ext σ' ((σ'.new ⟨1, 30, 0, [.slice none 0 0], []⟩).put b7 ⟨1, 30, 0, [.slice (some ⟨lb, 0, none⟩) L.length cap], []⟩) := Ext.put (Ext.new _ _) (by omega) _
  have BX : BoxAt ((σ'.new ⟨1, 30, 0, [.slice none 0 0], []⟩).put b7 ⟨1, 30, 0, [.slice (some ⟨lb, 0, none⟩) L.length cap], []⟩) b7 (.slice (some ⟨lb, 0, none⟩) L.length cap) := ⟨by rw [← hb7]; exact Nat.lt_succ_self _, by rw [AS.get_put, if_pos rfl]⟩
  have TP := TP.ext e2
  have BA := BA.ext e2
  have EE := EE.trans (ExtX.of e2)
  have GN := GN.ext e2
  generalize (σ'.new ⟨1, 30, 0, [.slice none 0 0], []⟩).put b7 ⟨1, 30, 0, [.slice (some ⟨lb, 0, none⟩) L.length cap], []⟩ = σ3 at TP BA EE GN BX
  have hb7n : b7 ≠ tb := by omega
  repeat apply W_assoc
  apply W_regL
  apply Ls_pre 1
  · intro callf
    simp +decide only [List.take, aOps, aWanted, ↓bite_eq, ↓reduceIte, aStep_eq, aStepOld, aOp, opLoad, aev, ann, aPut, rget_rput, BX.load]
    rfl
  dsimp only [List.drop]
  refine Ls_fn (vs := [.agg #[.slice (some ⟨lb, 0, none⟩) L.length cap]]) (by simp +decide only [aevs, aev, rget_rput, if_true, if_false]) (by decide) (C.mono (GN.finds (by omega) hL2) ?_)
  rintro v σ' ⟨rfl, e3⟩
  have TP := TP.ext e3
  have BA := BA.ext e3
  have BX := BX.ext e3
  have EE := EE.trans (ExtX.of e3)
  have GN := GN.ext e3
  generalize σ' = σ4 at TP BA BX EE GN
  apply Ls_pre 3
  · intro callf
    simp +decide only [List.take, aOps, aWanted, ↓bite_eq, ↓reduceIte, aStep_eq, aStepOld, aOp, opUn, aev, ann, aPut, rget_rput, List.getElem?_toArray, List.getElem?_cons_zero, List.getElem?_cons_succ, Option.bind_some, beq_self_eq_true, Bool.not_true, not_b, h5]
    rfl
  dsimp only [List.drop]
  refine Ls_fnG (vs := [.pointer (some ⟨tb, 0, none⟩), .int .i64 7]) (by simp +decide only [aWanted, List.getElem?_toArray, List.getElem?_cons_zero, List.getElem?_cons_succ, Option.bind_some, rget_rput, if_true, if_false]) (by simp +decide only [aevs, aev, rget_rput, if_true, if_false]) (by decide) (C.mono (calm (chain insert lts) TP (by omega) (n := 7) (by omega) (by omega)) ?_)
  rintro v σ' ⟨lb2, L2, cap2, rfl, hlb2, TP, E2, G2, hL21, hL22⟩
  have BA := BA.extX E2 (by simpa using hbt)
  have BX := BX.extX E2 (by simpa using hb7n)
  have EE := EE.trans E2
  have GN := GN.extX E2
  generalize σ' = σ5 at TP BA BX EE GN G2
  refine Ls_fnG (vs := [.agg #[.slice (some ⟨lb2, 0, none⟩) L2.length cap2]]) (by simp +decide only [aWanted, List.getElem?_toArray, List.getElem?_cons_zero, List.getElem?_cons_succ, Option.bind_some, rget_rput, if_true, if_false]) (by simp +decide only [aevs, aev, rget_rput, if_true, if_false]) (by decide) (C.mono (G2.finds (by omega) hL22) ?_)
  rintro v σ' ⟨rfl, e4⟩
  have TP := TP.ext e4
  have BA := BA.ext e4
  have BX := BX.ext e4
  have EE := EE.trans (ExtX.of e4)
  have GN := GN.ext e4
  generalize σ' = σ6 at TP BA BX EE GN
  apply Ls_pre 5
  · intro callf
    simp +decide only [List.take, aOps, aWanted, ↓bite_eq, ↓reduceIte, aStep_eq, aStepOld, aOp, opUn, opLoad, opPick, aev, ann, aPut, rget_rput, List.getElem?_toArray, List.getElem?_cons_zero, List.getElem?_cons_succ, Option.bind_some, beq_self_eq_true, Bool.not_true, not_b, opPick, h5, BX.load]
    rfl
  dsimp only [List.drop]
  refine Ls_fnG (vs := [.pointer (some ⟨tb, 0, none⟩), .agg #[.slice (some ⟨lb, 0, none⟩) L.length cap]]) (by simp +decide only [aWanted, List.getElem?_toArray, List.getElem?_cons_zero, List.getElem?_cons_succ, Option.bind_some, rget_rput, if_true, if_false]) (by simp +decide only [aevs, aev, rget_rput, if_true, if_false]) (by decide) (C.mono (spoil_c TP (by omega) GN (by omega) hL1 hL2) ?_)
  rintro v σ' ⟨s3, L3, rfl, R3, hL31, hL32, TP, E3⟩
  have BA := BA.extX E3 (by simpa using hbt)
  have EE := EE.trans E3
  clear GN G2 BX
  generalize σ' = σ7 at TP BA EE R3
  refine Ls_fnG (vs := [.agg #[s3]]) (by simp +decide only [aWanted, List.getElem?_toArray, List.getElem?_cons_zero, List.getElem?_cons_succ, Option.bind_some, rget_rput, if_true, if_false]) (by simp +decide only [aevs, aev, rget_rput, if_true, if_false]) (by decide) (C.mono (finds_c R3 ⟨by omega, fun r hr => by have := hL32 r hr; omega⟩ (by omega)) ?_)
  rintro v σ' ⟨rfl, e5⟩
  have TP := TP.ext e5
  have BA := BA.ext e5
  have EE := EE.trans (ExtX.of e5)
  generalize σ' = σ8 at TP BA EE
  apply Ls_pre 4
  · intro callf
    simp +decide only [List.take, aOps, aWanted, ↓bite_eq, ↓reduceIte, aStep_eq, aStepOld, aOp, opUn, opPick, aev, ann, aPut, rget_rput, List.getElem?_toArray, List.getElem?_cons_zero, List.getElem?_cons_succ, Option.bind_some, beq_self_eq_true, Bool.not_true, not_b, opPick, h5]
    rfl
  dsimp only [List.drop]
  refine Ls_fnG (vs := [.pointer (some ⟨tb, 0, none⟩), .int .i64 8]) (by simp +decide only [aWanted, List.getElem?_toArray, List.getElem?_cons_zero, List.getElem?_cons_succ, Option.bind_some, rget_rput, if_true, if_false]) (by simp +decide only [aevs, aev, rget_rput, if_true, if_false]) (by decide) (C.mono (lts TP (by omega) (n := 8) (by omega) (by omega)) ?_)
  rintro v σ' ⟨lb4, L4, cap4, rfl, hlb4, TP, E4, G4, hL41, hL42⟩
  have BA := BA.extX E4 (by simpa using hbt)
  have EE := EE.trans E4
  generalize σ' = σ9 at TP BA EE G4
  refine Ls_fnG (vs := [.agg #[.slice (some ⟨lb4, 0, none⟩) L4.length cap4]]) (by simp +decide only [aWanted, List.getElem?_toArray, List.getElem?_cons_zero, List.getElem?_cons_succ, Option.bind_some, rget_rput, if_true, if_false]) (by simp +decide only [aevs, aev, rget_rput, if_true, if_false]) (by decide) (C.mono (G4.finds (by omega) hL42) ?_)
  rintro v σ' ⟨rfl, e6⟩
  have TP := TP.ext e6
  have BA := BA.ext e6
  have EE := EE.trans (ExtX.of e6)
  generalize σ' = σ10 at TP BA EE
  apply Ls_all
  · intro callf
    simp +decide only [aOps, aWanted, ↓bite_eq, ↓reduceIte, aStep_eq, aStepOld, aOp, opUn, opPick, aev, ann, aPut, rget_rput, List.getElem?_toArray, List.getElem?_cons_zero, List.getElem?_cons_succ, Option.bind_some, beq_self_eq_true, Bool.not_true, not_b, opPick]
    rfl
  refine W_tail ?_
  repeat apply W_assoc
  refine W_if (b := false) ?_ ?_ ?_
  · simp +decide only [aev, rget_rput, if_true, if_false]
  · intro h; cases h
  intro _
  apply W_skipq
  refine W_skip ⟨fun _ => ?_, fun h => absurd rfl h⟩
  refine W_tail ?_
  have w1 : IntKind.i64.wrap ((i : Int) + 1) = ((i + 1 : Nat) : Int) := by rw [wrap64_id _ (by omega) (by omega)]; omega
  repeat apply W_assoc
  apply W_reg
  · intro callf
    simp +decide only [aOps, aWanted, ↓bite_eq, ↓reduceIte, aStep_eq, aStepOld, aOp, opBin, aev, ann, aPut, rget_rput, h6, w1, aBin, aInts, aInt_eq]
    rfl
  refine W_skip ⟨fun _ => ⟨i + 1, ?_, ?_⟩, fun h => (nomatch h), fun h => absurd rfl h⟩
  · omega
  · refine ⟨by omega, ?_, ?_, ?_, TP.up (by omega), BA, EE⟩ <;> simp +decide only [rget_rput, if_true, if_false, h3, h5]

end Go.Proofs.Ytbknckiapcafdaa.Nest
