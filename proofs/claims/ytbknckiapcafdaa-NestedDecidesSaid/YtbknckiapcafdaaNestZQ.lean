/- Repeat (55), Len (70), Less (81). -/
import Derived.Test.YtbknckiapcafdaaNestZP
set_option linter.unusedSimpArgs false
set_option linter.unusedVariables false
namespace Go.Proofs.Ytbknckiapcafdaa.Nest
open Abs Abs2

theorem C_run {P : Program} {K : Tbl} {G N : Nat} {f : FuncId} {args : List Value} {σ σ' : AS} {v : Value} {Q : Value → AS → Prop} (h : aCall P K G N f args σ = some (v, σ')) (hq : Q v σ') : C P K G f args σ Q :=
  ⟨v, σ', N, fun fuel hf => callBy_more (aCode_le hf) _ _ _ _ h, hq⟩

theorem mul_run {σ : AS} : ∀ n : Nat, n < 13 → aCall Try.prog Kn 0 100 66 [.int .u64 1, .int .u64 (n : Int)] σ = some (.tuple #[.int .u64 0, .int .u64 (n : Int)], σ)
  | 0, _ => by kernel_rfl
  | 1, _ => by kernel_rfl
  | 2, _ => by kernel_rfl
  | 3, _ => by kernel_rfl
  | 4, _ => by kernel_rfl
  | 5, _ => by kernel_rfl
  | 6, _ => by kernel_rfl
  | 7, _ => by kernel_rfl
  | 8, _ => by kernel_rfl
  | 9, _ => by kernel_rfl
  | 10, _ => by kernel_rfl
  | 11, _ => by kernel_rfl
  | 12, _ => by kernel_rfl
  | n + 13, h => absurd h (by omega)
theorem len_run {σ : AS} : ∀ n : Nat, n < 13 → ∃ k : Int, aCall Try.prog Kn 0 100 70 [.int .u64 (n : Int)] σ = some (.int .i64 k, σ)
  | 0, _ => ⟨0, by kernel_rfl⟩
  | 1, _ => ⟨1, by kernel_rfl⟩
  | 2, _ => ⟨2, by kernel_rfl⟩
  | 3, _ => ⟨2, by kernel_rfl⟩
  | 4, _ => ⟨3, by kernel_rfl⟩
  | 5, _ => ⟨3, by kernel_rfl⟩
  | 6, _ => ⟨3, by kernel_rfl⟩
  | 7, _ => ⟨3, by kernel_rfl⟩
  | 8, _ => ⟨4, by kernel_rfl⟩
  | 9, _ => ⟨4, by kernel_rfl⟩
  | 10, _ => ⟨4, by kernel_rfl⟩
  | 11, _ => ⟨4, by kernel_rfl⟩
  | 12, _ => ⟨4, by kernel_rfl⟩
  | n + 13, h => absurd h (by omega)
theorem conv_up : ∀ n : Nat, n < 13 → flatO (asPure Try.prog (convert 3 103 (.int .i64 (n : Int)))) = some (.int .u64 (n : Int))
  | 0, _ => by kernel_rfl
  | 1, _ => by kernel_rfl
  | 2, _ => by kernel_rfl
  | 3, _ => by kernel_rfl
  | 4, _ => by kernel_rfl
  | 5, _ => by kernel_rfl
  | 6, _ => by kernel_rfl
  | 7, _ => by kernel_rfl
  | 8, _ => by kernel_rfl
  | 9, _ => by kernel_rfl
  | 10, _ => by kernel_rfl
  | 11, _ => by kernel_rfl
  | 12, _ => by kernel_rfl
  | n + 13, h => absurd h (by omega)
theorem conv_down : ∀ n : Nat, n < 13 → flatO (asPure Try.prog (convert 103 3 (.int .u64 (n : Int)))) = some (.int .i64 (n : Int))
  | 0, _ => by kernel_rfl
  | 1, _ => by kernel_rfl
  | 2, _ => by kernel_rfl
  | 3, _ => by kernel_rfl
  | 4, _ => by kernel_rfl
  | 5, _ => by kernel_rfl
  | 6, _ => by kernel_rfl
  | 7, _ => by kernel_rfl
  | 8, _ => by kernel_rfl
  | 9, _ => by kernel_rfl
  | 10, _ => by kernel_rfl
  | 11, _ => by kernel_rfl
  | 12, _ => by kernel_rfl
  | n + 13, h => absurd h (by omega)
theorem small_u : ∀ n : Nat, n < 13 → ∀ xo yo, aBin Try.prog .gtr 103 xo yo (.int .u64 (n : Int)) (.int .u64 9223372036854775807) = some (.bool false)
  | 0, _ => fun _ _ => by kernel_rfl
  | 1, _ => fun _ _ => by kernel_rfl
  | 2, _ => fun _ _ => by kernel_rfl
  | 3, _ => fun _ _ => by kernel_rfl
  | 4, _ => fun _ _ => by kernel_rfl
  | 5, _ => fun _ _ => by kernel_rfl
  | 6, _ => fun _ _ => by kernel_rfl
  | 7, _ => fun _ _ => by kernel_rfl
  | 8, _ => fun _ _ => by kernel_rfl
  | 9, _ => fun _ _ => by kernel_rfl
  | 10, _ => fun _ _ => by kernel_rfl
  | 11, _ => fun _ _ => by kernel_rfl
  | 12, _ => fun _ _ => by kernel_rfl
  | n + 13, h => absurd h (by omega)

theorem zero_u : ∀ xo yo, aBin Try.prog .gtr 103 xo yo (.int .u64 0) (.int .u64 0) = some (.bool false) := fun _ _ => by kernel_rfl

def rep (n m : Nat) : List Int := List.replicate n (-1) ++ List.replicate m 0
theorem rep_map (n m : Nat) : (rep n m).map vInt = List.replicate n (vInt (-1)) ++ List.replicate m (vInt 0) := by unfold rep; rw [List.map_append, List.map_replicate, List.map_replicate]
theorem rep_len (n m : Nat) : (rep n m).length = n + m := by simp [rep]

/-- Cells that are all -1 are copied behind those that are. -/
theorem copyRep {σ : AS} {b n m c dc sl sc : Nat} {sa : Addr} (hb : σ.get b = ⟨1, 3, 0, (rep n m).map vInt, []⟩) (hc : Nat.min sl m = c) (h0 : 0 < c) (hs : aCellsS σ sa c = some (List.replicate c (vInt (-1)))) :
    aCopy Try.prog σ #[33, 33] (.slice (some ⟨b, n, none⟩) m dc) (.slice (some sa) sl sc) = some (.int .i64 (c : Int), σ.put b ⟨1, 3, 0, (rep (n + c) (m - c)).map vInt, []⟩) := by
  obtain ⟨inf, h1, h2, h3, h4⟩ := info3
  have hcm : c ≤ m := by rw [← hc]; exact Nat.min_le_right _ _
  obtain ⟨k, rfl⟩ : ∃ k, c = k + 1 := ⟨c - 1, by omega⟩
  have hw : aWriteS σ ⟨b, n, none⟩ (List.replicate (k + 1) (vInt (-1))) = some (σ.put b ⟨1, 3, 0, (rep (n + (k + 1)) (m - (k + 1))).map vInt, []⟩) := by
    rw [aWriteS_none]
    unfold aWrite
    have ho : (List.replicate (k + 1) (vInt (-1))).all one = true := by
      rw [List.all_eq_true]; intro x hx; rw [List.eq_of_mem_replicate hx]; rfl
    have hl : Nat.ble (n + (k + 1)) ((rep n m).map vInt).length = true := ble_t (by rw [List.length_map, rep_len]; omega)
    have hsp : lsplice ((rep n m).map vInt) n (List.replicate (k + 1) (vInt (-1))) = (rep (n + (k + 1)) (m - (k + 1))).map vInt := by
      rw [lsplice_eq _ _ _ (by rw [List.length_map, rep_len, List.length_replicate]; omega), rep_map, rep_map, List.length_replicate]
      have e1 : (List.replicate n (vInt (-1)) ++ List.replicate m (vInt 0)).take n = List.replicate n (vInt (-1)) := by
        rw [List.take_append_of_le_length (by simp), List.take_of_length_le (by simp)]
      have e2 : (List.replicate n (vInt (-1)) ++ List.replicate m (vInt 0)).drop (n + (k + 1)) = List.replicate (m - (k + 1)) (vInt 0) := by
        rw [List.drop_append, List.drop_eq_nil_of_le (by simp), List.nil_append, List.length_replicate, List.drop_replicate, show n + (k + 1) - n = k + 1 by omega]
      rw [e1, e2, List.replicate_append_replicate]
    have hl2 : (List.replicate (k + 1) (vInt (-1))).length = k + 1 := List.length_replicate
    simp only [hb, hasLen_eq, hl2, hl, ho]
    rw [List.replicate_succ] at hsp ⊢
    dsimp only
    rw [hsp]
    rfl
  unfold aCopy
  simp only [List.getElem?_toArray, List.getElem?_cons_zero, Try.underlying33, h1, h2, hc, Nat.mul_one, hs, hw]
  rfl

theorem closed_lb {N : Nat} (hN : N ≤ 1000000) : capLB N = N := by
  have : OPENCAP = 18446744073709551616 := rfl
  unfold capLB
  rw [if_pos (by rw [Nat.blt_eq]; omega)]
theorem closed_at {b n N : Nat} (hN : N ≤ 1000000) (hn : n < N) (h0 : 0 < n) {σ : AS} : aSlice Try.prog σ 33 (.slice (some ⟨b, 0, none⟩) N N) (some (.int .i64 (n : Int))) none none = some (.slice (some ⟨b, n, none⟩) (N - n) (N - n)) := by
  obtain ⟨inf, h1, h2, h3, h4⟩ := info3
  have ho : isOpen N = false := by unfold isOpen; exact ble_f (by have : OPENCAP = 18446744073709551616 := rfl; omega)
  have hl : capLB N = N := closed_lb hN
  unfold aSlice
  simp only [Try.underlying33, h1, h2, ho, Bool.false_eq_true, if_false, Option.isSome_none]
  unfold aSliceAt
  simp only [aboundO, hl, abound_le n N (by omega), ho, Bool.false_eq_true, if_false]
  rw [if_neg (by rw [beq_f (by omega)]; decide)]
  simp only [Option.map_some, Addr.add, Nat.zero_add, Nat.mul_one]
  rw [if_neg (by omega)]
theorem closed_to {b n N : Nat} (hN : N ≤ 1000000) (hn : n < N) {σ : AS} : aSlice Try.prog σ 33 (.slice (some ⟨b, 0, none⟩) N N) none (some (.int .i64 (n : Int))) none = some (.slice (some ⟨b, 0, none⟩) n N) := by
  obtain ⟨inf, h1, h2, h3, h4⟩ := info3
  have ho : isOpen N = false := by unfold isOpen; exact ble_f (by have : OPENCAP = 18446744073709551616 := rfl; omega)
  have hl : capLB N = N := closed_lb hN
  unfold aSlice
  simp only [Try.underlying33, h1, h2, ho, Bool.false_eq_true, if_false, Option.isSome_none]
  unfold aSliceAt
  simp only [aboundO, hl, abound_le n N (by omega), ho, Bool.false_eq_true, if_false]
  rw [if_neg (by rw [beq_f (by omega)]; decide)]
  simp only [Option.map_some, Addr.add, Nat.zero_mul, Nat.sub_zero]
  rfl

set_option maxHeartbeats 8000000 in
theorem repeat_c {σ : AS} {xb N : Nat} (hx : xb < σ.next) (hg : σ.get xb = ⟨1, 3, 0, [.int .i64 (-1)], []⟩) (h1 : 1 ≤ N) (hN : N ≤ 12) : C Try.prog Kn 0 55 [.slice (some ⟨xb, 0, none⟩) 1 1, .int .i64 (N : Int)] σ fun v σ' =>
    IL σ.next σ' v (List.replicate N (-1)) ∧ Ext σ σ' := by
  have d0 : decide ((N : Int) < 0) = false := decide_eq_false (by omega)
  have c1 := conv_up 1 (by omega)
  refine C_of (kn (by decide)) Try.func55 rfl (Nat.le_of_ble_eq_true rfl) ?_
  show W _ _ _ 48 _ _ _ _
  unfold Try.f55
  dsimp only
  repeat apply W_assoc
  apply W_reg
  · intro callf
    simp +decide only [aOps, rinit, aWanted, ↓bite_eq, ↓reduceIte, aStep_eq, aStepOld, aOp, aev, ann, aPut, Nat.zero_add]
    rfl
  repeat apply W_assoc
  apply W_reg
  · intro callf
    simp +decide only [aOps, aWanted, ↓bite_eq, ↓reduceIte, aStep_eq, aStepOld, aOp, opBin, aev, ann, aPut, rget_rput, d0, aBin, aInts, aInt_eq]
    rfl
  repeat apply W_assoc
  refine W_if (b := false) ?_ ?_ ?_
  · simp +decide only [aev, rget_rput, if_true, if_false]
  · intro h; cases h
  intro _
  apply W_skipq
  have c1 : flatO (asPure Try.prog (convert 3 103 (.int .i64 1))) = some (.int .u64 1) := by kernel_rfl
  repeat apply W_assoc
  apply W_regL
  apply Ls_pre 5
  · intro callf
    simp +decide only [List.take, aOps, aWanted, ↓bite_eq, ↓reduceIte, aStep_eq, aStepOld, aOp, opCall, aev, aevs, ann, aPut, rget_rput, flat1, aBuiltin, aLen, List.getElem?_toArray, List.getElem?_cons_zero, opConvert, conv_up N (by omega), c1, Try.underlying33, goInt, Int.natCast_one]
    rfl
  dsimp only [List.drop]
  refine Ls_fn (vs := [.int .u64 1, .int .u64 (N : Int)]) (by simp +decide only [aevs, aev, rget_rput, if_true, if_false]) (by decide) (C.mono (C_run (Q := fun v s1 => v = .tuple #[.int .u64 0, .int .u64 (N : Int)] ∧ s1 = σ) (mul_run N (by omega)) ⟨rfl, rfl⟩) ?_)
  rintro v σ' ⟨rfl, rfl⟩
  apply Ls_all
  · intro callf
    simp +decide only [aOps, aWanted, ↓bite_eq, ↓reduceIte, aStep_eq, aStepOld, aOp, opExtract, aev, ann, aPut, rget_rput, List.getElem?_toArray, List.getElem?_cons_zero, List.getElem?_cons_succ]
    rfl
  repeat apply W_assoc
  apply W_reg
  · intro callf
    simp +decide only [aOps, aWanted, ↓bite_eq, ↓reduceIte, aStep_eq, aStepOld, aOp, opBin, opPick, aev, ann, aPut, rget_rput, List.getElem?_toArray, List.getElem?_cons_zero, List.getElem?_cons_succ, Option.bind_some, beq_self_eq_true, zero_u, small_u N (by omega), opPick]
    rfl
  repeat apply W_assoc
  refine W_if (b := false) ?_ ?_ ?_
  · simp +decide only [aev, rget_rput, if_true, if_false]
  · intro h; cases h
  intro _
  apply W_skipq
  generalize hb : σ'.next = b
  have hGN : (σ'.new ⟨1, 3, 0, List.replicate N (.int .i64 0), []⟩).get b = ⟨1, 3, 0, (rep 0 N).map vInt, []⟩ := by
    rw [AS.get_new, if_pos hb, rep_map]; rfl
  have e1 := Ext.new σ' ⟨1, 3, 0, List.replicate N (.int .i64 0), []⟩
  have hbn : b < (σ'.new ⟨1, 3, 0, List.replicate N (.int .i64 0), []⟩).next := by rw [← hb]; exact Nat.lt_succ_self _
  repeat apply W_assoc
  apply W_reg
  · intro callf
    simp +decide only [aOps, aWanted, ↓bite_eq, ↓reduceIte, aStep_eq, aStepOld, aOp, aev, ann, aPut, rget_rput, flat1, opConvert, conv_down N (by omega), opMakeSlice, make33 (show N ≤ 1000000 by omega), hb]
    rfl
  generalize σ'.new ⟨1, 3, 0, List.replicate N (.int .i64 0), []⟩ = σ1 at hGN e1 hbn
  have hcp := copyRep (σ := σ1) (n := 0) (m := N) (c := 1) (dc := N) (sl := 1) (sc := 1) (sa := ⟨xb, 0, none⟩) hGN (Nat.min_eq_left h1) (by omega) (cells_at ((e1.get xb hx).trans hg) rfl (Nat.le_refl _))
  repeat apply W_assoc
  apply W_reg
  · intro callf
    simp +decide only [aOps, aWanted, ↓bite_eq, ↓reduceIte, aStep_eq, aStepOld, aOp, opCall, aev, aevs, ann, aPut, rget_rput, aBuiltin, Nat.zero_add, hcp]
    rfl
  have e2 : Ext σ' (σ1.put b ⟨1, 3, 0, (rep (0 + 1) (N - 1)).map vInt, []⟩) := e1.put (by omega) _
  have hG2 : (σ1.put b ⟨1, 3, 0, (rep (0 + 1) (N - 1)).map vInt, []⟩).get b = ⟨1, 3, 0, (rep 1 (N - 1)).map vInt, []⟩ := by rw [AS.get_put, if_pos rfl]
  have hbn2 : b < (σ1.put b ⟨1, 3, 0, (rep (0 + 1) (N - 1)).map vInt, []⟩).next := hbn
  generalize σ1.put b ⟨1, 3, 0, (rep (0 + 1) (N - 1)).map vInt, []⟩ = σ2 at e2 hG2 hbn2
  repeat apply W_assoc
  refine W_for (fun (n : Nat) r s => 1 ≤ n ∧ n ≤ N ∧ Ext σ' s ∧ b < s.next ∧ s.get b = ⟨1, 3, 0, (rep n (N - n)).map vInt, []⟩ ∧ rget r 7 = .slice (some ⟨b, 0, none⟩) N N ∧ rget r 8 = .int .i64 (n : Int)) (fun n => N - n) ?_ 1 ?_
  rotate_left
  · refine ⟨Nat.le_refl _, h1, e2, hbn2, hG2, ?_, ?_⟩ <;> simp +decide only [rget_rput, if_true, if_false] <;> first | exact True.intro | rfl
  clear e2 hG2 hbn2 hcp
  rintro n r σ3 ⟨hn1, hn, e3, hb3, hg3, h7, h8⟩
  by_cases hlt : n < N
  rotate_left
  · obtain rfl : n = N := by omega
    have d1 : decide ((n : Int) < (n : Int)) = false := decide_eq_false (by omega)
    repeat apply W_assoc
    apply W_reg
    · intro callf
      simp +decide only [aOps, aWanted, ↓bite_eq, ↓reduceIte, aStep_eq, aStepOld, aOp, opBin, opCall, aev, aevs, ann, aPut, rget_rput, aBuiltin, aLen, List.getElem?_toArray, List.getElem?_cons_zero, h7, h8, d1, Try.underlying33, goInt, aBin, aInts, aInt_eq]
      rfl
    repeat apply W_assoc
    refine W_if (b := false) ?_ ?_ ?_
    · simp +decide only [aev, rget_rput, if_true, if_false]
    · intro h; cases h
    intro _
    refine W_exitq ⟨fun h => (nomatch h), fun _ => ?_, fun h1 h2 => absurd rfl h2⟩
    repeat apply W_assoc
    apply W_reg
    · intro callf
      simp +decide only [aOps, aWanted, ↓bite_eq, ↓reduceIte, aStep_eq, aStepOld, aOp, aev, ann, aPut, rget_rput, h7]
      rfl
    refine W_ret ⟨Nat.le_refl _, [.slice (some ⟨b, 0, none⟩) n n], ?_, ⟨b, by rw [List.length_replicate]; rfl, by omega, hb3, ?_⟩, e3⟩
    · simp +decide only [aResults, rget_rput, if_true, if_false]
    · rw [hg3, Nat.sub_self]; simp [rep]
  have d1 : decide ((n : Int) < (N : Int)) = true := decide_eq_true (by omega)
  repeat apply W_assoc
  apply W_reg
  · intro callf
    simp +decide only [aOps, aWanted, ↓bite_eq, ↓reduceIte, aStep_eq, aStepOld, aOp, opBin, opCall, aev, aevs, ann, aPut, rget_rput, aBuiltin, aLen, List.getElem?_toArray, List.getElem?_cons_zero, h7, h8, d1, Try.underlying33, goInt, aBin, aInts, aInt_eq]
    rfl
  repeat apply W_assoc
  refine W_if (b := true) ?_ ?_ ?_
  · simp +decide only [aev, rget_rput, if_true, if_false]
  rotate_left
  · intro h; cases h
  intro _
  apply W_skipq
  refine W_tail ?_
  refine W_blk ?_
  refine W_tail ?_
  repeat apply W_assoc
  refine W_drw [] [] (by kernel_rfl) (by kernel_rfl) ?_
  apply Lg_pre 7
  · intro callf
    simp +decide only [List.take, aQ, memb, List.any_nil, Bool.true_or, Bool.and_true, reset_merge, reset_reset, reset_next, reset_low, merge_next, merge_idem, ble_self, aWanted, ↓bite_eq, ↓reduceIte, aStep_eq, aStepOld, aOp, opSlice, aev, ann, aPut, rget_rput, Nat.zero_add, Bool.not_false, h7, h8, aopt, closed_at (b := b) (show N ≤ 1000000 by omega) hlt (show 0 < n by omega), closed_to (b := b) (show N ≤ 1000000 by omega) hlt]
    rfl
  dsimp only [List.drop, List.take, List.length]
  have e4 : Ext σ3 (σ3.merge σ3.reset) := (Ext.refl _).merge
  have hg4 : (σ3.merge σ3.reset).get b = ⟨1, 3, 0, (rep n (N - n)).map vInt, []⟩ := hg3
  generalize σ3.merge σ3.reset = σ4 at e4 hg4
  have hb4 := e4.lt hb3
  obtain ⟨c, hc⟩ : ∃ c, Nat.min n (N - n) = c := ⟨_, rfl⟩
  have hc0 : 0 < c := by rw [← hc]; exact Nat.lt_min.2 ⟨by omega, by omega⟩
  have hcn : c ≤ n := by rw [← hc]; exact Nat.min_le_left _ _
  have hcm : c ≤ N - n := by rw [← hc]; exact Nat.min_le_right _ _
  have hsrc : aCellsS σ4.reset ⟨b, 0, none⟩ c = some (List.replicate c (vInt (-1))) := by
    rw [aCellsS_none]
    refine cells_at (σ := σ4.reset) hg4 ?_ (by rw [List.length_map, rep_len]; omega)
    rw [rep_map, List.drop_zero, List.take_append_of_le_length (by rw [List.length_replicate]; exact hcn), List.take_replicate, Nat.min_eq_left hcn]
  have hcp := copyRep (σ := σ4.reset) (dc := N - n) (sc := N) hg4 hc hc0 hsrc
  refine Lg_op (v := .int .i64 (c : Int)) (s1 := σ4.reset.put b ⟨1, 3, 0, (rep (n + c) (N - n - c)).map vInt, []⟩) (by intro callf; simp +decide only [↓reduceIte, aStep_eq, aStepOld, aOp, opCall, aev, aevs, rget_rput, aBuiltin, hcp]) (by decide) (by kernel_rfl) ?_
  have e5 := ext_put_merge (e3.trans e4) (i := b) (by omega) ⟨1, 3, 0, (rep (n + c) (N - n - c)).map vInt, []⟩
  have hg5 : (σ4.merge (σ4.reset.put b ⟨1, 3, 0, (rep (n + c) (N - n - c)).map vInt, []⟩)).get b = ⟨1, 3, 0, (rep (n + c) (N - n - c)).map vInt, []⟩ := by rw [get_merge, AS.get_put, if_pos rfl]
  have hb5 : b < (σ4.merge (σ4.reset.put b ⟨1, 3, 0, (rep (n + c) (N - n - c)).map vInt, []⟩)).next := hb4
  generalize σ4.merge (σ4.reset.put b ⟨1, 3, 0, (rep (n + c) (N - n - c)).map vInt, []⟩) = σ5 at e5 hg5 hb5
  have w1 : IntKind.i64.wrap ((n : Int) + (c : Int)) = ((n + c : Nat) : Int) := by rw [wrap64_id _ (by omega) (by omega)]; omega
  apply Lg_all
  · intro callf
    simp +decide only [aQ, memb, List.any_nil, Bool.true_or, Bool.and_true, reset_merge, reset_reset, reset_next, reset_low, merge_next, merge_idem, ble_self, aWanted, ↓bite_eq, ↓reduceIte, aStep_eq, aStepOld, aOp, opBin, aev, ann, aPut, rget_rput, Nat.zero_add, Bool.not_false, w1, aBin, aInts, aInt_eq]
    rfl
  have e6 : Ext σ5 (σ5.merge σ5.reset) := (Ext.refl _).merge
  generalize σ5.merge σ5.reset = σ6 at e6
  refine W_skip ⟨fun _ => W_skip ⟨fun _ => ⟨n + c, ?_, ?_⟩, fun h => (nomatch h), fun h => absurd rfl h⟩, fun h => absurd rfl h⟩
  · show N - (n + c) < N - n
    omega
  · refine ⟨by omega, by omega, e5.trans e6, e6.lt hb5, by rw [e6.get b hb5, hg5, Nat.sub_sub], ?_, ?_⟩ <;> simp +decide only [rget_rput, if_true, if_false, h7]

set_option maxHeartbeats 4000000 in
theorem lessI_c {σ : AS} (x y : Int) : C Try.prog Kn 0 81 [.int .i64 x, .int .i64 y] σ fun v σ' => v = .bool (decide (x < y)) ∧ Ext σ σ' := by
  refine C_of (kn (by decide)) Try.func81 rfl (Nat.le_of_ble_eq_true rfl) ?_
  show W _ _ _ 17 _ _ _ _
  unfold Try.f81
  dsimp only
  repeat apply W_assoc
  apply W_reg
  · intro callf
    simp +decide only [aOps, rinit, aWanted, ↓bite_eq, ↓reduceIte, aStep_eq, aStepOld, aOp, aev, ann, aPut, Nat.zero_add]
    rfl
  repeat apply W_assoc
  apply W_regL
  apply Ls_pre 1
  · intro callf
    simp +decide only [List.take, aOps, aWanted, ↓bite_eq, ↓reduceIte, aStep_eq, aStepOld, aOp, aev, ann, aPut, rget_rput]
    rfl
  dsimp only [List.drop]
  refine Ls_fn (vs := [.int .i64 x]) (by simp +decide only [aevs, aev, rget_rput, if_true, if_false]) (by decide) (C.mono (isNaN_int x) ?_)
  rintro v σ' ⟨rfl, e1⟩
  apply Ls_all
  · intro callf
    simp +decide only [aOps, aWanted, ↓bite_eq, ↓reduceIte, aStep_eq, aStepOld, aOp, opBin, opPick, aev, ann, aPut, rget_rput, List.getElem?_toArray, List.getElem?_cons_zero, List.getElem?_cons_succ, Option.bind_some, beq_self_eq_true, Bool.not_true, Bool.false_beq, opPick, aBin, aInts, aInt_eq]
    rfl
  refine W_ret ⟨Nat.le_refl _, [.bool (decide (x < y))], ?_, rfl, e1⟩
  simp +decide only [aResults, rget_rput, if_true, if_false]

end Go.Proofs.Ytbknckiapcafdaa.Nest
