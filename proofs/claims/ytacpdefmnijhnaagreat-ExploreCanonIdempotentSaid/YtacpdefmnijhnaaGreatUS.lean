/- The law: the walk. -/
import Derived.Test.YtacpdefmnijhnaaGreatUQ
set_option linter.unusedSimpArgs false
set_option linter.unusedVariables false
namespace Go.Proofs.YtacpdefmnijhnaaGreat.U
open Abs

theorem buildT {a : Option Addr} {n c : Nat} : aBuild Tryz.prog 77 [(0, .slice a n c)] = some (.agg #[.slice a n c, .int .i64 0]) := by kernel_rfl

theorem new_c {σ : AS} {lv : Value} {ints : List Int} (h : RS 1 RInt σ lv ints) (hl : ints.length ≤ 2 ^ 62) : C Tryz.prog KA 0 11 [lv] σ fun u σ' => u = .pointer (some ⟨σ.next, 0, none⟩) ∧ Tape σ.next σ' lv ints ∧ Ext σ σ' := by
  obtain ⟨base, cap, rfl, -⟩ := id h
  refine C_of (ka rfl rfl) Tryz.func11 rfl (Nat.le_of_ble_eq_true rfl) ?_
  show W _ _ _ 6 _ _ _ _
  unfold Tryz.f11
  dsimp only
  repeat apply W_assoc
  apply W_reg
  · intro callf
    simp +decide only [aOps, rinit, aWanted, ↓bite_eq, ↓reduceIte, aStep_eq, aStepOld, aOp, opBox, opBin, opUn, opCall, opIndexAddr, opFieldAddr, opLoad, opStore, opPick, opExtract, opSlice, opBuildSlice, opBuild, aRow, aev, aevs, aparts, ann, unn, aPut, if_true, if_false, rget_rput, flat, flat1, Nat.blt_eq, aBuiltin, aLen, List.getElem?_toArray, List.getElem?_cons_zero, List.getElem?_cons_succ, Nat.zero_add, Option.bind_some, beq_self_eq_true, Bool.not_true, Bool.not_false, Bool.true_beq, Bool.false_beq]
    rfl
  repeat apply W_assoc
  apply W_reg
  · intro callf
    simp +decide only [aOps, rinit, aWanted, ↓bite_eq, ↓reduceIte, aStep_eq, aStepOld, aOp, opBox, opBin, opUn, opCall, opIndexAddr, opFieldAddr, opLoad, opStore, opPick, opExtract, opSlice, opBuildSlice, opBuild, aRow, aev, aevs, aparts, ann, unn, aPut, if_true, if_false, rget_rput, flat, flat1, Nat.blt_eq, aBuiltin, aLen, List.getElem?_toArray, List.getElem?_cons_zero, List.getElem?_cons_succ, Nat.zero_add, Option.bind_some, beq_self_eq_true, Bool.not_true, Bool.not_false, Bool.true_beq, Bool.false_beq, buildT]
    rfl
  refine W_ret ⟨Nat.le_refl _, [.pointer (some ⟨σ.next, 0, none⟩)], ?_, rfl, ?_, Ext.new _ _⟩
  · simp +decide only [aevs, aev, aResults, rget_rput, if_true, if_false]
  · have e : Ext σ (hid [σ.next] (σ.new ⟨1, 77, 0, [.slice base ints.length cap, .int .i64 ((0 : Nat) : Int)], []⟩)) := Ext.put (Ext.new _ _) (Nat.le_refl _) _
    exact ⟨Nat.lt_succ_self _, ⟨0, by rw [AS.get_new, if_pos rfl]; rfl⟩, h.ext RInt.keeps e, hl⟩

/-- A system is put into a new block. -/
noncomputable def declL (σ : AS) (s : Value) : AS := (σ.new ⟨1, 54, 0, [.slice none 0 0], []⟩).put σ.next ⟨1, 54, 0, [s], []⟩
theorem declL_ext (σ : AS) (s : Value) : Ext σ (declL σ s) := Ext.put (Ext.new σ _) (Nat.le_refl _) _
theorem declL_box (σ : AS) (s : Value) : BoxAt (declL σ s) σ.next s := ⟨Nat.lt_succ_self _, by unfold declL; rw [AS.get_put, if_pos rfl]⟩
theorem storeD {σ : AS} {p : Option Addr} {n c : Nat} : aStore Tryz.prog (σ.new ⟨1, 54, 0, [.slice none 0 0], []⟩) 54 (.agg #[.slice p n c]) (.pointer (some ⟨σ.next, 0, none⟩)) = some (declL σ (.slice p n c)) :=
  storeL (by rw [AS.get_new, if_pos rfl])

theorem storeZ {σ : AS} {b : Nat} {x : Arc} (h : σ.get b = ⟨1, 62, 0, [.int .i64 0, .int .i64 0], []⟩) : aStore Tryz.prog σ 62 (vArc x) (.pointer (some ⟨b, 0, none⟩)) = some (σ.put b (arcB x)) := by
  obtain ⟨inf, hi, hs⟩ : ∃ inf, Tryz.prog.info? 62 = some inf ∧ inf.size = 2 := ⟨(Tryz.prog.info? 62).get!, by kernel_rfl, by kernel_rfl⟩
  have hz : Nat.beq (vArc x).cells.size 2 = true := rfl
  unfold aStore
  simp only [hi, hs, hz, if_true]
  unfold aWrite
  simp only [h]
  rfl

theorem awake_c {σ : AS} : C Tryz.prog KA 0 17 [] σ fun u σ' => u = .bool true ∧ Ext σ σ' := C_known (σ' := σ) (v := .bool true) (by kernel_rfl) ⟨rfl, Ext.refl _⟩

theorem Done_small {L : List (List Arc)} {K : Nat} (hs : Small L) (h : Can.Done L K) : Small (Can.rounds L K).2 ∧ 0 < K ∧ K ≤ 10 := by
  have hL0 : 0 < L.length := List.length_pos_iff.2 hs.pos
  have hI := Can.Inv.rounds L K
  have hlt := Can.rounds_lt hL0 hs.to K
  have hb := Can.nodup_bound hI.nodup hlt
  rw [h.old] at hb
  have h10 := hs.len
  have hz := (List.getElem?_eq_some_iff.1 hI.zero).1
  rw [h.old] at hz
  refine ⟨⟨fun e => ?_, by rw [h.row]; omega, fun r hr => Can.rounds_row_length hs.rows K hr, fun r hr y hy => ?_, fun r hr y hy => ?_⟩, hz, by omega⟩
  · have := h.row
    rw [e] at this
    simp at this
    omega
  · obtain ⟨⟨o, x, hx, e⟩, -⟩ := Can.rounds_mem K hr hy
    rw [e]
    rw [List.getD_eq_getElem?_getD] at hx
    cases ho : L[o]? with
    | none => rw [ho] at hx; simp at hx
    | some l => rw [ho] at hx; exact hs.ev l (List.mem_of_getElem? ho) x hx
  · have := (Can.rounds_mem K hr hy).2
    rw [h.old] at this
    rw [h.row]
    exact this

theorem knows_pre {L : List (List Arc)} {K : Nat} (h : Can.Done L K) : ∀ s, s ≤ K → Can.knows 1 ((Can.rounds L K).2.take s).flatten = (Can.rounds L s).1.length
  | 0, _ => rfl
  | s + 1, hs => by
    obtain ⟨r, h1, h2, h3, h4, h5⟩ := h.rowOk (s := s) (by omega)
    rw [List.take_add_one, h1, List.flatten_append, Can.knows_app, knows_pre h s (by omega)]
    show Can.knows _ (([r] : List (List Arc)).flatten) = _
    rw [List.flatten_cons, List.flatten_nil, List.append_nil, h5]

theorem canons_of : ∀ {A : List (List Arc)} {s m : Nat}, (∀ i r, A[i]? = some r → s + i < Can.knows m (A.take i).flatten ∧ Can.Asc r ∧ ∀ p a q, r = p ++ a :: q → a.2 ≤ Can.knows (Can.knows m (A.take i).flatten) p) → Canons s m A
  | [], s, m, h => trivial
  | r :: A, s, m, h => by
    obtain ⟨h1, h2, h3⟩ := h 0 r rfl
    refine ⟨h1, h2, h3, canons_of fun i r' hr' => ?_⟩
    have := h (i + 1) r' (by simpa using hr')
    rw [List.take_succ_cons, List.flatten_cons, Can.knows_app] at this
    exact ⟨by have := this.1; omega, this.2⟩

theorem Done_canons {L : List (List Arc)} {K : Nat} (h : Can.Done L K) : Canons 0 1 (Can.rounds L K).2 :=
  canons_of fun i r hr => by
    have hi : i < K := by rw [← h.row]; exact (List.getElem?_eq_some_iff.1 hr).1
    obtain ⟨r', h1, h2, h3, h4, h5⟩ := h.rowOk hi
    obtain rfl : r' = r := by rw [h1] at hr; exact Option.some.inj hr
    rw [knows_pre h i (by omega)]
    exact ⟨by omega, h2, h4⟩

set_option maxHeartbeats 64000000 in
theorem law_c {σ : AS} {lv : Value} {ints : List Int} (h : RS 1 RInt σ lv ints) (hl : ints.length ≤ 2 ^ 62) : C Tryz.prog KA 0 5 [lv] σ fun u _ => u = .bool true := by
  refine C_of (ka rfl rfl) Tryz.func5 rfl (Nat.le_of_ble_eq_true rfl) ?_
  show W _ _ _ 153 _ _ _ _
  unfold Tryz.f5
  dsimp only
  repeat apply W_assoc
  apply W_reg
  · intro callf
    simp +decide only [aOps, rinit, aWanted, ↓bite_eq, ↓reduceIte, aStep_eq, aStepOld, aOp, opBox, opBin, opUn, opCall, opIndexAddr, opFieldAddr, opLoad, opStore, opPick, opExtract, opSlice, opBuildSlice, opBuild, aRow, aev, aevs, aparts, ann, unn, aPut, if_true, if_false, rget_rput, flat, flat1, Nat.blt_eq, aBuiltin, aLen, List.getElem?_toArray, List.getElem?_cons_zero, List.getElem?_cons_succ, Nat.zero_add, Option.bind_some, beq_self_eq_true, Bool.not_true, Bool.not_false, Bool.true_beq, Bool.false_beq]
    rfl
  repeat apply W_assoc
  apply W_regL
  apply Ls_pre 1
  · intro callf
    simp +decide only [List.take, aOps, rinit, aWanted, ↓bite_eq, ↓reduceIte, aStep_eq, aStepOld, aOp, opBox, opBin, opUn, opCall, opIndexAddr, opFieldAddr, opLoad, opStore, opPick, opExtract, opSlice, opBuildSlice, opBuild, aRow, aev, aevs, aparts, ann, unn, aPut, if_true, if_false, rget_rput, flat, flat1, Nat.blt_eq, aBuiltin, aLen, List.getElem?_toArray, List.getElem?_cons_zero, List.getElem?_cons_succ, Nat.zero_add, Option.bind_some, beq_self_eq_true, Bool.not_true, Bool.not_false, Bool.true_beq, Bool.false_beq]
    rfl
  dsimp only [List.drop]
  refine Ls_fn (vs := [lv]) (by simp +decide only [aevs, aev, aResults, rget_rput, if_true, if_false]) (by decide) (C.mono (new_c h hl) ?_)
  rintro v σ' ⟨rfl, TP, -⟩
  refine Ls_fn (vs := [.pointer (some ⟨σ.next, 0, none⟩), .int .i64 10]) (by simp +decide only [aevs, aev, aResults, rget_rput, if_true, if_false]) (by decide) (C.mono (lts_c TP) ?_)
  rintro v s ⟨lw, L, rfl, H1, hs, -⟩
  obtain ⟨lb, lc, hlw⟩ := H1.len
  apply Ls_all
  · intro callf
    simp +decide only [aOps, rinit, aWanted, ↓bite_eq, ↓reduceIte, aStep_eq, aStepOld, aOp, opBox, opBin, opUn, opCall, opIndexAddr, opFieldAddr, opLoad, opStore, opPick, opExtract, opSlice, opBuildSlice, opBuild, aRow, aev, aevs, aparts, ann, unn, aPut, if_true, if_false, rget_rput, flat, flat1, Nat.blt_eq, aBuiltin, aLen, List.getElem?_toArray, List.getElem?_cons_zero, List.getElem?_cons_succ, Nat.zero_add, Option.bind_some, beq_self_eq_true, Bool.not_true, Bool.not_false, Bool.true_beq, Bool.false_beq, allocL, hlw, storeD]
    rfl
  have B1 := declL_box s (.slice lb L.length lc)
  have H1 := H1.ext (declL_ext s (.slice lb L.length lc))
  generalize declL s (.slice lb L.length lc) = s1 at B1 H1
  rw [← hlw] at B1
  generalize s.next = bl at B1
  clear TP hlw
  repeat apply W_assoc
  apply W_regL
  apply Ls_pre 1
  · intro callf
    simp +decide only [List.take, aOps, rinit, aWanted, ↓bite_eq, ↓reduceIte, aStep_eq, aStepOld, aOp, opBox, opBin, opUn, opCall, opIndexAddr, opFieldAddr, opLoad, opStore, opPick, opExtract, opSlice, opBuildSlice, opBuild, aRow, aev, aevs, aparts, ann, unn, aPut, if_true, if_false, rget_rput, flat, flat1, Nat.blt_eq, aBuiltin, aLen, List.getElem?_toArray, List.getElem?_cons_zero, List.getElem?_cons_succ, Nat.zero_add, Option.bind_some, beq_self_eq_true, Bool.not_true, Bool.not_false, Bool.true_beq, Bool.false_beq, B1.load]
    rfl
  dsimp only [List.drop]
  refine Ls_fn (vs := [.agg #[lw]]) (by simp +decide only [aevs, aev, aResults, rget_rput, if_true, if_false]) (by decide) (C.mono (canon_c H1 hs) ?_)
  rintro v σ' ⟨E1, aw, nv, K, rfl, hK, H2, N2⟩
  obtain ⟨hsA, hK0, hK10⟩ := Done_small hs hK
  obtain ⟨ab, ac, haw⟩ := H2.len
  apply Ls_all
  · intro callf
    simp +decide only [aOps, rinit, aWanted, ↓bite_eq, ↓reduceIte, aStep_eq, aStepOld, aOp, opBox, opBin, opUn, opCall, opIndexAddr, opFieldAddr, opLoad, opStore, opPick, opExtract, opSlice, opBuildSlice, opBuild, aRow, aev, aevs, aparts, ann, unn, aPut, if_true, if_false, rget_rput, flat, flat1, Nat.blt_eq, aBuiltin, aLen, List.getElem?_toArray, List.getElem?_cons_zero, List.getElem?_cons_succ, Nat.zero_add, Option.bind_some, beq_self_eq_true, Bool.not_true, Bool.not_false, Bool.true_beq, Bool.false_beq, opExtract, allocL, haw, storeD]
    rfl
  have B1 := (B1.ext E1).ext (declL_ext σ' (.slice ab (Can.rounds L K).2.length ac))
  have H1 := (H1.ext E1).ext (declL_ext σ' (.slice ab (Can.rounds L K).2.length ac))
  have H2 := H2.ext (declL_ext σ' (.slice ab (Can.rounds L K).2.length ac))
  have N2 := N2.ext (declL_ext σ' (.slice ab (Can.rounds L K).2.length ac))
  have B2 := declL_box σ' (.slice ab (Can.rounds L K).2.length ac)
  generalize declL σ' (.slice ab (Can.rounds L K).2.length ac) = s2 at B1 H1 B2 H2 N2
  rw [← haw] at B2
  generalize σ'.next = ba at B2
  clear haw E1
  repeat apply W_assoc
  apply W_regL
  apply Ls_pre 1
  · intro callf
    simp +decide only [List.take, aOps, rinit, aWanted, ↓bite_eq, ↓reduceIte, aStep_eq, aStepOld, aOp, opBox, opBin, opUn, opCall, opIndexAddr, opFieldAddr, opLoad, opStore, opPick, opExtract, opSlice, opBuildSlice, opBuild, aRow, aev, aevs, aparts, ann, unn, aPut, if_true, if_false, rget_rput, flat, flat1, Nat.blt_eq, aBuiltin, aLen, List.getElem?_toArray, List.getElem?_cons_zero, List.getElem?_cons_succ, Nat.zero_add, Option.bind_some, beq_self_eq_true, Bool.not_true, Bool.not_false, Bool.true_beq, Bool.false_beq, B2.load]
    rfl
  dsimp only [List.drop]
  refine Ls_fn (vs := [.agg #[aw]]) (by simp +decide only [aevs, aev, aResults, rget_rput, if_true, if_false]) (by decide) (C.mono (canon_c H2 hsA) ?_)
  rintro v σ' ⟨E1, cw, mv, K2, rfl, hK2, H3, N3⟩
  obtain ⟨hK3, hK4⟩ := hK.again
  obtain rfl := hK3.same hK2
  rw [hK4] at H3 N3
  dsimp only at H3 N3
  obtain ⟨cb, cc, hcw⟩ := H3.len
  apply Ls_all
  · intro callf
    simp +decide only [aOps, rinit, aWanted, ↓bite_eq, ↓reduceIte, aStep_eq, aStepOld, aOp, opBox, opBin, opUn, opCall, opIndexAddr, opFieldAddr, opLoad, opStore, opPick, opExtract, opSlice, opBuildSlice, opBuild, aRow, aev, aevs, aparts, ann, unn, aPut, if_true, if_false, rget_rput, flat, flat1, Nat.blt_eq, aBuiltin, aLen, List.getElem?_toArray, List.getElem?_cons_zero, List.getElem?_cons_succ, Nat.zero_add, Option.bind_some, beq_self_eq_true, Bool.not_true, Bool.not_false, Bool.true_beq, Bool.false_beq, opExtract, allocL, hcw, storeD]
    rfl
  have eD := declL_ext σ' (.slice cb (Can.rounds L K).2.length cc)
  have B1 := (B1.ext E1).ext eD
  have H1 := (H1.ext E1).ext eD
  have B2 := (B2.ext E1).ext eD
  have H2 := (H2.ext E1).ext eD
  have N2 := (N2.ext E1).ext eD
  have H3 := H3.ext eD
  have N3 := N3.ext eD
  have B3 := declL_box σ' (.slice cb (Can.rounds L K).2.length cc)
  clear eD
  generalize declL σ' (.slice cb (Can.rounds L K).2.length cc) = s3 at B1 H1 B2 H2 N2 B3 H3 N3
  rw [← hcw] at B3
  generalize σ'.next = bc at B3
  clear hcw E1
  have hA := hK.row
  have hO := hK.old
  have hcan := Done_canons hK
  have harcs := fun {s o : Nat} {r : List Arc} => hK.arcs (s := s) (o := o) (r := r)
  have hlt := Can.rounds_lt (List.length_pos_iff.2 hs.pos) hs.to K
  clear hK hK2 hK3 hK4
  generalize (Can.rounds L K).2 = A at *
  generalize (Can.rounds L K).1 = olds at *
  obtain ⟨nb, nc, hnv⟩ := N2.len
  obtain ⟨mb, mc, hmv⟩ := N3.len
  rw [hO] at hnv
  rw [List.length_range] at hmv
  obtain ⟨ab, ac, haw⟩ := H2.len
  rw [hA] at haw
  have dK : ((K : Int) != (K : Int)) = false := by simp
  repeat apply W_assoc
  apply W_regL
  refine Ls_fn (vs := []) (by simp +decide only [aevs, aev, aResults, rget_rput, if_true, if_false]) (by decide) (C.mono (awake_c) ?_)
  rintro v σ' ⟨rfl, E1⟩
  have B2 := B2.ext E1
  have B3 := B3.ext E1
  have H2 := H2.ext E1
  have H3 := H3.ext E1
  apply Ls_pre 11
  · intro callf
    simp +decide only [List.take, aOps, rinit, aWanted, ↓bite_eq, ↓reduceIte, aStep_eq, aStepOld, aOp, opBox, opBin, opUn, opCall, opIndexAddr, opFieldAddr, opLoad, opStore, opPick, opExtract, opSlice, opBuildSlice, opBuild, aRow, aev, aevs, aparts, ann, unn, aPut, if_true, if_false, rget_rput, flat, flat1, Nat.blt_eq, aBuiltin, aLen, List.getElem?_toArray, List.getElem?_cons_zero, List.getElem?_cons_succ, Nat.zero_add, Option.bind_some, beq_self_eq_true, Bool.not_true, Bool.not_false, Bool.true_beq, Bool.false_beq, not_b, neII, opPick, B2.load]
    rfl
  dsimp only [List.drop]
  refine Ls_fnG (vs := [.agg #[aw]]) (by simp +decide only [aWanted, List.getElem?_toArray, List.getElem?_cons_zero, List.getElem?_cons_succ, Option.bind_some, rget_rput, if_true, if_false]) (by simp +decide only [aevs, aev, aResults, rget_rput, if_true, if_false]) (by decide) (C.mono (canonical_c H2 hsA hcan) ?_)
  rintro v σ' ⟨rfl, E2⟩
  have B2 := B2.ext E2
  have B3 := B3.ext E2
  have H2 := H2.ext E2
  have H3 := H3.ext E2
  have E2 := E1.trans E2
  apply Ls_pre 5
  · intro callf
    simp +decide only [List.take, aOps, rinit, aWanted, ↓bite_eq, ↓reduceIte, aStep_eq, aStepOld, aOp, opBox, opBin, opUn, opCall, opIndexAddr, opFieldAddr, opLoad, opStore, opPick, opExtract, opSlice, opBuildSlice, opBuild, aRow, aev, aevs, aparts, ann, unn, aPut, if_true, if_false, rget_rput, flat, flat1, Nat.blt_eq, aBuiltin, aLen, List.getElem?_toArray, List.getElem?_cons_zero, List.getElem?_cons_succ, Nat.zero_add, Option.bind_some, beq_self_eq_true, Bool.not_true, Bool.not_false, Bool.true_beq, Bool.false_beq, not_b, opPick, B2.load, B3.load]
    rfl
  dsimp only [List.drop]
  refine Ls_fnG (vs := [.agg #[aw], .agg #[cw]]) (by simp +decide only [aWanted, List.getElem?_toArray, List.getElem?_cons_zero, List.getElem?_cons_succ, Option.bind_some, rget_rput, if_true, if_false]) (by simp +decide only [aevs, aev, aResults, rget_rput, if_true, if_false]) (by decide) (C.mono (same_c H2 H3 (by omega) (fun l hl => Nat.le_trans (hsA.rows l hl) (by decide))) ?_)
  rintro v σ' ⟨rfl, E3⟩
  have B2 := B2.ext E3
  have H2 := H2.ext E3
  have E3 := E2.trans E3
  have B1 := B1.ext E3
  have H1 := H1.ext E3
  have N2 := N2.ext E3
  have N3 := N3.ext E3
  apply Ls_all
  · intro callf
    simp +decide only [aOps, rinit, aWanted, ↓bite_eq, ↓reduceIte, aStep_eq, aStepOld, aOp, opBox, opBin, opUn, opCall, opIndexAddr, opFieldAddr, opLoad, opStore, opPick, opExtract, opSlice, opBuildSlice, opBuild, aRow, aev, aevs, aparts, ann, unn, aPut, if_true, if_false, rget_rput, flat, flat1, Nat.blt_eq, aBuiltin, aLen, List.getElem?_toArray, List.getElem?_cons_zero, List.getElem?_cons_succ, Nat.zero_add, Option.bind_some, beq_self_eq_true, Bool.not_true, Bool.not_false, Bool.true_beq, Bool.false_beq, not_b, opPick, fldL, B2.out, hnv, hmv, haw, Tryz.underlying40, Tryz.underlying52, goInt, neII, dK]
    rfl
  repeat apply W_assoc
  refine W_if (b := false) ?_ ?_ ?_
  · simp +decide only [aevs, aev, aResults, rget_rput, if_true, if_false]
  · intro h; cases h
  intro _
  apply W_skipq
  clear E1 E2 E3 B3 H3
  generalize σ' = s4 at B1 B2 H1 H2 N2 N3
  repeat apply W_assoc
  apply W_reg
  · intro callf
    simp +decide only [aOps, rinit, aWanted, ↓bite_eq, ↓reduceIte, aStep_eq, aStepOld, aOp, opBox, opBin, opUn, opCall, opIndexAddr, opFieldAddr, opLoad, opStore, opPick, opExtract, opSlice, opBuildSlice, opBuild, aRow, aev, aevs, aparts, ann, unn, aPut, if_true, if_false, rget_rput, flat, flat1, Nat.blt_eq, aBuiltin, aLen, List.getElem?_toArray, List.getElem?_cons_zero, List.getElem?_cons_succ, Nat.zero_add, Option.bind_some, beq_self_eq_true, Bool.not_true, Bool.not_false, Bool.true_beq, Bool.false_beq]
    rfl
  repeat apply W_assoc
  refine W_for (fun (i : Nat) r s => i ≤ K ∧ Ext s4 s ∧ rget r 3 = .pointer (some ⟨bl, 0, none⟩) ∧ rget r 4 = .pointer (some ⟨ba, 0, none⟩) ∧ rget r 5 = nv ∧ rget r 8 = mv ∧ rget r 10 = .int .i64 (i : Int)) (fun i => K - i) ?_ 0 ?_
  rotate_left
  · refine ⟨Nat.zero_le _, Ext.refl _, ?_, ?_, ?_, ?_, ?_⟩ <;> simp +decide only [rget_rput, rinit, if_true, if_false, goInt] <;> first | exact True.intro | exact hnv.symm | exact hmv.symm | rfl
  rintro i r s ⟨hi, E, h3, h4, h5, h8, h10⟩
  try dsimp only at hi h10
  by_cases hiK : i < K
  rotate_left
  · have d1 : decide ((i : Int) < (K : Int)) = false := decide_eq_false (by omega)
    repeat apply W_assoc
    apply W_reg
    · intro callf
      simp +decide only [aOps, rinit, aWanted, ↓bite_eq, ↓reduceIte, aStep_eq, aStepOld, aOp, opBox, opBin, opUn, opCall, opIndexAddr, opFieldAddr, opLoad, opStore, opPick, opExtract, opSlice, opBuildSlice, opBuild, aRow, aev, aevs, aparts, ann, unn, aPut, if_true, if_false, rget_rput, flat, flat1, Nat.blt_eq, aBuiltin, aLen, List.getElem?_toArray, List.getElem?_cons_zero, List.getElem?_cons_succ, Nat.zero_add, Option.bind_some, beq_self_eq_true, Bool.not_true, Bool.not_false, Bool.true_beq, Bool.false_beq, h8, h10, hmv, Tryz.underlying40, goInt, lssI, d1]
      rfl
    repeat apply W_assoc
    refine W_if (b := false) ?_ ?_ ?_
    · simp +decide only [aevs, aev, aResults, rget_rput, if_true, if_false]
    · intro h; cases h
    intro _
    refine W_exitq ⟨fun h => (nomatch h), fun _ => ?_, fun h1 h2 => absurd rfl h2⟩
    repeat apply W_assoc
    apply W_reg
    · intro callf
      simp +decide only [aOps, rinit, aWanted, ↓bite_eq, ↓reduceIte, aStep_eq, aStepOld, aOp, opBox, opBin, opUn, opCall, opIndexAddr, opFieldAddr, opLoad, opStore, opPick, opExtract, opSlice, opBuildSlice, opBuild, aRow, aev, aevs, aparts, ann, unn, aPut, if_true, if_false, rget_rput, flat, flat1, Nat.blt_eq, aBuiltin, aLen, List.getElem?_toArray, List.getElem?_cons_zero, List.getElem?_cons_succ, Nat.zero_add, Option.bind_some, beq_self_eq_true, Bool.not_true, Bool.not_false, Bool.true_beq, Bool.false_beq]
      rfl
    repeat apply W_assoc
    refine W_for (fun (i : Nat) r s => i ≤ K ∧ Ext s4 s ∧ rget r 3 = .pointer (some ⟨bl, 0, none⟩) ∧ rget r 4 = .pointer (some ⟨ba, 0, none⟩) ∧ rget r 5 = nv ∧ rget r 11 = .int .i64 (i : Int)) (fun i => K - i) ?_ 0 ?_
    rotate_left
    · refine ⟨Nat.zero_le _, E, ?_, ?_, ?_, ?_⟩ <;> simp +decide only [rget_rput, rinit, if_true, if_false, goInt, h3, h4, h5] <;> first | exact True.intro | rfl
    clear h3 h4 h5 h8 h10 E
    rintro i r s ⟨hi, E, h3, h4, h5, h11⟩
    try dsimp only at hi h11
    by_cases hiK : i < K
    rotate_left
    · have d1 : decide ((i : Int) < (K : Int)) = false := decide_eq_false (by omega)
      repeat apply W_assoc
      apply W_reg
      · intro callf
        simp +decide only [aOps, rinit, aWanted, ↓bite_eq, ↓reduceIte, aStep_eq, aStepOld, aOp, opBox, opBin, opUn, opCall, opIndexAddr, opFieldAddr, opLoad, opStore, opPick, opExtract, opSlice, opBuildSlice, opBuild, aRow, aev, aevs, aparts, ann, unn, aPut, if_true, if_false, rget_rput, flat, flat1, Nat.blt_eq, aBuiltin, aLen, List.getElem?_toArray, List.getElem?_cons_zero, List.getElem?_cons_succ, Nat.zero_add, Option.bind_some, beq_self_eq_true, Bool.not_true, Bool.not_false, Bool.true_beq, Bool.false_beq, h5, h11, hnv, Tryz.underlying40, goInt, lssI, d1]
        rfl
      repeat apply W_assoc
      refine W_if (b := false) ?_ ?_ ?_
      · simp +decide only [aevs, aev, aResults, rget_rput, if_true, if_false]
      · intro h; cases h
      intro _
      refine W_exitq ⟨fun h => (nomatch h), fun _ => ?_, fun h1 h2 => absurd rfl h2⟩
      repeat apply W_assoc
      apply W_reg
      · intro callf
        simp +decide only [aOps, rinit, aWanted, ↓bite_eq, ↓reduceIte, aStep_eq, aStepOld, aOp, opBox, opBin, opUn, opCall, opIndexAddr, opFieldAddr, opLoad, opStore, opPick, opExtract, opSlice, opBuildSlice, opBuild, aRow, aev, aevs, aparts, ann, unn, aPut, if_true, if_false, rget_rput, flat, flat1, Nat.blt_eq, aBuiltin, aLen, List.getElem?_toArray, List.getElem?_cons_zero, List.getElem?_cons_succ, Nat.zero_add, Option.bind_some, beq_self_eq_true, Bool.not_true, Bool.not_false, Bool.true_beq, Bool.false_beq]
        rfl
      refine W_ret ⟨Nat.le_refl _, [.bool true], ?_, rfl⟩
      simp +decide only [aevs, aev, aResults, rget_rput, if_true, if_false]
    have d1 : decide ((i : Int) < (K : Int)) = true := decide_eq_true (by omega)
    repeat apply W_assoc
    apply W_reg
    · intro callf
      simp +decide only [aOps, rinit, aWanted, ↓bite_eq, ↓reduceIte, aStep_eq, aStepOld, aOp, opBox, opBin, opUn, opCall, opIndexAddr, opFieldAddr, opLoad, opStore, opPick, opExtract, opSlice, opBuildSlice, opBuild, aRow, aev, aevs, aparts, ann, unn, aPut, if_true, if_false, rget_rput, flat, flat1, Nat.blt_eq, aBuiltin, aLen, List.getElem?_toArray, List.getElem?_cons_zero, List.getElem?_cons_succ, Nat.zero_add, Option.bind_some, beq_self_eq_true, Bool.not_true, Bool.not_false, Bool.true_beq, Bool.false_beq, h5, h11, hnv, Tryz.underlying40, goInt, lssI, d1]
      rfl
    repeat apply W_assoc
    refine W_if (b := true) ?_ ?_ ?_
    · simp +decide only [aevs, aev, aResults, rget_rput, if_true, if_false]
    rotate_left
    · intro h; cases h
    intro _
    apply W_skipq
    refine W_blk ?_
    refine W_tail ?_
    obtain ⟨o, ho⟩ : ∃ o, olds[i]? = some o := ⟨olds[i]'(by omega), List.getElem?_eq_getElem _⟩
    obtain ⟨l, hl⟩ : ∃ l, L[o]? = some l := ⟨L[o]'(hlt o (List.mem_of_getElem? ho)), List.getElem?_eq_getElem _⟩
    obtain ⟨ar, har⟩ : ∃ ar, A[i]? = some ar := ⟨A[i]'(by omega), List.getElem?_eq_getElem _⟩
    have hgl : L.getD o [] = l := by rw [List.getD_eq_getElem?_getD, hl]; rfl
    have harc := fun x (hx : x ∈ l) => harcs ho har (x := x) (by rw [hgl]; exact hx)
    have hll := hs.rows l (List.mem_of_getElem? hl)
    have hal := hsA.rows ar (List.mem_of_getElem? har)
    have hato := fun y (hy : y ∈ ar) => hsA.to ar (List.mem_of_getElem? har) y hy
    obtain ⟨xb, xo, xc, hxe, hxb, hxi, hxl⟩ := N2.at ho
    obtain ⟨yb, yo, yc, lw2, hye, hyb, hyi, hyl, hlr⟩ := H1.at hl
    obtain ⟨zb, zo, zc, aw2, hze, hzb, hzi, hzl, har2⟩ := H2.at har
    obtain ⟨ea, ec, hlw2⟩ := hlr.len
    obtain ⟨fa, fc, haw2⟩ := har2.len
    repeat apply W_assoc
    apply W_reg
    · intro callf
      simp +decide only [aOps, rinit, aWanted, ↓bite_eq, ↓reduceIte, aStep_eq, aStepOld, aOp, opBox, opBin, opUn, opCall, opIndexAddr, opFieldAddr, opLoad, opStore, opPick, opExtract, opSlice, opBuildSlice, opBuild, aRow, aev, aevs, aparts, ann, unn, aPut, if_true, if_false, rget_rput, flat, flat1, Nat.blt_eq, aBuiltin, aLen, List.getElem?_toArray, List.getElem?_cons_zero, List.getElem?_cons_succ, Nat.zero_add, Option.bind_some, beq_self_eq_true, Bool.not_true, Bool.not_false, Bool.true_beq, Bool.false_beq]
      rfl
    repeat apply W_assoc
    refine W_for (fun (k : Nat) r s => k ≤ l.length ∧ Ext s4 s ∧ rget r 3 = .pointer (some ⟨bl, 0, none⟩) ∧ rget r 4 = .pointer (some ⟨ba, 0, none⟩) ∧ rget r 5 = nv ∧ rget r 11 = .int .i64 (i : Int) ∧ rget r 12 = .int .i64 (k : Int)) (fun k => l.length - k) ?_ 0 ?_
    rotate_left
    · refine ⟨Nat.zero_le _, E, ?_, ?_, ?_, ?_, ?_⟩ <;> simp +decide only [rget_rput, rinit, if_true, if_false, goInt, h3, h4, h5, h11] <;> first | exact True.intro | rfl
    clear h3 h4 h5 h11 E
    rintro k r s ⟨hk, E, h3, h4, h5, h11, h12⟩
    try dsimp only at hk h12
    have q1 := (B1.ext (E.trans (Ext.reset s))).out
    have q2 := hxl s.reset (E.get xb hxb)
    have q3 := hyl s.reset (E.get yb hyb)
    by_cases hkl : k < l.length
    rotate_left
    · have d2 : decide ((k : Int) < (l.length : Int)) = false := decide_eq_false (by omega)
      repeat apply W_assoc
      refine W_drw [] [] (by kernel_rfl) (by kernel_rfl) ?_
      apply Lg_all
      · intro callf
        simp +decide only [aQ, memb, List.any_nil, List.any_cons, Bool.true_or, Bool.or_false, Bool.and_true, Bool.or_true, Bool.false_or, Bool.true_and, reset_merge, reset_reset, reset_next, reset_low, merge_next, merge_idem, new_low, ble_self, aOps, rinit, aWanted, ↓bite_eq, ↓reduceIte, aStep_eq, aStepOld, aOp, opBox, opBin, opUn, opCall, opIndexAddr, opFieldAddr, opLoad, opStore, opPick, opExtract, opSlice, opBuildSlice, opBuild, aRow, aev, aevs, aparts, ann, unn, aPut, if_true, if_false, rget_rput, flat, flat1, Nat.blt_eq, aBuiltin, aLen, List.getElem?_toArray, List.getElem?_cons_zero, List.getElem?_cons_succ, Nat.zero_add, Option.bind_some, beq_self_eq_true, Bool.not_true, Bool.not_false, Bool.true_beq, Bool.false_beq, h3, h5, h11, h12, fldL, q1, hxi, q2, hyi, q3, hlw2, Tryz.underlying60, goInt, lssI, d2]
        rfl
      have E := E.trans ((Ext.refl _).merge (σ := s))
      generalize s.merge s.reset = s at E
      repeat apply W_assoc
      refine W_if (b := false) ?_ ?_ ?_
      · simp +decide only [aevs, aev, aResults, rget_rput, if_true, if_false]
      · intro h; cases h
      intro _
      refine W_exitq ⟨fun h => (nomatch h), fun _ => ?_, fun h1 h2 => absurd rfl h2⟩
      refine W_skip ⟨fun _ => ?_, fun h => absurd rfl h⟩
      refine W_tail ?_
      have w6 : IntKind.i64.wrap ((i : Int) + 1) = ((i + 1 : Nat) : Int) := by rw [wrap64_id _ (by omega) (by omega)]; omega
      repeat apply W_assoc
      apply W_reg
      · intro callf
        simp +decide only [aOps, rinit, aWanted, ↓bite_eq, ↓reduceIte, aStep_eq, aStepOld, aOp, opBox, opBin, opUn, opCall, opIndexAddr, opFieldAddr, opLoad, opStore, opPick, opExtract, opSlice, opBuildSlice, opBuild, aRow, aev, aevs, aparts, ann, unn, aPut, if_true, if_false, rget_rput, flat, flat1, Nat.blt_eq, aBuiltin, aLen, List.getElem?_toArray, List.getElem?_cons_zero, List.getElem?_cons_succ, Nat.zero_add, Option.bind_some, beq_self_eq_true, Bool.not_true, Bool.not_false, Bool.true_beq, Bool.false_beq, h11, w6, aBin, aInts, aInt_eq]
        rfl
      refine W_skip ⟨fun _ => ⟨i + 1, ?_, ?_⟩, fun h => (nomatch h), fun h => absurd rfl h⟩
      · show K - (i + 1) < K - i
        omega
      · refine ⟨by show i + 1 ≤ _; omega, E, ?_, ?_, ?_, ?_⟩ <;> simp +decide only [rget_rput, if_true, if_false, h3, h4, h5]
    have d2 : decide ((k : Int) < (l.length : Int)) = true := decide_eq_true (by omega)
    repeat apply W_assoc
    refine W_drw [] [] (by kernel_rfl) (by kernel_rfl) ?_
    apply Lg_all
    · intro callf
      simp +decide only [aQ, memb, List.any_nil, List.any_cons, Bool.true_or, Bool.or_false, Bool.and_true, Bool.or_true, Bool.false_or, Bool.true_and, reset_merge, reset_reset, reset_next, reset_low, merge_next, merge_idem, new_low, ble_self, aOps, rinit, aWanted, ↓bite_eq, ↓reduceIte, aStep_eq, aStepOld, aOp, opBox, opBin, opUn, opCall, opIndexAddr, opFieldAddr, opLoad, opStore, opPick, opExtract, opSlice, opBuildSlice, opBuild, aRow, aev, aevs, aparts, ann, unn, aPut, if_true, if_false, rget_rput, flat, flat1, Nat.blt_eq, aBuiltin, aLen, List.getElem?_toArray, List.getElem?_cons_zero, List.getElem?_cons_succ, Nat.zero_add, Option.bind_some, beq_self_eq_true, Bool.not_true, Bool.not_false, Bool.true_beq, Bool.false_beq, h3, h5, h11, h12, fldL, q1, hxi, q2, hyi, q3, hlw2, Tryz.underlying60, goInt, lssI, d2]
      rfl
    have E := E.trans ((Ext.refl _).merge (σ := s))
    clear q1 q2 q3
    generalize s.merge s.reset = s at E
    repeat apply W_assoc
    refine W_if (b := true) ?_ ?_ ?_
    · simp +decide only [aevs, aev, aResults, rget_rput, if_true, if_false]
    rotate_left
    · intro h; cases h
    intro _
    apply W_skipq
    refine W_blk ?_
    refine W_tail ?_
    obtain ⟨x, hx⟩ : ∃ x, l[k]? = some x := ⟨l[k], List.getElem?_eq_getElem _⟩
    have hxm := List.mem_of_getElem? hx
    obtain ⟨ub, uo, uc, hue, hub, hui, hul, -⟩ := hlr.at hx
    have q1 := (B1.ext (E.trans (Ext.reset s))).out
    have q2 := hxl s.reset (E.get xb hxb)
    have q3 := hyl s.reset (E.get yb hyb)
    have q4 := hul s.reset (E.get ub hub)
    repeat apply W_assoc
    refine W_drw [] [] (by kernel_rfl) (by kernel_rfl) ?_
    apply Lg_pre 11
    · intro callf
      simp +decide only [List.take, aQ, memb, List.any_nil, List.any_cons, Bool.true_or, Bool.or_false, Bool.and_true, Bool.or_true, Bool.false_or, Bool.true_and, reset_merge, reset_reset, reset_next, reset_low, merge_next, merge_idem, new_low, ble_self, aOps, rinit, aWanted, ↓bite_eq, ↓reduceIte, aStep_eq, aStepOld, aOp, opBox, opBin, opUn, opCall, opIndexAddr, opFieldAddr, opLoad, opStore, opPick, opExtract, opSlice, opBuildSlice, opBuild, aRow, aev, aevs, aparts, ann, unn, aPut, if_true, if_false, rget_rput, flat, flat1, Nat.blt_eq, aBuiltin, aLen, List.getElem?_toArray, List.getElem?_cons_zero, List.getElem?_cons_succ, Nat.zero_add, Option.bind_some, beq_self_eq_true, Bool.not_true, Bool.not_false, Bool.true_beq, Bool.false_beq, h3, h5, h11, h12, fldL, q1, hxi, q2, hyi, q3, hui, q4]
      rfl
    dsimp only [List.drop, List.take, List.length]
    have E := E.trans ((Ext.refl _).merge (σ := s))
    clear q1 q2 q3 q4
    generalize s.merge s.reset = s at E
    refine Lg_qop (v := .pointer (some ⟨s.next, 0, none⟩)) (s1 := s.reset.new ⟨1, 62, 0, [.int .i64 0, .int .i64 0], []⟩) (by intro callf; simp +decide only [aOps, rinit, aWanted, ↓bite_eq, ↓reduceIte, aStep_eq, aStepOld, aOp, opBox, opBin, opUn, opCall, opIndexAddr, opFieldAddr, opLoad, opStore, opPick, opExtract, opSlice, opBuildSlice, opBuild, aRow, aev, aevs, aparts, ann, unn, aPut, if_true, if_false, rget_rput, flat, flat1, Nat.blt_eq, aBuiltin, aLen, List.getElem?_toArray, List.getElem?_cons_zero, List.getElem?_cons_succ, Nat.zero_add, Option.bind_some, beq_self_eq_true, Bool.not_true, Bool.not_false, Bool.true_beq, Bool.false_beq, allocA]; rfl) (by decide) (Nat.le_refl _) ?_
    have e1 := Ext.merge (Ext.new s.reset ⟨1, 62, 0, [.int .i64 0, .int .i64 0], []⟩)
    have hz : (s.merge (s.reset.new ⟨1, 62, 0, [.int .i64 0, .int .i64 0], []⟩)).reset.get s.next = ⟨1, 62, 0, [.int .i64 0, .int .i64 0], []⟩ := by
      show (s.reset.new ⟨1, 62, 0, [.int .i64 0, .int .i64 0], []⟩).get s.next = _
      rw [AS.get_new]; exact if_pos rfl
    have hzn : s.next < (s.merge (s.reset.new ⟨1, 62, 0, [.int .i64 0, .int .i64 0], []⟩)).next := Nat.lt_succ_self _
    generalize s.merge (s.reset.new ⟨1, 62, 0, [.int .i64 0, .int .i64 0], []⟩) = s5 at e1 hz hzn
    have hsto := storeZ (x := x) hz
    refine Lg_st (v := undef) (s1 := s5.reset.put s.next (arcB x)) (by intro callf; simp +decide only [aOps, rinit, aWanted, ↓bite_eq, ↓reduceIte, aStep_eq, aStepOld, aOp, opBox, opBin, opUn, opCall, opIndexAddr, opFieldAddr, opLoad, opStore, opPick, opExtract, opSlice, opBuildSlice, opBuild, aRow, aev, aevs, aparts, ann, unn, aPut, if_true, if_false, rget_rput, flat, flat1, Nat.blt_eq, aBuiltin, aLen, List.getElem?_toArray, List.getElem?_cons_zero, List.getElem?_cons_succ, Nat.zero_add, Option.bind_some, beq_self_eq_true, Bool.not_true, Bool.not_false, Bool.true_beq, Bool.false_beq, hsto]) (by kernel_rfl) ?_
    have e2 : Ext s (s5.merge (s5.reset.put s.next (arcB x))) := ext_merge e1 (Ext.put (e1.trans (Ext.reset s5)) (Nat.le_refl _) _)
    have D : ArcAt (s5.merge (s5.reset.put s.next (arcB x))) s.next x := ⟨hzn, by rw [get_merge, AS.get_put, if_pos rfl]⟩
    have E := E.trans e2
    clear e1 e2 hz hzn hsto
    generalize s.next = bd at D E
    generalize s5.merge (s5.reset.put bd (arcB x)) = s at D E
    show W _ _ _ 153 _ _ _ _
    repeat apply W_assoc
    apply W_reg
    · intro callf
      simp +decide only [aOps, rinit, aWanted, ↓bite_eq, ↓reduceIte, aStep_eq, aStepOld, aOp, opBox, opBin, opUn, opCall, opIndexAddr, opFieldAddr, opLoad, opStore, opPick, opExtract, opSlice, opBuildSlice, opBuild, aRow, aev, aevs, aparts, ann, unn, aPut, if_true, if_false, rget_rput, flat, flat1, Nat.blt_eq, aBuiltin, aLen, List.getElem?_toArray, List.getElem?_cons_zero, List.getElem?_cons_succ, Nat.zero_add, Option.bind_some, beq_self_eq_true, Bool.not_true, Bool.not_false, Bool.true_beq, Bool.false_beq]
      rfl
    repeat apply W_assoc
    apply W_reg
    · intro callf
      simp +decide only [aOps, rinit, aWanted, ↓bite_eq, ↓reduceIte, aStep_eq, aStepOld, aOp, opBox, opBin, opUn, opCall, opIndexAddr, opFieldAddr, opLoad, opStore, opPick, opExtract, opSlice, opBuildSlice, opBuild, aRow, aev, aevs, aparts, ann, unn, aPut, if_true, if_false, rget_rput, flat, flat1, Nat.blt_eq, aBuiltin, aLen, List.getElem?_toArray, List.getElem?_cons_zero, List.getElem?_cons_succ, Nat.zero_add, Option.bind_some, beq_self_eq_true, Bool.not_true, Bool.not_false, Bool.true_beq, Bool.false_beq]
      rfl
    repeat apply W_assoc
    refine W_for (fun (j : Nat × Bool) r s' => j.1 ≤ ar.length ∧ Ext s s' ∧ (j.2 = true ↔ ∃ y ∈ ar.take j.1, y.1 = x.1 ∧ olds[y.2]? = some x.2) ∧ rget r 3 = .pointer (some ⟨bl, 0, none⟩) ∧ rget r 4 = .pointer (some ⟨ba, 0, none⟩) ∧ rget r 5 = nv ∧ rget r 11 = .int .i64 (i : Int) ∧ rget r 12 = .int .i64 (k : Int) ∧ rget r 13 = .pointer (some ⟨bd, 0, none⟩) ∧ rget r 14 = .bool j.2 ∧ rget r 15 = .int .i64 (j.1 : Int)) (fun j => ar.length - j.1) ?_ (0, false) ?_
    rotate_left
    · refine ⟨Nat.zero_le _, Ext.refl _, by simp, ?_, ?_, ?_, ?_, ?_, ?_, ?_, ?_⟩ <;> simp +decide only [rget_rput, rinit, if_true, if_false, goInt, h3, h4, h5, h11, h12] <;> first | exact True.intro | rfl
    clear h3 h4 h5 h11 h12
    rintro ⟨j, fd⟩ r s' ⟨hj, E', hfd, h3, h4, h5, h11, h12, h13, h14, h15⟩
    dsimp only at hj hfd h14 h15
    have q1 := (B2.ext (E.trans E')).out
    have q2 := hzl s' ((E.trans E').get zb hzb)
    by_cases hjl : j < ar.length
    rotate_left
    · have d3 : decide ((j : Int) < (ar.length : Int)) = false := decide_eq_false (by omega)
      repeat apply W_assoc
      apply W_reg
      · intro callf
        simp +decide only [aOps, rinit, aWanted, ↓bite_eq, ↓reduceIte, aStep_eq, aStepOld, aOp, opBox, opBin, opUn, opCall, opIndexAddr, opFieldAddr, opLoad, opStore, opPick, opExtract, opSlice, opBuildSlice, opBuild, aRow, aev, aevs, aparts, ann, unn, aPut, if_true, if_false, rget_rput, flat, flat1, Nat.blt_eq, aBuiltin, aLen, List.getElem?_toArray, List.getElem?_cons_zero, List.getElem?_cons_succ, Nat.zero_add, Option.bind_some, beq_self_eq_true, Bool.not_true, Bool.not_false, Bool.true_beq, Bool.false_beq, h4, h11, h15, fldL, q1, hzi, q2, haw2, Tryz.underlying60, goInt, lssI, d3]
        rfl
      repeat apply W_assoc
      refine W_if (b := false) ?_ ?_ ?_
      · simp +decide only [aevs, aev, aResults, rget_rput, if_true, if_false]
      · intro h; cases h
      intro _
      refine W_exitq ⟨fun h => (nomatch h), fun _ => ?_, fun h1 h2 => absurd rfl h2⟩
      rw [List.take_of_length_le (by omega)] at hfd
      obtain rfl : fd = true := hfd.2 (harc x hxm)
      repeat apply W_assoc
      apply W_reg
      · intro callf
        simp +decide only [aOps, rinit, aWanted, ↓bite_eq, ↓reduceIte, aStep_eq, aStepOld, aOp, opBox, opBin, opUn, opCall, opIndexAddr, opFieldAddr, opLoad, opStore, opPick, opExtract, opSlice, opBuildSlice, opBuild, aRow, aev, aevs, aparts, ann, unn, aPut, if_true, if_false, rget_rput, flat, flat1, Nat.blt_eq, aBuiltin, aLen, List.getElem?_toArray, List.getElem?_cons_zero, List.getElem?_cons_succ, Nat.zero_add, Option.bind_some, beq_self_eq_true, Bool.not_true, Bool.not_false, Bool.true_beq, Bool.false_beq, h14, not_b]
        rfl
      repeat apply W_assoc
      refine W_if (b := false) ?_ ?_ ?_
      · simp +decide only [aevs, aev, aResults, rget_rput, if_true, if_false]
      · intro h; cases h
      intro _
      refine W_skipq ?_
      refine W_skip ⟨fun _ => ?_, fun h => absurd rfl h⟩
      refine W_tail ?_
      have w6 : IntKind.i64.wrap ((k : Int) + 1) = ((k + 1 : Nat) : Int) := by rw [wrap64_id _ (by omega) (by omega)]; omega
      repeat apply W_assoc
      apply W_reg
      · intro callf
        simp +decide only [aOps, rinit, aWanted, ↓bite_eq, ↓reduceIte, aStep_eq, aStepOld, aOp, opBox, opBin, opUn, opCall, opIndexAddr, opFieldAddr, opLoad, opStore, opPick, opExtract, opSlice, opBuildSlice, opBuild, aRow, aev, aevs, aparts, ann, unn, aPut, if_true, if_false, rget_rput, flat, flat1, Nat.blt_eq, aBuiltin, aLen, List.getElem?_toArray, List.getElem?_cons_zero, List.getElem?_cons_succ, Nat.zero_add, Option.bind_some, beq_self_eq_true, Bool.not_true, Bool.not_false, Bool.true_beq, Bool.false_beq, h12, w6, aBin, aInts, aInt_eq]
        rfl
      refine W_skip ⟨fun _ => ⟨k + 1, ?_, ?_⟩, fun h => (nomatch h), fun h => absurd rfl h⟩
      · show l.length - (k + 1) < l.length - k
        omega
      · refine ⟨by show k + 1 ≤ _; omega, E.trans E', ?_, ?_, ?_, ?_, ?_⟩ <;> simp +decide only [rget_rput, if_true, if_false, h3, h4, h5, h11]
    have d3 : decide ((j : Int) < (ar.length : Int)) = true := decide_eq_true (by omega)
    repeat apply W_assoc
    apply W_reg
    · intro callf
      simp +decide only [aOps, rinit, aWanted, ↓bite_eq, ↓reduceIte, aStep_eq, aStepOld, aOp, opBox, opBin, opUn, opCall, opIndexAddr, opFieldAddr, opLoad, opStore, opPick, opExtract, opSlice, opBuildSlice, opBuild, aRow, aev, aevs, aparts, ann, unn, aPut, if_true, if_false, rget_rput, flat, flat1, Nat.blt_eq, aBuiltin, aLen, List.getElem?_toArray, List.getElem?_cons_zero, List.getElem?_cons_succ, Nat.zero_add, Option.bind_some, beq_self_eq_true, Bool.not_true, Bool.not_false, Bool.true_beq, Bool.false_beq, h4, h11, h15, fldL, q1, hzi, q2, haw2, Tryz.underlying60, goInt, lssI, d3]
      rfl
    repeat apply W_assoc
    refine W_if (b := true) ?_ ?_ ?_
    · simp +decide only [aevs, aev, aResults, rget_rput, if_true, if_false]
    rotate_left
    · intro h; cases h
    intro _
    apply W_skipq
    refine W_blk ?_
    refine W_tail ?_
    obtain ⟨y, hy⟩ : ∃ y, ar[j]? = some y := ⟨ar[j], List.getElem?_eq_getElem _⟩
    have hym := List.mem_of_getElem? hy
    have htk : ar.take (j + 1) = ar.take j ++ [y] := by rw [List.take_add_one, hy]; rfl
    have w6 : IntKind.i64.wrap ((j : Int) + 1) = ((j + 1 : Nat) : Int) := by rw [wrap64_id _ (by omega) (by omega)]; omega
    obtain ⟨vb, vo, vc, hve, hvb, hvi, -, hvl⟩ := har2.at hy
    obtain ⟨q, hq⟩ : ∃ q, olds[y.2]? = some q := ⟨olds[y.2]'(by have := hato y hym; omega), List.getElem?_eq_getElem _⟩
    obtain ⟨tb, to, tc, hte, htb, hti, htl⟩ := N2.at hq
    have q1 := (B2.ext ((E.trans E').trans (Ext.reset s'))).out
    have q2 := hzl s'.reset ((E.trans E').get zb hzb)
    have q3 := (hvl s'.reset ((E.trans E').get vb hvb)).1
    have q4 := (hvl s'.reset ((E.trans E').get vb hvb)).2
    have q5 := htl s'.reset ((E.trans E').get tb htb)
    have D' := D.ext (E'.trans (Ext.reset s'))
    have step : ∀ (nf : Bool) (r : Regs) (s2 : AS), (nf = true ↔ fd = true ∨ (y.1 = x.1 ∧ q = x.2)) → Ext s s2 → rget r 3 = .pointer (some ⟨bl, 0, none⟩) → rget r 4 = .pointer (some ⟨ba, 0, none⟩) → rget r 5 = nv → rget r 11 = .int .i64 (i : Int) → rget r 12 = .int .i64 (k : Int) → rget r 13 = .pointer (some ⟨bd, 0, none⟩) → rget r 14 = .bool nf → rget r 15 = .int .i64 ((j + 1 : Nat) : Int) →
        ∃ a' : Nat × Bool, ar.length - a'.1 < ar.length - j ∧ a'.1 ≤ ar.length ∧ Ext s s2 ∧ (a'.2 = true ↔ ∃ y ∈ ar.take a'.1, y.1 = x.1 ∧ olds[y.2]? = some x.2) ∧ rget r 3 = .pointer (some ⟨bl, 0, none⟩) ∧ rget r 4 = .pointer (some ⟨ba, 0, none⟩) ∧ rget r 5 = nv ∧ rget r 11 = .int .i64 (i : Int) ∧ rget r 12 = .int .i64 (k : Int) ∧ rget r 13 = .pointer (some ⟨bd, 0, none⟩) ∧ rget r 14 = .bool a'.2 ∧ rget r 15 = .int .i64 (a'.1 : Int) := by
      intro nf r s2 hnf e g3 g4 g5 g11 g12 g13 g14 g15
      refine ⟨(j + 1, nf), by show ar.length - (j + 1) < _; omega, hjl, e, ?_, g3, g4, g5, g11, g12, g13, g14, g15⟩
      rw [hnf, htk]
      constructor
      · rintro (h1 | ⟨h1, h2⟩)
        · obtain ⟨z, hz1, hz2⟩ := hfd.1 h1
          exact ⟨z, by simp [hz1], hz2⟩
        · exact ⟨y, by simp, h1, by rw [hq, h2]⟩
      · rintro ⟨z, hz1, hz2, hz3⟩
        rcases List.mem_append.1 hz1 with h1 | h1
        · exact .inl (hfd.2 ⟨z, h1, hz2, hz3⟩)
        · obtain rfl : z = y := by simpa using h1
          rw [hq] at hz3
          exact .inr ⟨hz2, Option.some.inj hz3⟩
    have E2 := E'.trans ((Ext.refl _).merge (σ := s'))
    cases fd with
    | true =>
      repeat apply W_assoc
      refine W_drw [] [] (by kernel_rfl) (by kernel_rfl) ?_
      apply Lg_all
      · intro callf
        simp +decide only [aQ, memb, List.any_nil, List.any_cons, Bool.true_or, Bool.or_false, Bool.and_true, Bool.or_true, Bool.false_or, Bool.true_and, reset_merge, reset_reset, reset_next, reset_low, merge_next, merge_idem, new_low, ble_self, aOps, rinit, aWanted, ↓bite_eq, ↓reduceIte, aStep_eq, aStepOld, aOp, opBox, opBin, opUn, opCall, opIndexAddr, opFieldAddr, opLoad, opStore, opPick, opExtract, opSlice, opBuildSlice, opBuild, aRow, aev, aevs, aparts, ann, unn, aPut, if_true, if_false, rget_rput, flat, flat1, Nat.blt_eq, aBuiltin, aLen, List.getElem?_toArray, List.getElem?_cons_zero, List.getElem?_cons_succ, Nat.zero_add, Option.bind_some, beq_self_eq_true, Bool.not_true, Bool.not_false, Bool.true_beq, Bool.false_beq, h14, opPick]
        rfl
      generalize s'.merge s'.reset = s6 at E2
      refine W_skip ⟨fun _ => ?_, fun h => absurd rfl h⟩
      refine W_tail ?_
      repeat apply W_assoc
      apply W_reg
      · intro callf
        simp +decide only [aOps, rinit, aWanted, ↓bite_eq, ↓reduceIte, aStep_eq, aStepOld, aOp, opBox, opBin, opUn, opCall, opIndexAddr, opFieldAddr, opLoad, opStore, opPick, opExtract, opSlice, opBuildSlice, opBuild, aRow, aev, aevs, aparts, ann, unn, aPut, if_true, if_false, rget_rput, flat, flat1, Nat.blt_eq, aBuiltin, aLen, List.getElem?_toArray, List.getElem?_cons_zero, List.getElem?_cons_succ, Nat.zero_add, Option.bind_some, beq_self_eq_true, Bool.not_true, Bool.not_false, Bool.true_beq, Bool.false_beq, h15, w6, aBin, aInts, aInt_eq]
        rfl
      refine W_skip ⟨fun _ => step true _ _ (by simp) E2 ?_ ?_ ?_ ?_ ?_ ?_ ?_ ?_, fun h => (nomatch h), fun h => absurd rfl h⟩
      all_goals simp +decide only [rget_rput, if_true, if_false, h3, h4, h5, h11, h12, h13]
    | false =>
      by_cases hev : y.1 = x.1
      rotate_left
      · have dv : ((y.1 : Int) == (x.1 : Int)) = false := by
          have : ¬ ((y.1 : Int) = (x.1 : Int)) := by omega
          simpa using this
        repeat apply W_assoc
        refine W_drw [] [] (by kernel_rfl) (by kernel_rfl) ?_
        apply Lg_all
        · intro callf
          simp +decide only [aQ, memb, List.any_nil, List.any_cons, Bool.true_or, Bool.or_false, Bool.and_true, Bool.or_true, Bool.false_or, Bool.true_and, reset_merge, reset_reset, reset_next, reset_low, merge_next, merge_idem, new_low, ble_self, aOps, rinit, aWanted, ↓bite_eq, ↓reduceIte, aStep_eq, aStepOld, aOp, opBox, opBin, opUn, opCall, opIndexAddr, opFieldAddr, opLoad, opStore, opPick, opExtract, opSlice, opBuildSlice, opBuild, aRow, aev, aevs, aparts, ann, unn, aPut, if_true, if_false, rget_rput, flat, flat1, Nat.blt_eq, aBuiltin, aLen, List.getElem?_toArray, List.getElem?_cons_zero, List.getElem?_cons_succ, Nat.zero_add, Option.bind_some, beq_self_eq_true, Bool.not_true, Bool.not_false, Bool.true_beq, Bool.false_beq, h4, h5, h11, h13, h14, h15, fldL, fldA0, q1, hzi, q2, hvi, q3, D'.ev, eqII, dv, opPick]
          rfl
        generalize s'.merge s'.reset = s6 at E2
        refine W_skip ⟨fun _ => ?_, fun h => absurd rfl h⟩
        refine W_tail ?_
        repeat apply W_assoc
        apply W_reg
        · intro callf
          simp +decide only [aOps, rinit, aWanted, ↓bite_eq, ↓reduceIte, aStep_eq, aStepOld, aOp, opBox, opBin, opUn, opCall, opIndexAddr, opFieldAddr, opLoad, opStore, opPick, opExtract, opSlice, opBuildSlice, opBuild, aRow, aev, aevs, aparts, ann, unn, aPut, if_true, if_false, rget_rput, flat, flat1, Nat.blt_eq, aBuiltin, aLen, List.getElem?_toArray, List.getElem?_cons_zero, List.getElem?_cons_succ, Nat.zero_add, Option.bind_some, beq_self_eq_true, Bool.not_true, Bool.not_false, Bool.true_beq, Bool.false_beq, h15, w6, aBin, aInts, aInt_eq]
          rfl
        refine W_skip ⟨fun _ => step false _ _ (by simp [hev]) E2 ?_ ?_ ?_ ?_ ?_ ?_ ?_ ?_, fun h => (nomatch h), fun h => absurd rfl h⟩
        all_goals simp +decide only [rget_rput, if_true, if_false, h3, h4, h5, h11, h12, h13]
      have dv : ((y.1 : Int) == (x.1 : Int)) = true := by rw [hev]; simp
      have dq : ((q : Int) == (x.2 : Int)) = decide (q = x.2) := by
        by_cases e : q = x.2
        · simp [e]
        · have : ¬ ((q : Int) = (x.2 : Int)) := by omega
          simp [e, this]
      repeat apply W_assoc
      refine W_drw [] [] (by kernel_rfl) (by kernel_rfl) ?_
      apply Lg_all
      · intro callf
        simp +decide only [aQ, memb, List.any_nil, List.any_cons, Bool.true_or, Bool.or_false, Bool.and_true, Bool.or_true, Bool.false_or, Bool.true_and, reset_merge, reset_reset, reset_next, reset_low, merge_next, merge_idem, new_low, ble_self, aOps, rinit, aWanted, ↓bite_eq, ↓reduceIte, aStep_eq, aStepOld, aOp, opBox, opBin, opUn, opCall, opIndexAddr, opFieldAddr, opLoad, opStore, opPick, opExtract, opSlice, opBuildSlice, opBuild, aRow, aev, aevs, aparts, ann, unn, aPut, if_true, if_false, rget_rput, flat, flat1, Nat.blt_eq, aBuiltin, aLen, List.getElem?_toArray, List.getElem?_cons_zero, List.getElem?_cons_succ, Nat.zero_add, Option.bind_some, beq_self_eq_true, Bool.not_true, Bool.not_false, Bool.true_beq, Bool.false_beq, h4, h5, h11, h13, h14, h15, fldL, fldA0, fldA1, q1, hzi, q2, hvi, q3, q4, hti, q5, D'.ev, D'.to, eqII, dv, dq, opPick]
        rfl
      generalize s'.merge s'.reset = s6 at E2
      refine W_skip ⟨fun _ => ?_, fun h => absurd rfl h⟩
      refine W_tail ?_
      repeat apply W_assoc
      apply W_reg
      · intro callf
        simp +decide only [aOps, rinit, aWanted, ↓bite_eq, ↓reduceIte, aStep_eq, aStepOld, aOp, opBox, opBin, opUn, opCall, opIndexAddr, opFieldAddr, opLoad, opStore, opPick, opExtract, opSlice, opBuildSlice, opBuild, aRow, aev, aevs, aparts, ann, unn, aPut, if_true, if_false, rget_rput, flat, flat1, Nat.blt_eq, aBuiltin, aLen, List.getElem?_toArray, List.getElem?_cons_zero, List.getElem?_cons_succ, Nat.zero_add, Option.bind_some, beq_self_eq_true, Bool.not_true, Bool.not_false, Bool.true_beq, Bool.false_beq, h15, w6, aBin, aInts, aInt_eq]
        rfl
      refine W_skip ⟨fun _ => step (decide (q = x.2)) _ _ (by simp [hev]) E2 ?_ ?_ ?_ ?_ ?_ ?_ ?_ ?_, fun h => (nomatch h), fun h => absurd rfl h⟩
      all_goals simp +decide only [rget_rput, if_true, if_false, h3, h4, h5, h11, h12, h13]
  have d1 : decide ((i : Int) < (K : Int)) = true := decide_eq_true (by omega)
  repeat apply W_assoc
  apply W_reg
  · intro callf
    simp +decide only [aOps, rinit, aWanted, ↓bite_eq, ↓reduceIte, aStep_eq, aStepOld, aOp, opBox, opBin, opUn, opCall, opIndexAddr, opFieldAddr, opLoad, opStore, opPick, opExtract, opSlice, opBuildSlice, opBuild, aRow, aev, aevs, aparts, ann, unn, aPut, if_true, if_false, rget_rput, flat, flat1, Nat.blt_eq, aBuiltin, aLen, List.getElem?_toArray, List.getElem?_cons_zero, List.getElem?_cons_succ, Nat.zero_add, Option.bind_some, beq_self_eq_true, Bool.not_true, Bool.not_false, Bool.true_beq, Bool.false_beq, h8, h10, hmv, Tryz.underlying40, goInt, lssI, d1]
    rfl
  repeat apply W_assoc
  refine W_if (b := true) ?_ ?_ ?_
  · simp +decide only [aevs, aev, aResults, rget_rput, if_true, if_false]
  rotate_left
  · intro h; cases h
  intro _
  apply W_skipq
  refine W_blk ?_
  refine W_tail ?_
  obtain ⟨xb, xo, xc, hxe, hxb, hxi, hxl⟩ := N3.at (i := i) (n := i) (List.getElem?_range hiK)
  have q1 := hxl s (E.get xb hxb)
  have dI : ((i : Int) != (i : Int)) = false := by simp
  repeat apply W_assoc
  apply W_reg
  · intro callf
    simp +decide only [aOps, rinit, aWanted, ↓bite_eq, ↓reduceIte, aStep_eq, aStepOld, aOp, opBox, opBin, opUn, opCall, opIndexAddr, opFieldAddr, opLoad, opStore, opPick, opExtract, opSlice, opBuildSlice, opBuild, aRow, aev, aevs, aparts, ann, unn, aPut, if_true, if_false, rget_rput, flat, flat1, Nat.blt_eq, aBuiltin, aLen, List.getElem?_toArray, List.getElem?_cons_zero, List.getElem?_cons_succ, Nat.zero_add, Option.bind_some, beq_self_eq_true, Bool.not_true, Bool.not_false, Bool.true_beq, Bool.false_beq, h8, h10, hxi, q1, neII, dI]
    rfl
  repeat apply W_assoc
  refine W_if (b := false) ?_ ?_ ?_
  · simp +decide only [aevs, aev, aResults, rget_rput, if_true, if_false]
  · intro h; cases h
  intro _
  refine W_skipq ?_
  refine W_skip ⟨fun _ => ?_, fun h => absurd rfl h⟩
  refine W_tail ?_
  have w6 : IntKind.i64.wrap ((i : Int) + 1) = ((i + 1 : Nat) : Int) := by rw [wrap64_id _ (by omega) (by omega)]; omega
  repeat apply W_assoc
  apply W_reg
  · intro callf
    simp +decide only [aOps, rinit, aWanted, ↓bite_eq, ↓reduceIte, aStep_eq, aStepOld, aOp, opBox, opBin, opUn, opCall, opIndexAddr, opFieldAddr, opLoad, opStore, opPick, opExtract, opSlice, opBuildSlice, opBuild, aRow, aev, aevs, aparts, ann, unn, aPut, if_true, if_false, rget_rput, flat, flat1, Nat.blt_eq, aBuiltin, aLen, List.getElem?_toArray, List.getElem?_cons_zero, List.getElem?_cons_succ, Nat.zero_add, Option.bind_some, beq_self_eq_true, Bool.not_true, Bool.not_false, Bool.true_beq, Bool.false_beq, h10, w6, aBin, aInts, aInt_eq]
    rfl
  refine W_skip ⟨fun _ => ⟨i + 1, ?_, ?_⟩, fun h => (nomatch h), fun h => absurd rfl h⟩
  · show K - (i + 1) < K - i
    omega
  · refine ⟨by show i + 1 ≤ _; omega, E, ?_, ?_, ?_, ?_, ?_⟩ <;> simp +decide only [rget_rput, if_true, if_false, h3, h4, h5, h8]

end Go.Proofs.YtacpdefmnijhnaaGreat.U
