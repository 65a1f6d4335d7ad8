/- Arcs are sorted, each once; rows are copied; a system is formed. -/
import Derived.Test.YtacpdefmnijhnaaGreatUK
set_option linter.unusedSimpArgs false
set_option linter.unusedVariables false
namespace Go.Proofs.YtacpdefmnijhnaaGreat.U
open Abs

theorem clip_c {lo : Nat} {σ : AS} {v : Value} {l : List Arc} (h : AL lo σ v l) (hl : l ≠ []) (hn : l.length ≤ 1000000) : C Tryz.prog KA 0 71 [v] σ fun u σ' => σ' = σ ∧ ∃ b, Own v b ∧ u = .slice (some ⟨b, 0, none⟩) l.length l.length ∧ lo ≤ b ∧ b < σ.next ∧ (σ.get b).kind = 2 ∧ (σ.get b).elem = 62 ∧ RowV σ u l := by
  obtain ⟨b, c, rfl, h1, h2, h3, h4, h5, h6⟩ := h.clip hl hn
  refine C_of (ka rfl rfl) Tryz.func71 rfl (Nat.le_of_ble_eq_true rfl) ?_
  show W _ _ _ 9 _ _ _ _
  unfold Tryz.f71
  dsimp only
  repeat apply W_assoc
  apply W_reg
  · intro callf
    simp +decide only [aOps, rinit, aWanted, ↓bite_eq, ↓reduceIte, aStep_eq, aStepOld, aOp, opBox, opBin, opUn, opCall, opIndexAddr, opFieldAddr, opLoad, opStore, opPick, opExtract, opSlice, opBuildSlice, opBuild, aRow, aev, aevs, aparts, ann, unn, aPut, if_true, if_false, rget_rput, flat, flat1, Nat.blt_eq, aBuiltin, aLen, List.getElem?_toArray, List.getElem?_cons_zero, List.getElem?_cons_succ, Nat.zero_add, Option.bind_some, beq_self_eq_true, Bool.not_true, Bool.not_false, Bool.true_beq, Bool.false_beq]
    rfl
  repeat apply W_assoc
  apply W_reg
  · intro callf
    simp +decide only [aOps, rinit, aWanted, ↓bite_eq, ↓reduceIte, aStep_eq, aStepOld, aOp, opBox, opBin, opUn, opCall, opIndexAddr, opFieldAddr, opLoad, opStore, opPick, opExtract, opSlice, opBuildSlice, opBuild, aRow, aev, aevs, aparts, ann, unn, aPut, if_true, if_false, rget_rput, flat, flat1, Nat.blt_eq, aBuiltin, aLen, List.getElem?_toArray, List.getElem?_cons_zero, List.getElem?_cons_succ, Nat.zero_add, Option.bind_some, beq_self_eq_true, Bool.not_true, Bool.not_false, Bool.true_beq, Bool.false_beq, Tryz.underlying60, goInt, aopt, h5]
    rfl
  refine W_ret ⟨Nat.le_refl _, [.slice (some ⟨b, 0, none⟩) l.length l.length], ?_, rfl, b, ⟨_, _, rfl⟩, rfl, h1, h2, h3, h4, h6⟩
  simp +decide only [aevs, aev, aResults, rget_rput, if_true, if_false]

theorem sorted_nil {σ : AS} : aCall Tryz.prog KA 0 300 37 [.slice none 0 0] σ = some (.slice none 0 0, σ) := by kernel_rfl

/-- What a sort answers: a part of the block of v. -/
structure Sorted (lo : Nat) (σ σ' : AS) (v u : Value) (m : List Arc) : Prop where
  row : RowV σ' u m
  at_ : ∃ b n c, Own v b ∧ u = .slice (some ⟨b, 0, none⟩) n c ∧ lo ≤ b ∧ b < σ'.next ∧ (σ'.get b).kind = 2 ∧ (σ'.get b).elem = 62
  chg : Chg lo σ σ' v

set_option maxHeartbeats 8000000 in
theorem sorted_c {lo : Nat} {σ : AS} {v : Value} {l : List Arc} (h : AL lo σ v l) (hlo : lo ≤ σ.next) (hl : l ≠ []) (hn : l.length ≤ 3) : C Tryz.prog KA 0 37 [v] σ fun u σ' => Sorted lo σ σ' v u (Can.srt l) := by
  have hne : Can.srt l ≠ [] := fun e => by
    cases l with
    | nil => exact hl rfl
    | cons x l => have := Can.mem_srt.2 (List.mem_cons_self (a := x) (l := l)); rw [e] at this; cases this
  refine C_of (ka rfl rfl) Tryz.func37 rfl (Nat.le_of_ble_eq_true rfl) ?_
  show W _ _ _ 8 _ _ _ _
  unfold Tryz.f37
  dsimp only
  repeat apply W_assoc
  apply W_reg
  · intro callf
    simp +decide only [aOps, rinit, aWanted, ↓bite_eq, ↓reduceIte, aStep_eq, aStepOld, aOp, opBox, opBin, opUn, opCall, opIndexAddr, opFieldAddr, opLoad, opStore, opPick, opExtract, opSlice, opBuildSlice, opBuild, aRow, aev, aevs, aparts, ann, unn, aPut, if_true, if_false, rget_rput, flat, flat1, Nat.blt_eq, aBuiltin, aLen, List.getElem?_toArray, List.getElem?_cons_zero, List.getElem?_cons_succ, Nat.zero_add, Option.bind_some, beq_self_eq_true, Bool.not_true, Bool.not_false, Bool.true_beq, Bool.false_beq]
    rfl
  repeat apply W_assoc
  apply W_regL
  apply Ls_pre 1
  · intro callf
    simp +decide only [List.take, aOps, rinit, aWanted, ↓bite_eq, ↓reduceIte, aStep_eq, aStepOld, aOp, opBox, opBin, opUn, opCall, opIndexAddr, opFieldAddr, opLoad, opStore, opPick, opExtract, opSlice, opBuildSlice, opBuild, aRow, aev, aevs, aparts, ann, unn, aPut, if_true, if_false, rget_rput, flat, flat1, Nat.blt_eq, aBuiltin, aLen, List.getElem?_toArray, List.getElem?_cons_zero, List.getElem?_cons_succ, Nat.zero_add, Option.bind_some, beq_self_eq_true, Bool.not_true, Bool.not_false, Bool.true_beq, Bool.false_beq]
    rfl
  dsimp only [List.drop]
  refine Ls_fn (vs := [v, .func (.func 42) #[] #[]]) (by simp +decide only [aevs, aev, aResults, rget_rput, if_true, if_false]) (by decide) (C.mono (sort_c h hlo hl hn) ?_)
  rintro w σ1 ⟨l2, S, O⟩
  apply Ls_all
  · intro callf
    simp +decide only [aOps, rinit, aWanted, ↓bite_eq, ↓reduceIte, aStep_eq, aStepOld, aOp, opBox, opBin, opUn, opCall, opIndexAddr, opFieldAddr, opLoad, opStore, opPick, opExtract, opSlice, opBuildSlice, opBuild, aRow, aev, aevs, aparts, ann, unn, aPut, if_true, if_false, rget_rput, flat, flat1, Nat.blt_eq, aBuiltin, aLen, List.getElem?_toArray, List.getElem?_cons_zero, List.getElem?_cons_succ, Nat.zero_add, Option.bind_some, beq_self_eq_true, Bool.not_true, Bool.not_false, Bool.true_beq, Bool.false_beq]
    rfl
  have hl2 : l2 ≠ [] := fun e => by have := S.len; rw [e] at this; exact hl (List.length_eq_zero_iff.1 this.symm)
  have hs2 : Can.srt l2 = Can.srt l := Can.srt_eq (Can.asc_srt l2) fun x => Can.mem_srt.trans (S.mem x)
  repeat apply W_assoc
  apply W_regL
  apply Ls_pre 1
  · intro callf
    simp +decide only [List.take, aOps, rinit, aWanted, ↓bite_eq, ↓reduceIte, aStep_eq, aStepOld, aOp, opBox, opBin, opUn, opCall, opIndexAddr, opFieldAddr, opLoad, opStore, opPick, opExtract, opSlice, opBuildSlice, opBuild, aRow, aev, aevs, aparts, ann, unn, aPut, if_true, if_false, rget_rput, flat, flat1, Nat.blt_eq, aBuiltin, aLen, List.getElem?_toArray, List.getElem?_cons_zero, List.getElem?_cons_succ, Nat.zero_add, Option.bind_some, beq_self_eq_true, Bool.not_true, Bool.not_false, Bool.true_beq, Bool.false_beq]
    rfl
  dsimp only [List.drop]
  refine Ls_fn (vs := [v]) (by simp +decide only [aevs, aev, aResults, rget_rput, if_true, if_false]) (by decide) (C.mono (compact_c S.al (Nat.le_trans hlo S.nxt) hl2 (by have := S.len; omega) (by rw [S.len]; exact O)) ?_)
  rintro u σ2 ⟨A2, o2, c2⟩
  rw [hs2] at A2
  refine Ls_fn (vs := [u]) (by simp +decide only [aevs, aev, aResults, rget_rput, if_true, if_false]) (by decide) (C.mono (clip_c A2 hne (by have := Can.srt_length l; omega)) ?_)
  rintro t σ3 ⟨rfl, b, h1, rfl, h2, h3, h4, h5, h6⟩
  apply Ls_all
  · intro callf
    simp +decide only [aOps, rinit, aWanted, ↓bite_eq, ↓reduceIte, aStep_eq, aStepOld, aOp, opBox, opBin, opUn, opCall, opIndexAddr, opFieldAddr, opLoad, opStore, opPick, opExtract, opSlice, opBuildSlice, opBuild, aRow, aev, aevs, aparts, ann, unn, aPut, if_true, if_false, rget_rput, flat, flat1, Nat.blt_eq, aBuiltin, aLen, List.getElem?_toArray, List.getElem?_cons_zero, List.getElem?_cons_succ, Nat.zero_add, Option.bind_some, beq_self_eq_true, Bool.not_true, Bool.not_false, Bool.true_beq, Bool.false_beq]
    rfl
  refine W_ret ⟨Nat.le_refl _, [.slice (some ⟨b, 0, none⟩) (Can.srt l).length (Can.srt l).length], ?_, h6, ⟨b, _, _, o2 b h1, rfl, h2, h3, h4, h5⟩, S.chg.trans c2⟩
  simp +decide only [aevs, aev, aResults, rget_rput, if_true, if_false]

theorem clone_nil {σ : AS} : aCall Tryz.prog KA 0 300 38 [.slice none 0 0] σ = some (.slice none 0 0, σ) := by kernel_rfl
theorem sliceA0 {σ : AS} : aBuildSlice Tryz.prog σ 60 0 [] = some (.slice (some ⟨σ.next, 0, none⟩) 0 0, σ.new ⟨1, 62, 0, [], []⟩) := by kernel_rfl
theorem nilA {a : Addr} {n c : Nat} {x y : Operand} : aBin Tryz.prog .eql 60 x y (.slice (some a) n c) (.slice none 0 0) = some (.bool false) := by
  unfold aBin
  have e1 : aInts .eql (.slice (some a) n c) (.slice none 0 0) = none := by simp only [aInts]
  rw [e1]
  dsimp only
  unfold aBinSlow
  rw [show (flat (.slice (some a) n c) && flat (.slice none 0 0)) = false from rfl, if_neg (by decide), Tryz.underlying60]
  rfl
theorem append_emptyA {σ : AS} {x : Value} {m : List Arc} {b0 : Nat} (hx : ∀ inf : TypeInfo, inf.size = 2 → aSource Tryz.prog σ false inf x = some (m.length, cA m)) (hm : m ≠ []) (hn : m.length ≤ 1000000) (hb : σ.get b0 = ⟨1, 62, 0, [], []⟩) :
    aAppend Tryz.prog σ #[60, 60] (.slice (some ⟨b0, 0, none⟩) 0 0) x = some (.slice (some ⟨σ.next, 0, none⟩) m.length (OPENCAP + m.length), σ.new ⟨2, 62, 2, cA m, []⟩) := by
  obtain ⟨inf, z, h1, h2, h3, h4, h5, h6⟩ : ∃ inf z, Tryz.prog.info? 62 = some inf ∧ inf.size = 2 ∧ inf.bytes = 16 ∧ inf.zero = some z ∧ z.cells.size = 2 ∧ flat z = true :=
    ⟨(Tryz.prog.info? 62).get!, (((Tryz.prog.info? 62).get!).zero).get!, by kernel_rfl, by kernel_rfl, by kernel_rfl, by kernel_rfl, by kernel_rfl, by kernel_rfl⟩
  have hs := hx inf h2
  have hp : 0 < m.length := List.length_pos_iff.2 hm
  have hc : aCells σ ⟨b0, 0, none⟩ 0 = some [] := cells_at hb rfl (Nat.le_refl _)
  have d1 : Nat.beq (2 : Nat) 0 = false := rfl
  have d2 : Nat.beq (2 : Nat) 2 = true := rfl
  have d3 : Nat.ble ((4 * m.length + 4000) * 16) 281474976710656 = true := ble_t (by omega)
  have d4 : Nat.ble m.length 1000000000000 = true := ble_t (by omega)
  have d5 : Nat.beq (cA m).length (m.length * 2) = true := by rw [cA_length]; exact Nat.beq_refl _
  have d6 : Nat.ble m.length 0 = false := ble_f hp
  unfold aAppend
  simp only [List.getElem?_toArray, List.getElem?_cons_zero, List.getElem?_cons_succ, Tryz.underlying60, h1, h2, h3, h4, h5, h6, hs, d1, d2, Nat.zero_add, d3, d4, d5, d6, open_zero, aFirst, Nat.zero_mul, aCellsS_none, hc, Bool.not_true, Bool.or_false, Bool.false_eq_true, if_false, List.length_nil, Nat.beq_refl, if_true, List.nil_append]

set_option maxHeartbeats 4000000 in
theorem clone_c {σ : AS} {v : Value} {l : List Arc} (h : RowV σ v l) (hl : l ≠ []) (hn : l.length ≤ 1000000) : C Tryz.prog KA 0 38 [v] σ fun u σ' => AL σ.next σ' u l ∧ Ext σ σ' := by
  have hsrc := (h.ext (Ext.new σ ⟨1, 62, 0, [], []⟩)).src
  obtain ⟨b, off, c, hv⟩ : ∃ b off c, v = .slice (some ⟨b, off, none⟩) l.length c := by
    rcases h with ⟨_, e⟩ | ⟨_, b, off, c, e, _⟩
    · exact absurd e hl
    · exact ⟨b, off, c, e⟩
  subst hv
  refine C_of (ka rfl rfl) Tryz.func38 rfl (Nat.le_of_ble_eq_true rfl) ?_
  show W _ _ _ 8 _ _ _ _
  unfold Tryz.f38
  dsimp only
  repeat apply W_assoc
  apply W_reg
  · intro callf
    simp +decide only [aOps, rinit, aWanted, ↓bite_eq, ↓reduceIte, aStep_eq, aStepOld, aOp, opBox, opBin, opUn, opCall, opIndexAddr, opFieldAddr, opLoad, opStore, opPick, opExtract, opSlice, opBuildSlice, opBuild, aRow, aev, aevs, aparts, ann, unn, aPut, if_true, if_false, rget_rput, flat, flat1, Nat.blt_eq, aBuiltin, aLen, List.getElem?_toArray, List.getElem?_cons_zero, List.getElem?_cons_succ, Nat.zero_add, Option.bind_some, beq_self_eq_true, Bool.not_true, Bool.not_false, Bool.true_beq, Bool.false_beq]
    rfl
  repeat apply W_assoc
  apply W_reg
  · intro callf
    simp +decide only [aOps, rinit, aWanted, ↓bite_eq, ↓reduceIte, aStep_eq, aStepOld, aOp, opBox, opBin, opUn, opCall, opIndexAddr, opFieldAddr, opLoad, opStore, opPick, opExtract, opSlice, opBuildSlice, opBuild, aRow, aev, aevs, aparts, ann, unn, aPut, if_true, if_false, rget_rput, flat, flat1, Nat.blt_eq, aBuiltin, aLen, List.getElem?_toArray, List.getElem?_cons_zero, List.getElem?_cons_succ, Nat.zero_add, Option.bind_some, beq_self_eq_true, Bool.not_true, Bool.not_false, Bool.true_beq, Bool.false_beq, nilA]
    rfl
  repeat apply W_assoc
  refine W_if (b := false) ?_ ?_ ?_
  · simp +decide only [aevs, aev, aResults, rget_rput, if_true, if_false]
  · intro h; cases h
  intro _
  apply W_skipq
  have ha := append_emptyA hsrc hl hn (b0 := σ.next) (by rw [AS.get_new, if_pos rfl])
  repeat apply W_assoc
  apply W_reg
  · intro callf
    simp +decide only [aOps, rinit, aWanted, ↓bite_eq, ↓reduceIte, aStep_eq, aStepOld, aOp, opBox, opBin, opUn, opCall, opIndexAddr, opFieldAddr, opLoad, opStore, opPick, opExtract, opSlice, opBuildSlice, opBuild, aRow, aev, aevs, aparts, ann, unn, aPut, if_true, if_false, rget_rput, flat, flat1, Nat.blt_eq, aBuiltin, aLen, List.getElem?_toArray, List.getElem?_cons_zero, List.getElem?_cons_succ, Nat.zero_add, Option.bind_some, beq_self_eq_true, Bool.not_true, Bool.not_false, Bool.true_beq, Bool.false_beq, sliceA0, ha]
    rfl
  refine W_ret ⟨Nat.le_refl _, [_], rfl, ⟨cA_length l, cA_one l, .inr ⟨σ.next + 1, l.length, cA l, ?_, Nat.le_refl _, Nat.le_succ _, Nat.lt_succ_self _, ?_, by rw [cA_length]; exact Nat.le_refl _, by rw [List.take_of_length_le (by rw [cA_length]; exact Nat.le_refl _)]⟩⟩, (Ext.new _ _).trans (Ext.new _ _)⟩
  · simp +decide only [aevs, aev, aResults, rget_rput, if_true, if_false, aResult]
    rfl
  · rw [AS.get_new]; exact if_pos rfl

/-! ### Boxes -/

/-- A system in a block. -/
structure BoxAt (σ : AS) (b : Nat) (s : Value) : Prop where
  lt : b < σ.next
  get : σ.get b = ⟨1, 54, 0, [s], []⟩
theorem BoxAt.ext {σ σ' : AS} {b : Nat} {s : Value} (h : BoxAt σ b s) (e : Ext σ σ') : BoxAt σ' b s := ⟨e.lt h.lt, (e.get b h.lt).trans h.get⟩
theorem BoxAt.extX {X : List Nat} {σ σ' : AS} {b : Nat} {s : Value} (h : BoxAt σ b s) (e : ExtX X σ σ') (hx : b ∉ X) : BoxAt σ' b s := ⟨e.lt h.lt, (e.get b h.lt hx).trans h.get⟩
theorem BoxAt.load {σ : AS} {b : Nat} {s : Value} (h : BoxAt σ b s) : aLoad Tryz.prog σ 54 (.pointer (some ⟨b, 0, none⟩)) = some (.agg #[s]) :=
  loadN Tryz.underlying54 rfl (i := (Tryz.prog.info? 54).get!) (by kernel_rfl) (by rw [show ((Tryz.prog.info? 54).get!).size = 1 by kernel_rfl]; exact cells_at h.get rfl (Nat.le_refl _))
theorem BoxAt.out {σ : AS} {b : Nat} {s : Value} (h : BoxAt σ b s) : aLoad Tryz.prog σ 52 (.pointer (some ⟨b, 0, none⟩)) = some s := load1 Tryz.underlying52 rfl (cells_at h.get rfl (Nat.le_refl _))
theorem BoxAt.new (σ : AS) (s : Value) : BoxAt (σ.new ⟨1, 54, 0, [s], []⟩) σ.next s := ⟨Nat.lt_succ_self _, by rw [AS.get_new, if_pos rfl]⟩
theorem fldL {b off : Nat} : aField Tryz.prog 54 0 (.pointer (some ⟨b, off, none⟩)) = some (.pointer (some ⟨b, off, none⟩)) := by kernel_rfl

/-- A variable is declared: an arc. -/
noncomputable def decl (σ : AS) (x : Arc) : AS := (σ.new ⟨1, 62, 0, [.int .i64 0, .int .i64 0], []⟩).put σ.next (arcB x)
theorem decl_ext (σ : AS) (x : Arc) : Ext σ (decl σ x) := Ext.put (Ext.new σ _) (Nat.le_refl _) _
theorem decl_get (σ : AS) (x : Arc) : (decl σ x).get σ.next = arcB x := by unfold decl; rw [AS.get_put, if_pos rfl]
theorem decl_lt (σ : AS) (x : Arc) : σ.next < (decl σ x).next := Nat.lt_succ_self _
theorem allocA {σ : AS} : opAlloc Tryz.prog σ 62 = some (.pointer (some ⟨σ.next, 0, none⟩), σ.new ⟨1, 62, 0, [.int .i64 0, .int .i64 0], []⟩) := by kernel_rfl
theorem storeA {σ : AS} {x : Arc} : aStore Tryz.prog (σ.new ⟨1, 62, 0, [.int .i64 0, .int .i64 0], []⟩) 62 (vArc x) (.pointer (some ⟨σ.next, 0, none⟩)) = some (decl σ x) := by
  obtain ⟨inf, hi, hs⟩ : ∃ inf, Tryz.prog.info? 62 = some inf ∧ inf.size = 2 := ⟨(Tryz.prog.info? 62).get!, by kernel_rfl, by kernel_rfl⟩
  have hz : Nat.beq (vArc x).cells.size 2 = true := rfl
  have g : (σ.new ⟨1, 62, 0, [.int .i64 0, .int .i64 0], []⟩).get σ.next = ⟨1, 62, 0, [.int .i64 0, .int .i64 0], []⟩ := by rw [AS.get_new, if_pos rfl]
  unfold aStore
  simp only [hi, hs, hz, if_true]
  unfold aWrite
  simp only [g]
  rfl
/-- An arc in a block. -/
structure ArcAt (σ : AS) (b : Nat) (x : Arc) : Prop where
  lt : b < σ.next
  get : σ.get b = arcB x
theorem ArcAt.ext {σ σ' : AS} {b : Nat} {x : Arc} (h : ArcAt σ b x) (e : Ext σ σ') : ArcAt σ' b x := ⟨e.lt h.lt, (e.get b h.lt).trans h.get⟩
theorem ArcAt.ev {σ : AS} {b : Nat} {x : Arc} (h : ArcAt σ b x) : aLoad Tryz.prog σ 3 (.pointer (some ⟨b, 0, none⟩)) = some (.int .i64 (x.1 : Int)) := (arcB_load h.get h.lt (Ext.refl _)).1
theorem ArcAt.to {σ : AS} {b : Nat} {x : Arc} (h : ArcAt σ b x) : aLoad Tryz.prog σ 3 (.pointer (some ⟨b, 0 + 1, none⟩)) = some (.int .i64 (x.2 : Int)) := (arcB_load h.get h.lt (Ext.refl _)).2
theorem ArcAt.load {σ : AS} {b : Nat} {x : Arc} (h : ArcAt σ b x) : aLoad Tryz.prog σ 62 (.pointer (some ⟨b, 0, none⟩)) = some (vArc x) := loadArc (cells_at h.get rfl (Nat.le_refl _)) rfl
theorem decl_at (σ : AS) (x : Arc) : ArcAt (decl σ x) σ.next x := ⟨decl_lt σ x, decl_get σ x⟩
theorem not_b {P : Program} {b : Bool} : flatO (asPure P (Op.unary .not (.bool b))) = some (.bool (!b)) := by cases b <;> rfl

theorem event_c {σ : AS} : ∀ {x : Nat}, x ≤ 5 → C Tryz.prog KA 0 69 [.int .i64 (x : Int)] σ fun u σ' => u = .bool true ∧ Ext σ σ'
  | 0, _ => C_known (σ' := σ) (v := .bool true) (by kernel_rfl) ⟨rfl, Ext.refl _⟩
  | 1, _ => C_known (σ' := σ) (v := .bool true) (by kernel_rfl) ⟨rfl, Ext.refl _⟩
  | 2, _ => C_known (σ' := σ) (v := .bool true) (by kernel_rfl) ⟨rfl, Ext.refl _⟩
  | 3, _ => C_known (σ' := σ) (v := .bool true) (by kernel_rfl) ⟨rfl, Ext.refl _⟩
  | 4, _ => C_known (σ' := σ) (v := .bool true) (by kernel_rfl) ⟨rfl, Ext.refl _⟩
  | 5, _ => C_known (σ' := σ) (v := .bool true) (by kernel_rfl) ⟨rfl, Ext.refl _⟩
  | x + 6, h => absurd h (by omega)

/-! ### A system that was generated, or renumbered -/

/-- A system of few states and arcs. -/
structure Small (L : List (List Arc)) : Prop where
  pos : L ≠ []
  len : L.length ≤ 10
  rows : ∀ l ∈ L, l.length ≤ 3
  ev : ∀ l ∈ L, ∀ x ∈ l, x.1 ≤ 5
  to : ∀ l ∈ L, ∀ x ∈ l, x.2 < L.length

set_option maxHeartbeats 16000000 in
theorem formed_c {σ : AS} {v : Value} {L : List (List Arc)} (h : OutR σ v L) (hs : Small L) : C Tryz.prog KA 0 36 [.agg #[v]] σ fun u σ' => u = .bool true ∧ Ext σ σ' := by
  refine C_of (ka rfl rfl) Tryz.func36 rfl (Nat.le_of_ble_eq_true rfl) ?_
  show W _ _ _ 56 _ _ _ _
  unfold Tryz.f36
  dsimp only
  repeat apply W_assoc
  apply W_reg
  · intro callf
    simp +decide only [aOps, rinit, aWanted, ↓bite_eq, ↓reduceIte, aStep_eq, aStepOld, aOp, opBox, opBin, opUn, opCall, opIndexAddr, opFieldAddr, opLoad, opStore, opPick, opExtract, opSlice, opBuildSlice, opBuild, aRow, aev, aevs, aparts, ann, unn, aPut, if_true, if_false, rget_rput, flat, flat1, Nat.blt_eq, aBuiltin, aLen, List.getElem?_toArray, List.getElem?_cons_zero, List.getElem?_cons_succ, Nat.zero_add, Option.bind_some, beq_self_eq_true, Bool.not_true, Bool.not_false, Bool.true_beq, Bool.false_beq]
    rfl
  have e1 : Ext σ (σ.new ⟨1, 54, 0, (Value.agg #[v]).cells.toList, []⟩) := Ext.new σ _
  have B := BoxAt.new σ v
  change BoxAt (σ.new ⟨1, 54, 0, (Value.agg #[v]).cells.toList, []⟩) σ.next v at B
  have H := h.ext e1
  generalize σ.new ⟨1, 54, 0, (Value.agg #[v]).cells.toList, []⟩ = σ1 at e1 B H
  obtain ⟨base, cap, hv⟩ := h.len
  subst hv
  have hL := hs.len
  have hpos := List.length_pos_iff.2 hs.pos
  repeat apply W_assoc
  apply W_reg
  · intro callf
    simp +decide only [aOps, rinit, aWanted, ↓bite_eq, ↓reduceIte, aStep_eq, aStepOld, aOp, opBox, opBin, opUn, opCall, opIndexAddr, opFieldAddr, opLoad, opStore, opPick, opExtract, opSlice, opBuildSlice, opBuild, aRow, aev, aevs, aparts, ann, unn, aPut, if_true, if_false, rget_rput, flat, flat1, Nat.blt_eq, aBuiltin, aLen, List.getElem?_toArray, List.getElem?_cons_zero, List.getElem?_cons_succ, Nat.zero_add, Option.bind_some, beq_self_eq_true, Bool.not_true, Bool.not_false, Bool.true_beq, Bool.false_beq, fldL, B.out, Tryz.underlying52, goInt]
    rfl
  repeat apply W_assoc
  apply W_reg
  · intro callf
    simp +decide only [aOps, rinit, aWanted, ↓bite_eq, ↓reduceIte, aStep_eq, aStepOld, aOp, opBox, opBin, opUn, opCall, opIndexAddr, opFieldAddr, opLoad, opStore, opPick, opExtract, opSlice, opBuildSlice, opBuild, aRow, aev, aevs, aparts, ann, unn, aPut, if_true, if_false, rget_rput, flat, flat1, Nat.blt_eq, aBuiltin, aLen, List.getElem?_toArray, List.getElem?_cons_zero, List.getElem?_cons_succ, Nat.zero_add, Option.bind_some, beq_self_eq_true, Bool.not_true, Bool.not_false, Bool.true_beq, Bool.false_beq, fldL, B.out, Tryz.underlying52, goInt]
    rfl
  repeat apply W_assoc
  refine W_for (fun (p : Nat × Nat) r s => p.1 ≤ L.length ∧ p.2 ≤ 3 * p.1 ∧ Ext σ1 s ∧ rget r 3 = .int .i64 (L.length : Int) ∧ rget r 4 = .int .i64 (p.2 : Int) ∧ rget r 13 = .slice base L.length cap ∧ rget r 14 = .int .i64 (L.length : Int) ∧ rget r 15 = .int .i64 (p.1 : Int)) (fun p => L.length - p.1) ?_ (0, 0) ?_
  rotate_left
  · refine ⟨Nat.zero_le _, Nat.le_refl _, Ext.refl _, ?_, ?_, ?_, ?_, ?_⟩ <;> simp +decide only [rget_rput, rinit, if_true, if_false, goInt] <;> first | exact True.intro | rfl
  rintro ⟨i, a⟩ r σ2 ⟨hi, ha, E2, h3, h4, h13, h14, h15⟩
  dsimp only at hi ha h4 h15
  by_cases hlt : i < L.length
  rotate_left
  · have d1 : decide ((i : Int) < (L.length : Int)) = false := decide_eq_false (by omega)
    have d2 : decide ((L.length : Int) ≥ 1) = true := decide_eq_true (by omega)
    have d3 : decide ((L.length : Int) ≤ 16384) = true := decide_eq_true (by omega)
    have d4 : decide ((a : Int) ≤ 262144) = true := decide_eq_true (by omega)
    repeat apply W_assoc
    apply W_reg
    · intro callf
      simp +decide only [aOps, rinit, aWanted, ↓bite_eq, ↓reduceIte, aStep_eq, aStepOld, aOp, opBox, opBin, opUn, opCall, opIndexAddr, opFieldAddr, opLoad, opStore, opPick, opExtract, opSlice, opBuildSlice, opBuild, aRow, aev, aevs, aparts, ann, unn, aPut, if_true, if_false, rget_rput, flat, flat1, Nat.blt_eq, aBuiltin, aLen, List.getElem?_toArray, List.getElem?_cons_zero, List.getElem?_cons_succ, Nat.zero_add, Option.bind_some, beq_self_eq_true, Bool.not_true, Bool.not_false, Bool.true_beq, Bool.false_beq, h14, h15, d1, aBin, aInts, aInt_eq]
      rfl
    repeat apply W_assoc
    refine W_if (b := false) ?_ ?_ ?_
    · simp +decide only [aevs, aev, aResults, rget_rput, if_true, if_false]
    · intro h; cases h
    intro _
    refine W_exitq ⟨fun h => (nomatch h), fun _ => ?_, fun h1 h2 => absurd rfl h2⟩
    repeat apply W_assoc
    apply W_reg
    · intro callf
      simp +decide only [aOps, rinit, aWanted, ↓bite_eq, ↓reduceIte, aStep_eq, aStepOld, aOp, opBox, opBin, opUn, opCall, opIndexAddr, opFieldAddr, opLoad, opStore, opPick, opExtract, opSlice, opBuildSlice, opBuild, aRow, aev, aevs, aparts, ann, unn, aPut, if_true, if_false, rget_rput, flat, flat1, Nat.blt_eq, aBuiltin, aLen, List.getElem?_toArray, List.getElem?_cons_zero, List.getElem?_cons_succ, Nat.zero_add, Option.bind_some, beq_self_eq_true, Bool.not_true, Bool.not_false, Bool.true_beq, Bool.false_beq, h3, h4, d2, d3, d4, opPick, aBin, aInts, aInt_eq]
      rfl
    refine W_ret ⟨Nat.le_refl _, [.bool true], ?_, rfl, e1.trans E2⟩
    simp +decide only [aevs, aev, aResults, rget_rput, if_true, if_false]
  have d1 : decide ((i : Int) < (L.length : Int)) = true := decide_eq_true (by omega)
  repeat apply W_assoc
  apply W_reg
  · intro callf
    simp +decide only [aOps, rinit, aWanted, ↓bite_eq, ↓reduceIte, aStep_eq, aStepOld, aOp, opBox, opBin, opUn, opCall, opIndexAddr, opFieldAddr, opLoad, opStore, opPick, opExtract, opSlice, opBuildSlice, opBuild, aRow, aev, aevs, aparts, ann, unn, aPut, if_true, if_false, rget_rput, flat, flat1, Nat.blt_eq, aBuiltin, aLen, List.getElem?_toArray, List.getElem?_cons_zero, List.getElem?_cons_succ, Nat.zero_add, Option.bind_some, beq_self_eq_true, Bool.not_true, Bool.not_false, Bool.true_beq, Bool.false_beq, h14, h15, d1, aBin, aInts, aInt_eq]
    rfl
  repeat apply W_assoc
  refine W_if (b := true) ?_ ?_ ?_
  · simp +decide only [aevs, aev, aResults, rget_rput, if_true, if_false]
  rotate_left
  · intro h; cases h
  intro _
  apply W_skipq
  refine W_blk ?_
  obtain ⟨l, hl⟩ : ∃ l, L[i]? = some l := ⟨L[i], by simp [hlt]⟩
  have hlm := List.mem_of_getElem? hl
  obtain ⟨b, off, c', w, hvw, hb, hix, hld, hrow⟩ := H.at hl
  have hld2 := hld σ2 (E2.get b hb)
  rw [← h13] at hix
  obtain ⟨wb, wc, hw⟩ := hrow.len
  subst hw
  have hll := hs.rows l hlm
  have w4 : IntKind.i64.wrap ((a : Int) + (l.length : Int)) = ((a + l.length : Nat) : Int) := by rw [wrap64_id _ (by omega) (by omega)]; omega
  rw [h13] at hix
  repeat apply W_assoc
  apply W_reg
  · intro callf
    simp +decide only [aOps, rinit, aWanted, ↓bite_eq, ↓reduceIte, aStep_eq, aStepOld, aOp, opBox, opBin, opUn, opCall, opIndexAddr, opFieldAddr, opLoad, opStore, opPick, opExtract, opSlice, opBuildSlice, opBuild, aRow, aev, aevs, aparts, ann, unn, aPut, if_true, if_false, rget_rput, flat, flat1, Nat.blt_eq, aBuiltin, aLen, List.getElem?_toArray, List.getElem?_cons_zero, List.getElem?_cons_succ, Nat.zero_add, Option.bind_some, beq_self_eq_true, Bool.not_true, Bool.not_false, Bool.true_beq, Bool.false_beq, h13, h15, hix, hld2]
    rfl
  repeat apply W_assoc
  apply W_reg
  · intro callf
    simp +decide only [aOps, rinit, aWanted, ↓bite_eq, ↓reduceIte, aStep_eq, aStepOld, aOp, opBox, opBin, opUn, opCall, opIndexAddr, opFieldAddr, opLoad, opStore, opPick, opExtract, opSlice, opBuildSlice, opBuild, aRow, aev, aevs, aparts, ann, unn, aPut, if_true, if_false, rget_rput, flat, flat1, Nat.blt_eq, aBuiltin, aLen, List.getElem?_toArray, List.getElem?_cons_zero, List.getElem?_cons_succ, Nat.zero_add, Option.bind_some, beq_self_eq_true, Bool.not_true, Bool.not_false, Bool.true_beq, Bool.false_beq, h4, w4, Tryz.underlying60, goInt, aBin, aInts, aInt_eq]
    rfl
  repeat apply W_assoc
  apply W_reg
  · intro callf
    simp +decide only [aOps, rinit, aWanted, ↓bite_eq, ↓reduceIte, aStep_eq, aStepOld, aOp, opBox, opBin, opUn, opCall, opIndexAddr, opFieldAddr, opLoad, opStore, opPick, opExtract, opSlice, opBuildSlice, opBuild, aRow, aev, aevs, aparts, ann, unn, aPut, if_true, if_false, rget_rput, flat, flat1, Nat.blt_eq, aBuiltin, aLen, List.getElem?_toArray, List.getElem?_cons_zero, List.getElem?_cons_succ, Nat.zero_add, Option.bind_some, beq_self_eq_true, Bool.not_true, Bool.not_false, Bool.true_beq, Bool.false_beq, Tryz.underlying60, goInt]
    rfl
  refine W_tail ?_
  repeat apply W_assoc
  refine W_for (fun (j : Nat) r s => j ≤ l.length ∧ Ext σ1 s ∧ rget r 3 = .int .i64 (L.length : Int) ∧ rget r 4 = .int .i64 ((a + l.length : Nat) : Int) ∧ rget r 13 = .slice base L.length cap ∧ rget r 14 = .int .i64 (L.length : Int) ∧ rget r 15 = .int .i64 (i : Int) ∧ rget r 23 = .slice wb l.length wc ∧ rget r 24 = .int .i64 (l.length : Int) ∧ rget r 25 = .int .i64 (j : Int)) (fun j => l.length - j) ?_ 0 ?_
  rotate_left
  · refine ⟨Nat.zero_le _, E2, ?_, ?_, ?_, ?_, ?_, ?_, ?_, ?_⟩ <;> simp +decide only [rget_rput, rinit, if_true, if_false, goInt, h3, h4, h13, h14, h15] <;> first | exact True.intro | rfl
  clear h3 h4 h13 h14 h15 hld2
  rintro j r σ3 ⟨hj, E3, h3, h4, h13, h14, h15, h23, h24, h25⟩
  try dsimp only at hj h25
  by_cases hjl : j < l.length
  rotate_left
  · have d2 : decide ((j : Int) < (l.length : Int)) = false := decide_eq_false (by omega)
    repeat apply W_assoc
    apply W_reg
    · intro callf
      simp +decide only [aOps, rinit, aWanted, ↓bite_eq, ↓reduceIte, aStep_eq, aStepOld, aOp, opBox, opBin, opUn, opCall, opIndexAddr, opFieldAddr, opLoad, opStore, opPick, opExtract, opSlice, opBuildSlice, opBuild, aRow, aev, aevs, aparts, ann, unn, aPut, if_true, if_false, rget_rput, flat, flat1, Nat.blt_eq, aBuiltin, aLen, List.getElem?_toArray, List.getElem?_cons_zero, List.getElem?_cons_succ, Nat.zero_add, Option.bind_some, beq_self_eq_true, Bool.not_true, Bool.not_false, Bool.true_beq, Bool.false_beq, h24, h25, d2, aBin, aInts, aInt_eq]
      rfl
    repeat apply W_assoc
    refine W_if (b := false) ?_ ?_ ?_
    · simp +decide only [aevs, aev, aResults, rget_rput, if_true, if_false]
    · intro h; cases h
    intro _
    refine W_exitq ⟨fun h => (nomatch h), fun _ => ?_, fun h1 h2 => absurd rfl h2⟩
    refine W_skip ⟨fun _ => ?_, fun h => absurd rfl h⟩
    refine W_tail ?_
    have w6 : IntKind.i64.wrap ((i : Int) + 1) = ((i + 1 : Nat) : Int) := by rw [wrap64_id _ (by omega) (by omega)]; omega
    repeat apply W_assoc
    apply W_reg
    · intro callf
      simp +decide only [aOps, rinit, aWanted, ↓bite_eq, ↓reduceIte, aStep_eq, aStepOld, aOp, opBox, opBin, opUn, opCall, opIndexAddr, opFieldAddr, opLoad, opStore, opPick, opExtract, opSlice, opBuildSlice, opBuild, aRow, aev, aevs, aparts, ann, unn, aPut, if_true, if_false, rget_rput, flat, flat1, Nat.blt_eq, aBuiltin, aLen, List.getElem?_toArray, List.getElem?_cons_zero, List.getElem?_cons_succ, Nat.zero_add, Option.bind_some, beq_self_eq_true, Bool.not_true, Bool.not_false, Bool.true_beq, Bool.false_beq, h15, w6, aBin, aInts, aInt_eq]
      rfl
    refine W_skip ⟨fun _ => ⟨(i + 1, a + l.length), ?_, ?_⟩, fun h => (nomatch h), fun h => absurd rfl h⟩
    · show L.length - (i + 1) < L.length - i
      omega
    · refine ⟨by show i + 1 ≤ _; omega, by show a + l.length ≤ 3 * (i + 1); omega, E3, ?_, ?_, ?_, ?_, ?_⟩ <;> simp +decide only [rget_rput, if_true, if_false, h3, h4, h13, h14]
  have d2 : decide ((j : Int) < (l.length : Int)) = true := decide_eq_true (by omega)
  repeat apply W_assoc
  apply W_reg
  · intro callf
    simp +decide only [aOps, rinit, aWanted, ↓bite_eq, ↓reduceIte, aStep_eq, aStepOld, aOp, opBox, opBin, opUn, opCall, opIndexAddr, opFieldAddr, opLoad, opStore, opPick, opExtract, opSlice, opBuildSlice, opBuild, aRow, aev, aevs, aparts, ann, unn, aPut, if_true, if_false, rget_rput, flat, flat1, Nat.blt_eq, aBuiltin, aLen, List.getElem?_toArray, List.getElem?_cons_zero, List.getElem?_cons_succ, Nat.zero_add, Option.bind_some, beq_self_eq_true, Bool.not_true, Bool.not_false, Bool.true_beq, Bool.false_beq, h24, h25, d2, aBin, aInts, aInt_eq]
    rfl
  repeat apply W_assoc
  refine W_if (b := true) ?_ ?_ ?_
  · simp +decide only [aevs, aev, aResults, rget_rput, if_true, if_false]
  rotate_left
  · intro h; cases h
  intro _
  apply W_skipq
  refine W_blk ?_
  obtain ⟨x, hx⟩ : ∃ x, l[j]? = some x := ⟨l[j], by simp [hjl]⟩
  have hxm := List.mem_of_getElem? hx
  obtain ⟨b2, off2, c2, hw2, hb2, hix2, hld3, -⟩ := hrow.at hx
  have hld4 := hld3 σ3 (E3.get b2 hb2)
  repeat apply W_assoc
  apply W_reg
  · intro callf
    simp +decide only [aOps, rinit, aWanted, ↓bite_eq, ↓reduceIte, aStep_eq, aStepOld, aOp, opBox, opBin, opUn, opCall, opIndexAddr, opFieldAddr, opLoad, opStore, opPick, opExtract, opSlice, opBuildSlice, opBuild, aRow, aev, aevs, aparts, ann, unn, aPut, if_true, if_false, rget_rput, flat, flat1, Nat.blt_eq, aBuiltin, aLen, List.getElem?_toArray, List.getElem?_cons_zero, List.getElem?_cons_succ, Nat.zero_add, Option.bind_some, beq_self_eq_true, Bool.not_true, Bool.not_false, Bool.true_beq, Bool.false_beq, h23, h25, hix2, hld4, allocA, storeA]
    rfl
  have D := decl_at σ3 x
  have E4 := E3.trans (decl_ext σ3 x)
  generalize decl σ3 x = σ4 at D E4
  have d3 : decide ((x.2 : Int) < 0) = false := decide_eq_false (by omega)
  have d4 : decide ((x.2 : Int) ≥ (L.length : Int)) = false := decide_eq_false (by have := hs.to l hlm x hxm; omega)
  refine W_tail ?_
  repeat apply W_assoc
  apply W_regL
  apply Ls_pre 2
  · intro callf
    simp +decide only [List.take, aOps, rinit, aWanted, ↓bite_eq, ↓reduceIte, aStep_eq, aStepOld, aOp, opBox, opBin, opUn, opCall, opIndexAddr, opFieldAddr, opLoad, opStore, opPick, opExtract, opSlice, opBuildSlice, opBuild, aRow, aev, aevs, aparts, ann, unn, aPut, if_true, if_false, rget_rput, flat, flat1, Nat.blt_eq, aBuiltin, aLen, List.getElem?_toArray, List.getElem?_cons_zero, List.getElem?_cons_succ, Nat.zero_add, Option.bind_some, beq_self_eq_true, Bool.not_true, Bool.not_false, Bool.true_beq, Bool.false_beq, fldA0, D.ev]
    rfl
  dsimp only [List.drop]
  refine Ls_fn (vs := [.int .i64 (x.1 : Int)]) (by simp +decide only [aevs, aev, aResults, rget_rput, if_true, if_false]) (by decide) (C.mono (event_c (hs.ev l hlm x hxm)) ?_)
  rintro v σ' ⟨rfl, E5⟩
  have D5 := D.ext E5
  have E6 := E4.trans E5
  apply Ls_all
  · intro callf
    simp +decide only [aOps, rinit, aWanted, ↓bite_eq, ↓reduceIte, aStep_eq, aStepOld, aOp, opBox, opBin, opUn, opCall, opIndexAddr, opFieldAddr, opLoad, opStore, opPick, opExtract, opSlice, opBuildSlice, opBuild, aRow, aev, aevs, aparts, ann, unn, aPut, if_true, if_false, rget_rput, flat, flat1, Nat.blt_eq, aBuiltin, aLen, List.getElem?_toArray, List.getElem?_cons_zero, List.getElem?_cons_succ, Nat.zero_add, Option.bind_some, beq_self_eq_true, Bool.not_true, Bool.not_false, Bool.true_beq, Bool.false_beq, not_b, fldA1, D5.to, h3, d3, d4, opPick, aBin, aInts, aInt_eq]
    rfl
  repeat apply W_assoc
  refine W_if (b := false) ?_ ?_ ?_
  · simp +decide only [aevs, aev, aResults, rget_rput, if_true, if_false]
  · intro h; cases h
  intro _
  refine W_skipq ?_
  refine W_skip ⟨fun _ => ?_, fun h => absurd rfl h⟩
  refine W_tail ?_
  have w6 : IntKind.i64.wrap ((j : Int) + 1) = ((j + 1 : Nat) : Int) := by rw [wrap64_id _ (by omega) (by omega)]; omega
  repeat apply W_assoc
  apply W_reg
  · intro callf
    simp +decide only [aOps, rinit, aWanted, ↓bite_eq, ↓reduceIte, aStep_eq, aStepOld, aOp, opBox, opBin, opUn, opCall, opIndexAddr, opFieldAddr, opLoad, opStore, opPick, opExtract, opSlice, opBuildSlice, opBuild, aRow, aev, aevs, aparts, ann, unn, aPut, if_true, if_false, rget_rput, flat, flat1, Nat.blt_eq, aBuiltin, aLen, List.getElem?_toArray, List.getElem?_cons_zero, List.getElem?_cons_succ, Nat.zero_add, Option.bind_some, beq_self_eq_true, Bool.not_true, Bool.not_false, Bool.true_beq, Bool.false_beq, h25, w6, aBin, aInts, aInt_eq]
    rfl
  refine W_skip ⟨fun _ => ⟨j + 1, ?_, ?_⟩, fun h => (nomatch h), fun h => absurd rfl h⟩
  · show l.length - (j + 1) < l.length - j
    omega
  · refine ⟨by show j + 1 ≤ _; omega, E6, ?_, ?_, ?_, ?_, ?_, ?_, ?_, ?_⟩ <;> simp +decide only [rget_rput, if_true, if_false, h3, h4, h13, h14, h15, h23, h24]

end Go.Proofs.YtacpdefmnijhnaaGreat.U
