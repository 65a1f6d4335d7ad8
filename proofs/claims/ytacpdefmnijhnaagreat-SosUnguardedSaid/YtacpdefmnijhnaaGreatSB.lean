/- Pieces of code. -/
import Derived.Test.YtacpdefmnijhnaaGreatSA
set_option linter.unusedSimpArgs false
set_option linter.unusedVariables false
namespace Go.Proofs.YtacpdefmnijhnaaGreat.U
open Abs

theorem elC : El Tryz.prog 24 23 3 := ⟨Tryz.underlying24, ⟨(Tryz.prog.info? 23).get!, (((Tryz.prog.info? 23).get!).zero).get!, by kernel_rfl, by kernel_rfl, Nat.le_of_ble_eq_true (by kernel_rfl), by kernel_rfl, by kernel_rfl, by kernel_rfl⟩, by decide⟩
theorem elK : El Tryz.prog 158 24 1 := ⟨Tryz.underlying158, ⟨(Tryz.prog.info? 24).get!, (((Tryz.prog.info? 24).get!).zero).get!, by kernel_rfl, by kernel_rfl, Nat.le_of_ble_eq_true (by kernel_rfl), by kernel_rfl, by kernel_rfl, by kernel_rfl⟩, by decide⟩
theorem buildC {a b c : Int} : aBuild Tryz.prog 23 [(0, .int .i64 a), (1, .int .i64 b), (2, .int .i64 c)] = some (.agg #[.int .i64 a, .int .i64 b, .int .i64 c]) := by kernel_rfl
theorem sliceC1 {σ : AS} {a b c : Int} : aBuildSlice Tryz.prog σ 24 1 [(0, .agg #[.int .i64 a, .int .i64 b, .int .i64 c])] = some (.slice (some ⟨σ.next, 0, none⟩) 1 1, σ.new ⟨1, 23, 0, [.int .i64 a, .int .i64 b, .int .i64 c], []⟩) := by kernel_rfl
theorem idxK {b len cap i : Nat} (h : i < len) : aIndexAddr Tryz.prog 158 (.slice (some ⟨b, 0, none⟩) len cap) (.int .i64 (i : Int)) = some (.pointer (some ⟨b, i, none⟩)) := by
  rw [aIndexAddr_slice (inf := (Tryz.prog.info? 24).get!) (sz := 1) Tryz.underlying158 (by kernel_rfl) (by kernel_rfl) h, Nat.mul_one, Nat.zero_add]

/-- A piece of code of m nodes. -/
def CodeV (σ : AS) (v : Value) (m : Nat) : Prop := 0 < m ∧ ∃ b c cs, v = .slice (some ⟨b, 0, none⟩) m c ∧ b < σ.next ∧ (σ.get b).elem = 23 ∧ cs.length = m * 3 ∧ cs.all one = true ∧ aCells σ ⟨b, 0, none⟩ (m * 3) = some cs
/-- Pieces of code in a row. -/
def KidsV (σ : AS) (v : Value) (rows : List Value) : Prop := (v = .slice none 0 0 ∧ rows = []) ∨ ∃ b c, v = .slice (some ⟨b, 0, none⟩) rows.length c ∧ b < σ.next ∧ aCells σ ⟨b, 0, none⟩ rows.length = some rows

section
variable {σ σ' : AS} {v : Value} {m : Nat} {rows : List Value}
theorem CodeV.keep (h : CodeV σ v m) (hn : σ.next ≤ σ'.next) (hg : ∀ b, b < σ.next → (σ.get b).elem = 23 → σ'.get b = σ.get b) : CodeV σ' v m := by
  obtain ⟨h0, b, c, cs, h1, h2, h3, h4, h5, h6⟩ := h
  have g := hg b h2 h3
  refine ⟨h0, b, c, cs, h1, Nat.lt_of_lt_of_le h2 hn, by rw [g]; exact h3, h4, h5, ?_⟩
  rw [← h6]
  unfold aCells
  simp only [g]
theorem CodeV.ext (h : CodeV σ v m) (e : Ext σ σ') : CodeV σ' v m := h.keep e.nxt fun b hb _ => e.get b hb
theorem CodeV.extT {tb : Nat} {lv : Value} {ints : List Int} (h : CodeV σ v m) (t : Tape tb σ lv ints) (e : ExtX [tb] σ σ') : CodeV σ' v m := h.keep e.nxt fun b hb he => e.get b hb (fun hm => by
  obtain rfl : b = tb := by simpa using hm
  obtain ⟨p, hp⟩ := t.own
  rw [hp] at he
  exact absurd he (by decide : ¬ (77 : Nat) = 23))
theorem CodeV.src (h : CodeV σ v m) : ∃ cs, cs.length = m * 3 ∧ cs.all one = true ∧ ∀ inf : TypeInfo, inf.size = 3 → aSource Tryz.prog σ false inf v = some (m, cs) := by
  obtain ⟨h0, b, c, cs, rfl, h2, h3, h4, h5, h6⟩ := h
  refine ⟨cs, h4, h5, fun inf hs => ?_⟩
  unfold aSource
  simp only [Bool.false_eq_true, if_false, hs, aCellsS_none, h6]
theorem CodeV.one (h : CodeV σ v m) : one v = true := by
  obtain ⟨h0, b, c, cs, rfl, _⟩ := h
  rfl
theorem CodeV.sl (h : CodeV σ v m) : ∃ p n c, v = .slice p n c := by
  obtain ⟨h0, b, c, cs, rfl, _⟩ := h
  exact ⟨_, _, _, rfl⟩
theorem CodeV.of {lo : Nat} {cs : List Value} (h : StkC lo 23 3 σ v m cs) (h0 : 0 < m) : CodeV σ v m := by
  rcases h with ⟨rfl, c1, c2, b, rfl, h3, h4, h5⟩ | ⟨c1, c2, ⟨_, h3⟩ | ⟨b, n, vals, rfl, h4, h5, h6, h7, h8, h9⟩⟩
  · exact ⟨h0, b, 1, cs, rfl, h4, by rw [h5], by omega, c2, cells_at h5 (by rw [List.drop_zero, List.take_of_length_le (by omega)]) (by omega)⟩
  · omega
  · refine ⟨h0, b, _, cs, rfl, h6, by rw [h7], c1, c2, ?_⟩
    unfold aCells
    simp only [h7, hasLen_eq, Nat.zero_add]
    rw [ble_t (show m * 3 ≤ vals.length by omega), ← h9]
    rfl

theorem KidsV.len (h : KidsV σ v rows) : ∃ b c, v = .slice b rows.length c := by
  rcases h with ⟨rfl, rfl⟩ | ⟨b, c, rfl, _⟩
  · exact ⟨_, _, rfl⟩
  · exact ⟨_, _, rfl⟩
theorem KidsV.at (h : KidsV σ v rows) {i : Nat} {w : Value} (hi : rows[i]? = some w) : ∃ b, b < σ.next ∧ aIndexAddr Tryz.prog 158 v (.int .i64 (i : Int)) = some (.pointer (some ⟨b, i, none⟩)) ∧ ∀ σ' : AS, σ'.get b = σ.get b → aLoad Tryz.prog σ' 24 (.pointer (some ⟨b, i, none⟩)) = some w := by
  obtain ⟨h1, h2⟩ := List.getElem?_eq_some_iff.1 hi
  rcases h with ⟨rfl, rfl⟩ | ⟨b, c, rfl, hb, hc⟩
  · cases h1
  · refine ⟨b, hb, idxK h1, fun σ' hg => load1 Tryz.underlying24 rfl ?_⟩
    have h5 : aCells σ' ⟨b, 0, none⟩ rows.length = some rows := by rw [← hc]; unfold aCells; simp only [hg]
    have := cells_sub h5 (i := i) (m := 1) (by omega)
    rw [Nat.zero_add] at this
    rw [this, List.drop_eq_getElem_cons h1, h2]
    rfl
theorem KidsV.of {lo : Nat} (h : Stk lo 24 1 σ v rows.length rows) : KidsV σ v rows := by
  obtain ⟨c1, c2, ⟨h2, h3⟩ | ⟨b, n, vals, rfl, h4, h5, h6, h7, h8, h9⟩⟩ := h
  · exact .inl ⟨h2, List.length_eq_zero_iff.1 h3⟩
  · refine .inr ⟨b, _, rfl, h6, ?_⟩
    unfold aCells
    simp only [h7, hasLen_eq, Nat.zero_add]
    rw [ble_t (show rows.length ≤ vals.length by omega)]
    rw [Nat.mul_one] at h9
    rw [List.drop_zero, h9]
    rfl
theorem KidsV.block {b E n : Nat} (hb : σ.get b = ⟨1, E, 0, rows, []⟩) (hn : b < σ.next) (hl : rows.length = n) : KidsV σ (.slice (some ⟨b, 0, none⟩) n n) rows := by
  subst hl
  exact .inr ⟨b, _, rfl, hn, cells_at hb (by rw [List.drop_zero, List.take_of_length_le (Nat.le_refl _)]) (by omega)⟩
end

set_option maxHeartbeats 8000000 in
theorem code_c {σ : AS} {lv : Value} {rows : List Value} {B : Nat} (op k : Int) (h : KidsV σ lv rows) (hk : ∀ v ∈ rows, ∃ m, CodeV σ v m ∧ m ≤ B) (hn : rows.length ≤ 1024) (hB : B ≤ 200000) (hT : 1 + rows.length * B ≤ 900000) :
    C Tryz.prog KA 0 56 [.int .i64 op, .int .i64 k, lv] σ fun u σ' => (∃ m, CodeV σ' u m ∧ m ≤ 1 + rows.length * B) ∧ Ext σ σ' := by
  obtain ⟨la, lc, hlv⟩ := h.len
  refine C_of (ka rfl rfl) Tryz.func56 rfl (Nat.le_of_ble_eq_true rfl) ?_
  show W _ _ _ 28 _ _ _ _
  unfold Tryz.f56
  dsimp only
  repeat apply W_assoc
  apply W_reg
  · intro callf
    simp +decide only [aOps, rinit, aWanted, ↓bite_eq, ↓reduceIte, aStep_eq, aStepOld, aOp, opBox, opBin, opUn, opCall, opIndexAddr, opFieldAddr, opLoad, opStore, opPick, opExtract, opSlice, opBuildSlice, opBuild, aRow, aev, aevs, aparts, ann, unn, aPut, if_true, if_false, rget_rput, flat, flat1, Nat.blt_eq, aBuiltin, aLen, List.getElem?_toArray, List.getElem?_cons_zero, List.getElem?_cons_succ, Nat.zero_add, Option.bind_some, beq_self_eq_true, Bool.not_true, Bool.not_false, Bool.true_beq, Bool.false_beq]
    rfl
  repeat apply W_assoc
  apply W_reg
  · intro callf
    simp +decide only [aOps, rinit, aWanted, ↓bite_eq, ↓reduceIte, aStep_eq, aStepOld, aOp, opBox, opBin, opUn, opCall, opIndexAddr, opFieldAddr, opLoad, opStore, opPick, opExtract, opSlice, opBuildSlice, opBuild, aRow, aev, aevs, aparts, ann, unn, aPut, if_true, if_false, rget_rput, flat, flat1, Nat.blt_eq, aBuiltin, aLen, List.getElem?_toArray, List.getElem?_cons_zero, List.getElem?_cons_succ, Nat.zero_add, Option.bind_some, beq_self_eq_true, Bool.not_true, Bool.not_false, Bool.true_beq, Bool.false_beq, hlv, Tryz.underlying158, goInt, buildC, sliceC1]
    rfl
  have e1 := Ext.new σ ⟨1, 23, 0, [.int .i64 op, .int .i64 k, .int .i64 (rows.length : Int)], []⟩
  have S : StkC σ.next 23 3 (σ.new ⟨1, 23, 0, [.int .i64 op, .int .i64 k, .int .i64 (rows.length : Int)], []⟩) (.slice (some ⟨σ.next, 0, none⟩) 1 1) 1 [.int .i64 op, .int .i64 k, .int .i64 (rows.length : Int)] := .inl ⟨rfl, rfl, rfl, σ.next, rfl, Nat.le_refl _, Nat.lt_succ_self _, by rw [AS.get_new, if_pos rfl]⟩
  generalize [Value.int .i64 op, .int .i64 k, .int .i64 (rows.length : Int)] = cs at e1 S
  generalize σ.new ⟨1, 23, 0, cs, []⟩ = σ1 at e1 S
  repeat apply W_assoc
  apply W_reg
  · intro callf
    simp +decide only [aOps, rinit, aWanted, ↓bite_eq, ↓reduceIte, aStep_eq, aStepOld, aOp, opBox, opBin, opUn, opCall, opIndexAddr, opFieldAddr, opLoad, opStore, opPick, opExtract, opSlice, opBuildSlice, opBuild, aRow, aev, aevs, aparts, ann, unn, aPut, if_true, if_false, rget_rput, flat, flat1, Nat.blt_eq, aBuiltin, aLen, List.getElem?_toArray, List.getElem?_cons_zero, List.getElem?_cons_succ, Nat.zero_add, Option.bind_some, beq_self_eq_true, Bool.not_true, Bool.not_false, Bool.true_beq, Bool.false_beq]
    rfl
  repeat apply W_assoc
  refine W_for (fun (x : Nat × Value × Nat) r s => x.1 ≤ rows.length ∧ Ext σ s ∧ (∃ cs, StkC σ.next 23 3 s x.2.1 x.2.2 cs) ∧ 1 ≤ x.2.2 ∧ x.2.2 ≤ 1 + x.1 * B ∧ rget r 2 = lv ∧ rget r 7 = x.2.1 ∧ rget r 8 = .int .i64 (x.1 : Int)) (fun x => rows.length - x.1) ?_ (0, .slice (some ⟨σ.next, 0, none⟩) 1 1, 1) ?_
  rotate_left
  · refine ⟨Nat.zero_le _, e1, ⟨cs, S⟩, Nat.le_refl _, by show 1 ≤ 1 + 0 * B; omega, ?_, ?_, ?_⟩ <;> simp +decide only [rget_rput, rinit, if_true, if_false, goInt, hlv] <;> first | exact True.intro | rfl
  clear e1 S
  rintro ⟨i, cv, m⟩ r s ⟨hi, E, ⟨cs, S⟩, hm1, hm, h2, h7, h8⟩
  dsimp only at hi S hm1 hm h7 h8
  by_cases hlt : i < rows.length
  rotate_left
  · have d1 : decide ((i : Int) < (rows.length : Int)) = false := decide_eq_false (by omega)
    obtain rfl : i = rows.length := by omega
    repeat apply W_assoc
    apply W_reg
    · intro callf
      simp +decide only [aOps, rinit, aWanted, ↓bite_eq, ↓reduceIte, aStep_eq, aStepOld, aOp, opBox, opBin, opUn, opCall, opIndexAddr, opFieldAddr, opLoad, opStore, opPick, opExtract, opSlice, opBuildSlice, opBuild, aRow, aev, aevs, aparts, ann, unn, aPut, if_true, if_false, rget_rput, flat, flat1, Nat.blt_eq, aBuiltin, aLen, List.getElem?_toArray, List.getElem?_cons_zero, List.getElem?_cons_succ, Nat.zero_add, Option.bind_some, beq_self_eq_true, Bool.not_true, Bool.not_false, Bool.true_beq, Bool.false_beq, h2, h8, hlv, Tryz.underlying158, goInt, lssI, d1]
      rfl
    repeat apply W_assoc
    refine W_if (b := false) ?_ ?_ ?_
    · simp +decide only [aevs, aev, aResults, rget_rput, if_true, if_false]
    · intro h; cases h
    intro _
    refine W_exitq ⟨fun h => (nomatch h), fun _ => ?_, fun h1 h2 => absurd rfl h2⟩
    repeat apply W_assoc
    apply W_reg
    · intro callf
      simp +decide only [aOps, rinit, aWanted, ↓bite_eq, ↓reduceIte, aStep_eq, aStepOld, aOp, opBox, opBin, opUn, opCall, opIndexAddr, opFieldAddr, opLoad, opStore, opPick, opExtract, opSlice, opBuildSlice, opBuild, aRow, aev, aevs, aparts, ann, unn, aPut, if_true, if_false, rget_rput, flat, flat1, Nat.blt_eq, aBuiltin, aLen, List.getElem?_toArray, List.getElem?_cons_zero, List.getElem?_cons_succ, Nat.zero_add, Option.bind_some, beq_self_eq_true, Bool.not_true, Bool.not_false, Bool.true_beq, Bool.false_beq, h7]
      rfl
    refine W_ret ⟨Nat.le_refl _, [cv], ?_, ⟨m, CodeV.of S hm1, hm⟩, E⟩
    simp +decide only [aevs, aev, aResults, rget_rput, if_true, if_false]
  have d1 : decide ((i : Int) < (rows.length : Int)) = true := decide_eq_true (by omega)
  repeat apply W_assoc
  apply W_reg
  · intro callf
    simp +decide only [aOps, rinit, aWanted, ↓bite_eq, ↓reduceIte, aStep_eq, aStepOld, aOp, opBox, opBin, opUn, opCall, opIndexAddr, opFieldAddr, opLoad, opStore, opPick, opExtract, opSlice, opBuildSlice, opBuild, aRow, aev, aevs, aparts, ann, unn, aPut, if_true, if_false, rget_rput, flat, flat1, Nat.blt_eq, aBuiltin, aLen, List.getElem?_toArray, List.getElem?_cons_zero, List.getElem?_cons_succ, Nat.zero_add, Option.bind_some, beq_self_eq_true, Bool.not_true, Bool.not_false, Bool.true_beq, Bool.false_beq, h2, h8, hlv, Tryz.underlying158, goInt, lssI, d1]
    rfl
  repeat apply W_assoc
  refine W_if (b := true) ?_ ?_ ?_
  · simp +decide only [aevs, aev, aResults, rget_rput, if_true, if_false]
  rotate_left
  · intro h; cases h
  intro _
  apply W_skipq
  refine W_blk ?_
  refine W_tail ?_
  obtain ⟨w, hw⟩ : ∃ w, rows[i]? = some w := ⟨rows[i], List.getElem?_eq_getElem _⟩
  obtain ⟨mw, hcw, hmw⟩ := hk w (List.mem_of_getElem? hw)
  obtain ⟨kb, hkb, hki, hkl⟩ := h.at hw
  have q1 := hkl s (E.get kb hkb)
  obtain ⟨cw, c1, c2, c3⟩ := (hcw.ext E).src
  have hb1 : (i + 1) * B ≤ rows.length * B := Nat.mul_le_mul_right B hlt
  have hb2 : (i + 1) * B = i * B + B := by rw [Nat.add_mul, Nat.one_mul]
  obtain ⟨cv2, s2, a1, a2, a3, a4, a5, -⟩ := StkC.push elC S E.nxt c3 c1 c2 (by omega) hcw.1
  have w6 : IntKind.i64.wrap ((i : Int) + 1) = ((i + 1 : Nat) : Int) := by rw [wrap64_id _ (by omega) (by omega)]; omega
  repeat apply W_assoc
  apply W_reg
  · intro callf
    simp +decide only [aOps, rinit, aWanted, ↓bite_eq, ↓reduceIte, aStep_eq, aStepOld, aOp, opBox, opBin, opUn, opCall, opIndexAddr, opFieldAddr, opLoad, opStore, opPick, opExtract, opSlice, opBuildSlice, opBuild, aRow, aev, aevs, aparts, ann, unn, aPut, if_true, if_false, rget_rput, flat, flat1, Nat.blt_eq, aBuiltin, aLen, List.getElem?_toArray, List.getElem?_cons_zero, List.getElem?_cons_succ, Nat.zero_add, Option.bind_some, beq_self_eq_true, Bool.not_true, Bool.not_false, Bool.true_beq, Bool.false_beq, h2, h7, h8, hki, q1, a1]
    rfl
  refine W_skip ⟨fun _ => ?_, fun h => absurd rfl h⟩
  refine W_tail ?_
  repeat apply W_assoc
  apply W_reg
  · intro callf
    simp +decide only [aOps, rinit, aWanted, ↓bite_eq, ↓reduceIte, aStep_eq, aStepOld, aOp, opBox, opBin, opUn, opCall, opIndexAddr, opFieldAddr, opLoad, opStore, opPick, opExtract, opSlice, opBuildSlice, opBuild, aRow, aev, aevs, aparts, ann, unn, aPut, if_true, if_false, rget_rput, flat, flat1, Nat.blt_eq, aBuiltin, aLen, List.getElem?_toArray, List.getElem?_cons_zero, List.getElem?_cons_succ, Nat.zero_add, Option.bind_some, beq_self_eq_true, Bool.not_true, Bool.not_false, Bool.true_beq, Bool.false_beq, h8, w6, aBin, aInts, aInt_eq]
    rfl
  refine W_skip ⟨fun _ => ⟨(i + 1, cv2, m + mw), ?_, ?_⟩, fun h => (nomatch h), fun h => absurd rfl h⟩
  · show rows.length - (i + 1) < rows.length - i
    omega
  · refine ⟨by show i + 1 ≤ _; omega, ⟨Nat.le_trans E.nxt a3, fun j hj => (a4 j (Nat.lt_of_lt_of_le hj E.nxt) fun ho => by have := (S.own ho).1; omega).trans (E.get j hj), fun q g1 g2 => a5 q g2 (E.low q g1 g2)⟩, ⟨_, .inr a2⟩, by show 1 ≤ m + mw; omega, by show m + mw ≤ 1 + (i + 1) * B; omega, ?_, ?_, ?_⟩ <;> simp +decide only [rget_rput, if_true, if_false, h2]

theorem sliceK1 {σ : AS} {p : Option Addr} {n c : Nat} : aBuildSlice Tryz.prog σ 158 1 [(0, .slice p n c)] = some (.slice (some ⟨σ.next, 0, none⟩) 1 1, σ.new ⟨1, 24, 0, [.slice p n c], []⟩) := by kernel_rfl
theorem sliceK2 {σ : AS} {p q : Option Addr} {n c n' c' : Nat} : aBuildSlice Tryz.prog σ 158 2 [(0, .slice p n c), (1, .slice q n' c')] = some (.slice (some ⟨σ.next, 0, none⟩) 2 2, σ.new ⟨1, 24, 0, [.slice p n c, .slice q n' c'], []⟩) := by kernel_rfl
theorem sliceK3 {σ : AS} {p q t : Option Addr} {n c n' c' n2 c2 : Nat} : aBuildSlice Tryz.prog σ 158 3 [(0, .slice p n c), (1, .slice q n' c'), (2, .slice t n2 c2)] = some (.slice (some ⟨σ.next, 0, none⟩) 3 3, σ.new ⟨1, 24, 0, [.slice p n c, .slice q n' c', .slice t n2 c2], []⟩) := by kernel_rfl

set_option maxHeartbeats 8000000 in
theorem gset_c {σ : AS} {tb : Nat} {lv : Value} {ints : List Int} (h : Tape tb σ lv ints) : C Tryz.prog KA 0 57 [.pointer (some ⟨tb, 0, none⟩)] σ fun u σ' => (∃ m, CodeV σ' u m ∧ m ≤ 1025) ∧ Tape tb σ' lv ints ∧ ExtX [tb] σ σ' := by
  refine C_of (ka rfl rfl) Tryz.func57 rfl (Nat.le_of_ble_eq_true rfl) ?_
  show W _ _ _ 25 _ _ _ _
  unfold Tryz.f57
  dsimp only
  repeat apply W_assoc
  apply W_reg
  · intro callf
    simp +decide only [aOps, rinit, aWanted, ↓bite_eq, ↓reduceIte, aStep_eq, aStepOld, aOp, opBox, opBin, opUn, opCall, opIndexAddr, opFieldAddr, opLoad, opStore, opPick, opExtract, opSlice, opBuildSlice, opBuild, aRow, aev, aevs, aparts, ann, unn, aPut, if_true, if_false, rget_rput, flat, flat1, Nat.blt_eq, aBuiltin, aLen, List.getElem?_toArray, List.getElem?_cons_zero, List.getElem?_cons_succ, Nat.zero_add, Option.bind_some, beq_self_eq_true, Bool.not_true, Bool.not_false, Bool.true_beq, Bool.false_beq]
    rfl
  repeat apply W_assoc
  apply W_reg
  · intro callf
    simp +decide only [aOps, rinit, aWanted, ↓bite_eq, ↓reduceIte, aStep_eq, aStepOld, aOp, opBox, opBin, opUn, opCall, opIndexAddr, opFieldAddr, opLoad, opStore, opPick, opExtract, opSlice, opBuildSlice, opBuild, aRow, aev, aevs, aparts, ann, unn, aPut, if_true, if_false, rget_rput, flat, flat1, Nat.blt_eq, aBuiltin, aLen, List.getElem?_toArray, List.getElem?_cons_zero, List.getElem?_cons_succ, Nat.zero_add, Option.bind_some, beq_self_eq_true, Bool.not_true, Bool.not_false, Bool.true_beq, Bool.false_beq]
    rfl
  repeat apply W_assoc
  apply W_regL
  apply Ls_pre 1
  · intro callf
    simp +decide only [List.take, aOps, rinit, aWanted, ↓bite_eq, ↓reduceIte, aStep_eq, aStepOld, aOp, opBox, opBin, opUn, opCall, opIndexAddr, opFieldAddr, opLoad, opStore, opPick, opExtract, opSlice, opBuildSlice, opBuild, aRow, aev, aevs, aparts, ann, unn, aPut, if_true, if_false, rget_rput, flat, flat1, Nat.blt_eq, aBuiltin, aLen, List.getElem?_toArray, List.getElem?_cons_zero, List.getElem?_cons_succ, Nat.zero_add, Option.bind_some, beq_self_eq_true, Bool.not_true, Bool.not_false, Bool.true_beq, Bool.false_beq]
    rfl
  dsimp only [List.drop]
  refine Ls_fn (vs := [.pointer (some ⟨tb, 0, none⟩)]) (by simp +decide only [aevs, aev, aResults, rget_rput, if_true, if_false]) (by decide) (C.mono (evs_c h) ?_)
  rintro sv σ1 ⟨⟨ms, S, hms, hme⟩, TP, EX⟩
  apply Ls_all
  · intro callf
    simp +decide only [aOps, rinit, aWanted, ↓bite_eq, ↓reduceIte, aStep_eq, aStepOld, aOp, opBox, opBin, opUn, opCall, opIndexAddr, opFieldAddr, opLoad, opStore, opPick, opExtract, opSlice, opBuildSlice, opBuild, aRow, aev, aevs, aparts, ann, unn, aPut, if_true, if_false, rget_rput, flat, flat1, Nat.blt_eq, aBuiltin, aLen, List.getElem?_toArray, List.getElem?_cons_zero, List.getElem?_cons_succ, Nat.zero_add, Option.bind_some, beq_self_eq_true, Bool.not_true, Bool.not_false, Bool.true_beq, Bool.false_beq]
    rfl
  repeat apply W_assoc
  apply W_reg
  · intro callf
    simp +decide only [aOps, rinit, aWanted, ↓bite_eq, ↓reduceIte, aStep_eq, aStepOld, aOp, opBox, opBin, opUn, opCall, opIndexAddr, opFieldAddr, opLoad, opStore, opPick, opExtract, opSlice, opBuildSlice, opBuild, aRow, aev, aevs, aparts, ann, unn, aPut, if_true, if_false, rget_rput, flat, flat1, Nat.blt_eq, aBuiltin, aLen, List.getElem?_toArray, List.getElem?_cons_zero, List.getElem?_cons_succ, Nat.zero_add, Option.bind_some, beq_self_eq_true, Bool.not_true, Bool.not_false, Bool.true_beq, Bool.false_beq]
    rfl
  obtain ⟨sa, sc, hsv⟩ := Stk.len S
  repeat apply W_assoc
  refine W_for (fun (x : Nat × Value × List Value) r s => x.1 ≤ ms.length ∧ Ext σ1 s ∧ x.2.2.length = x.1 ∧ Stk σ1.next 24 1 s x.2.1 x.2.2.length x.2.2 ∧ (∀ v ∈ x.2.2, ∃ m, CodeV s v m ∧ m ≤ 1) ∧ rget r 3 = x.2.1 ∧ rget r 4 = sv ∧ rget r 5 = .int .i64 (x.1 : Int)) (fun x => ms.length - x.1) ?_ (0, .slice none 0 0, []) ?_
  rotate_left
  · refine ⟨Nat.zero_le _, Ext.refl _, rfl, ⟨rfl, rfl, .inl ⟨rfl, rfl⟩⟩, by simp, ?_, ?_, ?_⟩ <;> simp +decide only [rget_rput, rinit, if_true, if_false, goInt] <;> first | exact True.intro | rfl
  rintro ⟨i, v, rows⟩ r s ⟨hi, E, hrl, K, hk, h3, h4, h5⟩
  dsimp only at hi hrl K hk h3 h5
  by_cases hlt : i < ms.length
  rotate_left
  · have d1 : decide ((i : Int) < (ms.length : Int)) = false := decide_eq_false (by omega)
    repeat apply W_assoc
    apply W_reg
    · intro callf
      simp +decide only [aOps, rinit, aWanted, ↓bite_eq, ↓reduceIte, aStep_eq, aStepOld, aOp, opBox, opBin, opUn, opCall, opIndexAddr, opFieldAddr, opLoad, opStore, opPick, opExtract, opSlice, opBuildSlice, opBuild, aRow, aev, aevs, aparts, ann, unn, aPut, if_true, if_false, rget_rput, flat, flat1, Nat.blt_eq, aBuiltin, aLen, List.getElem?_toArray, List.getElem?_cons_zero, List.getElem?_cons_succ, Nat.zero_add, Option.bind_some, beq_self_eq_true, Bool.not_true, Bool.not_false, Bool.true_beq, Bool.false_beq, h4, h5, hsv, Tryz.underlying40, goInt, lssI, d1]
      rfl
    repeat apply W_assoc
    refine W_if (b := false) ?_ ?_ ?_
    · simp +decide only [aevs, aev, aResults, rget_rput, if_true, if_false]
    · intro h; cases h
    intro _
    refine W_exitq ⟨fun h => (nomatch h), fun _ => ?_, fun h1 h2 => absurd rfl h2⟩
    repeat apply W_assoc
    apply W_regL
    apply Ls_pre 1
    · intro callf
      simp +decide only [List.take, aOps, rinit, aWanted, ↓bite_eq, ↓reduceIte, aStep_eq, aStepOld, aOp, opBox, opBin, opUn, opCall, opIndexAddr, opFieldAddr, opLoad, opStore, opPick, opExtract, opSlice, opBuildSlice, opBuild, aRow, aev, aevs, aparts, ann, unn, aPut, if_true, if_false, rget_rput, flat, flat1, Nat.blt_eq, aBuiltin, aLen, List.getElem?_toArray, List.getElem?_cons_zero, List.getElem?_cons_succ, Nat.zero_add, Option.bind_some, beq_self_eq_true, Bool.not_true, Bool.not_false, Bool.true_beq, Bool.false_beq, h3]
      rfl
    dsimp only [List.drop]
    refine Ls_fn (vs := [.int .i64 12, .int .i64 0, v]) (by simp +decide only [aevs, aev, aResults, rget_rput, if_true, if_false]) (by decide) (C.mono (code_c 12 0 (KidsV.of K) hk (by omega) (by decide) (by omega)) ?_)
    rintro u s2 ⟨⟨m, Cm, hm⟩, E2⟩
    apply Ls_all
    · intro callf
      simp +decide only [aOps, rinit, aWanted, ↓bite_eq, ↓reduceIte, aStep_eq, aStepOld, aOp, opBox, opBin, opUn, opCall, opIndexAddr, opFieldAddr, opLoad, opStore, opPick, opExtract, opSlice, opBuildSlice, opBuild, aRow, aev, aevs, aparts, ann, unn, aPut, if_true, if_false, rget_rput, flat, flat1, Nat.blt_eq, aBuiltin, aLen, List.getElem?_toArray, List.getElem?_cons_zero, List.getElem?_cons_succ, Nat.zero_add, Option.bind_some, beq_self_eq_true, Bool.not_true, Bool.not_false, Bool.true_beq, Bool.false_beq]
      rfl
    refine W_ret ⟨Nat.le_refl _, [u], ?_, ⟨m, Cm, by omega⟩, TP.ext (E.trans E2), EX.trans (ExtX.of (E.trans E2))⟩
    simp +decide only [aevs, aev, aResults, rget_rput, if_true, if_false]
  have d1 : decide ((i : Int) < (ms.length : Int)) = true := decide_eq_true (by omega)
  repeat apply W_assoc
  apply W_reg
  · intro callf
    simp +decide only [aOps, rinit, aWanted, ↓bite_eq, ↓reduceIte, aStep_eq, aStepOld, aOp, opBox, opBin, opUn, opCall, opIndexAddr, opFieldAddr, opLoad, opStore, opPick, opExtract, opSlice, opBuildSlice, opBuild, aRow, aev, aevs, aparts, ann, unn, aPut, if_true, if_false, rget_rput, flat, flat1, Nat.blt_eq, aBuiltin, aLen, List.getElem?_toArray, List.getElem?_cons_zero, List.getElem?_cons_succ, Nat.zero_add, Option.bind_some, beq_self_eq_true, Bool.not_true, Bool.not_false, Bool.true_beq, Bool.false_beq, h4, h5, hsv, Tryz.underlying40, goInt, lssI, d1]
    rfl
  repeat apply W_assoc
  refine W_if (b := true) ?_ ?_ ?_
  · simp +decide only [aevs, aev, aResults, rget_rput, if_true, if_false]
  rotate_left
  · intro h; cases h
  intro _
  apply W_skipq
  refine W_blk ?_
  refine W_tail ?_
  obtain ⟨e, he⟩ : ∃ e, ms[i]? = some e := ⟨ms[i], List.getElem?_eq_getElem _⟩
  have he2 := hme e (List.mem_of_getElem? he)
  obtain ⟨vb, vc', hve, hvb, hvi, hvl⟩ := stkI_at S he
  have q1 := hvl s (E.get vb hvb)
  have w6 : IntKind.i64.wrap ((i : Int) + 1) = ((i + 1 : Nat) : Int) := by rw [wrap64_id _ (by omega) (by omega)]; omega
  have w2 : IntKind.i64.wrap ((e : Int) - 2) = (e : Int) - 2 := wrap64_id _ (by omega) (by omega)
  repeat apply W_assoc
  apply W_regL
  apply Ls_pre 6
  · intro callf
    simp +decide only [List.take, aOps, rinit, aWanted, ↓bite_eq, ↓reduceIte, aStep_eq, aStepOld, aOp, opBox, opBin, opUn, opCall, opIndexAddr, opFieldAddr, opLoad, opStore, opPick, opExtract, opSlice, opBuildSlice, opBuild, aRow, aev, aevs, aparts, ann, unn, aPut, if_true, if_false, rget_rput, flat, flat1, Nat.blt_eq, aBuiltin, aLen, List.getElem?_toArray, List.getElem?_cons_zero, List.getElem?_cons_succ, Nat.zero_add, Option.bind_some, beq_self_eq_true, Bool.not_true, Bool.not_false, Bool.true_beq, Bool.false_beq, h3, h4, h5, hvi, q1, w2, aBin, aInts, aInt_eq]
    rfl
  dsimp only [List.drop]
  refine Ls_fn (vs := [.int .i64 4, .int .i64 ((e : Int) - 2), .slice none 0 0]) (by simp +decide only [aevs, aev, aResults, rget_rput, if_true, if_false]) (by decide) (C.mono (code_c (B := 1) 4 ((e : Int) - 2) (.inl ⟨rfl, rfl⟩) (fun v hv => (nomatch hv)) (by simp) (by decide) (by simp)) ?_)
  rintro u s2 ⟨⟨m, Cm, hm⟩, E2⟩
  have E := E.trans E2
  have K := Stk.ext' K E2
  have hk : ∀ v ∈ rows, ∃ m, CodeV s2 v m ∧ m ≤ 1 := fun v hv => (hk v hv).imp fun m hm => ⟨hm.1.ext E2, hm.2⟩
  obtain ⟨up, un, uc, hu⟩ := Cm.sl
  have e0 := Ext.new s2 ⟨1, 24, 0, [.slice up un uc], []⟩
  have hbb : (s2.new ⟨1, 24, 0, [.slice up un uc], []⟩).get s2.next = ⟨1, 24, 0, [.slice up un uc], []⟩ := by rw [AS.get_new, if_pos rfl]
  obtain ⟨v2, s3, a1, a2, a3, a4, a5, -⟩ := Stk.push1 elK (Stk.ext' K e0) (Nat.le_trans E.nxt e0.nxt) hbb rfl rfl (by omega)
  apply Ls_all
  · intro callf
    simp +decide only [aOps, rinit, aWanted, ↓bite_eq, ↓reduceIte, aStep_eq, aStepOld, aOp, opBox, opBin, opUn, opCall, opIndexAddr, opFieldAddr, opLoad, opStore, opPick, opExtract, opSlice, opBuildSlice, opBuild, aRow, aev, aevs, aparts, ann, unn, aPut, if_true, if_false, rget_rput, flat, flat1, Nat.blt_eq, aBuiltin, aLen, List.getElem?_toArray, List.getElem?_cons_zero, List.getElem?_cons_succ, Nat.zero_add, Option.bind_some, beq_self_eq_true, Bool.not_true, Bool.not_false, Bool.true_beq, Bool.false_beq, hu, sliceK1, a1]
    rfl
  have hK := Stk.ext' K e0
  have E := E.trans e0
  rw [← hu] at a2
  refine W_skip ⟨fun _ => ?_, fun h => absurd rfl h⟩
  refine W_tail ?_
  repeat apply W_assoc
  apply W_reg
  · intro callf
    simp +decide only [aOps, rinit, aWanted, ↓bite_eq, ↓reduceIte, aStep_eq, aStepOld, aOp, opBox, opBin, opUn, opCall, opIndexAddr, opFieldAddr, opLoad, opStore, opPick, opExtract, opSlice, opBuildSlice, opBuild, aRow, aev, aevs, aparts, ann, unn, aPut, if_true, if_false, rget_rput, flat, flat1, Nat.blt_eq, aBuiltin, aLen, List.getElem?_toArray, List.getElem?_cons_zero, List.getElem?_cons_succ, Nat.zero_add, Option.bind_some, beq_self_eq_true, Bool.not_true, Bool.not_false, Bool.true_beq, Bool.false_beq, h5, w6, aBin, aInts, aInt_eq]
    rfl
  refine W_skip ⟨fun _ => ⟨(i + 1, v2, rows ++ [u]), ?_, ?_⟩, fun h => (nomatch h), fun h => absurd rfl h⟩
  · show ms.length - (i + 1) < ms.length - i
    omega
  · refine ⟨by show i + 1 ≤ _; omega, ⟨Nat.le_trans E.nxt a3, fun j hj => (a4 j (Nat.lt_of_lt_of_le hj E.nxt) fun ho => by have := (hK.own ho).1; omega).trans (E.get j hj), fun q g1 g2 => a5 q g2 (E.low q g1 g2)⟩, by show (rows ++ [u]).length = i + 1; rw [List.length_append, hrl]; rfl, by show Stk _ _ _ _ _ (rows ++ [u]).length _; rw [List.length_append]; exact a2, fun x hx => ?_, ?_, ?_, ?_⟩
    · have kp : ∀ {x : Value} {m : Nat}, CodeV s2 x m → CodeV s3 x m := fun hx => (hx.ext e0).keep a3 fun b hb he => a4 b hb fun ho => by
        rw [(hK.own ho).2.2.2] at he
        exact absurd he (by decide)
      rcases List.mem_append.1 hx with h1 | h1
      · obtain ⟨m', g1, g2⟩ := hk x h1
        exact ⟨m', kp g1, g2⟩
      · obtain rfl : x = u := by simpa using h1
        exact ⟨m, kp Cm, by simpa using hm⟩
    all_goals simp +decide only [rget_rput, if_true, if_false, h4]

end Go.Proofs.YtacpdefmnijhnaaGreat.U
