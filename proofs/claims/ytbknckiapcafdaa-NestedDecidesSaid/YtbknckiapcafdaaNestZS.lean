/- What is reached (42, 43, 22). -/
import Derived.Test.YtbknckiapcafdaaNestZR
set_option linter.unusedSimpArgs false
set_option linter.unusedVariables false
namespace Go.Proofs.Ytbknckiapcafdaa.Nest
open Abs Abs2

theorem build96 {a : Option Addr} {n c : Nat} {b : Option Addr} {m e : Nat} : aBuild Try.prog 96 [(0, .agg #[.slice a n c]), (1, .slice b m e)] = some (.agg #[.slice a n c, .slice b m e, .int .i64 0]) := by kernel_rfl
theorem fld96_0 {b : Nat} : aField Try.prog 96 0 (.pointer (some ⟨b, 0, none⟩)) = some (.pointer (some ⟨b, 0, none⟩)) := by kernel_rfl
theorem fld96_1 {b : Nat} : aField Try.prog 96 1 (.pointer (some ⟨b, 0, none⟩)) = some (.pointer (some ⟨b, 1, none⟩)) := by kernel_rfl
theorem fld96_2 {b : Nat} : aField Try.prog 96 2 (.pointer (some ⟨b, 0, none⟩)) = some (.pointer (some ⟨b, 2, none⟩)) := by kernel_rfl

def wblk (lv sv : Value) (k : Int) : Blk := ⟨1, 96, 0, [lv, sv, .int .i64 k], []⟩

/-- A walker: what it has seen, the list it makes. -/
structure WK (σ0 σ : AS) (wb : Nat) (lv sv : Value) (k : Int) (seen : List Int) (ov : Value) (out : List Int) : Prop where
  ext : Ext σ0 σ
  lo : σ0.next ≤ wb
  lt : wb < σ.next
  get : σ.get wb = wblk lv sv k
  seen : IL σ0.next σ sv seen
  out : OL σ0.next σ ov out

section
variable {σ0 σ σ' s : AS} {wb : Nat} {lv sv ov : Value} {k : Int} {seen out : List Int}
theorem WK.go (h : WK σ0 σ wb lv sv k seen ov out) (e : Ext σ σ') : WK σ0 σ' wb lv sv k seen ov out :=
  ⟨h.ext.trans e, h.lo, e.lt h.lt, (e.get _ h.lt).trans h.get, h.seen.ext e, h.out.ext e⟩
theorem WK.merge (h : WK σ0 s wb lv sv k seen ov out) (e : Ext σ0 σ) : WK σ0 (σ.merge s) wb lv sv k seen ov out :=
  ⟨ext_merge e h.ext, h.lo, h.lt, h.get, h.seen.keep (Nat.le_refl _) fun _ _ _ => rfl, h.out.keep (Nat.le_refl _) fun _ _ _ => rfl⟩
theorem WK.l0 (h : WK σ0 σ wb lv sv k seen ov out) : aLoad Try.prog σ 28 (.pointer (some ⟨wb, 0, none⟩)) = some lv := load1 Try.underlying28 rfl (cells_at h.get rfl (by simp))
theorem WK.l1 (h : WK σ0 σ wb lv sv k seen ov out) : aLoad Try.prog σ 33 (.pointer (some ⟨wb, 1, none⟩)) = some sv := load1 Try.underlying33 rfl (cells_at h.get rfl (by simp))
theorem WK.l2 (h : WK σ0 σ wb lv sv k seen ov out) : aLoad Try.prog σ 3 (.pointer (some ⟨wb, 2, none⟩)) = some (.int .i64 k) := load1 Try.underlying3 rfl (cells_at h.get rfl (by simp))
/-- A state is marked. -/
theorem WK.mark (h : WK σ0 σ wb lv sv k seen ov out) {i : Nat} (hi : i < seen.length) (x : Int) : ∃ b, aIndexAddr Try.prog 33 sv (.int .i64 (i : Int)) = some (.pointer (some ⟨b, i, none⟩)) ∧
    ∃ B, aStore Try.prog σ 3 (.int .i64 x) (.pointer (some ⟨b, i, none⟩)) = some (σ.put b B) ∧ WK σ0 (σ.put b B) wb lv sv k (seen.set i x) ov out := by
  obtain ⟨b, hv, h1, h2, h3, hix, hld, hst⟩ := h.seen.at
  refine ⟨b, hix i hi, _, hst i x hi σ rfl, h.ext.put h1 _, h.lo, h.lt, ?_, h.seen.put hv i x, h.out.keep (Nat.le_refl _) fun j ho _ => ?_⟩
  · rw [AS.get_put, if_neg]
    · exact h.get
    · rintro rfl
      have := h3.symm.trans h.get
      cases congrArg Blk.elem this
  · rw [AS.get_put, if_neg]
    rintro rfl
    have := (h.out.own ho).2.2.1
    rw [h3] at this
    cases this
theorem WK.look (h : WK σ0 σ wb lv sv k seen ov out) {i : Nat} {x : Int} (hx : seen[i]? = some x) : ∃ b, aIndexAddr Try.prog 33 sv (.int .i64 (i : Int)) = some (.pointer (some ⟨b, i, none⟩)) ∧ aLoad Try.prog σ 3 (.pointer (some ⟨b, i, none⟩)) = some (.int .i64 x) := by
  obtain ⟨b, hv, h1, h2, h3, hix, hld, hst⟩ := h.seen.at
  exact ⟨b, hix i (List.getElem?_eq_some_iff.1 hx).1, hld i x hx σ rfl⟩
/-- A state is entered into the list. -/
theorem WK.push (h : WK σ0 σ wb lv sv k seen ov out) {b : Nat} {x : Int} (hb : σ.get b = ⟨1, 3, 0, [.int .i64 x], []⟩) (hk : out.length + 1 ≤ 1000000) : ∃ v' s, aAppend Try.prog σ #[33, 33] ov (.slice (some ⟨b, 0, none⟩) 1 1) = some (v', s) ∧ WK σ0 s wb lv sv k seen v' (out ++ [x]) ∧ ∀ b a, ArcAt σ b a → ArcAt s b a := by
  obtain ⟨v', s, g1, g2, g3, g4, g5⟩ := h.out.push h.ext.nxt (x := x) hb hk
  have k1 : ∀ i, i < σ.next → (σ.get i).kind = 1 → s.get i = σ.get i := fun i hi hk => g4 i hi fun ho => by
    have := (h.out.own ho).2.2.1
    omega
  refine ⟨v', s, g1, ⟨⟨Nat.le_trans h.ext.nxt g3, fun i hi => ?_, fun m h1 h2 => g5 m h2 (h.ext.low m h1 h2)⟩, h.lo, by have := h.lt; omega, (k1 _ h.lt (by rw [h.get]; rfl)).trans h.get, h.seen.keep g3 fun i ho hi => k1 i hi (h.seen.own ho).2.2.2, g2⟩, fun b a hA => ⟨by have := hA.lt; omega, (k1 b hA.lt (by rw [hA.get])).trans hA.get⟩⟩
  rw [g4 i (Nat.lt_of_lt_of_le hi h.ext.nxt) (fun ho => by have := (h.out.own ho).1; omega)]
  exact h.ext.get i hi
theorem WK.outAt (h : WK σ0 σ wb lv sv k seen ov out) {i : Nat} {x : Int} (hx : out[i]? = some x) : ∃ b, aIndexAddr Try.prog 33 ov (.int .i64 (i : Int)) = some (.pointer (some ⟨b, i, none⟩)) ∧ aLoad Try.prog σ 3 (.pointer (some ⟨b, i, none⟩)) = some (.int .i64 x) := by
  obtain ⟨b, c, hv, h1, h2, h3, h4, hix, hld, hst⟩ := h.out.at (fun e => by rw [e] at hx; simp at hx)
  exact ⟨b, hix i (List.getElem?_eq_some_iff.1 hx).1, hld i x hx σ rfl⟩
theorem WK.len (h : WK σ0 σ wb lv sv k seen ov out) : ∃ a c, ov = .slice a out.length c := Stk.len h.out
end

/-- What is seen is what is listed. -/
structure Seen (n : Nat) (seen out : List Int) : Prop where
  len : seen.length = n
  iff : ∀ x : Nat, x < n → (seen[x]? = some 1 ↔ (x : Int) ∈ out)
  rng : ∀ y ∈ out, 0 ≤ y ∧ y < (n : Int)
  cnt : out.length = seen.countP (· == 1)
theorem Seen.out_le {n : Nat} {seen out : List Int} (h : Seen n seen out) : out.length ≤ n := by rw [h.cnt, ← h.len]; exact List.countP_le_length
theorem countP_set : ∀ {l : List Int} {i : Nat} {x : Int}, l[i]? = some x → x ≠ 1 → (l.set i 1).countP (· == 1) = l.countP (· == 1) + 1
  | [], i, x, h, _ => by simp at h
  | a :: l, 0, x, h, hx => by
    simp at h; subst h
    simp [hx]
  | a :: l, i + 1, x, h, hx => by
    have := countP_set (l := l) (i := i) (by simpa using h) hx
    simp only [List.set_cons_succ, List.countP_cons, this]
    omega
theorem Seen.add {n : Nat} {seen out : List Int} (h : Seen n seen out) {i : Nat} {x : Int} (hx : seen[i]? = some x) (hne : x ≠ 1) : Seen n (seen.set i 1) (out ++ [(i : Int)]) := by
  have hi := (List.getElem?_eq_some_iff.1 hx).1
  refine ⟨by rw [List.length_set]; exact h.len, fun y hy => ?_, fun y hy => ?_, by rw [countP_set hx hne, List.length_append, h.cnt]; rfl⟩
  · by_cases e : i = y
    · subst e; rw [List.getElem?_set_self hi]; simp
    · rw [List.getElem?_set_ne e, h.iff y hy, List.mem_append]
      constructor
      · intro h2; exact .inl h2
      · rintro (h2 | h2)
        · exact h2
        · have h4 : (y : Int) = i := by simpa using h2
          exact absurd (show y = i by omega) (fun h3 => e h3.symm)
  · rcases List.mem_append.1 hy with hy | hy
    · exact h.rng y hy
    · rw [List.mem_singleton.1 hy]
      have := h.len
      exact ⟨by omega, by omega⟩

set_option maxHeartbeats 4000000 in
theorem newWalker_c {σ : AS} {s : Option Addr} {n c : Nat} (hn : n ≤ 1000000) : C Try.prog Kn 0 42 [.agg #[.slice s n c]] σ fun v σ' => ∃ wb sv, v = .pointer (some ⟨wb, 0, none⟩) ∧ WK σ σ' wb (.slice s n c) sv 0 (List.replicate n 0) (.slice none 0 0) [] := by
  refine C_of (kn (by decide)) Try.func42 rfl (Nat.le_of_ble_eq_true rfl) ?_
  show W _ _ _ 10 _ _ _ _
  unfold Try.f42
  dsimp only
  repeat apply W_assoc
  apply W_reg
  · intro callf
    simp +decide only [aOps, rinit, aWanted, ↓bite_eq, ↓reduceIte, aStep_eq, aStepOld, aOp, opBox, aRow, aev, ann, aPut, rget_rput]
    rfl
  have E0 := Ext.new σ ⟨1, 30, 0, (Value.agg #[.slice s n c]).cells.toList, []⟩
  have BX : BoxAt (σ.new ⟨1, 30, 0, (Value.agg #[.slice s n c]).cells.toList, []⟩) σ.next (.slice s n c) := ⟨Nat.lt_succ_self _, by rw [AS.get_new, if_pos rfl]; rfl⟩
  generalize σ.new ⟨1, 30, 0, (Value.agg #[.slice s n c]).cells.toList, []⟩ = σ1 at E0 BX
  have BQ := BX.reset
  repeat apply W_assoc
  refine W_drw [] [] (by kernel_rfl) (by kernel_rfl) ?_
  apply Lg_pre 4
  · intro callf
    simp +decide only [List.take, aQ, memb, List.any_nil, Bool.true_or, Bool.and_true, reset_merge, reset_reset, reset_next, reset_low, merge_next, merge_idem, ble_self, aWanted, ↓bite_eq, ↓reduceIte, aStep_eq, aStepOld, aOp, opCall, opFieldAddr, opLoad, aev, aevs, ann, aPut, rget_rput, aBuiltin, aLen, List.getElem?_toArray, List.getElem?_cons_zero, Nat.zero_add, Bool.not_false, fldL, BQ.load, BQ.out, Try.underlying28, goInt]
    rfl
  dsimp only [List.drop, List.take, List.length]
  have e2 : Ext σ1 (σ1.merge σ1.reset) := (Ext.refl _).merge
  generalize σ1.merge σ1.reset = σ2 at e2
  have e2 := E0.trans e2
  apply Lg_pre 1
  · intro callf
    simp +decide only [List.take, aQ, memb, List.any_nil, Bool.true_or, Bool.and_true, reset_next, reset_low, new_low, ble_self, aWanted, ↓bite_eq, ↓reduceIte, aStep_eq, aStepOld, aOp, aev, aPut, rget_rput, Nat.zero_add, Bool.not_false, opMakeSlice, make33 hn]
    rfl
  dsimp only [List.drop, List.take, List.length]
  have e3 : Ext σ2 (σ2.merge (σ2.reset.new ⟨1, 3, 0, List.replicate n (.int .i64 0), []⟩)) := Ext.merge (Ext.new _ _)
  have hI : IL σ.next (σ2.merge (σ2.reset.new ⟨1, 3, 0, List.replicate n (.int .i64 0), []⟩)) (.slice (some ⟨σ2.next, 0, none⟩) n n) (List.replicate n 0) := (make33_il (σ := σ2.reset) (N := n) e2.nxt).keep (Nat.le_refl _) fun _ _ _ => rfl
  generalize hsb : σ2.next = sb at hI
  generalize σ2.merge (σ2.reset.new ⟨1, 3, 0, List.replicate n (.int .i64 0), []⟩) = σ3 at e3 hI
  have e3 := e2.trans e3
  apply Lg_pre 1
  · intro callf
    simp +decide only [List.take, aQ, memb, List.any_nil, Bool.true_or, Bool.and_true, reset_low, ble_self, aWanted, ↓bite_eq, ↓reduceIte, aStep_eq, aStepOld, aOp, opBuild, aev, aparts, ann, aPut, rget_rput, Nat.zero_add, Bool.not_false, build96]
    rfl
  dsimp only [List.drop, List.take, List.length]
  have e4 : Ext σ3 (σ3.merge σ3.reset) := (Ext.refl _).merge
  have hI := hI.ext e4
  generalize σ3.merge σ3.reset = σ4 at e4 hI
  have e4 := e3.trans e4
  apply Lg_pre 1
  · intro callf
    simp +decide only [List.take, aQ, memb, List.any_nil, Bool.true_or, Bool.and_true, reset_next, reset_low, new_low, ble_self, aWanted, ↓bite_eq, ↓reduceIte, aStep_eq, aStepOld, aOp, opBox, aRow, aev, aPut, rget_rput, Nat.zero_add, Bool.not_false]
    rfl
  dsimp only [List.drop, List.take, List.length]
  have e5 : Ext σ4 (σ4.merge (σ4.reset.new (wblk (.slice s n c) (.slice (some ⟨sb, 0, none⟩) n n) 0))) := Ext.merge (Ext.new _ _)
  have hW : (σ4.merge (σ4.reset.new (wblk (.slice s n c) (.slice (some ⟨sb, 0, none⟩) n n) 0))).get σ4.next = wblk (.slice s n c) (.slice (some ⟨sb, 0, none⟩) n n) 0 := by
    rw [get_merge]
    exact (AS.get_new σ4.reset _ σ4.reset.next).trans (if_pos rfl)
  have hWn : σ4.next < (σ4.merge (σ4.reset.new (wblk (.slice s n c) (.slice (some ⟨sb, 0, none⟩) n n) 0))).next := Nat.lt_succ_self _
  have hWl : σ.next ≤ σ4.next := e4.nxt
  generalize hwb : σ4.next = wb at hW hWn hWl
  show Lg _ _ _ _ _ _ _ _ _ _ (σ4.merge (σ4.reset.new (wblk (.slice s n c) (.slice (some ⟨sb, 0, none⟩) n n) 0))) _
  generalize σ4.merge (σ4.reset.new (wblk (.slice s n c) (.slice (some ⟨sb, 0, none⟩) n n) 0)) = σ5 at e5 hW hWn
  have W5 : WK σ σ5 wb (.slice s n c) (.slice (some ⟨sb, 0, none⟩) n n) 0 (List.replicate n 0) (.slice none 0 0) [] := ⟨e4.trans e5, hWl, hWn, hW, hI.ext e5, OL.nil⟩
  apply Lg_all
  · intro callf
    simp +decide only [aQ, memb, List.any_nil, Bool.true_or, Bool.and_true, reset_low, ble_self, aWanted, ↓bite_eq, ↓reduceIte, aStep_eq, aStepOld, aOp, aev, ann, aPut, rget_rput, Nat.zero_add, Bool.not_false]
    rfl
  have e6 : Ext σ5 (σ5.merge σ5.reset) := (Ext.refl _).merge
  generalize σ5.merge σ5.reset = σ6 at e6
  refine W_ret ⟨Nat.le_refl _, [.pointer (some ⟨wb, 0, none⟩)], ?_, wb, _, rfl, W5.go e6⟩
  simp +decide only [aResults, rget_rput, if_true, if_false]

theorem WK.round {σ0 σ : AS} {wb : Nat} {lv sv ov : Value} {k : Int} {seen out : List Int} (h : WK σ0 σ wb lv sv k seen ov out) (k' : Int) :
    aStore Try.prog σ 3 (.int .i64 k') (.pointer (some ⟨wb, 2, none⟩)) = some (σ.put wb (wblk lv sv k')) ∧ WK σ0 (σ.put wb (wblk lv sv k')) wb lv sv k' seen ov out := by
  refine ⟨?_, h.ext.put h.lo _, h.lo, h.lt, by rw [AS.get_put, if_pos rfl], h.seen.keep (Nat.le_refl _) fun j ho _ => ?_, h.out.keep (Nat.le_refl _) fun j ho _ => ?_⟩
  · obtain ⟨inf, hi2, hs⟩ : ∃ inf, Try.prog.info? 3 = some inf ∧ inf.size = 1 := ⟨(Try.prog.info? 3).get!, by kernel_rfl, by kernel_rfl⟩
    have hz : Nat.beq (Value.int .i64 k').cells.size 1 = true := rfl
    have hc : (Value.int .i64 k').cells.toList = [.int .i64 k'] := rfl
    unfold aStore
    simp only [hi2, hs, hz, if_true, hc]
    unfold aWrite
    simp only [h.get, wblk, hasLen_eq, List.length_cons, List.length_nil, Nat.zero_add]
    rfl
  · rw [AS.get_put, if_neg]
    rintro rfl
    have := (h.seen.own ho).2.2.1
    rw [h.get] at this
    cases this
  · rw [AS.get_put, if_neg]
    rintro rfl
    have := (h.out.own ho).2.2.1
    rw [h.get] at this
    cases this
theorem OL.rs {lo : Nat} {σ : AS} {v : Value} {l : List Int} (h : OL lo σ v l) : RS 1 RInt σ v l := by
  obtain ⟨_, c, rfl⟩ := Stk.len h
  refine ⟨_, c, rfl, fun hl => ?_⟩
  obtain ⟨b, c2, e, hb, -⟩ := StkC.at (.inr h) (i := 0) (List.length_pos_iff.2 hl)
  cases e
  refine ⟨b, 0, rfl, hb, fun i x hx => ?_⟩
  obtain ⟨b', c', e, -, hc⟩ := StkC.at (.inr h) (List.getElem?_eq_some_iff.1 hx).1
  cases e
  refine ⟨_, by rw [Nat.zero_add]; exact hc, ?_⟩
  obtain ⟨h1, h2⟩ := List.getElem?_eq_some_iff.1 hx
  rw [Nat.mul_one, List.drop_eq_getElem_cons (by rw [List.length_map]; exact h1), List.getElem_map, h2]; rfl
theorem Srt.toExt {σ0 σ σ' : AS} {v : Value} {l l' : List Int} (hS : Srt σ0.next σ σ' v l l') (h : OL σ0.next σ v l) (e : Ext σ0 σ) : Ext σ0 σ' :=
  ⟨Nat.le_trans e.nxt hS.nxt, fun i hi => by rw [hS.get i (Nat.lt_of_lt_of_le hi e.nxt) (fun ho => by have := (h.own ho).1; omega)]; exact e.get i hi, fun m h1 h2 => hS.low m h2 (e.low m h1 h2)⟩

set_option maxHeartbeats 32000000 in
theorem reach_c {σ0 σ : AS} {tb lb cap m wb fb : Nat} {sv : Value} {L : Lts} (hG : Gen tb lb σ0 L m) (hm : m ≤ 1000) (hpos : 0 < L.length) (hn : L.length ≤ 12) (hfb : fb < σ0.next) (hf : σ0.get fb = ⟨1, 3, 0, [.int .i64 0], []⟩)
    (hW : WK σ0 σ wb (.slice (some ⟨lb, 0, none⟩) L.length cap) sv 0 (List.replicate L.length 0) (.slice none 0 0) []) : C Try.prog Kn 0 43 [.pointer (some ⟨wb, 0, none⟩), .slice (some ⟨fb, 0, none⟩) 1 1, .bool false] σ fun v σ' =>
    ∃ out, RS 1 RInt σ' v out ∧ Ext σ0 σ' ∧ (∃ a c, v = .slice a out.length c) ∧ (∀ y ∈ out, 0 ≤ y ∧ y < (L.length : Int)) ∧ out.length ≤ 12 ∧ (0 : Int) ∈ out ∧ ∀ (u : Nat) row a, (u : Int) ∈ out → L[u]? = some row → a ∈ row → a.2 ∈ out := by
  have hseen0 : Seen L.length (List.replicate L.length 0) [] := by
    refine ⟨by simp, fun x hx => ⟨fun h => ?_, fun h => (nomatch h)⟩, fun y hy => (nomatch hy), ?_⟩
    · rw [List.getElem?_replicate, if_pos hx] at h
      cases h
    · rw [List.countP_replicate]; rfl
  refine C_of (kn (by decide)) Try.func43 rfl (Nat.le_of_ble_eq_true rfl) ?_
  show W _ _ _ 114 _ _ _ _
  unfold Try.f43
  dsimp only
  have w1 : IntKind.i64.wrap (0 + 1) = 1 := by rw [wrap64_id _ (by omega) (by omega)]; rfl
  repeat apply W_assoc
  apply W_reg
  · intro callf
    simp +decide only [aOps, rinit, aWanted, ↓bite_eq, ↓reduceIte, aStep_eq, aStepOld, aOp, aev, ann, aPut, Nat.zero_add]
    rfl
  obtain ⟨hst, hW1⟩ := hW.round 1
  repeat apply W_assoc
  apply W_reg
  · intro callf
    simp +decide only [aOps, aWanted, ↓bite_eq, ↓reduceIte, aStep_eq, aStepOld, aOp, opBin, opFieldAddr, opLoad, opStore, aev, ann, unn, aPut, rget_rput, opNil, fld96_2, hW.l2, w1, hst, aBin, aInts, aInt_eq]
    rfl
  generalize σ.put wb (wblk (.slice (some ⟨lb, 0, none⟩) L.length cap) sv 1) = σ1 at hW1
  repeat apply W_assoc
  apply W_reg
  · intro callf
    simp +decide only [aOps, aWanted, ↓bite_eq, ↓reduceIte, aStep_eq, aStepOld, aOp, aev, ann, aPut]
    rfl
  repeat apply W_assoc
  apply W_reg
  · intro callf
    simp +decide only [aOps, aWanted, ↓bite_eq, ↓reduceIte, aStep_eq, aStepOld, aOp, opCall, aev, aevs, ann, aPut, rget_rput, aBuiltin, aLen, List.getElem?_toArray, List.getElem?_cons_zero, Try.underlying33, goInt]
    rfl
  repeat apply W_assoc
  refine W_forM (fun (i : Nat) r s => i ≤ 1 ∧ (∃ seen out ov, rget r 7 = ov ∧ WK σ0 s wb (.slice (some ⟨lb, 0, none⟩) L.length cap) sv 1 seen ov out ∧ Seen L.length seen out ∧ (i = 1 → (0 : Int) ∈ out)) ∧ rget r 0 = .pointer (some ⟨wb, 0, none⟩) ∧ rget r 2 = .bool false ∧ rget r 20 = .slice (some ⟨fb, 0, none⟩) 1 1 ∧ rget r 21 = .int .i64 1 ∧ rget r 22 = .int .i64 (i : Int))
    (fun i => 1 - i) (fun r s => (∃ seen out ov, rget r 7 = ov ∧ WK σ0 s wb (.slice (some ⟨lb, 0, none⟩) L.length cap) sv 1 seen ov out ∧ Seen L.length seen out ∧ (0 : Int) ∈ out) ∧ rget r 0 = .pointer (some ⟨wb, 0, none⟩) ∧ rget r 2 = .bool false) ?_ ?_ 0 ?_
  rotate_left 2
  · refine ⟨Nat.zero_le _, ⟨_, _, _, rfl, ?_, hseen0, fun h => (nomatch h)⟩, ?_, ?_, ?_, ?_, ?_⟩ <;> simp +decide only [rget_rput, if_true, if_false] <;> first | exact hW1 | exact True.intro | rfl
  rotate_left
  · clear hW hW1 hseen0
    rintro r σ2 ⟨⟨seen, out, ov, h7, K2, S2, h00⟩, h0, h2⟩
    repeat apply W_assoc
    apply W_reg
    · intro callf
      simp +decide only [aOps, aWanted, ↓bite_eq, ↓reduceIte, aStep_eq, aStepOld, aOp, aev, ann, aPut]
      rfl
    repeat apply W_assoc
    refine W_forM (fun (i : Nat) r s => (∃ seen out ov, rget r 7 = ov ∧ WK σ0 s wb (.slice (some ⟨lb, 0, none⟩) L.length cap) sv 1 seen ov out ∧ Seen L.length seen out ∧ (0 : Int) ∈ out ∧ i ≤ out.length ∧ ∀ i' u row a, i' < i → out[i']? = some u → L[u.toNat]? = some row → a ∈ row → a.2 ∈ out) ∧ rget r 0 = .pointer (some ⟨wb, 0, none⟩) ∧ rget r 2 = .bool false ∧ rget r 10 = .int .i64 (i : Int))
      (fun i => L.length - i) (fun r s => ∃ seen out ov, rget r 7 = ov ∧ WK σ0 s wb (.slice (some ⟨lb, 0, none⟩) L.length cap) sv 1 seen ov out ∧ Seen L.length seen out ∧ (0 : Int) ∈ out ∧ ∀ (i' : Nat) u row a, out[i']? = some u → L[u.toNat]? = some row → a ∈ row → a.2 ∈ out) ?_ ?_ 0 ?_
    rotate_left 2
    · refine ⟨⟨seen, out, ov, ?_, K2, S2, h00, Nat.zero_le _, fun i' _ _ _ h => absurd h (Nat.not_lt_zero _)⟩, ?_, ?_, ?_⟩ <;> simp +decide only [rget_rput, if_true, if_false, h0, h2, h7] <;> first | exact True.intro | rfl
    rotate_left
    · clear K2 S2 h00 h0 h2 h7
      rintro r σ3 ⟨seen, out, ov, h7, K3, S3, h00, hcl⟩
      have hone : out ≠ [] := fun e => by rw [e] at h00; cases h00
      have hle := S3.out_le
      repeat apply W_assoc
      apply W_regL
      apply Ls_pre 1
      · intro callf
        simp +decide only [List.take, aOps, aWanted, ↓bite_eq, ↓reduceIte, aStep_eq, aStepOld, aOp, aev, ann, aPut, h7]
        rfl
      dsimp only [List.drop]
      refine Ls_fn (vs := [ov]) (by simp +decide only [aevs, aev, rget_rput, if_true]) (by decide) (C.mono (sort_c K3.out K3.ext.nxt hone (by omega)) ?_)
      rintro v σ' ⟨out2, SS2⟩
      apply Ls_all
      · intro callf
        simp +decide only [aOps]
        rfl
      repeat apply W_assoc
      apply W_reg
      · intro callf
        simp +decide only [aOps, aWanted, ↓bite_eq, ↓reduceIte, aStep_eq, aStepOld, aOp, aev, ann, aPut, rget_rput, h7]
        rfl
      obtain ⟨va, vc, hva⟩ := Stk.len SS2.ol
      refine W_ret ⟨Nat.le_refl _, [ov], ?_, out2, SS2.ol.rs, SS2.toExt K3.out K3.ext, ⟨va, vc, hva⟩, fun y hy => S3.rng y ((SS2.mem y).1 hy), by have := SS2.len; omega, (SS2.mem 0).2 h00, fun u row a hu hr ha => ?_⟩
      · simp +decide only [aResults, rget_rput, if_true, if_false]
      · obtain ⟨i', hi'⟩ := List.mem_iff_getElem?.1 ((SS2.mem _).1 hu)
        exact (SS2.mem _).2 (hcl i' u row a hi' (by rw [Int.toNat_natCast]; exact hr) ha)
    clear K2 S2 h00 h0 h2 h7
    rintro i r σ3 ⟨⟨seen, out, ov, h7, K3, S3, h00, hi, hcl⟩, h0, h2, h10⟩
    obtain ⟨va, vc, hva⟩ := K3.len
    have hle := S3.out_le
    by_cases hlt : i < out.length
    rotate_left
    · have d1 : decide ((i : Int) < (out.length : Int)) = false := decide_eq_false (by omega)
      repeat apply W_assoc
      apply W_reg
      · intro callf
        simp +decide only [aOps, aWanted, ↓bite_eq, ↓reduceIte, aStep_eq, aStepOld, aOp, opBin, opCall, aev, aevs, ann, aPut, rget_rput, aBuiltin, aLen, List.getElem?_toArray, List.getElem?_cons_zero, h7, hva, h10, d1, Try.underlying33, goInt, aBin, aInts, aInt_eq]
        rfl
      repeat apply W_assoc
      refine W_if (b := false) ?_ ?_ ?_
      · simp +decide only [aev, rget_rput, if_true, if_false]
      · intro h; cases h
      intro _
      refine W_exitq ⟨fun h => (nomatch h), fun _ => ⟨seen, out, ov, ?_, K3, S3, h00, fun i' u row a hu => hcl i' u row a (by have := (List.getElem?_eq_some_iff.1 hu).1; omega) hu⟩, fun h1 h2 => absurd rfl h2⟩
      simp +decide only [rget_rput, if_false, h7, hva]
    have d1 : decide ((i : Int) < (out.length : Int)) = true := decide_eq_true (by omega)
    repeat apply W_assoc
    apply W_reg
    · intro callf
      simp +decide only [aOps, aWanted, ↓bite_eq, ↓reduceIte, aStep_eq, aStepOld, aOp, opBin, opCall, aev, aevs, ann, aPut, rget_rput, aBuiltin, aLen, List.getElem?_toArray, List.getElem?_cons_zero, h7, hva, h10, d1, Try.underlying33, goInt, aBin, aInts, aInt_eq]
      rfl
    repeat apply W_assoc
    refine W_if (b := true) ?_ ?_ ?_
    · simp +decide only [aev, rget_rput, if_true, if_false]
    rotate_left
    · intro h; cases h
    intro _
    apply W_skipq
    refine W_blk ?_
    obtain ⟨u, hu⟩ : ∃ u, out[i]? = some u := ⟨out[i], by simp [hlt]⟩
    obtain ⟨hu0, hu1⟩ := S3.rng u (List.mem_of_getElem? hu)
    obtain ⟨U, rfl⟩ : ∃ U : Nat, u = (U : Int) := ⟨u.toNat, by omega⟩
    have hU : U < L.length := by omega
    obtain ⟨ob, hox, hol⟩ := (K3.go (Ext.reset σ3)).outAt hu
    obtain ⟨rv, row, hrow, hrm, hg, hld⟩ := hG.at (i := U) hU
    obtain ⟨rb, rc, hrv⟩ := hg.slice
    have hldq := hld _ (ExtX.of (K3.go (Ext.reset σ3)).ext)
    have KQ := K3.go (Ext.reset σ3)
    have hll := (hG.row row hrm).1
    rw [hva] at h7 hox
    repeat apply W_assoc
    refine W_drw [] [] (by kernel_rfl) (by kernel_rfl) ?_
    apply Lg_all
    · intro callf
      simp +decide only [aQ, memb, List.any_nil, Bool.true_or, Bool.and_true, reset_merge, reset_reset, reset_next, reset_low, merge_next, merge_idem, ble_self, aWanted, ↓bite_eq, ↓reduceIte, aStep_eq, aStepOld, aOp, opCall, opIndexAddr, opFieldAddr, opLoad, aev, aevs, ann, aPut, rget_rput, aBuiltin, aLen, List.getElem?_toArray, List.getElem?_cons_zero, Nat.zero_add, Bool.not_false, h0, h7, h10, opNil, fld96_0, fldL, KQ.l0, hox, hol, idx28g hU, Nat.zero_add, hldq, hrv, Try.underlying22, goInt]
      rfl
    have e4 : Ext σ3 (σ3.merge σ3.reset) := (Ext.refl _).merge
    generalize σ3.merge σ3.reset = σ4 at e4
    have K4 := K3.go e4
    have hrs := fun (s : AS) (e : Ext σ0 s) => (hg.shown.ext e).rs
    rw [hrv] at hrs
    refine W_tail ?_
    repeat apply W_assoc
    refine W_for (fun (j : Nat) r s => j ≤ row.length ∧ (∃ seen out' ov, rget r 7 = ov ∧ WK σ0 s wb (.slice (some ⟨lb, 0, none⟩) L.length cap) sv 1 seen ov out' ∧ Seen L.length seen out' ∧ (0 : Int) ∈ out' ∧ i < out'.length ∧ (∃ ext, out' = out ++ ext) ∧ (∀ j' a, j' < j → row[j']? = some a → a.2 ∈ out')) ∧ rget r 0 = .pointer (some ⟨wb, 0, none⟩) ∧ rget r 2 = .bool false ∧ rget r 10 = .int .i64 (i : Int) ∧ rget r 69 = .slice rb row.length rc ∧ rget r 70 = .int .i64 (row.length : Int) ∧ rget r 71 = .int .i64 (j : Int))
      (fun j => row.length - j) ?_ 0 ?_
    rotate_left
    · refine ⟨Nat.zero_le _, ⟨seen, out, ov, ?_, K4, S3, h00, hlt, ⟨[], by simp⟩, fun j' a h => absurd h (Nat.not_lt_zero _)⟩, ?_, ?_, ?_, ?_, ?_, ?_⟩ <;> simp +decide only [rget_rput, if_true, if_false, h0, h2, h7, h10, hva] <;> first | exact True.intro | rfl
    clear h0 h2 h7 h10 K4 KQ hox hol hldq e4 hva
    rintro j r σ5 ⟨hj, ⟨seen5, out5, ov5, h7, K5, S5, h05, hi5, ⟨ex, hex⟩, hdone⟩, h0, h2, h10, h69, h70, h71⟩
    have hle5 := S5.out_le
    have endRow : j = row.length → ∀ i' u' row' a, i' < i + 1 → out5[i']? = some u' → L[u'.toNat]? = some row' → a ∈ row' → a.2 ∈ out5 := fun e i' u' row' a hi' hu' hr' ha => by
      by_cases h9 : i' < i
      · rw [hex, List.getElem?_append_left (by omega)] at hu'
        have := hcl i' u' row' a h9 hu' hr' ha
        rw [hex]; exact List.mem_append.2 (.inl this)
      · obtain rfl : i' = i := by omega
        rw [hex, List.getElem?_append_left (by omega), hu] at hu'
        cases hu'
        rw [Int.toNat_natCast, hrow] at hr'
        cases hr'
        obtain ⟨j', hj'⟩ := List.mem_iff_getElem?.1 ha
        exact hdone j' a (by have := (List.getElem?_eq_some_iff.1 hj').1; omega) hj'
    by_cases hjl : j < row.length
    rotate_left
    · have d2 : decide ((j : Int) < (row.length : Int)) = false := decide_eq_false (by omega)
      repeat apply W_assoc
      apply W_reg
      · intro callf
        simp +decide only [aOps, aWanted, ↓bite_eq, ↓reduceIte, aStep_eq, aStepOld, aOp, opBin, aev, ann, aPut, h70, h71, d2, aBin, aInts, aInt_eq]
        rfl
      repeat apply W_assoc
      refine W_if (b := false) ?_ ?_ ?_
      · simp +decide only [aev, rget_rput, if_true]
      · intro h; cases h
      intro _
      refine W_exitq ⟨fun h => (nomatch h), fun _ => ?_, fun h1 h2 => absurd rfl h2⟩
      refine W_skip ⟨fun _ => ?_, fun h => absurd rfl h⟩
      refine W_tail ?_
      have w2 : IntKind.i64.wrap ((i : Int) + 1) = ((i + 1 : Nat) : Int) := by rw [wrap64_id _ (by omega) (by omega)]; omega
      repeat apply W_assoc
      apply W_reg
      · intro callf
        simp +decide only [aOps, aWanted, ↓bite_eq, ↓reduceIte, aStep_eq, aStepOld, aOp, opBin, aev, ann, aPut, rget_rput, h10, w2, aBin, aInts, aInt_eq]
        rfl
      refine W_skip ⟨fun _ => ⟨i + 1, ?_, ?_⟩, fun h => (nomatch h), fun h => absurd rfl h⟩
      · show L.length - (i + 1) < L.length - i
        omega
      · refine ⟨⟨seen5, out5, ov5, ?_, K5, S5, h05, by omega, endRow (by omega)⟩, ?_, ?_, ?_⟩ <;> simp +decide only [rget_rput, if_true, if_false, h0, h2, h7]
    have d2 : decide ((j : Int) < (row.length : Int)) = true := decide_eq_true (by omega)
    repeat apply W_assoc
    apply W_reg
    · intro callf
      simp +decide only [aOps, aWanted, ↓bite_eq, ↓reduceIte, aStep_eq, aStepOld, aOp, opBin, aev, ann, aPut, h70, h71, d2, aBin, aInts, aInt_eq]
      rfl
    repeat apply W_assoc
    refine W_if (b := true) ?_ ?_ ?_
    · simp +decide only [aev, rget_rput, if_true]
    rotate_left
    · intro h; cases h
    intro _
    apply W_skipq
    refine W_blk ?_
    obtain ⟨a, ha⟩ : ∃ a, row[j]? = some a := ⟨row[j], by simp [hjl]⟩
    obtain ⟨hat0, hat1⟩ := (hG.row row hrm).2 a (List.mem_of_getElem? ha)
    obtain ⟨T, hT⟩ : ∃ T : Nat, a.2 = (T : Int) := ⟨a.2.toNat, by omega⟩
    obtain ⟨-, ab, aoff, rfl, -, hat⟩ := arcOf (hrs σ5 K5.ext) ha
    repeat apply W_assoc
    apply W_reg
    · intro callf
      simp +decide only [aOps, aWanted, ↓bite_eq, ↓reduceIte, aStep_eq, aStepOld, aOp, opIndexAddr, opLoad, opStore, aev, ann, unn, aPut, rget_rput, h69, h71, idx22 hjl, (hat _ (Ext.refl _)).1, alloc27, store27]
      rfl
    have AY := decl_at σ5 a
    have ed := decl_ext σ5 a
    generalize hab : σ5.next = nb at AY
    generalize decl σ5 a = σ6 at AY ed
    have K6 := K5.go ed
    repeat apply W_assoc
    apply W_reg
    · intro callf
      simp +decide only [aOps, aWanted, ↓bite_eq, ↓reduceIte, aStep_eq, aStepOld, aOp, opPick, aev, ann, aPut, rget_rput, List.getElem?_toArray, List.getElem?_cons_zero, List.getElem?_cons_succ, Option.bind_some, Bool.not_true, Bool.false_beq, h2, opPick]
      rfl
    repeat apply W_assoc
    refine W_if (b := false) ?_ ?_ ?_
    · simp +decide only [aev, rget_rput, if_true, if_false]
    · intro h; cases h
    intro _
    apply W_skipq
    have hTl : T < seen5.length := by rw [S5.len]; omega
    obtain ⟨x, hx⟩ : ∃ x, seen5[T]? = some x := ⟨seen5[T], by simp [hTl]⟩
    have KQ := K6.go (Ext.reset σ6)
    have AQ := AY.ext (Ext.reset σ6)
    obtain ⟨kb, hkx, hkl⟩ := KQ.look hx
    have nextJ : ∀ (r : Regs) (s : AS) seen' out' ov', rget r 7 = ov' → WK σ0 s wb (.slice (some ⟨lb, 0, none⟩) L.length cap) sv 1 seen' ov' out' → Seen L.length seen' out' → (∃ ext, out' = out5 ++ ext) → a.2 ∈ out' → rget r 0 = .pointer (some ⟨wb, 0, none⟩) → rget r 2 = .bool false → rget r 10 = .int .i64 (i : Int) → rget r 69 = .slice (some ⟨ab, aoff, none⟩) row.length rc → rget r 70 = .int .i64 (row.length : Int) → rget r 71 = .int .i64 ((j + 1 : Nat) : Int) →
        (j + 1 ≤ row.length ∧ (∃ seen out' ov, rget r 7 = ov ∧ WK σ0 s wb (.slice (some ⟨lb, 0, none⟩) L.length cap) sv 1 seen ov out' ∧ Seen L.length seen out' ∧ (0 : Int) ∈ out' ∧ i < out'.length ∧ (∃ ext, out' = out ++ ext) ∧ (∀ j' a, j' < j + 1 → row[j']? = some a → a.2 ∈ out')) ∧ rget r 0 = .pointer (some ⟨wb, 0, none⟩) ∧ rget r 2 = .bool false ∧ rget r 10 = .int .i64 (i : Int) ∧ rget r 69 = .slice (some ⟨ab, aoff, none⟩) row.length rc ∧ rget r 70 = .int .i64 (row.length : Int) ∧ rget r 71 = .int .i64 ((j + 1 : Nat) : Int)) :=
      fun r s seen' out' ov' g7 gK gS ⟨ext, ge⟩ ga g0 g2 g10 g69 g70 g71 => by
        have hsub : ∀ y ∈ out5, y ∈ out' := fun y hy => by rw [ge]; exact List.mem_append.2 (.inl hy)
        refine ⟨by omega, ⟨seen', out', ov', g7, gK, gS, hsub 0 h05, by rw [ge, List.length_append]; omega, ⟨ex ++ ext, by rw [ge, hex, List.append_assoc]⟩, fun j' b hj' hb => ?_⟩, g0, g2, g10, g69, g70, g71⟩
        by_cases e : j' = j
        · subst e; rw [ha] at hb; cases hb; exact ga
        · exact hsub _ (hdone j' b (by omega) hb)
    have w3 : IntKind.i64.wrap ((j : Int) + 1) = ((j + 1 : Nat) : Int) := by rw [wrap64_id _ (by omega) (by omega)]; omega
    repeat apply W_assoc
    refine W_drw [] [] (by kernel_rfl) (by kernel_rfl) ?_
    apply Lg_all
    · intro callf
      simp +decide only [aQ, memb, List.any_nil, Bool.true_or, Bool.and_true, reset_merge, reset_reset, reset_next, reset_low, merge_next, merge_idem, ble_self, aWanted, ↓bite_eq, ↓reduceIte, aStep_eq, aStepOld, aOp, opBin, opIndexAddr, opFieldAddr, opLoad, aev, ann, aPut, rget_rput, Nat.zero_add, Bool.not_false, h0, opNil, fld96_1, fld96_2, fld1, KQ.l1, KQ.l2, AQ.to, hT, hkx, hkl, aBin, aInts, aInt_eq]
      rfl
    have e7 : Ext σ6 (σ6.merge σ6.reset) := (Ext.refl _).merge
    generalize σ6.merge σ6.reset = σ7 at e7
    have K7 := K6.go e7
    have A7 := AY.ext e7
    by_cases hx1 : x = 1
    · have d3 : (x != 1) = false := by rw [bne_eq_false_iff_eq]; exact hx1
      rw [d3]
      refine W_tail ?_
      repeat apply W_assoc
      refine W_if (b := false) ?_ ?_ ?_
      · simp +decide only [aev, rget_rput, if_true, if_false]
      · intro h; cases h
      intro _
      apply W_skipq
      refine W_skip ⟨fun _ => ?_, fun h => absurd rfl h⟩
      refine W_tail ?_
      repeat apply W_assoc
      apply W_reg
      · intro callf
        simp +decide only [aOps, aWanted, ↓bite_eq, ↓reduceIte, aStep_eq, aStepOld, aOp, opBin, aev, ann, aPut, rget_rput, h71, w3, aBin, aInts, aInt_eq]
        rfl
      refine W_skip ⟨fun _ => ⟨j + 1, by show row.length - (j + 1) < row.length - j; omega, nextJ _ _ seen5 out5 ov5 ?_ K7 S5 ⟨[], by simp⟩ (by rw [hT]; exact (S5.iff T (by omega)).1 (by rw [hx, hx1])) ?_ ?_ ?_ ?_ ?_ ?_⟩, fun h => (nomatch h), fun h => absurd rfl h⟩
      all_goals simp +decide only [rget_rput, if_true, if_false, h0, h2, h7, h10, h69, h70]
    have d3 : (x != 1) = true := by rw [bne_iff_ne]; exact hx1
    rw [d3]
    refine W_tail ?_
    repeat apply W_assoc
    refine W_if (b := true) ?_ ?_ ?_
    · simp +decide only [aev, rget_rput, if_true, if_false]
    rotate_left
    · intro h; cases h
    intro _
    have KQ := K7.go (Ext.reset σ7)
    have AQ := A7.ext (Ext.reset σ7)
    obtain ⟨kb2, hkx2, -⟩ := KQ.look hx
    repeat apply W_assoc
    refine W_drw [] [] (by kernel_rfl) (by kernel_rfl) ?_
    apply Lg_pre 11
    · intro callf
      simp +decide only [List.take, aQ, memb, List.any_nil, Bool.true_or, Bool.and_true, reset_merge, reset_reset, reset_next, reset_low, merge_next, merge_idem, ble_self, aWanted, ↓bite_eq, ↓reduceIte, aStep_eq, aStepOld, aOp, opIndexAddr, opFieldAddr, opLoad, aev, ann, aPut, rget_rput, Nat.zero_add, Bool.not_false, h0, opNil, fld96_1, fld96_2, fld1, KQ.l1, KQ.l2, AQ.to, hT, hkx2]
      rfl
    dsimp only [List.drop, List.take, List.length]
    have e8 : Ext σ7 (σ7.merge σ7.reset) := (Ext.refl _).merge
    generalize σ7.merge σ7.reset = σ8 at e8
    have K8 := K7.go e8
    have A8 := A7.ext e8
    obtain ⟨kb3, hkx3, B3, hst3, K9⟩ := (K8.go (Ext.reset σ8)).mark (i := T) hTl 1
    obtain rfl : kb3 = kb2 := by rw [hkx2] at hkx3; cases hkx3; rfl
    refine Lg_st (v := undef) (s1 := σ8.reset.put kb3 B3) (by intro callf; simp +decide only [↓reduceIte, aStep_eq, aStepOld, aOp, opStore, aev, unn, rget_rput, hst3]) (by kernel_rfl) ?_
    have K9 := K9.merge K8.ext
    have hkne : (σ8.get kb3).elem = 3 := by
      obtain ⟨b, hv, -, -, h3, hix, -⟩ := (K8.go (Ext.reset σ8)).seen.at
      have h9 := hix T hTl
      rw [hkx3] at h9
      cases h9
      have h10 : σ8.get kb3 = _ := h3
      rw [h10]
    have A9 : ArcAt (σ8.merge (σ8.reset.put kb3 B3)) nb a := ⟨A8.lt, by
      rw [get_merge, AS.get_put, if_neg]
      · exact A8.get
      · rintro rfl
        rw [A8.get] at hkne
        have h9 : (27 : Nat) = 3 := hkne
        omega⟩
    have S9 := S5.add hx hx1
    generalize σ8.merge (σ8.reset.put kb3 B3) = σ9 at K9 A9
    show W _ _ _ 114 _ _ _ _
    have hB10 : (σ9.new ⟨1, 3, 0, [.int .i64 (T : Int)], []⟩).get σ9.next = ⟨1, 3, 0, [.int .i64 (T : Int)], []⟩ := by rw [AS.get_new, if_pos rfl]
    obtain ⟨ov6, s10, ha10, K10, -⟩ := (K9.go (Ext.new σ9 ⟨1, 3, 0, [.int .i64 (T : Int)], []⟩)).push (x := (T : Int)) hB10 (by omega)
    repeat apply W_assoc
    apply W_reg
    · intro callf
      simp +decide only [aOps, aWanted, ↓bite_eq, ↓reduceIte, aStep_eq, aStepOld, aOp, opCall, opFieldAddr, opLoad, opBuildSlice, aev, aevs, aparts, ann, aPut, rget_rput, aBuiltin, Nat.zero_add, h7, fld1, A9.to, hT, slice33a, ha10]
      rfl
    refine W_skip ⟨fun _ => ?_, fun h => absurd rfl h⟩
    refine W_tail ?_
    repeat apply W_assoc
    apply W_reg
    · intro callf
      simp +decide only [aOps, aWanted, ↓bite_eq, ↓reduceIte, aStep_eq, aStepOld, aOp, opBin, aev, ann, aPut, rget_rput, h71, w3, aBin, aInts, aInt_eq]
      rfl
    refine W_skip ⟨fun _ => ⟨j + 1, by show row.length - (j + 1) < row.length - j; omega, nextJ _ _ _ _ ov6 ?_ K10 S9 ⟨[(T : Int)], rfl⟩ (by rw [hT]; simp) ?_ ?_ ?_ ?_ ?_ ?_⟩, fun h => (nomatch h), fun h => absurd rfl h⟩
    all_goals simp +decide only [rget_rput, if_true, if_false, h0, h2, h10, h69, h70]
  clear hW hW1 hseen0
  rintro i r σ2 ⟨hi, ⟨seen, out, ov, h7, K2, S2, h00⟩, h0, h2, h20, h21, h22⟩
  by_cases hlt : i < 1
  rotate_left
  · have d1 : decide ((i : Int) < 1) = false := decide_eq_false (by omega)
    repeat apply W_assoc
    apply W_reg
    · intro callf
      simp +decide only [aOps, aWanted, ↓bite_eq, ↓reduceIte, aStep_eq, aStepOld, aOp, opBin, aev, ann, aPut, h21, h22, d1, aBin, aInts, aInt_eq]
      rfl
    repeat apply W_assoc
    refine W_if (b := false) ?_ ?_ ?_
    · simp +decide only [aev, rget_rput, if_true]
    · intro h; cases h
    intro _
    refine W_exitq ⟨fun h => (nomatch h), fun _ => ⟨⟨seen, out, ov, ?_, K2, S2, h00 (by omega)⟩, ?_, ?_⟩, fun h1 h2 => absurd rfl h2⟩ <;> simp +decide only [rget_rput, if_false, h0, h2, h7]
  obtain rfl : i = 0 := by omega
  have d1 : ∀ xo yo, aBin Try.prog .lss 3 xo yo (.int .i64 ((0 : Nat) : Int)) (.int .i64 1) = some (.bool true) := fun _ _ => by kernel_rfl
  repeat apply W_assoc
  apply W_reg
  · intro callf
    simp +decide only [aOps, aWanted, ↓bite_eq, ↓reduceIte, aStep_eq, aStepOld, aOp, opBin, aev, ann, aPut, h21, h22, d1]
    rfl
  repeat apply W_assoc
  refine W_if (b := true) ?_ ?_ ?_
  · simp +decide only [aev, rget_rput, if_true]
  rotate_left
  · intro h; cases h
  intro _
  apply W_skipq
  refine W_blk ?_
  have L0 : aLoad Try.prog σ2 3 (.pointer (some ⟨fb, 0, none⟩)) = some (.int .i64 ((0 : Nat) : Int)) := load1 Try.underlying3 rfl (cells_at ((K2.ext.get fb hfb).trans hf) rfl (Nat.le_refl _))
  have I0 : aIndexAddr Try.prog 33 (.slice (some ⟨fb, 0, none⟩) 1 1) (.int .i64 ((0 : Nat) : Int)) = some (.pointer (some ⟨fb, 0, none⟩)) := by kernel_rfl
  repeat apply W_assoc
  apply W_reg
  · intro callf
    simp +decide only [aOps, aWanted, ↓bite_eq, ↓reduceIte, aStep_eq, aStepOld, aOp, opIndexAddr, opLoad, aev, ann, aPut, rget_rput, h20, h22, I0, L0]
    rfl
  have hTl : 0 < seen.length := by rw [S2.len]; exact hpos
  obtain ⟨x, hx⟩ : ∃ x, seen[0]? = some x := ⟨seen[0], by simp [hTl]⟩
  have KQ := K2.go (Ext.reset σ2)
  obtain ⟨kb, hkx, hkl⟩ := KQ.look hx
  have w3 : IntKind.i64.wrap (((0 : Nat) : Int) + 1) = ((1 : Nat) : Int) := by rw [wrap64_id _ (by omega) (by omega)]; rfl
  repeat apply W_assoc
  refine W_drw [] [] (by kernel_rfl) (by kernel_rfl) ?_
  apply Lg_all
  · intro callf
    simp +decide only [aQ, memb, List.any_nil, Bool.true_or, Bool.and_true, reset_merge, reset_reset, reset_next, reset_low, merge_next, merge_idem, ble_self, aWanted, ↓bite_eq, ↓reduceIte, aStep_eq, aStepOld, aOp, opBin, opIndexAddr, opFieldAddr, opLoad, aev, ann, aPut, rget_rput, Nat.zero_add, Bool.not_false, h0, opNil, fld96_1, fld96_2, KQ.l1, KQ.l2, hkx, hkl, aBin, aInts, aInt_eq]
    rfl
  have e7 : Ext σ2 (σ2.merge σ2.reset) := (Ext.refl _).merge
  generalize σ2.merge σ2.reset = σ7 at e7
  have K7 := K2.go e7
  by_cases hx1 : x = 1
  · have d3 : (x != 1) = false := by rw [bne_eq_false_iff_eq]; exact hx1
    rw [d3]
    refine W_tail ?_
    repeat apply W_assoc
    refine W_if (b := false) ?_ ?_ ?_
    · simp +decide only [aev, rget_rput, if_true, if_false]
    · intro h; cases h
    intro _
    apply W_skipq
    refine W_skip ⟨fun _ => ?_, fun h => absurd rfl h⟩
    refine W_tail ?_
    repeat apply W_assoc
    apply W_reg
    · intro callf
      simp +decide only [aOps, aWanted, ↓bite_eq, ↓reduceIte, aStep_eq, aStepOld, aOp, opBin, aev, ann, aPut, rget_rput, h22, w3, aBin, aInts, aInt_eq]
      rfl
    refine W_skip ⟨fun _ => ⟨1, by decide, ?_⟩, fun h => (nomatch h), fun h => absurd rfl h⟩
    refine ⟨Nat.le_refl _, ⟨seen, out, ov, ?_, K7, S2, fun _ => (S2.iff 0 hpos).1 (by rw [hx, hx1])⟩, ?_, ?_, ?_, ?_, ?_⟩ <;> simp +decide only [rget_rput, if_true, if_false, h0, h2, h7, h20, h21]
  have d3 : (x != 1) = true := by rw [bne_iff_ne]; exact hx1
  rw [d3]
  refine W_tail ?_
  repeat apply W_assoc
  refine W_if (b := true) ?_ ?_ ?_
  · simp +decide only [aev, rget_rput, if_true, if_false]
  rotate_left
  · intro h; cases h
  intro _
  have KQ := K7.go (Ext.reset σ7)
  obtain ⟨kb2, hkx2, -⟩ := KQ.look hx
  repeat apply W_assoc
  refine W_drw [] [] (by kernel_rfl) (by kernel_rfl) ?_
  apply Lg_pre 10
  · intro callf
    simp +decide only [List.take, aQ, memb, List.any_nil, Bool.true_or, Bool.and_true, reset_merge, reset_reset, reset_next, reset_low, merge_next, merge_idem, ble_self, aWanted, ↓bite_eq, ↓reduceIte, aStep_eq, aStepOld, aOp, opIndexAddr, opFieldAddr, opLoad, aev, ann, aPut, rget_rput, Nat.zero_add, Bool.not_false, h0, opNil, fld96_1, fld96_2, KQ.l1, KQ.l2, hkx2]
    rfl
  dsimp only [List.drop, List.take, List.length]
  have e8 : Ext σ7 (σ7.merge σ7.reset) := (Ext.refl _).merge
  generalize σ7.merge σ7.reset = σ8 at e8
  have K8 := K7.go e8
  obtain ⟨kb3, hkx3, B3, hst3, K9⟩ := (K8.go (Ext.reset σ8)).mark (i := 0) hTl 1
  obtain rfl : kb3 = kb2 := by rw [hkx2] at hkx3; cases hkx3; rfl
  refine Lg_st (v := undef) (s1 := σ8.reset.put kb3 B3) (by intro callf; simp +decide only [↓reduceIte, aStep_eq, aStepOld, aOp, opStore, aev, unn, rget_rput, hst3]) (by kernel_rfl) ?_
  have K9 := K9.merge K8.ext
  have S9 := S2.add hx hx1
  generalize σ8.merge (σ8.reset.put kb3 B3) = σ9 at K9
  show W _ _ _ 114 _ _ _ _
  have hB10 : (σ9.new ⟨1, 3, 0, [.int .i64 ((0 : Nat) : Int)], []⟩).get σ9.next = ⟨1, 3, 0, [.int .i64 ((0 : Nat) : Int)], []⟩ := by rw [AS.get_new, if_pos rfl]
  obtain ⟨ov6, s10, ha10, K10, -⟩ := (K9.go (Ext.new σ9 ⟨1, 3, 0, [.int .i64 ((0 : Nat) : Int)], []⟩)).push (x := ((0 : Nat) : Int)) hB10 (by have := S2.out_le; omega)
  repeat apply W_assoc
  apply W_reg
  · intro callf
    simp +decide only [aOps, aWanted, ↓bite_eq, ↓reduceIte, aStep_eq, aStepOld, aOp, opCall, opBuildSlice, aev, aevs, aparts, ann, aPut, rget_rput, aBuiltin, h7, slice33a, ha10]
    rfl
  refine W_skip ⟨fun _ => ?_, fun h => absurd rfl h⟩
  refine W_tail ?_
  repeat apply W_assoc
  apply W_reg
  · intro callf
    simp +decide only [aOps, aWanted, ↓bite_eq, ↓reduceIte, aStep_eq, aStepOld, aOp, opBin, aev, ann, aPut, rget_rput, h22, w3, aBin, aInts, aInt_eq]
    rfl
  refine W_skip ⟨fun _ => ⟨1, by decide, ?_⟩, fun h => (nomatch h), fun h => absurd rfl h⟩
  refine ⟨Nat.le_refl _, ⟨_, _, ov6, ?_, K10, S9, fun _ => by simp⟩, ?_, ?_, ?_, ?_, ?_⟩ <;> simp +decide only [rget_rput, if_true, if_false, h0, h2, h20, h21]

end Go.Proofs.Ytbknckiapcafdaa.Nest
