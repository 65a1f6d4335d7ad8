/- Lists of integers that change in place; the silent arcs of a state (54); which lists are of states (59, 58, 68, 57, 41). -/
import Derived.Test.YtbknckiapcafdaaNestZO
set_option linter.unusedSimpArgs false
set_option linter.unusedVariables false
namespace Go.Proofs.Ytbknckiapcafdaa.Nest
open Abs Abs2

def vInt (x : Int) : Value := .int .i64 x
/-- A list of integers in a block of its own. -/
def IL (lo : Nat) (σ : AS) (v : Value) (l : List Int) : Prop := ∃ b, v = .slice (some ⟨b, 0, none⟩) l.length l.length ∧ lo ≤ b ∧ b < σ.next ∧ σ.get b = ⟨1, 3, 0, l.map vInt, []⟩

section
variable {lo : Nat} {σ σ' : AS} {v : Value} {l : List Int}
theorem IL.keep (h : IL lo σ v l) (hn : σ.next ≤ σ'.next) (hg : ∀ i, Own v i → i < σ.next → σ'.get i = σ.get i) : IL lo σ' v l := by
  obtain ⟨b, rfl, h1, h2, h3⟩ := h
  exact ⟨b, rfl, h1, by omega, (hg b ⟨_, _, rfl⟩ h2).trans h3⟩
theorem IL.ext (h : IL lo σ v l) (e : Ext σ σ') : IL lo σ' v l := h.keep e.nxt fun i _ hi => e.get i hi
theorem IL.own (h : IL lo σ v l) {i : Nat} (ho : Own v i) : lo ≤ i ∧ i < σ.next ∧ (σ.get i).elem = 3 ∧ (σ.get i).kind = 1 := by
  obtain ⟨b, rfl, h1, h2, h3⟩ := h
  obtain ⟨n, c, e⟩ := ho
  cases e
  exact ⟨h1, h2, by rw [h3], by rw [h3]⟩
theorem IL.at (h : IL lo σ v l) : ∃ b, v = .slice (some ⟨b, 0, none⟩) l.length l.length ∧ lo ≤ b ∧ b < σ.next ∧ σ.get b = ⟨1, 3, 0, l.map vInt, []⟩ ∧
    (∀ i, i < l.length → aIndexAddr Try.prog 33 v (.int .i64 (i : Int)) = some (.pointer (some ⟨b, i, none⟩))) ∧
    (∀ i x, l[i]? = some x → ∀ σ' : AS, σ'.get b = σ.get b → aLoad Try.prog σ' 3 (.pointer (some ⟨b, i, none⟩)) = some (vInt x)) ∧
    (∀ i x, i < l.length → ∀ σ' : AS, σ'.get b = σ.get b → aStore Try.prog σ' 3 (vInt x) (.pointer (some ⟨b, i, none⟩)) = some (σ'.put b ⟨1, 3, 0, (l.set i x).map vInt, []⟩)) := by
  obtain ⟨b, rfl, h1, h2, h3⟩ := h
  refine ⟨b, rfl, h1, h2, h3, fun i hi => ?_, fun i x hx σ' hg => load1 Try.underlying3 rfl (cells_at (hg.trans h3) ?_ ?_), fun i x hi σ' hg => ?_⟩
  · have e1 := idx33 (b := b) (off := 0) (cap := l.length) hi
    rw [Nat.mul_one, Nat.zero_add] at e1
    exact e1
  · obtain ⟨h4, h5⟩ := List.getElem?_eq_some_iff.1 hx
    rw [List.drop_eq_getElem_cons (by rw [List.length_map]; exact h4), List.getElem_map, h5]; rfl
  · have := (List.getElem?_eq_some_iff.1 hx).1
    rw [List.length_map]; exact this
  · obtain ⟨inf, hi2, hs⟩ : ∃ inf, Try.prog.info? 3 = some inf ∧ inf.size = 1 := ⟨(Try.prog.info? 3).get!, by kernel_rfl, by kernel_rfl⟩
    have hz : Nat.beq (vInt x).cells.size 1 = true := rfl
    have hc : (vInt x).cells.toList = [vInt x] := rfl
    have ho : one (vInt x) = true := rfl
    unfold aStore
    simp only [hi2, hs, hz, if_true, hc]
    unfold aWrite
    simp only [hg.trans h3, hasLen_eq, List.length_map, List.length_cons, List.length_nil, Nat.zero_add, List.all_cons, List.all_nil, ho]
    rw [ble_t (show i + 1 ≤ l.length by omega), lsplice_cons, lsplice_nil, ← List.map_set]
    rfl
theorem IL.put {b : Nat} (h : IL lo σ v l) (hb : v = .slice (some ⟨b, 0, none⟩) l.length l.length) (i : Nat) (x : Int) : IL lo (σ.put b ⟨1, 3, 0, (l.set i x).map vInt, []⟩) v (l.set i x) := by
  obtain ⟨b', e, h1, h2, h3⟩ := h
  rw [e] at hb; cases hb
  exact ⟨b, by rw [List.length_set]; exact e, h1, h2, by rw [AS.get_put, if_pos rfl]⟩
theorem IL.rs (h : IL lo σ v l) : RS 1 RInt σ v l := by
  obtain ⟨b, rfl, h1, h2, h3⟩ := h
  refine RS.of_block h2 h3 (by simp) fun i x hx => ?_
  obtain ⟨h4, h5⟩ := List.getElem?_eq_some_iff.1 hx
  rw [Nat.mul_one, List.drop_eq_getElem_cons (by rw [List.length_map]; exact h4), List.getElem_map, h5]; rfl
end

theorem info3 : ∃ inf, Try.prog.info? 3 = some inf ∧ inf.size = 1 ∧ inf.bytes = 8 ∧ inf.zero = some (.int .i64 0) :=
  ⟨(Try.prog.info? 3).get!, by kernel_rfl, by kernel_rfl, by kernel_rfl, by kernel_rfl⟩
theorem make33 {σ : AS} {N : Nat} (h : N ≤ 1000000) : aMakeSlice Try.prog σ 33 (.int .i64 (N : Int)) (.int .i64 (N : Int)) = some (.slice (some ⟨σ.next, 0, none⟩) N N, σ.new ⟨1, 3, 0, List.replicate N (.int .i64 0), []⟩) := by
  obtain ⟨inf, h1, h2, h3, h4⟩ := info3
  unfold aMakeSlice
  simp only [Try.underlying33, h1, h2, h3, h4]
  rw [if_pos ⟨by omega, by omega, by omega, by omega, rfl, by decide⟩]
  have e : ((Array.range ((N : Int).toNat * 1)).map fun i => (Value.int .i64 0).cells[i % (Value.int .i64 0).cells.size]!).toList = List.replicate N (.int .i64 0) := by
    rw [Nat.mul_one]
    exact map_range_const (fun v : Value => v) (.int .i64 0) (fun i => (Value.int .i64 0).cells[i % (Value.int .i64 0).cells.size]!) (fun i => by
      have : i % (Value.int .i64 0).cells.size = 0 := Nat.mod_one i
      rw [this]; rfl) N
  rw [e]
  rfl
theorem make33_il {σ : AS} {N lo : Nat} (hl : lo ≤ σ.next) : IL lo (σ.new ⟨1, 3, 0, List.replicate N (.int .i64 0), []⟩) (.slice (some ⟨σ.next, 0, none⟩) N N) (List.replicate N 0) :=
  ⟨σ.next, by simp, hl, Nat.lt_succ_self _, by rw [AS.get_new, if_pos rfl, List.map_replicate]; rfl⟩

theorem GRow.stk {σ : AS} {v : Value} {l : List Arc} (h : GRow σ v l) : Stk 0 27 2 σ v l.length (cellsOf l) := by
  refine ⟨cellsOf_length l, cellsOf_one l, ?_⟩
  rcases h with ⟨rfl, rfl⟩ | ⟨h0, b, rfl, h2, h3⟩
  · exact .inl ⟨rfl, rfl⟩
  · exact .inr ⟨b, l.length, cellsOf l, rfl, Nat.le_refl _, Nat.zero_le _, h2, h3, by rw [cellsOf_length]; exact Nat.le_refl _, by rw [List.take_of_length_le (by rw [cellsOf_length]; exact Nat.le_refl _)]⟩

theorem GRow.cut {σ : AS} {v : Value} {l : List Arc} (h : GRow σ v l) {n : Nat} (hn : n ≤ l.length) : ∃ a c, ∀ s : AS, Ext σ s → aSlice Try.prog s 22 v none (some (.int .i64 (n : Int))) none = some (.slice a n c) ∧ RS 2 RArc s (.slice a n c) (l.take n) := by
  have hl : (l.take n).length = n := by rw [List.length_take]; omega
  rcases id h with ⟨rfl, rfl⟩ | ⟨h0, b, rfl, hb, hg⟩
  · obtain rfl : n = 0 := by simpa using hn
    refine ⟨none, 0, fun s e => ?_⟩
    obtain ⟨x, h1, h2, -, -⟩ := ((h.ext e).stk).cut el27 (j := 0) (Nat.zero_le _)
    obtain ⟨_, _, ⟨rfl, _⟩ | ⟨b, m, vals, rfl, h4, h5, h6, h7, -⟩⟩ := h2
    · exact ⟨h1, ⟨none, 0, rfl, fun h => absurd rfl h⟩⟩
    · exfalso
      obtain ⟨inf, z, g1, g2, -⟩ := info27
      unfold aSlice at h1
      simp only [Try.underlying22, g1, g2, open_zero] at h1
      have h9 : aSliceAt 2 none 0 0 none (some (.int .i64 ((0 : Nat) : Int))) none = some (.slice none 0 0) := rfl
      rw [h9] at h1
      cases h1
  · refine ⟨some ⟨b, 0, none⟩, OPENCAP + l.length, fun s e => ?_⟩
    have hg2 := (e.get b hb).trans hg
    have h1 : aSlice Try.prog s 22 (outV b l) none (some (.int .i64 (n : Int))) none = some (.slice (some ⟨b, 0, none⟩) n (OPENCAP + l.length)) := open_slice el27 hg2 (by
      unfold aSliceAt
      simp only [aboundO, open_lb, abound_le n l.length hn, open_cap, if_true, Nat.beq_refl])
    refine ⟨h1, ?_⟩
    have h2 : Stk 0 27 2 s (.slice (some ⟨b, 0, none⟩) n (OPENCAP + l.length)) (l.take n).length (cellsOf (l.take n)) := by
      refine ⟨cellsOf_length _, cellsOf_one _, .inr ⟨b, l.length, cellsOf l, by rw [hl], by rw [hl]; exact hn, Nat.zero_le _, e.lt hb, hg2, by rw [cellsOf_length]; exact Nat.le_refl _, ?_⟩⟩
      rw [hl, cellsOf_take]
    exact Stk.rs h2

/-- The silent arcs of a state, where they come first. -/
def tauRow (L : Lts) (k : Nat) : List Arc := (L.getD k []).takeWhile fun a => a.1 == 0

theorem takeWhile_take {l : List Arc} {n : Nat} (h1 : ∀ j a, j < n → l[j]? = some a → a.1 = 0) (h2 : ∀ a, l[n]? = some a → a.1 ≠ 0) (hn : n ≤ l.length) : l.takeWhile (fun a => a.1 == 0) = l.take n := by
  induction l generalizing n with
  | nil => simp
  | cons x l ih =>
    cases n with
    | zero =>
      have := h2 x rfl
      rw [List.takeWhile_cons, if_neg (by simpa using this), List.take_zero]
    | succ n =>
      have h0 := h1 0 x (by omega) rfl
      rw [List.takeWhile_cons, if_pos (by simpa using h0), List.take_succ_cons, ih (n := n) (fun j a hj ha => h1 (j + 1) a (by omega) (by simpa using ha)) (fun a ha => h2 a (by simpa using ha)) (by simpa using hn)]

set_option maxHeartbeats 8000000 in
theorem tau_c {σ0 σ : AS} {tb lb cap m k : Nat} {L : Lts} (hG : Gen tb lb σ0 L m) (e0 : Ext σ0 σ) (hm : m ≤ 1000) (hk : k < L.length) : C Try.prog Kn 0 54 [.agg #[.slice (some ⟨lb, 0, none⟩) L.length cap], .int .i64 (k : Int), .bool true] σ fun v σ' =>
    Ext σ σ' ∧ (∃ a c, v = .slice a (tauRow L k).length c) ∧ ∀ s : AS, Ext σ0 s → RS 2 RArc s v (tauRow L k) := by
  obtain ⟨v, l, hl, hlm, hg, hld⟩ := hG.at (i := k) hk
  obtain ⟨vb, vc, rfl⟩ := hg.slice
  have hrow : L.getD k [] = l := by simp [List.getD, hl]
  have hll := (hG.row l hlm).1
  refine C_of (kn (by decide)) Try.func54 rfl (Nat.le_of_ble_eq_true rfl) ?_
  show W _ _ _ 34 _ _ _ _
  unfold Try.f54
  dsimp only
  repeat apply W_assoc
  apply W_reg
  · intro callf
    simp +decide only [aOps, rinit, aWanted, ↓bite_eq, ↓reduceIte, aStep_eq, aStepOld, aOp, opBox, aRow, aev, ann, aPut, rget_rput, Nat.zero_add]
    rfl
  have E0 := Ext.new σ ⟨1, 30, 0, (Value.agg #[.slice (some ⟨lb, 0, none⟩) L.length cap]).cells.toList, []⟩
  have BX : BoxAt (σ.new ⟨1, 30, 0, (Value.agg #[.slice (some ⟨lb, 0, none⟩) L.length cap]).cells.toList, []⟩) σ.next (.slice (some ⟨lb, 0, none⟩) L.length cap) := ⟨Nat.lt_succ_self _, by rw [AS.get_new, if_pos rfl]; rfl⟩
  generalize σ.new ⟨1, 30, 0, (Value.agg #[.slice (some ⟨lb, 0, none⟩) L.length cap]).cells.toList, []⟩ = σ1 at E0 BX
  have hld1 := hld _ (ExtX.of (e0.trans E0))
  repeat apply W_assoc
  apply W_reg
  · intro callf
    simp +decide only [aOps, aWanted, ↓bite_eq, ↓reduceIte, aStep_eq, aStepOld, aOp, opIndexAddr, opFieldAddr, opLoad, aev, ann, aPut, rget_rput, Nat.zero_add, fldL, BX.out, hld1, idx28g hk, Nat.zero_add]
    rfl
  repeat apply W_assoc
  apply W_reg
  · intro callf
    simp +decide only [aOps, aWanted, ↓bite_eq, ↓reduceIte, aStep_eq, aStepOld, aOp, opUn, aev, ann, aPut, rget_rput, Bool.not_true, not_b]
    rfl
  repeat apply W_assoc
  refine W_if (b := false) ?_ ?_ ?_
  · simp +decide only [aev, rget_rput, if_true, if_false]
  · intro h; cases h
  intro _
  apply W_skipq
  repeat apply W_assoc
  apply W_reg
  · intro callf
    simp +decide only [aOps, aWanted, ↓bite_eq, ↓reduceIte, aStep_eq, aStepOld, aOp, aev, ann, aPut]
    rfl
  have hrs := (hg.shown.ext (e0.trans E0)).rs
  repeat apply W_assoc
  refine W_forM (fun (n : Nat) r σ' => n ≤ l.length ∧ σ' = σ1 ∧ (∀ j a, j < n → l[j]? = some a → a.1 = 0) ∧ rget r 7 = .slice vb l.length vc ∧ rget r 8 = .int .i64 (n : Int))
    (fun n => l.length - n) (fun r σ' => ∃ n, n ≤ l.length ∧ σ' = σ1 ∧ (∀ j a, j < n → l[j]? = some a → a.1 = 0) ∧ (∀ a, l[n]? = some a → a.1 ≠ 0) ∧ rget r 7 = .slice vb l.length vc ∧ rget r 8 = .int .i64 (n : Int)) ?_ ?_ 0 ?_
  rotate_left 2
  · refine ⟨Nat.zero_le _, rfl, fun j a hj => absurd hj (Nat.not_lt_zero _), ?_, ?_⟩ <;> simp +decide only [rget_rput, if_true, if_false] <;> first | exact True.intro | rfl
  rotate_left
  · rintro r σ2 ⟨n, hn, rfl, h1, h2, h7, h8⟩
    obtain ⟨xa, xc, hx⟩ := hg.shown.cut (n := n) hn
    have htw := takeWhile_take h1 h2 hn
    have htl : tauRow L k = l.take n := by unfold tauRow; rw [hrow, htw]
    have hll2 : (l.take n).length = n := by rw [List.length_take]; omega
    repeat apply W_assoc
    apply W_reg
    · intro callf
      simp +decide only [aOps, aWanted, ↓bite_eq, ↓reduceIte, aStep_eq, aStepOld, aOp, opSlice, aev, ann, aPut, rget_rput, h7, h8, aopt, (hx _ (e0.trans E0)).1]
      rfl
    refine W_ret ⟨Nat.le_refl _, [.slice xa n xc], ?_, E0, ⟨xa, xc, by rw [htl, hll2]; rfl⟩, fun s e => ?_⟩
    · simp +decide only [aResults, rget_rput, if_true, if_false]
    · rw [htl]
      exact (hx s e).2
  rintro n r σ2 ⟨hn, rfl, h1, h7, h8⟩
  by_cases hlt : n < l.length
  rotate_left
  · have d1 : decide ((n : Int) < (l.length : Int)) = false := decide_eq_false (by omega)
    repeat apply W_assoc
    apply W_reg
    · intro callf
      simp +decide only [aOps, aWanted, ↓bite_eq, ↓reduceIte, aStep_eq, aStepOld, aOp, opBin, opCall, opPick, aev, aevs, ann, aPut, rget_rput, aBuiltin, aLen, List.getElem?_toArray, List.getElem?_cons_zero, List.getElem?_cons_succ, Option.bind_some, Bool.not_true, Bool.false_beq, h7, h8, d1, Try.underlying22, goInt, opPick, aBin, aInts, aInt_eq]
      rfl
    repeat apply W_assoc
    refine W_if (b := false) ?_ ?_ ?_
    · simp +decide only [aev, rget_rput, if_true, if_false]
    · intro h; cases h
    intro _
    refine W_exitq ⟨fun h => (nomatch h), fun _ => ⟨n, hn, rfl, h1, (fun a ha => by rw [List.getElem?_eq_none (by omega)] at ha; cases ha), ?_, ?_⟩, fun h1 h2 => absurd rfl h2⟩ <;> simp +decide only [rget_rput, if_false, h7, h8]
  have d1 : decide ((n : Int) < (l.length : Int)) = true := decide_eq_true (by omega)
  obtain ⟨a, ha⟩ : ∃ a, l[n]? = some a := ⟨l[n], by simp [hlt]⟩
  obtain ⟨-, ab, aoff, rfl, -, hat⟩ := arcOf hrs ha
  have hat1 := (hat _ (Ext.refl _)).2.1
  by_cases h0 : a.1 = 0
  rotate_left
  · have d2 : (a.1 == 0) = false := by rw [beq_eq_false_iff_ne]; exact h0
    repeat apply W_assoc
    apply W_reg
    · intro callf
      simp +decide only [aOps, aWanted, ↓bite_eq, ↓reduceIte, aStep_eq, aStepOld, aOp, opBin, opCall, opIndexAddr, opFieldAddr, opLoad, opPick, aev, aevs, ann, aPut, rget_rput, aBuiltin, aLen, List.getElem?_toArray, List.getElem?_cons_zero, List.getElem?_cons_succ, Option.bind_some, beq_self_eq_true, h7, h8, d1, d2, idx22 hlt, fld0, hat1, Try.underlying22, goInt, opPick, aBin, aInts, aInt_eq]
      rfl
    repeat apply W_assoc
    refine W_if (b := false) ?_ ?_ ?_
    · simp +decide only [aev, rget_rput, if_true, if_false]
    · intro h; cases h
    intro _
    refine W_exitq ⟨fun h => (nomatch h), fun _ => ⟨n, hn, rfl, h1, (fun b hb => by rw [ha] at hb; cases hb; exact h0), ?_, ?_⟩, fun h1 h2 => absurd rfl h2⟩ <;> simp +decide only [rget_rput, if_false, h7, h8]
  have d2 : (a.1 == 0) = true := by rw [beq_iff_eq]; exact h0
  repeat apply W_assoc
  apply W_reg
  · intro callf
    simp +decide only [aOps, aWanted, ↓bite_eq, ↓reduceIte, aStep_eq, aStepOld, aOp, opBin, opCall, opIndexAddr, opFieldAddr, opLoad, opPick, aev, aevs, ann, aPut, rget_rput, aBuiltin, aLen, List.getElem?_toArray, List.getElem?_cons_zero, List.getElem?_cons_succ, Option.bind_some, beq_self_eq_true, h7, h8, d1, d2, idx22 hlt, fld0, hat1, Try.underlying22, goInt, opPick, aBin, aInts, aInt_eq]
    rfl
  repeat apply W_assoc
  refine W_if (b := true) ?_ ?_ ?_
  · simp +decide only [aev, rget_rput, if_true, if_false]
  rotate_left
  · intro h; cases h
  intro _
  apply W_skipq
  refine W_tail ?_
  refine W_blk ?_
  refine W_tail ?_
  have w1 : IntKind.i64.wrap ((n : Int) + 1) = ((n + 1 : Nat) : Int) := by rw [wrap64_id _ (by omega) (by omega)]; omega
  repeat apply W_assoc
  apply W_reg
  · intro callf
    simp +decide only [aOps, aWanted, ↓bite_eq, ↓reduceIte, aStep_eq, aStepOld, aOp, opBin, aev, ann, aPut, rget_rput, h8, w1, aBin, aInts, aInt_eq]
    rfl
  refine W_skip ⟨fun _ => W_skip ⟨fun _ => ⟨n + 1, ?_, ?_⟩, fun h => (nomatch h), fun h => absurd rfl h⟩, fun h => absurd rfl h⟩
  · omega
  · refine ⟨by omega, rfl, fun j b hj hb => ?_, ?_, ?_⟩
    · by_cases e : j = n
      · subst e; rw [ha] at hb; cases hb; exact h0
      · exact h1 j b (by omega) hb
    all_goals simp +decide only [rget_rput, if_true, if_false, h7]

set_option maxHeartbeats 4000000 in
theorem state_c {σ : AS} {sb : Option Addr} {n c : Nat} (hn : 0 < n) : C Try.prog Kn 0 59 [.agg #[.slice sb n c], .int .i64 0] σ fun v σ' => v = .bool true ∧ Ext σ σ' := by
  refine C_of (kn (by decide)) Try.func59 rfl (Nat.le_of_ble_eq_true rfl) ?_
  show W _ _ _ 14 _ _ _ _
  unfold Try.f59
  dsimp only
  repeat apply W_assoc
  apply W_reg
  · intro callf
    simp +decide only [aOps, rinit, aWanted, ↓bite_eq, ↓reduceIte, aStep_eq, aStepOld, aOp, opBox, aRow, aev, ann, aPut, rget_rput, Nat.zero_add]
    rfl
  have E0 := Ext.new σ ⟨1, 30, 0, (Value.agg #[.slice sb n c]).cells.toList, []⟩
  have BX : BoxAt (σ.new ⟨1, 30, 0, (Value.agg #[.slice sb n c]).cells.toList, []⟩) σ.next (.slice sb n c) := ⟨Nat.lt_succ_self _, by rw [AS.get_new, if_pos rfl]; rfl⟩
  generalize σ.new ⟨1, 30, 0, (Value.agg #[.slice sb n c]).cells.toList, []⟩ = σ1 at E0 BX
  have d1 : decide ((0 : Int) < (n : Int)) = true := decide_eq_true (by omega)
  have d2 : decide ((0 : Int) ≥ 0) = true := by decide
  repeat apply W_assoc
  apply W_reg
  · intro callf
    simp +decide only [aOps, aWanted, ↓bite_eq, ↓reduceIte, aStep_eq, aStepOld, aOp, opBin, opCall, opFieldAddr, opLoad, opPick, aev, aevs, ann, aPut, rget_rput, aBuiltin, aLen, List.getElem?_toArray, List.getElem?_cons_zero, List.getElem?_cons_succ, Option.bind_some, fldL, BX.out, d1, opPick, Try.underlying28, goInt, aBin, aInts, aInt_eq]
    rfl
  refine W_ret ⟨Nat.le_refl _, [.bool true], ?_, rfl, E0⟩
  simp +decide only [aResults, rget_rput, if_true, if_false]

set_option maxHeartbeats 4000000 in
theorem notState_c {σ : AS} {b1 : Nat} {sb : Option Addr} {n c : Nat} (hn : 0 < n) (hB : BoxAt σ b1 (.slice sb n c)) : C Try.prog Kn 0 58 [.int .i64 0, .pointer (some ⟨b1, 0, none⟩)] σ fun v σ' => v = .bool false ∧ Ext σ σ' := by
  refine C_of (kn (by decide)) Try.func58 rfl (Nat.le_of_ble_eq_true rfl) ?_
  show W _ _ _ 8 _ _ _ _
  unfold Try.f58
  dsimp only
  repeat apply W_assoc
  apply W_reg
  · intro callf
    simp +decide only [aOps, rinit, aWanted, ↓bite_eq, ↓reduceIte, aStep_eq, aStepOld, aOp, aev, ann, aPut, Nat.zero_add]
    rfl
  repeat apply W_assoc
  apply W_regL
  apply Ls_pre 2
  · intro callf
    simp +decide only [List.take, aOps, aWanted, ↓bite_eq, ↓reduceIte, aStep_eq, aStepOld, aOp, opLoad, aev, ann, aPut, rget_rput, hB.load]
    rfl
  dsimp only [List.drop]
  refine Ls_fn (vs := [.agg #[.slice sb n c], .int .i64 0]) (by simp +decide only [aevs, aev, rget_rput, if_true, if_false]) (by decide) (C.mono (state_c hn) ?_)
  rintro v σ' ⟨rfl, e1⟩
  apply Ls_all
  · intro callf
    simp +decide only [aOps, aWanted, ↓bite_eq, ↓reduceIte, aStep_eq, aStepOld, aOp, opUn, aev, ann, aPut, rget_rput, Bool.not_true, not_b]
    rfl
  refine W_ret ⟨Nat.le_refl _, [.bool false], ?_, rfl, e1⟩
  simp +decide only [aResults, rget_rput, if_true, if_false]

set_option maxHeartbeats 4000000 in
theorem indexState_c {σ : AS} {b1 fb : Nat} {sb : Option Addr} {n c : Nat} (hn : 0 < n) (hB : BoxAt σ b1 (.slice sb n c)) (hfb : fb < σ.next) (hf : σ.get fb = ⟨1, 3, 0, [.int .i64 0], []⟩) : C Try.prog Kn 0 68 [.slice (some ⟨fb, 0, none⟩) 1 1, .func (.func 58) #[] #[.pointer (some ⟨b1, 0, none⟩)]] σ fun v σ' => v = .int .i64 (-1) ∧ Ext σ σ' := by
  refine C_of (kn (by decide)) Try.func68 rfl (Nat.le_of_ble_eq_true rfl) ?_
  show W _ _ _ 19 _ _ _ _
  unfold Try.f68
  dsimp only
  repeat apply W_assoc
  apply W_reg
  · intro callf
    simp +decide only [aOps, rinit, aWanted, ↓bite_eq, ↓reduceIte, aStep_eq, aStepOld, aOp, aev, ann, aPut, Nat.zero_add]
    rfl
  repeat apply W_assoc
  apply W_reg
  · intro callf
    simp +decide only [aOps, aWanted, ↓bite_eq, ↓reduceIte, aStep_eq, aStepOld, aOp, opCall, aev, aevs, ann, aPut, rget_rput, aBuiltin, aLen, List.getElem?_toArray, List.getElem?_cons_zero, Try.underlying33, goInt]
    rfl
  repeat apply W_assoc
  refine W_for (fun (i : Nat) r σ' => i ≤ 1 ∧ Ext σ σ' ∧ rget r 0 = .slice (some ⟨fb, 0, none⟩) 1 1 ∧ rget r 1 = .func (.func 58) #[] #[.pointer (some ⟨b1, 0, none⟩)] ∧ rget r 7 = .int .i64 1 ∧ rget r 8 = .int .i64 (i : Int)) (fun i => 1 - i) ?_ 0 ?_
  rotate_left
  · refine ⟨Nat.zero_le _, Ext.refl _, ?_, ?_, ?_, ?_⟩ <;> simp +decide only [rget_rput, if_true, if_false] <;> first | exact True.intro | rfl
  rintro i r σ2 ⟨hi, e2, h0, h1, h7, h8⟩
  by_cases hlt : i < 1
  rotate_left
  · have d1 : decide ((i : Int) < 1) = false := decide_eq_false (by omega)
    repeat apply W_assoc
    apply W_reg
    · intro callf
      simp +decide only [aOps, aWanted, ↓bite_eq, ↓reduceIte, aStep_eq, aStepOld, aOp, opBin, aev, ann, aPut, h7, h8, d1, aBin, aInts, aInt_eq]
      rfl
    repeat apply W_assoc
    refine W_if (b := false) ?_ ?_ ?_
    · simp +decide only [aev, rget_rput, if_true]
    · intro h; cases h
    intro _
    refine W_exitq ⟨fun h => (nomatch h), fun _ => ?_, fun h1 h2 => absurd rfl h2⟩
    repeat apply W_assoc
    apply W_reg
    · intro callf
      simp +decide only [aOps, aWanted, ↓bite_eq, ↓reduceIte, aStep_eq, aStepOld, aOp, aev, ann, aPut]
      rfl
    refine W_ret ⟨Nat.le_refl _, [.int .i64 (-1)], ?_, rfl, e2⟩
    simp +decide only [aResults, rget_rput, if_true, if_false]
  obtain rfl : i = 0 := by omega
  have d1 : ∀ xo yo, aBin Try.prog .lss 3 xo yo (.int .i64 ((0 : Nat) : Int)) (.int .i64 1) = some (.bool true) := fun _ _ => by kernel_rfl
  repeat apply W_assoc
  apply W_reg
  · intro callf
    simp +decide only [aOps, aWanted, ↓bite_eq, ↓reduceIte, aStep_eq, aStepOld, aOp, opBin, aev, ann, aPut, h7, h8, d1]
    rfl
  repeat apply W_assoc
  refine W_if (b := true) ?_ ?_ ?_
  · simp +decide only [aev, rget_rput, if_true]
  rotate_left
  · intro h; cases h
  intro _
  apply W_skipq
  refine W_blk ?_
  repeat apply W_assoc
  apply W_reg
  · intro callf
    simp +decide only [aOps, aWanted, ↓bite_eq, ↓reduceIte, aStep_eq, aStepOld, aOp, aev, ann, aPut, rget_rput, h8]
    rfl
  have L0 : aLoad Try.prog σ2 3 (.pointer (some ⟨fb, 0, none⟩)) = some (.int .i64 0) := load1 Try.underlying3 rfl (cells_at ((e2.get fb hfb).trans hf) rfl (Nat.le_refl _))
  have I0 : aIndexAddr Try.prog 33 (.slice (some ⟨fb, 0, none⟩) 1 1) (.int .i64 ((0 : Nat) : Int)) = some (.pointer (some ⟨fb, 0, none⟩)) := by kernel_rfl
  repeat apply W_assoc
  apply W_regL
  apply Ls_pre 5
  · intro callf
    simp +decide only [List.take, aOps, aWanted, ↓bite_eq, ↓reduceIte, aStep_eq, aStepOld, aOp, opIndexAddr, opLoad, aev, ann, aPut, rget_rput, h0, h1, L0, I0]
    rfl
  dsimp only [List.drop]
  refine Ls_call (first := #[]) (captured := #[.pointer (some ⟨b1, 0, none⟩)]) (fid := 58) (vs := [.int .i64 0]) (by simp +decide only [aev, rget_rput, if_true, if_false]) (by simp +decide only [aevs, aev, rget_rput, if_true, if_false]) (by decide) (C.mono (notState_c hn (hB.ext e2)) ?_)
  rintro v σ' ⟨rfl, e3⟩
  apply Ls_all
  · intro callf
    simp +decide only [aOps]
    rfl
  refine W_tail ?_
  repeat apply W_assoc
  refine W_if (b := false) ?_ ?_ ?_
  · simp +decide only [aev, rget_rput, if_true, if_false]
  · intro h; cases h
  intro _
  apply W_skipq
  refine W_skip ⟨fun _ => ?_, fun h => absurd rfl h⟩
  refine W_tail ?_
  have w1 : IntKind.i64.wrap (((0 : Nat) : Int) + 1) = ((1 : Nat) : Int) := by rw [wrap64_id _ (by omega) (by omega)]; rfl
  repeat apply W_assoc
  apply W_reg
  · intro callf
    simp +decide only [aOps, aWanted, ↓bite_eq, ↓reduceIte, aStep_eq, aStepOld, aOp, opBin, aev, ann, aPut, rget_rput, h8, w1, aBin, aInts, aInt_eq]
    rfl
  refine W_skip ⟨fun _ => ⟨1, ?_, ?_⟩, fun h => (nomatch h), fun h => absurd rfl h⟩
  · decide
  · refine ⟨Nat.le_refl _, e2.trans e3, ?_, ?_, ?_, ?_⟩ <;> simp +decide only [rget_rput, if_true, if_false, h0, h1, h7]

set_option maxHeartbeats 4000000 in
theorem allStates_c {σ : AS} {b1 fb : Nat} {sb : Option Addr} {n c : Nat} (hn : 0 < n) (hB : BoxAt σ b1 (.slice sb n c)) (hfb : fb < σ.next) (hf : σ.get fb = ⟨1, 3, 0, [.int .i64 0], []⟩) : C Try.prog Kn 0 57 [.slice (some ⟨fb, 0, none⟩) 1 1, .func (.func 58) #[] #[.pointer (some ⟨b1, 0, none⟩)]] σ fun v σ' => v = .bool false ∧ Ext σ σ' := by
  refine C_of (kn (by decide)) Try.func57 rfl (Nat.le_of_ble_eq_true rfl) ?_
  show W _ _ _ 9 _ _ _ _
  unfold Try.f57
  dsimp only
  repeat apply W_assoc
  apply W_reg
  · intro callf
    simp +decide only [aOps, rinit, aWanted, ↓bite_eq, ↓reduceIte, aStep_eq, aStepOld, aOp, aev, ann, aPut, Nat.zero_add]
    rfl
  repeat apply W_assoc
  apply W_regL
  apply Ls_pre 2
  · intro callf
    simp +decide only [List.take, aOps, aWanted, ↓bite_eq, ↓reduceIte, aStep_eq, aStepOld, aOp, aev, ann, aPut, rget_rput]
    rfl
  dsimp only [List.drop]
  refine Ls_fn (vs := [.slice (some ⟨fb, 0, none⟩) 1 1, .func (.func 58) #[] #[.pointer (some ⟨b1, 0, none⟩)]]) (by simp +decide only [aevs, aev, rget_rput, if_true, if_false]) (by decide) (C.mono (indexState_c hn hB hfb hf) ?_)
  rintro v σ' ⟨rfl, e1⟩
  have d1 : ∀ xo yo, aBin Try.prog .geq 3 xo yo (.int .i64 (-1)) (.int .i64 0) = some (.bool false) := fun _ _ => by kernel_rfl
  apply Ls_all
  · intro callf
    simp +decide only [aOps, aWanted, ↓bite_eq, ↓reduceIte, aStep_eq, aStepOld, aOp, opBin, aev, ann, aPut, rget_rput, d1]
    rfl
  refine W_ret ⟨Nat.le_refl _, [.bool false], ?_, rfl, e1⟩
  simp +decide only [aResults, rget_rput, if_true, if_false]

set_option maxHeartbeats 4000000 in
theorem states_c {σ : AS} {fb : Nat} {s : Value} {L : Lts} (hs : RS 1 RRow σ s L) (hz : Small L) (hv : validB L = true) (hfb : fb < σ.next) (hf : σ.get fb = ⟨1, 3, 0, [.int .i64 0], []⟩) : C Try.prog Kn 0 41 [.agg #[s], .slice (some ⟨fb, 0, none⟩) 1 1] σ fun v σ' => v = .bool true ∧ Ext σ σ' := by
  obtain ⟨sb, sc, rfl, -⟩ := id hs
  have hpos := loose_pos (valid_loose hv)
  refine C_of (kn (by decide)) Try.func41 rfl (Nat.le_of_ble_eq_true rfl) ?_
  show W _ _ _ 13 _ _ _ _
  unfold Try.f41
  dsimp only
  have AT := LtsAt.new hs
  have e0 := Ext.new σ ⟨1, 30, 0, (Value.agg #[.slice sb L.length sc]).cells.toList, []⟩
  repeat apply W_assoc
  apply W_reg
  · intro callf
    simp +decide only [aOps, rinit, aWanted, ↓bite_eq, ↓reduceIte, aStep_eq, aStepOld, aOp, opBox, aRow, aev, ann, aPut, rget_rput, Nat.zero_add]
    rfl
  generalize hb1 : σ.next = b1 at AT
  generalize σ.new ⟨1, 30, 0, (Value.agg #[.slice sb L.length sc]).cells.toList, []⟩ = σ1 at AT e0
  repeat apply W_assoc
  apply W_regL
  apply Ls_pre 1
  · intro callf
    simp +decide only [List.take, aOps, aWanted, ↓bite_eq, ↓reduceIte, aStep_eq, aStepOld, aOp, opLoad, aev, ann, aPut, rget_rput, AT.load]
    rfl
  dsimp only [List.drop]
  refine Ls_fn (vs := [.agg #[.slice sb L.length sc]]) (by simp +decide only [aevs, aev, rget_rput, if_true, if_false]) (by decide) (C.mono (valid_prog AT.rd hz) ?_)
  rintro v σ' ⟨rfl, e1⟩
  have AT := AT.ext e1
  have e0 := e0.trans e1
  generalize σ' = σ2 at AT e0
  have BX : BoxAt σ2 b1 (.slice sb L.length sc) := ⟨AT.lt, AT.get⟩
  rw [hv]
  apply Ls_pre 3
  · intro callf
    simp +decide only [List.take, aOps, aWanted, ↓bite_eq, ↓reduceIte, aStep_eq, aStepOld, aOp, aev, aevs, ann, aPut, rget_rput, List.getElem?_toArray, List.getElem?_cons_zero, List.getElem?_cons_succ, Option.bind_some, beq_self_eq_true, opFunc]
    rfl
  dsimp only [List.drop]
  refine Ls_fnG (vs := [.slice (some ⟨fb, 0, none⟩) 1 1, .func (.func 58) #[] #[.pointer (some ⟨b1, 0, none⟩)]]) (by simp +decide only [aWanted, List.getElem?_toArray, List.getElem?_cons_zero, List.getElem?_cons_succ, Option.bind_some, rget_rput, if_true, if_false]) (by simp +decide only [aevs, aev, rget_rput, if_true, if_false]) (by decide) (C.mono (allStates_c hpos BX (e0.lt hfb) ((e0.get fb hfb).trans hf)) ?_)
  rintro v σ' ⟨rfl, e3⟩
  apply Ls_all
  · intro callf
    simp +decide only [aOps, aWanted, ↓bite_eq, ↓reduceIte, aStep_eq, aStepOld, aOp, opUn, opPick, aev, ann, aPut, rget_rput, List.getElem?_toArray, List.getElem?_cons_zero, List.getElem?_cons_succ, Option.bind_some, beq_self_eq_true, Bool.not_false, not_b, opPick]
    rfl
  refine W_ret ⟨Nat.le_refl _, [.bool true], ?_, rfl, e0.trans e3⟩
  simp +decide only [aResults, rget_rput, if_true, if_false]

end Go.Proofs.Ytbknckiapcafdaa.Nest
