/- A copy of a system (function 30). -/
import Derived.Test.YtbknckiapcafdaaNestZJ
set_option linter.unusedSimpArgs false
set_option linter.unusedVariables false
namespace Go.Proofs.Ytbknckiapcafdaa.Nest
open Abs Abs2

theorem el22 : El 28 22 1 := ⟨Try.underlying28, ⟨(Try.prog.info? 22).get!, (((Try.prog.info? 22).get!).zero).get!, by kernel_rfl, by kernel_rfl, Nat.le_of_ble_eq_true (by kernel_rfl), by kernel_rfl, by kernel_rfl, by kernel_rfl⟩, by decide⟩

theorem Out.own {σ0 σ : AS} {u : Value} {l : List Arc} (h : Out σ0 σ u l) {i : Nat} (ho : Own u i) : σ0.next ≤ i ∧ i < σ.next ∧ (σ.get i).elem = 27 := by
  obtain ⟨n, c, rfl⟩ := ho
  rcases h with ⟨_, b, h1, h2, h3, h4⟩ | ⟨_, b, h1, h2, h3, h4⟩
  · cases h3; exact ⟨h1, h2, by rw [h4]⟩
  · unfold outV at h3; cases h3; exact ⟨h1, h2, by rw [h4]; rfl⟩
theorem Out.keep {σ0 σ σ' : AS} {u : Value} {l : List Arc} (h : Out σ0 σ u l) (hn : σ.next ≤ σ'.next) (hg : ∀ i, Own u i → i < σ.next → σ'.get i = σ.get i) : Out σ0 σ' u l := by
  rcases h with ⟨h0, b, h1, h2, rfl, h4⟩ | ⟨h0, b, h1, h2, rfl, h4⟩
  · exact .inl ⟨h0, b, h1, by omega, rfl, (hg b ⟨_, _, rfl⟩ h2).trans h4⟩
  · exact .inr ⟨h0, b, h1, by omega, rfl, (hg b ⟨_, _, rfl⟩ h2).trans h4⟩
theorem Out.same {σ0 σ σ' : AS} {u : Value} {l : List Arc} (h : Out σ0 σ u l) (hn : σ.next ≤ σ'.next) (hg : ∀ i, σ'.get i = σ.get i) : Out σ0 σ' u l := h.keep hn fun i _ _ => hg i
theorem Out.lower {σ0 σ1 σ : AS} {u : Value} {l : List Arc} (h : Out σ1 σ u l) (hn : σ0.next ≤ σ1.next) : Out σ0 σ u l := by
  rcases h with ⟨h0, b, h1, h2, h3, h4⟩ | ⟨h0, b, h1, h2, h3, h4⟩
  · exact .inl ⟨h0, b, by omega, h2, h3, h4⟩
  · exact .inr ⟨h0, b, by omega, h2, h3, h4⟩
theorem Out.slice {σ0 σ : AS} {v : Value} {m : List Arc} (h : Out σ0 σ v m) : ∃ a c, v = .slice a m.length c := by
  rcases h with ⟨rfl, b, _, _, rfl, _⟩ | ⟨_, b, _, _, rfl, _⟩
  · exact ⟨_, _, rfl⟩
  · exact ⟨_, _, rfl⟩

/-- A system in a growing list of rows, which lie in blocks of their own. -/
structure QSys (σ0 σ : AS) (v : Value) (L : Lts) (rows : List Value) : Prop where
  stk : Stk σ0.next 22 1 σ v L.length rows
  out : ∀ (i : Nat) (u : Value) (l : List Arc), rows[i]? = some u → L[i]? = some l → Out σ0 σ u l
  dis : ∀ (i j : Nat) (u w : Value) (b : Nat), rows[i]? = some u → rows[j]? = some w → Own u b → Own w b → i = j

section
variable {σ0 σ σ' : AS} {v : Value} {L : Lts} {rows : List Value}

theorem QSys.nil : QSys σ0 σ (.slice none 0 0) [] [] := ⟨⟨rfl, rfl, .inl ⟨rfl, rfl⟩⟩, fun i u l h => by simp at h, fun i j u w b h => by simp at h⟩
theorem QSys.len (h : QSys σ0 σ v L rows) : rows.length = L.length := by have := h.stk.1; omega
theorem QSys.at (h : QSys σ0 σ v L rows) {u : Value} (hu : u ∈ rows) : ∃ (i : Nat) (l : List Arc), rows[i]? = some u ∧ L[i]? = some l ∧ Out σ0 σ u l := by
  obtain ⟨i, hi⟩ := List.mem_iff_getElem?.1 hu
  have h1 := (List.getElem?_eq_some_iff.1 hi).1
  have h2 : i < L.length := by rw [← h.len]; exact h1
  exact ⟨i, L[i], hi, by simp [h2], h.out i u L[i] hi (by simp [h2])⟩
theorem QSys.keep (h : QSys σ0 σ v L rows) (hn : σ.next ≤ σ'.next) (hg : ∀ i, σ0.next ≤ i → i < σ.next → ((σ.get i).elem = 27 ∨ (σ.get i).kind = 2) → σ'.get i = σ.get i) : QSys σ0 σ' v L rows :=
  ⟨h.stk.keep hn fun i ho hi => hg i (h.stk.own ho).1 hi (.inr (h.stk.own ho).2.2.1), fun i u l hu hl => (h.out i u l hu hl).keep hn fun j ho hj => hg j ((h.out i u l hu hl).own ho).1 hj (.inl ((h.out i u l hu hl).own ho).2.2), h.dis⟩
theorem QSys.same (h : QSys σ0 σ v L rows) (hn : σ.next ≤ σ'.next) (hg : ∀ i, σ'.get i = σ.get i) : QSys σ0 σ' v L rows := h.keep hn fun i _ _ _ => hg i
theorem QSys.ext (h : QSys σ0 σ v L rows) (e : Ext σ σ') : QSys σ0 σ' v L rows := h.keep e.nxt fun i _ hi _ => e.get i hi
theorem QSys.extX {X : List Nat} (h : QSys σ0 σ v L rows) (e : ExtX X σ σ') (hX : ∀ x ∈ X, x < σ0.next) : QSys σ0 σ' v L rows :=
  h.keep e.nxt fun i h0 hi _ => e.get i hi fun hx => by have := hX i hx; omega
theorem QSys.slice (h : QSys σ0 σ v L rows) : ∃ a c, v = .slice a L.length c := h.stk.len

theorem QSys.push (h : QSys σ0 σ v L rows) {b : Nat} {u : Value} {l : List Arc} (hb : σ.get b = ⟨1, 22, 0, [u], []⟩) (hu : Out σ0 σ u l) (hd : ∀ w ∈ rows, ∀ b, Own w b → ¬ Own u b) (hk : L.length + 1 ≤ 1000000) (hE : Ext σ0 σ) :
    ∃ v' s, aAppend Try.prog σ #[28, 28] v (.slice (some ⟨b, 0, none⟩) 1 1) = some (v', s) ∧ QSys σ0 s v' (L ++ [l]) (rows ++ [u]) ∧ Ext σ0 s ∧ σ.next ≤ s.next ∧ (∀ i, i < σ.next → (σ.get i).kind ≠ 2 → s.get i = σ.get i) := by
  have h1 := h.stk
  have hrl := h.len
  obtain ⟨ua, uc, hue⟩ := hu.slice
  have hsrc : ∀ inf : TypeInfo, inf.size = 1 → aSource Try.prog σ false inf (.slice (some ⟨b, 0, none⟩) 1 1) = some (1, [u]) := fun inf hi => by
    have hc : aCells σ ⟨b, 0, none⟩ 1 = some [u] := cells_at hb rfl (Nat.le_refl _)
    unfold aSource
    simp only [Bool.false_eq_true, if_false, hi, Nat.mul_one, aCellsS_none, hc]
  obtain ⟨v', s, g1, g2, g3, g4, g5, g6⟩ := h1.push el22 hE.nxt hsrc rfl (by rw [hue]; rfl) hk
  have hl : (L ++ [l]).length = L.length + 1 := by simp
  have keepR : ∀ {u l}, Out σ0 σ u l → Out σ0 s u l := fun h => h.keep g3 fun i ho hi => g4 i hi fun ho2 => by
    have h3 := (h1.own ho2).2.2.2
    rw [(h.own ho).2.2] at h3
    cases h3
  have last : ∀ {i : Nat} {w : Value}, (rows ++ [u])[i]? = some w → (i < rows.length ∧ rows[i]? = some w) ∨ (i = rows.length ∧ w = u) := fun {i w} hi => by
    by_cases hlt : i < rows.length
    · rw [List.getElem?_append_left hlt] at hi; exact .inl ⟨hlt, hi⟩
    · have hie : i < (rows ++ [u]).length := (List.getElem?_eq_some_iff.1 hi).1
      obtain rfl : i = rows.length := by rw [List.length_append, List.length_singleton] at hie; omega
      rw [List.getElem?_append_right (Nat.le_refl _), Nat.sub_self] at hi
      exact .inr ⟨rfl, (Option.some.inj hi).symm⟩
  refine ⟨v', s, g1, ⟨by rw [hl]; exact g2, fun i w k hi hk2 => ?_, fun i j w x c hi hj hw hx => ?_⟩, ⟨Nat.le_trans hE.nxt g3, fun i hi => ?_, fun m q1 q2 => g5 m q2 (hE.low m q1 q2)⟩, g3, fun i hi hk2 => g4 i hi fun ho => hk2 (h1.own ho).2.2.1⟩
  · rcases last hi with ⟨hlt, hi⟩ | ⟨rfl, rfl⟩
    · rw [List.getElem?_append_left (by omega)] at hk2
      exact keepR (h.out i w k hi hk2)
    · rw [hrl, List.getElem?_append_right (Nat.le_refl _), Nat.sub_self] at hk2
      cases hk2
      exact keepR hu
  · rcases last hi with ⟨hlt, hi2⟩ | ⟨ei, ew⟩
    · rcases last hj with ⟨hlt2, hj2⟩ | ⟨ej, ex⟩
      · exact h.dis i j w x c hi2 hj2 hw hx
      · exact absurd (ex ▸ hx) (hd w (List.mem_of_getElem? hi2) c hw)
    · rcases last hj with ⟨hlt2, hj2⟩ | ⟨ej, ex⟩
      · exact absurd (ew ▸ hw) (hd x (List.mem_of_getElem? hj2) c hx)
      · rw [ei, ej]
  · rw [g4 i (Nat.lt_of_lt_of_le hi hE.nxt) (fun ho => by have := (h1.own ho).1; omega)]
    exact hE.get i hi
end

theorem BoxAt.putNe {σ : AS} {b c : Nat} {s : Value} {B : Blk} (h : BoxAt σ b s) (hne : c ≠ b) : BoxAt (σ.put c B) b s := ⟨h.lt, by rw [AS.get_put, if_neg hne]; exact h.get⟩
theorem BoxAt.merge {σ s1 : AS} {b : Nat} {s : Value} (h : BoxAt s1 b s) : BoxAt (σ.merge s1) b s := ⟨h.lt, h.get⟩
theorem BoxAt.sum {σ σ' : AS} {b : Nat} {s : Value} (h : BoxAt σ b s) (hn : σ.next ≤ σ'.next) (hg : ∀ i, i < σ.next → (σ.get i).kind ≠ 2 → σ'.get i = σ.get i) : BoxAt σ' b s :=
  ⟨by have := h.lt; omega, (hg b h.lt (by rw [h.get]; show (1 : Nat) ≠ 2; decide)).trans h.get⟩

theorem store28 {σ : AS} {b : Nat} {x : Value} {p : Option Addr} {n c : Nat} (h : BoxAt σ b x) :
    aStore Try.prog σ 28 (.slice p n c) (.pointer (some ⟨b, 0, none⟩)) = some (σ.put b ⟨1, 30, 0, [.slice p n c], []⟩) := by
  obtain ⟨inf, hi2, hs⟩ : ∃ inf, Try.prog.info? 28 = some inf ∧ inf.size = 1 := ⟨(Try.prog.info? 28).get!, by kernel_rfl, by kernel_rfl⟩
  have hz : Nat.beq (Value.slice p n c).cells.size 1 = true := rfl
  have hc : (Value.slice p n c).cells.toList = [.slice p n c] := rfl
  unfold aStore
  simp only [hi2, hs, hz, if_true, hc]
  unfold aWrite
  simp only [h.get, hasLen_eq, List.length_cons, List.length_nil, Nat.zero_add]
  rfl

theorem slice28a {σ : AS} {a : Option Addr} {n c : Nat} : aBuildSlice Try.prog σ 28 1 [(0, .slice a n c)] = some (.slice (some ⟨σ.next, 0, none⟩) 1 1, σ.new ⟨1, 22, 0, [.slice a n c], []⟩) := by kernel_rfl

theorem GRow.src {σ : AS} {v : Value} {l : List Arc} (h : GRow σ v l) : Src σ v l := by
  rcases h with ⟨rfl, rfl⟩ | ⟨h0, b, rfl, h2, h3⟩
  · exact Src.of (.inl ⟨0, rfl, rfl⟩)
  · refine Src.of (.inr (.inr ⟨b, 0, _, rfl, ?_⟩))
    have := out_cells h3 (i := 0) (n := l.length) (by omega)
    rw [Nat.zero_mul, List.drop_zero, List.take_length] at this
    exact this
set_option maxHeartbeats 8000000 in
theorem copy_c {σ : AS} {tb lb cap m : Nat} {L : Lts} (hG : Gen tb lb σ L m) (hm : m ≤ 1000) (hL : L.length ≤ 1000) : C Try.prog Kn 0 30 [.agg #[.slice (some ⟨lb, 0, none⟩) L.length cap]] σ fun v σ' =>
    ∃ qv rows, v = .agg #[qv] ∧ QSys σ σ' qv L rows ∧ Ext σ σ' := by
  refine C_of (kn (by decide)) Try.func30 rfl (Nat.le_of_ble_eq_true rfl) ?_
  show W _ _ _ 25 _ _ _ _
  unfold Try.f30
  dsimp only
  repeat apply W_assoc
  apply W_reg
  · intro callf
    simp +decide only [aOps, rinit, aWanted, ↓bite_eq, ↓reduceIte, aStep_eq, aStepOld, aOp, opBox, aRow, aev, aPut, rget_rput, alloc30]
    rfl
  repeat apply W_assoc
  apply W_reg
  · intro callf
    simp +decide only [aOps, aWanted, ↓bite_eq, ↓reduceIte, aStep_eq, aStepOld, aOp, aPut, alloc30]
    rfl
  repeat apply W_assoc
  apply W_reg
  · intro callf
    simp +decide only [aOps, aWanted, ↓bite_eq, ↓reduceIte, aStep_eq, aStepOld, aOp, aev, ann, aPut]
    rfl
  obtain ⟨b1, hb1⟩ : ∃ b1, σ.next = b1 := ⟨_, rfl⟩
  have E0 : Ext σ (((σ.new ⟨1, 30, 0, (Value.agg #[.slice (some ⟨lb, 0, none⟩) L.length cap]).cells.toList, []⟩).new ⟨1, 30, 0, [.slice none 0 0], []⟩).new ⟨1, 30, 0, [.slice none 0 0], []⟩) := ((Ext.new _ _).trans (Ext.new _ _)).trans (Ext.new _ _)
  have B1 : BoxAt (((σ.new ⟨1, 30, 0, (Value.agg #[.slice (some ⟨lb, 0, none⟩) L.length cap]).cells.toList, []⟩).new ⟨1, 30, 0, [.slice none 0 0], []⟩).new ⟨1, 30, 0, [.slice none 0 0], []⟩) b1 (.slice (some ⟨lb, 0, none⟩) L.length cap) := ⟨by show _ < σ.next + 1 + 1 + 1; omega, by
    rw [AS.get_new, if_neg (by show σ.next + 1 + 1 ≠ _; omega), AS.get_new, if_neg (by show σ.next + 1 ≠ _; omega), AS.get_new, if_pos hb1]; rfl⟩
  have B2 : BoxAt (((σ.new ⟨1, 30, 0, (Value.agg #[.slice (some ⟨lb, 0, none⟩) L.length cap]).cells.toList, []⟩).new ⟨1, 30, 0, [.slice none 0 0], []⟩).new ⟨1, 30, 0, [.slice none 0 0], []⟩) (b1 + 1) (.slice none 0 0) := ⟨by show _ < σ.next + 1 + 1 + 1; omega, by
    rw [AS.get_new, if_neg (by show σ.next + 1 + 1 ≠ _; omega), AS.get_new, if_pos (by show σ.next + 1 = _; omega)]⟩
  have B3 : BoxAt (((σ.new ⟨1, 30, 0, (Value.agg #[.slice (some ⟨lb, 0, none⟩) L.length cap]).cells.toList, []⟩).new ⟨1, 30, 0, [.slice none 0 0], []⟩).new ⟨1, 30, 0, [.slice none 0 0], []⟩) (b1 + 1 + 1) (.slice none 0 0) := ⟨by show _ < σ.next + 1 + 1 + 1; omega, by
    rw [AS.get_new, if_pos (by show σ.next + 1 + 1 = _; omega)]⟩
  repeat apply W_assoc
  refine W_for (fun (i : Nat) r σ' => i ≤ L.length ∧ Ext σ σ' ∧ rget r 1 = .pointer (some ⟨b1, 0, none⟩) ∧ rget r 2 = .pointer (some ⟨b1 + 1, 0, none⟩) ∧ rget r 3 = .pointer (some ⟨b1 + 1 + 1, 0, none⟩) ∧ rget r 4 = .int .i64 (i : Int) ∧
      BoxAt σ' b1 (.slice (some ⟨lb, 0, none⟩) L.length cap) ∧ BoxAt σ' (b1 + 1) (.slice none 0 0) ∧ ∃ qv rows, BoxAt σ' (b1 + 1 + 1) qv ∧ QSys σ σ' qv (L.take i) rows)
    (fun i => L.length - i) ?_ 0 ?_
  rotate_left
  · simp +decide only [rget_rput, if_true, if_false]
    refine ⟨Nat.zero_le _, E0, ?_, ?_, ?_, ?_, B1, B2, _, _, B3, QSys.nil⟩ <;> first | exact True.intro | rfl | (subst hb1; rfl)
  clear E0 B1 B2 B3
  rintro i r σ2 ⟨hi, e2, h1, h2, h3, h4, B1, B2, qv, rows, B3, QQ⟩
  obtain ⟨qa, qc, hqv⟩ := QQ.slice
  by_cases hlt : i < L.length
  rotate_left
  · have d1 : decide ((i : Int) < (L.length : Int)) = false := decide_eq_false (by omega)
    repeat apply W_assoc
    apply W_reg
    · intro callf
      simp +decide only [aOps, aWanted, ↓bite_eq, ↓reduceIte, aStep_eq, aStepOld, aOp, opBin, opCall, opFieldAddr, opLoad, aev, aevs, ann, aPut, rget_rput, aBuiltin, aLen, List.getElem?_toArray, List.getElem?_cons_zero, h1, h4, d1, fldL, B1.out, Try.underlying28, goInt, aBin, aInts, aInt_eq]
      rfl
    repeat apply W_assoc
    refine W_if (b := false) ?_ ?_ ?_
    · simp +decide only [aev, rget_rput, if_true, if_false]
    · intro h; cases h
    intro _
    refine W_exitq ⟨fun h => (nomatch h), fun _ => ?_, fun h1 h2 => absurd rfl h2⟩
    rw [List.take_of_length_le (by omega)] at QQ
    subst hqv
    repeat apply W_assoc
    apply W_reg
    · intro callf
      simp +decide only [aOps, aWanted, ↓bite_eq, ↓reduceIte, aStep_eq, aStepOld, aOp, opLoad, opStore, aev, ann, unn, aPut, rget_rput, h2, h3, B3.load, store30 B2.get]
      rfl
    have BF : BoxAt (σ2.put (b1 + 1) ⟨1, 30, 0, [.slice qa (L.take i).length qc], []⟩) (b1 + 1) (.slice qa (L.take i).length qc) := ⟨B2.lt, by rw [AS.get_put, if_pos rfl]⟩
    have QF := QQ.keep (σ' := σ2.put (b1 + 1) ⟨1, 30, 0, [.slice qa (L.take i).length qc], []⟩) (Nat.le_refl _) (fun j _ hj h => by
      rw [AS.get_put, if_neg]
      rintro rfl
      rw [B2.get] at h
      rcases h with h | h <;> cases h)
    have EF : Ext σ (σ2.put (b1 + 1) ⟨1, 30, 0, [.slice qa (L.take i).length qc], []⟩) := e2.put (by omega) _
    refine W_ret ⟨Nat.le_refl _, [.agg #[.slice qa (L.take i).length qc]], ?_, _, _, rfl, QF, EF⟩
    simp +decide only [aResults, rget_rput, if_false, h2, BF.load]
  have d1 : decide ((i : Int) < (L.length : Int)) = true := decide_eq_true (by omega)
  repeat apply W_assoc
  apply W_reg
  · intro callf
    simp +decide only [aOps, aWanted, ↓bite_eq, ↓reduceIte, aStep_eq, aStepOld, aOp, opBin, opCall, opFieldAddr, opLoad, aev, aevs, ann, aPut, rget_rput, aBuiltin, aLen, List.getElem?_toArray, List.getElem?_cons_zero, h1, h4, d1, fldL, B1.out, Try.underlying28, goInt, aBin, aInts, aInt_eq]
    rfl
  repeat apply W_assoc
  refine W_if (b := true) ?_ ?_ ?_
  · simp +decide only [aev, rget_rput, if_true, if_false]
  rotate_left
  · intro h; cases h
  intro _
  apply W_skipq
  refine W_blk ?_
  refine W_tail ?_
  obtain ⟨v, l, hl, hlm, hg, hld⟩ := hG.at (i := i) hlt
  obtain ⟨vb, vc, hv⟩ := hg.slice
  have hsrc : ∀ σ', Ext σ σ' → Src σ' v l := fun σ' e => (hg.shown.ext e).src
  have hll := (hG.row l hlm).1
  subst hqv
  have C1 := B1.reset
  have C3 := B3.reset
  repeat apply W_assoc
  refine W_drw [] [] (by kernel_rfl) (by kernel_rfl) ?_
  apply Lg_pre 2
  · intro callf
    simp +decide only [List.take, aQ, memb, List.any_nil, Bool.true_or, Bool.and_true, reset_merge, reset_reset, reset_next, reset_low, merge_next, merge_idem, ble_self, aWanted, ↓bite_eq, ↓reduceIte, aStep_eq, aStepOld, aOp, opFieldAddr, opLoad, aev, ann, aPut, rget_rput, Nat.zero_add, Bool.not_false, h3, fldL, C3.out]
    rfl
  dsimp only [List.drop, List.take, List.length]
  have QQ : QSys σ (σ2.merge σ2.reset) (.slice qa (L.take i).length qc) (L.take i) rows := QQ.same (Nat.le_refl _) fun _ => rfl
  have e3 : Ext σ2 (σ2.merge σ2.reset) := (Ext.refl _).merge
  generalize σ2.merge σ2.reset = σ3 at e3 QQ
  have B1 := B1.ext e3
  have B2 := B2.ext e3
  have B3 := B3.ext e3
  have e2 := e2.trans e3
  clear C1 C3
  apply Lg_pre 1
  · intro callf
    simp +decide only [List.take, aQ, memb, List.any_nil, Bool.true_or, Bool.and_true, reset_next, reset_low, new_low, ble_self, aWanted, ↓bite_eq, ↓reduceIte, aStep_eq, aStepOld, aOp, opBuildSlice, aparts, aPut, Nat.zero_add, Bool.not_false, slice22e]
    rfl
  dsimp only [List.drop, List.take, List.length]
  have e4 : Ext σ3 (σ3.merge (σ3.reset.new ⟨1, 27, 0, [], []⟩)) := Ext.merge (Ext.new _ _)
  have hB : (σ3.merge (σ3.reset.new ⟨1, 27, 0, [], []⟩)).get σ3.next = ⟨1, 27, 0, [], []⟩ := by
    rw [get_merge]
    exact (AS.get_new σ3.reset _ σ3.reset.next).trans (if_pos rfl)
  have hBn : σ3.next < (σ3.merge (σ3.reset.new ⟨1, 27, 0, [], []⟩)).next := Nat.lt_succ_self _
  have hBl : σ.next ≤ σ3.next := e2.nxt
  have hfr : ∀ w ∈ rows, ∀ b, Own w b → b < σ3.next := fun w hw b ho => by
    obtain ⟨_, _, _, _, h9⟩ := QQ.at hw
    exact (h9.own ho).2.1
  generalize hn4 : σ3.next = n4 at hB hBn hBl hfr
  generalize σ3.merge (σ3.reset.new ⟨1, 27, 0, [], []⟩) = σ4 at e4 hB hBn
  have QQ := QQ.ext e4
  have B1 := B1.ext e4
  have B2 := B2.ext e4
  have B3 := B3.ext e4
  have e2 := e2.trans e4
  have C1 := B1.reset
  have hldc := hld _ (ExtX.of (e2.trans (Ext.reset σ4)))
  apply Lg_pre 5
  · intro callf
    simp +decide only [List.take, aQ, memb, List.any_nil, Bool.true_or, Bool.and_true, reset_merge, reset_reset, reset_next, reset_low, merge_next, merge_idem, ble_self, aWanted, ↓bite_eq, ↓reduceIte, aStep_eq, aStepOld, aOp, opIndexAddr, opFieldAddr, opLoad, aev, ann, aPut, rget_rput, Nat.zero_add, Bool.not_false, h1, h4, fldL, C1.out, hldc, idx28g hlt, Nat.zero_add]
    rfl
  dsimp only [List.drop, List.take, List.length]
  have QQ : QSys σ (σ4.merge σ4.reset) (.slice qa (L.take i).length qc) (L.take i) rows := QQ.same (Nat.le_refl _) fun _ => rfl
  have e5 : Ext σ4 (σ4.merge σ4.reset) := (Ext.refl _).merge
  generalize σ4.merge σ4.reset = σ5 at e5 QQ
  have B1 := B1.ext e5
  have B2 := B2.ext e5
  have B3 := B3.ext e5
  have hB := (e5.get n4 hBn).trans hB
  have hBn := e5.lt hBn
  have e2 := e2.trans e5
  have e45 := e4.trans e5
  clear C1
  obtain ⟨v6, s6, ha6, O6, E6⟩ := Out.first (σ0 := σ3) (σ := σ5.reset) (b := n4) (k := l) hB (by omega) hBn (hsrc _ (e2.trans (Ext.reset σ5))) (by omega) (e45.trans (Ext.reset _))
  refine Lg_qop (v := v6) (s1 := s6) (by intro callf; simp +decide only [↓reduceIte, aStep_eq, aStepOld, aOp, opCall, aev, aevs, rget_rput, aBuiltin, ha6]) (by decide) E6.quiet ?_
  have hdd : ∀ w ∈ rows, ∀ b, Own w b → ¬ Own v6 b := fun w hw b ho ho2 => by
    have h8 := hfr w hw b ho
    have h9 := (O6.own ho2).1
    omega
  have O6 : Out σ (σ5.merge s6) v6 l := (O6.lower (by omega)).same (Nat.le_refl _) fun _ => rfl
  have e6 := E6.merge
  generalize σ5.merge s6 = σ6 at O6 e6
  have QQ := QQ.ext e6
  have B1 := B1.ext e6
  have B2 := B2.ext e6
  have B3 := B3.ext e6
  have e2 := e2.trans e6
  obtain ⟨wa, wc, rfl⟩ := O6.slice
  clear ha6 E6 hB hBn
  apply Lg_pre 1
  · intro callf
    simp +decide only [List.take, aQ, memb, List.any_nil, Bool.true_or, Bool.and_true, reset_next, reset_low, new_low, ble_self, aWanted, ↓bite_eq, ↓reduceIte, aStep_eq, aStepOld, aOp, opBuildSlice, aev, aparts, aPut, rget_rput, Nat.zero_add, Bool.not_false, slice28a]
    rfl
  dsimp only [List.drop, List.take, List.length]
  have e7 : Ext σ6 (σ6.merge (σ6.reset.new ⟨1, 22, 0, [.slice wa l.length wc], []⟩)) := Ext.merge (Ext.new _ _)
  have hB : (σ6.merge (σ6.reset.new ⟨1, 22, 0, [.slice wa l.length wc], []⟩)).get σ6.next = ⟨1, 22, 0, [.slice wa l.length wc], []⟩ := by
    rw [get_merge]
    exact (AS.get_new σ6.reset _ σ6.reset.next).trans (if_pos rfl)
  generalize hn7 : σ6.next = n7 at hB
  generalize σ6.merge (σ6.reset.new ⟨1, 22, 0, [.slice wa l.length wc], []⟩) = σ7 at e7 hB
  have QQ := QQ.ext e7
  have O7 := O6.keep e7.nxt fun j _ hj => e7.get j hj
  have B1 := B1.ext e7
  have B2 := B2.ext e7
  have B3 := B3.ext e7
  have e2 := e2.trans e7
  obtain ⟨v8, s8, ha8, Q8, E8, hn8, hg8⟩ := (QQ.same (σ' := σ7.reset) (Nat.le_refl _) fun _ => rfl).push hB (O7.same (σ' := σ7.reset) (Nat.le_refl _) fun _ => rfl) hdd (by rw [List.length_take]; omega) (e2.trans (Ext.reset σ7))
  refine Lg_op (v := v8) (s1 := s8) (by intro callf; simp +decide only [↓reduceIte, aStep_eq, aStepOld, aOp, opCall, aev, aevs, rget_rput, aBuiltin, ha8]) (by decide) (by kernel_rfl) ?_
  have eM := ext_merge (σ := σ7) e2 E8
  have Q8 : QSys σ (σ7.merge s8) v8 (L.take i ++ [l]) (rows ++ [.slice wa l.length wc]) := Q8.same (Nat.le_refl _) fun _ => rfl
  have B1 : BoxAt (σ7.merge s8) _ _ := (B1.reset.sum hn8 hg8).merge
  have B2 : BoxAt (σ7.merge s8) _ _ := (B2.reset.sum hn8 hg8).merge
  have B3 : BoxAt (σ7.merge s8) _ _ := (B3.reset.sum hn8 hg8).merge
  generalize σ7.merge s8 = σ8 at eM Q8 B1 B2 B3
  apply Lg_pre 1
  · intro callf
    simp +decide only [List.take, aQ, memb, List.any_nil, Bool.true_or, Bool.and_true, reset_low, ble_self, aWanted, ↓bite_eq, ↓reduceIte, aStep_eq, aStepOld, aOp, opFieldAddr, aev, ann, aPut, rget_rput, Nat.zero_add, Bool.not_false, h3, fldL]
    rfl
  dsimp only [List.drop, List.take, List.length]
  have Q8 : QSys σ (σ8.merge σ8.reset) v8 (L.take i ++ [l]) (rows ++ [.slice wa l.length wc]) := Q8.same (Nat.le_refl _) fun _ => rfl
  have e9 : Ext σ8 (σ8.merge σ8.reset) := (Ext.refl _).merge
  generalize σ8.merge σ8.reset = σ9 at e9 Q8
  have B1 := B1.ext e9
  have B2 := B2.ext e9
  have B3 := B3.ext e9
  have eM := eM.trans e9
  obtain ⟨xa, xc, hv8⟩ := Q8.slice
  subst hv8
  refine Lg_st (v := undef) (s1 := σ9.reset.put (b1 + 1 + 1) ⟨1, 30, 0, [.slice xa (L.take i ++ [l]).length xc], []⟩) (by intro callf; simp +decide only [↓reduceIte, aStep_eq, aStepOld, aOp, opStore, aev, unn, rget_rput, store28 B3.reset]) (by kernel_rfl) ?_
  have eF := ext_put_merge eM (i := b1 + 1 + 1) (by omega) ⟨1, 30, 0, [.slice xa (L.take i ++ [l]).length xc], []⟩
  have Q9 : QSys σ (σ9.merge (σ9.reset.put (b1 + 1 + 1) ⟨1, 30, 0, [.slice xa (L.take i ++ [l]).length xc], []⟩)) (.slice xa (L.take i ++ [l]).length xc) (L.take i ++ [l]) (rows ++ [.slice wa l.length wc]) := Q8.keep (Nat.le_refl _) (fun j _ hj h => by
    rw [get_merge, AS.get_put, if_neg]
    · rfl
    rintro rfl
    rw [B3.get] at h
    rcases h with h | h <;> cases h)
  have B1 : BoxAt (σ9.merge (σ9.reset.put (b1 + 1 + 1) ⟨1, 30, 0, [.slice xa (L.take i ++ [l]).length xc], []⟩)) _ _ := (B1.reset.putNe (by omega)).merge
  have B2 : BoxAt (σ9.merge (σ9.reset.put (b1 + 1 + 1) ⟨1, 30, 0, [.slice xa (L.take i ++ [l]).length xc], []⟩)) _ _ := (B2.reset.putNe (by omega)).merge
  have B3 : BoxAt (σ9.merge (σ9.reset.put (b1 + 1 + 1) ⟨1, 30, 0, [.slice xa (L.take i ++ [l]).length xc], []⟩)) (b1 + 1 + 1) (.slice xa (L.take i ++ [l]).length xc) := ⟨B3.lt, by rw [get_merge, AS.get_put, if_pos rfl]⟩
  generalize σ9.merge (σ9.reset.put (b1 + 1 + 1) ⟨1, 30, 0, [.slice xa (L.take i ++ [l]).length xc], []⟩) = σ10 at eF Q9 B1 B2 B3
  show W _ _ _ 25 _ _ _ _
  have hst : L.take i ++ [l] = L.take (i + 1) := by rw [List.take_add_one, hl]; rfl
  rw [hst] at Q9 B3
  refine W_skip ⟨fun _ => ?_, fun h => absurd rfl h⟩
  refine W_tail ?_
  have w1 : IntKind.i64.wrap ((i : Int) + 1) = ((i + 1 : Nat) : Int) := by rw [wrap64_id _ (by omega) (by omega)]; omega
  repeat apply W_assoc
  apply W_reg
  · intro callf
    simp +decide only [aOps, aWanted, ↓bite_eq, ↓reduceIte, aStep_eq, aStepOld, aOp, opBin, aev, ann, aPut, rget_rput, h4, w1, aBin, aInts, aInt_eq]
    rfl
  refine W_skip ⟨fun _ => ⟨i + 1, ?_, ?_⟩, fun h => (nomatch h), fun h => absurd rfl h⟩
  · omega
  · refine ⟨by omega, eF, ?_, ?_, ?_, ?_, B1, B2, _, _, B3, Q9⟩ <;> simp +decide only [rget_rput, if_true, if_false, h1, h2, h3]

end Go.Proofs.Ytbknckiapcafdaa.Nest
