/- Changes of the program's search; contracts of its small functions (25, 46, 47). -/
import Derived.Test.YtbknckiapcafdaaNestZB
set_option linter.unusedSimpArgs false
set_option linter.unusedVariables false
namespace Go.Proofs.Ytbknckiapcafdaa.Nest
open Abs Abs2

theorem bmap_set {l : List Bool} {s : Nat} (hs : s < l.length) : bmap (l.set s true) = fun j => if j = (s : Int) then some (.bool true) else bmap l j := by
  funext j
  unfold bmap
  by_cases h : j = (s : Int)
  · subst h
    rw [if_pos rfl, if_pos]
    refine ⟨by omega, ?_⟩
    simp [hs]
  · rw [if_neg h]
    by_cases h0 : 0 ≤ j
    · have hne : s ≠ j.toNat := by omega
      rw [show (l.set s true).getD j.toNat false = l.getD j.toNat false by rw [List.getD_eq_getElem?_getD, List.getD_eq_getElem?_getD, List.getElem?_set_ne hne]]
    · rw [if_neg (fun h2 => h0 h2.1), if_neg (fun h2 => h0 h2.1)]
theorem bmap_get {l : List Bool} {k : Nat} : (match bmap l (k : Int) with | some x => x | none => Value.bool false) = .bool (l.getD k false) := by
  unfold bmap
  rw [Int.toNat_natCast]
  cases h : l.getD k false with
  | true => rw [if_pos ⟨by omega, rfl⟩]
  | false => rw [if_neg (fun h2 => by cases h2.2)]
theorem findOn_app {l : List Int} {s k : Int} (h : findOn l s = none) : findOn (l ++ [s]) k = if k = s then some l.length else findOn l k := by
  induction l with
  | nil =>
    show (if s = k then some 0 else (findOn [] k).map (· + 1)) = _
    by_cases e : k = s
    · rw [if_pos e.symm, if_pos e]; rfl
    · rw [if_neg (fun h => e h.symm), if_neg e]; rfl
  | cons x l ih =>
    unfold findOn at h
    split at h
    · cases h
    · rename_i hx
      have hl : findOn l s = none := by
        cases hq : findOn l s with
        | none => rfl
        | some q => rw [hq] at h; cases h
      show (if x = k then some 0 else (findOn (l ++ [s]) k).map (· + 1)) = _
      rw [ih hl]
      by_cases e : k = s
      · subst e
        rw [if_neg hx, if_pos rfl, if_pos rfl]; rfl
      · rw [if_neg e, if_neg e]
        conv => rhs; unfold findOn
theorem pmap_app {l : List Int} {s : Int} (h : findOn l s = none) : pmap (l ++ [s]) = fun j => if j = s then some (.int .i64 (l.length : Int)) else pmap l j := by
  funext j
  unfold pmap
  rw [findOn_app h]
  by_cases e : j = s
  · rw [if_pos e, if_pos e]; rfl
  · rw [if_neg e, if_neg e]
theorem pmap_del {l : List Int} {s : Int} (h : findOn l s = none) : (fun j => if j = s then none else pmap (l ++ [s]) j) = pmap l := by
  funext j
  rw [pmap_app h]
  by_cases e : j = s
  · rw [if_pos e]; unfold pmap; rw [e, h]; rfl
  · rw [if_neg e]; dsimp only; rw [if_neg e]

theorem zero4 : ∃ inf, Try.prog.info? 4 = some inf ∧ inf.zero = some (.bool false) := ⟨(Try.prog.info? 4).get!, by kernel_rfl, by kernel_rfl⟩
theorem zero3 : ∃ inf, Try.prog.info? 3 = some inf ∧ inf.zero = some (.int .i64 0) := ⟨(Try.prog.info? 3).get!, by kernel_rfl, by kernel_rfl⟩

section
variable {σ0 σ σ' s : AS} {xb N c : Nat} {fv : Value} {x : PD} {d d' : FP}

theorem look55 {lo : Nat} {v : Value} {l : List Bool} (h : MapAt lo σ v (bmap l)) (k : Nat) : aLookup Try.prog σ 55 v (.int .i64 (k : Int)) false = some (.bool (l.getD k false)) := by
  rw [h.look Try.underlying55 zero4 rfl (k : Int) false]
  have := bmap_get (l := l) (k := k)
  cases hq : bmap l (k : Int) with
  | none => rw [hq] at this; exact congrArg some this
  | some y => rw [hq] at this; exact congrArg some this
theorem look56 {lo : Nat} {v : Value} {l : List Int} (h : MapAt lo σ v (pmap l)) (k : Int) : aLookup Try.prog σ 56 v (.int .i64 k) true = some (match findOn l k with | some i => .tuple #[.int .i64 (i : Int), .bool true] | none => .tuple #[.int .i64 0, .bool false]) := by
  rw [h.look Try.underlying56 zero3 rfl k true]
  unfold pmap
  cases findOn l k <;> rfl

/-- A map is changed. -/
theorem map_frame {r : Nat} {B : Blk} (h : PRepC σ0 σ xb N x d) (hr : σ0.next ≤ r) (hk : (σ.get r).kind = 3) (hd : d.om = .map (some r) ∨ d.im = .map (some r) ∨ d.pm = .map (some r)) {l m : List Bool} {p : List Int} (hl : l.length = N) (hm : m.length = N)
    (ho : MapAt σ0.next (σ.put r B) d.om (bmap l)) (hi : MapAt σ0.next (σ.put r B) d.im (bmap m)) (hp : MapAt σ0.next (σ.put r B) d.pm (pmap p)) : PRepC σ0 (σ.put r B) xb N { x with outer := l, inner := m, place := p } d := by
  have ne : ∀ {j : Nat}, (σ.get j).kind ≠ 3 → (σ.put r B).get j = σ.get j := fun {j} hj => by
    rw [AS.get_put, if_neg]
    rintro rfl
    exact hj hk
  have k1 : (σ.get xb).kind ≠ 3 := by rw [h.kd]; decide
  exact ⟨h.ext.put hr _, h.lo, h.lt, by rw [ne k1]; exact h.el, by rw [ne k1]; exact h.kd, hl, hm, ho, hi, hp, h.oi, h.op, h.ip,
    h.path.keep (Nat.le_refl _) fun j ho _ => ne (by rw [(h.path.own ho).2.2.1]; decide), h.inside.keep (Nat.le_refl _) fun j ho _ => ne (by rw [(h.inside.own ho).2.2.1]; decide), h.ps,
    h.stem.keep (Nat.le_refl _) fun j ho _ => ne (by rw [(h.stem.own ho).2.2.1]; decide), h.loop.keep (Nat.le_refl _) fun j ho _ => ne (by rw [(h.loop.own ho).2.2.1]; decide)⟩
theorem put_other {lo r : Nat} {B : Blk} {v : Value} {f : Int → Option Value} (h : MapAt lo σ v f) (hne : ∀ i, MOwn v i → i ≠ r) : MapAt lo (σ.put r B) v f :=
  h.keep (Nat.le_refl _) fun i ho _ => by rw [AS.get_put, if_neg (fun e => hne i ho e.symm)]

theorem PMid.markInner (h : PMid σ0 σ xb N fv c x d d) {t : Nat} (ht : t < N) : ∃ r B, aUpdate Try.prog σ 55 d.im (.int .i64 (t : Int)) (.bool true) = some (σ.put r B) ∧ PMid σ0 (σ.put r B) xb N fv c { x with inner := x.inner.set t true } d d := by
  obtain ⟨r, B, e, hB, hu, hm⟩ := h.c.inner.upd Try.underlying55 (t : Int) (.bool true)
  have ho := h.c.inner.own e
  refine ⟨r, B, hu, map_frame h.c ho.1 ho.2.2 (.inr (.inl e)) h.c.ol (by rw [List.length_set]; exact h.c.il) (put_other h.c.outer fun i hi h2 => h.c.oi i hi (by rw [h2]; exact e)) ?_ (put_other h.c.place fun i hi h2 => h.c.ip i (by rw [h2]; exact e) hi), ?_⟩
  · rw [bmap_set (by rw [h.c.il]; exact ht)]; exact hm
  · rw [AS.get_put, if_neg (fun h2 => by have := ho.2.2; rw [h2, h.c.kd] at this; cases this)]; exact h.get
theorem PMid.markOuter (h : PMid σ0 σ xb N fv c x d d) {t : Nat} (ht : t < N) : ∃ r B, aUpdate Try.prog σ 55 d.om (.int .i64 (t : Int)) (.bool true) = some (σ.put r B) ∧ PMid σ0 (σ.put r B) xb N fv c { x with outer := x.outer.set t true } d d := by
  obtain ⟨r, B, e, hB, hu, hm⟩ := h.c.outer.upd Try.underlying55 (t : Int) (.bool true)
  have ho := h.c.outer.own e
  refine ⟨r, B, hu, map_frame h.c ho.1 ho.2.2 (.inl e) (by rw [List.length_set]; exact h.c.ol) h.c.il ?_ (put_other h.c.inner fun i hi h2 => h.c.oi i (by rw [h2]; exact e) hi) (put_other h.c.place fun i hi h2 => h.c.op i (by rw [h2]; exact e) hi), ?_⟩
  · rw [bmap_set (by rw [h.c.ol]; exact ht)]; exact hm
  · rw [AS.get_put, if_neg (fun h2 => by have := ho.2.2; rw [h2, h.c.kd] at this; cases this)]; exact h.get
theorem PMid.enter (h : PMid σ0 σ xb N fv c x d d) {t : Int} (ht : findOn x.place t = none) : ∃ r B, aUpdate Try.prog σ 56 d.pm (.int .i64 t) (.int .i64 (x.place.length : Int)) = some (σ.put r B) ∧ PMid σ0 (σ.put r B) xb N fv c { x with place := x.place ++ [t] } d d := by
  obtain ⟨r, B, e, hB, hu, hm⟩ := h.c.place.upd Try.underlying56 t (.int .i64 (x.place.length : Int))
  have ho := h.c.place.own e
  refine ⟨r, B, hu, map_frame h.c ho.1 ho.2.2 (.inr (.inr e)) h.c.ol h.c.il (put_other h.c.outer fun i hi h2 => h.c.op i hi (by rw [h2]; exact e)) (put_other h.c.inner fun i hi h2 => h.c.ip i hi (by rw [h2]; exact e)) ?_, ?_⟩
  · rw [pmap_app ht]; exact hm
  · rw [AS.get_put, if_neg (fun h2 => by have := ho.2.2; rw [h2, h.c.kd] at this; cases this)]; exact h.get
theorem PMid.leave (h : PMid σ0 σ xb N fv c x d d) {l : List Int} {t : Int} (hp : x.place = l ++ [t]) (ht : findOn l t = none) : ∃ r B, aDelete Try.prog σ 56 d.pm (.int .i64 t) = some (σ.put r B) ∧ PMid σ0 (σ.put r B) xb N fv c { x with place := l } d d := by
  have hx : pmap x.place t = some (.int .i64 (l.length : Int)) := by rw [hp, pmap_app ht]; exact if_pos rfl
  obtain ⟨r, B, e, hB, hu, hm⟩ := h.c.place.del Try.underlying56 hx
  have ho := h.c.place.own e
  refine ⟨r, B, hu, map_frame h.c ho.1 ho.2.2 (.inr (.inr e)) h.c.ol h.c.il (put_other h.c.outer fun i hi h2 => h.c.op i hi (by rw [h2]; exact e)) (put_other h.c.inner fun i hi h2 => h.c.ip i hi (by rw [h2]; exact e)) ?_, ?_⟩
  · rw [hp, pmap_del ht] at hm; exact hm
  · rw [AS.get_put, if_neg (fun h2 => by have := ho.2.2; rw [h2, h.c.kd] at this; cases this)]; exact h.get

/-- Edges that are appended. -/
def SrcE (σ : AS) (y : Value) (k : List Arc) : Prop := ∀ inf : TypeInfo, inf.size = 2 → aSource Try.prog σ false inf y = some (k.length, cellsOf k)

theorem PMid.pushP (h : PMid σ0 σ xb N fv c x d d) {y : Value} {k : List Arc} (hy : Src σ y k) (hl : x.stem = [] ∧ x.loop = []) (hd : d.sv = .slice none 0 0 ∧ d.lv = .slice none 0 0) (hb : x.path.length + k.length ≤ 1000000) :
    ∃ v' s, aAppend Try.prog σ #[51, 51] d.pv y = some (v', s) ∧ PMid σ0 s xb N fv c { x with path := x.path ++ k } d { d with pv := v' } ∧ (∃ a n c, v' = .slice a n c) ∧ (∀ b a, ArcAt σ b a → ArcAt s b a) := by
  obtain ⟨v', s, h1, h2, h3, h4, h5, h6⟩ := h.c.path.push el53 h.c.ext.nxt hy (cellsOf_length k) (cellsOf_one k) hb
  rw [← cellsOf_append, ← List.length_append] at h2
  refine ⟨v', s, h1, ⟨h.c.setPath ⟨h3, h4, h5, h6⟩ h2 hl hd, ?_⟩, ?_, fun b a hA => ⟨by have := hA.lt; omega, (h4 b hA.lt fun ho => ?_).trans hA.get⟩⟩
  · rw [h4 xb h.c.lt (fun ho => by have := (h.c.path.own ho).2.2.1; rw [h.c.kd] at this; cases this)]
    exact h.get
  · obtain ⟨a, c, e⟩ := h2.len; exact ⟨_, _, _, e⟩
  · have := (h.c.path.own ho).2.2.1
    rw [hA.get] at this
    have h9 : (1 : Nat) = 2 := this
    omega

theorem PMid.pushI (h : PMid σ0 σ xb N fv c x d d) {y : Value} {k : List Arc} (hy : Src σ y k) (hl : x.stem = [] ∧ x.loop = []) (hd : d.sv = .slice none 0 0 ∧ d.lv = .slice none 0 0) (hb : x.inside.length + k.length ≤ 1000000) :
    ∃ v' s, aAppend Try.prog σ #[51, 51] d.nv y = some (v', s) ∧ PMid σ0 s xb N fv c { x with inside := x.inside ++ k } d { d with nv := v' } ∧ (∃ a n c, v' = .slice a n c) ∧ (∀ b a, ArcAt σ b a → ArcAt s b a) := by
  obtain ⟨v', s, h1, h2, h3, h4, h5, h6⟩ := h.c.inside.push el53 h.c.ext.nxt hy (cellsOf_length k) (cellsOf_one k) hb
  rw [← cellsOf_append, ← List.length_append] at h2
  refine ⟨v', s, h1, ⟨h.c.setInside ⟨h3, h4, h5, h6⟩ h2 hl hd, ?_⟩, ?_, fun b a hA => ⟨by have := hA.lt; omega, (h4 b hA.lt fun ho => ?_).trans hA.get⟩⟩
  · rw [h4 xb h.c.lt (fun ho => by have := (h.c.inside.own ho).2.2.1; rw [h.c.kd] at this; cases this)]
    exact h.get
  · obtain ⟨a, c, e⟩ := h2.len; exact ⟨_, _, _, e⟩
  · have := (h.c.inside.own ho).2.2.1
    rw [hA.get] at this
    have h9 : (1 : Nat) = 2 := this
    omega

theorem PMid.popP (h : PMid σ0 σ xb N fv c x d d) (hl : x.stem = [] ∧ x.loop = []) (hd : d.sv = .slice none 0 0 ∧ d.lv = .slice none 0 0) :
    ∃ v', aSlice Try.prog σ 51 d.pv none (some (.int .i64 ((x.path.length - 1 : Nat) : Int))) none = some v' ∧ PMid σ0 σ xb N fv c { x with path := x.path.dropLast } d { d with pv := v' } ∧ (∃ a n c, v' = .slice a n c) := by
  obtain ⟨v', h1, h2, h3, -⟩ := h.c.path.cut el53 (j := x.path.length - 1) (by omega)
  rw [dropLast_cells, ← List.length_dropLast] at h2
  exact ⟨v', h1, ⟨h.c.setPath (Chg.cut h3) h2 hl hd, h.get⟩, by obtain ⟨a, c, e⟩ := h2.len; exact ⟨_, _, _, e⟩⟩

theorem PMid.popI (h : PMid σ0 σ xb N fv c x d d) (hl : x.stem = [] ∧ x.loop = []) (hd : d.sv = .slice none 0 0 ∧ d.lv = .slice none 0 0) :
    ∃ v', aSlice Try.prog σ 51 d.nv none (some (.int .i64 ((x.inside.length - 1 : Nat) : Int))) none = some v' ∧ PMid σ0 σ xb N fv c { x with inside := x.inside.dropLast } d { d with nv := v' } ∧ (∃ a n c, v' = .slice a n c) := by
  obtain ⟨v', h1, h2, h3, -⟩ := h.c.inside.cut el53 (j := x.inside.length - 1) (by omega)
  rw [dropLast_cells, ← List.length_dropLast] at h2
  exact ⟨v', h1, ⟨h.c.setInside (Chg.cut h3) h2 hl hd, h.get⟩, by obtain ⟨a, c, e⟩ := h2.len; exact ⟨_, _, _, e⟩⟩

end

set_option maxHeartbeats 4000000 in
theorem full_c {σ0 σ : AS} {xb N c : Nat} {fv : Value} {x : PD} {d : FP} (h : PMid σ0 σ xb N fv c x d d) (hc : c ≤ N) : C Try.prog Kn 0 47 [.pointer (some ⟨xb, 0, none⟩)] σ fun v σ' => v = .bool false ∧ Ext σ σ' := by
  have d1 : decide ((N : Int) < (c : Int)) = false := decide_eq_false (by omega)
  refine C_of (kn (by decide)) Try.func47 rfl (Nat.le_of_ble_eq_true rfl) ?_
  show W _ _ _ 12 _ _ _ _
  unfold Try.f47
  dsimp only
  repeat apply W_assoc
  apply W_reg
  · intro callf
    simp +decide only [aOps, rinit, aWanted, ↓bite_eq, ↓reduceIte, aStep_eq, aStepOld, aOp, aev, ann, aPut]
    rfl
  repeat apply W_assoc
  refine W_drw [] [] (by kernel_rfl) (by kernel_rfl) ?_
  apply Lg_all
  · intro callf
    simp +decide only [aQ, memb, List.any_nil, Bool.true_or, Bool.and_true, reset_merge, reset_reset, reset_next, reset_low, merge_next, merge_idem, ble_self, aWanted, ↓bite_eq, ↓reduceIte, aStep_eq, aStepOld, aOp, opBin, opFieldAddr, opLoad, aev, ann, aPut, rget_rput, Nat.zero_add, Bool.not_false, opNil, fld58_1, fld58_2, (h.ext (Ext.reset σ)).ld1, (h.ext (Ext.reset σ)).ld2, d1, aBin, aInts, aInt_eq]
    rfl
  have e1 : Ext σ (σ.merge σ.reset) := (Ext.refl _).merge
  generalize σ.merge σ.reset = σ1 at e1
  refine W_ret ⟨Nat.le_refl _, [.bool false], ?_, rfl, e1⟩
  simp +decide only [aResults, rget_rput, if_true, if_false]

set_option maxHeartbeats 4000000 in
theorem mark_outer {σ0 σ : AS} {xb N : Nat} {fv : Value} {x : PD} {d : FP} (h : PRepV σ0 σ xb N fv x d) {t : Nat} (ht : t < N) (hN : N ≤ 2 ^ 60) (hf : x.outer[t]? = some false) : C Try.prog Kn 0 46 [.pointer (some ⟨xb, 0, none⟩), d.om, d.im, .int .i64 (t : Int)] σ fun _ σ' => PRepV σ0 σ' xb N fv { x with outer := x.outer.set t true } d := by
  obtain ⟨r0, B0, hu, h1⟩ := h.markOuter ht
  have hcm := cU_mark (l := x.outer) (m := x.inner) (s := t) (by rw [h.c.ol, h.c.il]) hf
  have hle := cU_le x.outer x.inner
  rw [h.c.ol] at hle
  refine C_of (kn (by decide)) Try.func46 rfl (Nat.le_of_ble_eq_true rfl) ?_
  show W _ _ _ 21 _ _ _ _
  unfold Try.f46
  dsimp only
  repeat apply W_assoc
  apply W_reg
  · intro callf
    simp +decide only [aOps, rinit, aWanted, ↓bite_eq, ↓reduceIte, aStep_eq, aStepOld, aOp, aev, ann, unn, aPut, rget_rput, Nat.zero_add, opUpdate, hu]
    rfl
  generalize σ.put r0 B0 = σ1 at h1
  repeat apply W_assoc
  apply W_reg
  · intro callf
    simp +decide only [aOps, aWanted, ↓bite_eq, ↓reduceIte, aStep_eq, aStepOld, aOp, opUn, aev, ann, aPut, rget_rput, flat, flat1, opLookup, look55 h1.c.inner, not_b]
    rfl
  repeat apply W_assoc
  refine W_tail ?_
  cases hq : x.inner.getD t false with
  | true =>
    repeat apply W_assoc
    refine W_if (b := false) ?_ ?_ ?_
    · simp +decide only [aev, rget_rput, if_true, if_false, Bool.not_true]
    · intro h; cases h
    intro _
    apply W_skipq
    rw [hq, if_pos rfl] at hcm
    refine W_skip ⟨Nat.zero_le _, [], rfl, ?_⟩
    have e : cU x.outer x.inner = cU ({ x with outer := x.outer.set t true } : PD).outer ({ x with outer := x.outer.set t true } : PD).inner := by
      exact hcm.symm
    unfold PRepV
    rw [← e]
    exact h1
  | false =>
    repeat apply W_assoc
    refine W_if (b := true) ?_ ?_ ?_
    · simp +decide only [aev, rget_rput, if_true, if_false, Bool.not_false]
    rotate_left
    · intro h; cases h
    intro _
    rw [hq, if_neg (by decide)] at hcm
    have w1 : IntKind.i64.wrap ((cU x.outer x.inner : Int) + 1) = ((cU x.outer x.inner + 1 : Nat) : Int) := by rw [wrap64_id _ (by omega) (by omega)]; omega
    repeat apply W_assoc
    apply W_reg
    · intro callf
      simp +decide only [aOps, aWanted, ↓bite_eq, ↓reduceIte, aStep_eq, aStepOld, aOp, opBin, opFieldAddr, opLoad, opStore, aev, ann, unn, aPut, rget_rput, Bool.not_false, opNil, fld58_2, h1.ld2, w1, h1.st2 (cU x.outer x.inner + 1), aBin, aInts, aInt_eq]
      rfl
    have h2 := h1.count (cU x.outer x.inner + 1)
    generalize σ1.put xb (pblk fv N (cU x.outer x.inner + 1) d) = σ2 at h2
    refine W_skip ⟨Nat.zero_le _, [], rfl, ?_⟩
    have e : cU x.outer x.inner + 1 = cU ({ x with outer := x.outer.set t true } : PD).outer ({ x with outer := x.outer.set t true } : PD).inner := by
      exact hcm.symm
    unfold PRepV
    rw [← e]
    exact h2

set_option maxHeartbeats 4000000 in
theorem mark_inner {σ0 σ : AS} {xb N : Nat} {fv : Value} {x : PD} {d : FP} (h : PRepV σ0 σ xb N fv x d) {t : Nat} (ht : t < N) (hN : N ≤ 2 ^ 60) (hf : x.inner[t]? = some false) : C Try.prog Kn 0 46 [.pointer (some ⟨xb, 0, none⟩), d.im, d.om, .int .i64 (t : Int)] σ fun _ σ' => PRepV σ0 σ' xb N fv { x with inner := x.inner.set t true } d := by
  obtain ⟨r0, B0, hu, h1⟩ := h.markInner ht
  have hcm := cU_mark (l := x.inner) (m := x.outer) (s := t) (by rw [h.c.il, h.c.ol]) hf
  have hle := cU_le x.outer x.inner
  rw [h.c.ol] at hle
  refine C_of (kn (by decide)) Try.func46 rfl (Nat.le_of_ble_eq_true rfl) ?_
  show W _ _ _ 21 _ _ _ _
  unfold Try.f46
  dsimp only
  repeat apply W_assoc
  apply W_reg
  · intro callf
    simp +decide only [aOps, rinit, aWanted, ↓bite_eq, ↓reduceIte, aStep_eq, aStepOld, aOp, aev, ann, unn, aPut, rget_rput, Nat.zero_add, opUpdate, hu]
    rfl
  generalize σ.put r0 B0 = σ1 at h1
  repeat apply W_assoc
  apply W_reg
  · intro callf
    simp +decide only [aOps, aWanted, ↓bite_eq, ↓reduceIte, aStep_eq, aStepOld, aOp, opUn, aev, ann, aPut, rget_rput, flat, flat1, opLookup, look55 h1.c.outer, not_b]
    rfl
  repeat apply W_assoc
  refine W_tail ?_
  cases hq : x.outer.getD t false with
  | true =>
    repeat apply W_assoc
    refine W_if (b := false) ?_ ?_ ?_
    · simp +decide only [aev, rget_rput, if_true, if_false, Bool.not_true]
    · intro h; cases h
    intro _
    apply W_skipq
    rw [hq, if_pos rfl] at hcm
    refine W_skip ⟨Nat.zero_le _, [], rfl, ?_⟩
    have e : cU x.outer x.inner = cU ({ x with inner := x.inner.set t true } : PD).outer ({ x with inner := x.inner.set t true } : PD).inner := by
      rw [cU_comm x.outer, cU_comm x.outer]; exact hcm.symm
    unfold PRepV
    rw [← e]
    exact h1
  | false =>
    repeat apply W_assoc
    refine W_if (b := true) ?_ ?_ ?_
    · simp +decide only [aev, rget_rput, if_true, if_false, Bool.not_false]
    rotate_left
    · intro h; cases h
    intro _
    rw [hq, if_neg (by decide)] at hcm
    have w1 : IntKind.i64.wrap ((cU x.outer x.inner : Int) + 1) = ((cU x.outer x.inner + 1 : Nat) : Int) := by rw [wrap64_id _ (by omega) (by omega)]; omega
    repeat apply W_assoc
    apply W_reg
    · intro callf
      simp +decide only [aOps, aWanted, ↓bite_eq, ↓reduceIte, aStep_eq, aStepOld, aOp, opBin, opFieldAddr, opLoad, opStore, aev, ann, unn, aPut, rget_rput, Bool.not_false, opNil, fld58_2, h1.ld2, w1, h1.st2 (cU x.outer x.inner + 1), aBin, aInts, aInt_eq]
      rfl
    have h2 := h1.count (cU x.outer x.inner + 1)
    generalize σ1.put xb (pblk fv N (cU x.outer x.inner + 1) d) = σ2 at h2
    refine W_skip ⟨Nat.zero_le _, [], rfl, ?_⟩
    have e : cU x.outer x.inner + 1 = cU ({ x with inner := x.inner.set t true } : PD).outer ({ x with inner := x.inner.set t true } : PD).inner := by
      rw [cU_comm x.outer, cU_comm x.outer]; exact hcm.symm
    unfold PRepV
    rw [← e]
    exact h2

end Go.Proofs.Ytbknckiapcafdaa.Nest
