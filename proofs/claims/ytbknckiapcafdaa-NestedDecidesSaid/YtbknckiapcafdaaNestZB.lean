/- Maps with integers as keys. -/
import Derived.Test.YtbknckiapcafdaaNestW
set_option linter.unusedSimpArgs false
set_option linter.unusedVariables false
namespace Go.Proofs.Ytbknckiapcafdaa.Nest
open Abs Abs2

def entsOf (m : List (Int × Value)) : List (Value × Value) := m.map fun e => (.int .i64 e.1, e.2)

def mfind : List (Int × Value) → Int → Option (Nat × Value)
  | [], _ => none
  | e :: m, k => if k = e.1 then some (0, e.2) else (mfind m k).map fun p => (p.1 + 1, p.2)
def mval (m : List (Int × Value)) (k : Int) : Option Value := (mfind m k).map (·.2)
def keysOf (m : List (Int × Value)) : List Int := m.map (·.1)

theorem aFind_ents : ∀ (m : List (Int × Value)) (k : Int) (i : Nat), aFind (.int .i64) (.int .i64 k) (entsOf m) i = some ((mfind m k).map fun p => (i + p.1, p.2))
  | [], _, _ => rfl
  | e :: m, k, i => by
    have ih := aFind_ents m k (i + 1)
    show (match Instr.sameNow (.int .i64) (.int .i64 k) (.int .i64 e.1) with
      | some true => some (some (i, e.2))
      | some false => aFind (.int .i64) (.int .i64 k) (entsOf m) (i + 1)
      | none => none) = _
    have hs : Instr.sameNow (.int .i64) (.int .i64 k) (.int .i64 e.1) = some (k == e.1) := rfl
    rw [hs]
    unfold mfind
    by_cases h : k = e.1
    · rw [if_pos h, show (k == e.1) = true by rw [beq_iff_eq]; exact h]; rfl
    · rw [if_neg h, show (k == e.1) = false by rw [beq_eq_false_iff_ne]; exact h]
      dsimp only
      rw [ih]
      cases mfind m k with
      | none => rfl
      | some p => simp only [Option.map_some]; congr 2; rw [Nat.add_assoc, Nat.add_comm 1]

theorem mfind_get : ∀ {m : List (Int × Value)} {k : Int} {i : Nat} {v : Value}, mfind m k = some (i, v) → m[i]? = some (k, v)
  | [], _, _, _, h => by cases h
  | e :: m, k, i, v, h => by
    unfold mfind at h
    split at h
    · rename_i hk
      cases h
      simp [hk]
    · cases hq : mfind m k with
      | none => rw [hq] at h; cases h
      | some p =>
        rw [hq] at h
        cases h
        have := mfind_get hq
        simpa using this
theorem mval_none {m : List (Int × Value)} {k : Int} : mval m k = none ↔ k ∉ keysOf m := by
  induction m with
  | nil => simp [mval, mfind, keysOf]
  | cons e m ih =>
    unfold mval mfind
    by_cases h : k = e.1
    · rw [if_pos h]; simp [keysOf, h]
    · rw [if_neg h]
      have : (Option.map (·.2) ((mfind m k).map fun p => (p.1 + 1, p.2)) = none) ↔ mval m k = none := by
        unfold mval; cases mfind m k <;> simp
      rw [this, ih]
      simp [keysOf, h]
theorem mval_app {m : List (Int × Value)} {k k' : Int} {v : Value} (h : mval m k = none) : mval (m ++ [(k, v)]) k' = if k' = k then some v else mval m k' := by
  induction m with
  | nil => unfold mval mfind mfind; by_cases e : k' = k <;> simp [e]
  | cons e m ih =>
    have hk := mval_none.1 h
    have hne : k ≠ e.1 := fun h2 => hk (by simp [keysOf, h2])
    have ih := ih (mval_none.2 fun h2 => hk (by simp [keysOf] at h2 ⊢; exact .inr h2))
    unfold mval at ih ⊢
    show Option.map (·.2) (mfind (e :: (m ++ [(k, v)])) k') = _
    unfold mfind
    by_cases h2 : k' = e.1
    · rw [if_pos h2, if_pos h2, if_neg (fun h3 => hne (by rw [← h3, h2]))]
    · rw [if_neg h2, if_neg h2]
      have e1 : ∀ o : Option (Nat × Value), Option.map (·.2) (o.map fun p => (p.1 + 1, p.2)) = o.map (·.2) := fun o => by cases o <;> rfl
      rw [e1, e1]; exact ih
theorem mval_set {m : List (Int × Value)} {k k' : Int} {v w : Value} {i : Nat} (h : mfind m k = some (i, w)) : mval (m.set i (k, v)) k' = if k' = k then some v else mval m k' := by
  induction m generalizing i with
  | nil => cases h
  | cons e m ih =>
    have e1 : ∀ o : Option (Nat × Value), Option.map (·.2) (o.map fun p => (p.1 + 1, p.2)) = o.map (·.2) := fun o => by cases o <;> rfl
    unfold mfind at h
    split at h
    · rename_i hk
      cases h
      rw [List.set_cons_zero]
      unfold mval mfind
      by_cases h2 : k' = k
      · rw [if_pos h2, if_pos h2]; rfl
      · rw [if_neg h2, if_neg h2, if_neg (fun h3 => h2 (by rw [h3, hk]))]
    · rename_i hk
      cases hq : mfind m k with
      | none => rw [hq] at h; cases h
      | some p =>
        rw [hq] at h
        cases h
        rw [List.set_cons_succ]
        have ih := ih hq
        unfold mval at ih ⊢
        unfold mfind
        by_cases h2 : k' = e.1
        · rw [if_pos h2, if_pos h2, if_neg (fun h3 => hk (by rw [← h3, h2]))]
        · rw [if_neg h2, if_neg h2, e1, e1]; exact ih
theorem mval_del {m : List (Int × Value)} {k k' : Int} {w : Value} {i : Nat} (hn : (keysOf m).Nodup) (h : mfind m k = some (i, w)) : mval (m.eraseIdx i) k' = if k' = k then none else mval m k' := by
  induction m generalizing i with
  | nil => cases h
  | cons e m ih =>
    have e1 : ∀ o : Option (Nat × Value), Option.map (·.2) (o.map fun p => (p.1 + 1, p.2)) = o.map (·.2) := fun o => by cases o <;> rfl
    have hn2 : e.1 ∉ keysOf m ∧ (keysOf m).Nodup := by simpa [keysOf] using hn
    unfold mfind at h
    split at h
    · rename_i hk
      cases h
      show mval m k' = _
      by_cases h2 : k' = k
      · rw [if_pos h2]; exact mval_none.2 (by rw [h2, hk]; exact hn2.1)
      · rw [if_neg h2]
        unfold mval
        conv => rhs; unfold mfind
        rw [if_neg (fun h3 => h2 (by rw [h3, hk])), e1]
    · rename_i hk
      cases hq : mfind m k with
      | none => rw [hq] at h; cases h
      | some p =>
        rw [hq] at h
        cases h
        have ih := ih hn2.2 hq
        show mval (e :: m.eraseIdx p.1) k' = _
        unfold mval at ih ⊢
        unfold mfind
        by_cases h2 : k' = e.1
        · rw [if_pos h2, if_pos h2, if_neg (fun h3 => hk (by rw [← h3, h2]))]
        · rw [if_neg h2, if_neg h2, e1, e1]; exact ih

theorem keys_set {m : List (Int × Value)} {k : Int} {v w : Value} {i : Nat} (h : mfind m k = some (i, w)) : keysOf (m.set i (k, v)) = keysOf m := by
  have hg := mfind_get h
  obtain ⟨h1, h2⟩ := List.getElem?_eq_some_iff.1 hg
  unfold keysOf
  rw [List.map_set]
  apply List.ext_getElem?
  intro j
  by_cases hj : i = j
  · subst hj
    rw [List.getElem?_set_self (by simpa using h1)]
    simp [hg]
  · rw [List.getElem?_set_ne hj]

theorem ents_set (m : List (Int × Value)) (i : Nat) (k : Int) (v : Value) : (entsOf m).set i (.int .i64 k, v) = entsOf (m.set i (k, v)) := by unfold entsOf; rw [List.map_set]
theorem ents_app (m : List (Int × Value)) (k : Int) (v : Value) : entsOf m ++ [(.int .i64 k, v)] = entsOf (m ++ [(k, v)]) := by unfold entsOf; rw [List.map_append]; rfl
theorem ents_del : ∀ (m : List (Int × Value)) (i : Nat), (entsOf m).eraseIdx i = entsOf (m.eraseIdx i)
  | [], _ => by simp [entsOf]
  | e :: m, 0 => by simp [entsOf]
  | e :: m, i + 1 => by
    have := ents_del m i
    unfold entsOf at this ⊢
    simp only [List.map_cons, List.eraseIdx_cons_succ, this]

/-- A map of type T: what it holds under each key. -/
def MapAt (lo : Nat) (σ : AS) (v : Value) (f : Int → Option Value) : Prop :=
  ∃ r m, v = .map (some r) ∧ lo ≤ r ∧ r < σ.next ∧ (σ.get r).kind = 3 ∧ (σ.get r).ents = entsOf m ∧ (keysOf m).Nodup ∧ ∀ k, mval m k = f k
def MOwn (v : Value) (i : Nat) : Prop := v = .map (some i)

section
variable {lo T E : Nat} {σ σ' : AS} {v : Value} {f : Int → Option Value}

theorem MapAt.keep (h : MapAt lo σ v f) (hn : σ.next ≤ σ'.next) (hg : ∀ i, MOwn v i → i < σ.next → σ'.get i = σ.get i) : MapAt lo σ' v f := by
  obtain ⟨r, m, h1, h2, h3, h4, h5, h6⟩ := h
  exact ⟨r, m, h1, h2, by omega, by rw [hg r h1 h3]; exact h4, by rw [hg r h1 h3]; exact h5, h6⟩
theorem MapAt.own (h : MapAt lo σ v f) {i : Nat} (ho : MOwn v i) : lo ≤ i ∧ i < σ.next ∧ (σ.get i).kind = 3 := by
  obtain ⟨r, m, h1, h2, h3, h4, h5, h6⟩ := h
  unfold MOwn at ho
  rw [h1] at ho
  cases ho
  exact ⟨h2, h3, h4⟩

theorem aFindK_ents {m : List (Int × Value)} {k : Int} : aFindK Try.prog 3 (.int .i64) (.int .i64 k) (entsOf m) = some (mfind m k) := by
  unfold aFindK
  rw [if_pos (show basicKey (.int .i64) = true from rfl), aFind_ents]
  cases mfind m k with
  | none => rfl
  | some p => simp

theorem MapAt.look (hu : Try.prog.underlying T = some (.map 3 E)) {z : Value} (hz : ∃ inf, Try.prog.info? E = some inf ∧ inf.zero = some z) (hf : flat z = true) (h : MapAt lo σ v f) (k : Int) (ok : Bool) :
    aLookup Try.prog σ T v (.int .i64 k) ok = some (match f k with | some x => if ok = true then .tuple #[x, .bool true] else x | none => if ok = true then .tuple #[z, .bool false] else z) := by
  obtain ⟨r, m, rfl, h2, h3, h4, h5, h6, h7⟩ := h
  obtain ⟨inf, hi, hiz⟩ := hz
  unfold aLookup aEnts
  simp only [hu, Try.underlying3, h4, h5, Nat.beq_refl, if_true, aFindK_ents]
  have := h7 k
  unfold mval at this
  cases hq : mfind m k with
  | none =>
    rw [hq] at this
    rw [← this]
    simp only [hi, hiz, hf, if_true, Option.map_none]
  | some p =>
    rw [hq] at this
    rw [← this]
    rfl

theorem MapAt.upd (hu : Try.prog.underlying T = some (.map 3 E)) (h : MapAt lo σ v f) (k : Int) (x : Value) : ∃ r B, v = .map (some r) ∧ B.kind = 3 ∧ aUpdate Try.prog σ T v (.int .i64 k) x = some (σ.put r B) ∧ MapAt lo (σ.put r B) v (fun j => if j = k then some x else f j) := by
  obtain ⟨r, m, rfl, h2, h3, h4, h5, h6, h7⟩ := h
  have hk := h7
  cases hq : mfind m k with
  | none =>
    have hn : mval m k = none := by unfold mval; rw [hq]; rfl
    refine ⟨r, { σ.get r with ents := entsOf (m ++ [(k, x)]) }, rfl, h4, ?_, r, m ++ [(k, x)], rfl, h2, h3, ?_, ?_, ?_, fun j => ?_⟩
    · unfold aUpdate
      simp only [hu, Try.underlying3, h4, h5, Nat.beq_refl, if_true, aFindK_ents, hq, ents_app]
    · rw [AS.get_put, if_pos rfl]; exact h4
    · rw [AS.get_put, if_pos rfl]
    · have := mval_none.1 hn
      unfold keysOf at this h6 ⊢
      rw [List.map_append, List.nodup_append]
      refine ⟨h6, by simp, fun a ha b hb => ?_⟩
      simp at hb
      rintro rfl
      exact this (by rw [← hb]; exact ha)
    · rw [mval_app hn, h7]
  | some p =>
    obtain ⟨i, w⟩ := p
    refine ⟨r, { σ.get r with ents := entsOf (m.set i (k, x)) }, rfl, h4, ?_, r, m.set i (k, x), rfl, h2, h3, ?_, ?_, ?_, fun j => ?_⟩
    · unfold aUpdate
      simp only [hu, Try.underlying3, h4, h5, Nat.beq_refl, if_true, aFindK_ents, hq, ents_set]
    · rw [AS.get_put, if_pos rfl]; exact h4
    · rw [AS.get_put, if_pos rfl]
    · rw [keys_set hq]; exact h6
    · rw [mval_set hq, h7]

theorem MapAt.del (hu : Try.prog.underlying T = some (.map 3 E)) (h : MapAt lo σ v f) {k : Int} {x : Value} (hx : f k = some x) : ∃ r B, v = .map (some r) ∧ B.kind = 3 ∧ aDelete Try.prog σ T v (.int .i64 k) = some (σ.put r B) ∧ MapAt lo (σ.put r B) v (fun j => if j = k then none else f j) := by
  obtain ⟨r, m, rfl, h2, h3, h4, h5, h6, h7⟩ := h
  cases hq : mfind m k with
  | none =>
    have := h7 k
    unfold mval at this
    rw [hq, hx] at this
    cases this
  | some p =>
    obtain ⟨i, w⟩ := p
    refine ⟨r, { σ.get r with ents := entsOf (m.eraseIdx i) }, rfl, h4, ?_, r, m.eraseIdx i, rfl, h2, h3, ?_, ?_, ?_, fun j => ?_⟩
    · unfold aDelete
      simp only [hu, Try.underlying3, h4, h5, Nat.beq_refl, if_true, aFindK_ents, hq, ents_del]
    · rw [AS.get_put, if_pos rfl]; exact h4
    · rw [AS.get_put, if_pos rfl]
    · unfold keysOf at h6 ⊢
      exact h6.sublist ((List.eraseIdx_sublist m i).map _)
    · rw [mval_del h6 hq, h7]
end

end Go.Proofs.Ytbknckiapcafdaa.Nest

/- The memory of the program's search. -/
set_option linter.unusedSimpArgs false
set_option linter.unusedVariables false
namespace Go.Proofs.Ytbknckiapcafdaa.Nest
open Abs Abs2

theorem el53 : El 51 53 2 := ⟨Try.underlying51, ⟨(Try.prog.info? 53).get!, (((Try.prog.info? 53).get!).zero).get!, by kernel_rfl, by kernel_rfl, Nat.le_of_ble_eq_true (by kernel_rfl), by kernel_rfl, by kernel_rfl, by kernel_rfl⟩, by decide⟩

/-- How many states are marked. -/
def cU : List Bool → List Bool → Nat
  | a :: l, b :: m => (if (a || b) = true then 1 else 0) + cU l m
  | _, _ => 0
theorem cU_le : ∀ l m : List Bool, cU l m ≤ l.length
  | [], _ => by simp [cU]
  | _ :: _, [] => by simp [cU]
  | a :: l, b :: m => by
    have := cU_le l m
    simp only [cU, List.length_cons]
    split <;> omega
theorem cU_comm : ∀ l m : List Bool, cU l m = cU m l
  | [], [] => rfl
  | [], _ :: _ => rfl
  | _ :: _, [] => rfl
  | a :: l, b :: m => by simp only [cU, cU_comm l m, Bool.or_comm]
theorem cU_mark : ∀ {l m : List Bool} {s : Nat}, l.length = m.length → l[s]? = some false → cU (l.set s true) m = cU l m + if m.getD s false = true then 0 else 1
  | [], m, s, _, h => by simp at h
  | a :: l, [], s, h, _ => by simp at h
  | a :: l, b :: m, 0, _, h => by
    simp at h; subst h
    cases b <;> simp [cU] <;> omega
  | a :: l, b :: m, s + 1, hl, h => by
    have := cU_mark (l := l) (m := m) (s := s) (by simpa using hl) (by simpa using h)
    simp only [List.set_cons_succ, cU, this, List.getD_cons_succ]
    omega

structure PD where
  outer : List Bool
  inner : List Bool
  place : List Int
  path : List Arc
  inside : List Arc
  stem : List Arc
  loop : List Arc

structure FP where
  om : Value
  im : Value
  pm : Value
  pv : Value
  nv : Value
  sv : Value
  lv : Value

def bmap (l : List Bool) (k : Int) : Option Value := if 0 ≤ k ∧ l.getD k.toNat false = true then some (.bool true) else none
def pmap (l : List Int) (k : Int) : Option Value := (findOn l k).map fun i => .int .i64 (i : Int)

structure PRepC (σ0 σ : AS) (xb N : Nat) (x : PD) (d : FP) : Prop where
  ext : Ext σ0 σ
  lo : σ0.next ≤ xb
  lt : xb < σ.next
  el : (σ.get xb).elem = 58
  kd : (σ.get xb).kind = 1
  ol : x.outer.length = N
  il : x.inner.length = N
  outer : MapAt σ0.next σ d.om (bmap x.outer)
  inner : MapAt σ0.next σ d.im (bmap x.inner)
  place : MapAt σ0.next σ d.pm (pmap x.place)
  oi : ∀ i, MOwn d.om i → ¬ MOwn d.im i
  op : ∀ i, MOwn d.om i → ¬ MOwn d.pm i
  ip : ∀ i, MOwn d.im i → ¬ MOwn d.pm i
  path : Stk σ0.next 53 2 σ d.pv x.path.length (cellsOf x.path)
  inside : Stk σ0.next 53 2 σ d.nv x.inside.length (cellsOf x.inside)
  ps : ∀ i, Own d.pv i → ¬ Own d.nv i
  stem : Stk σ0.next 53 2 σ d.sv x.stem.length (cellsOf x.stem)
  loop : Stk σ0.next 53 2 σ d.lv x.loop.length (cellsOf x.loop)

def pblk (fv : Value) (N c : Nat) (d : FP) : Blk := ⟨1, 58, 0, [fv, .int .i64 (N : Int), .int .i64 (c : Int), d.om, d.im, d.pm, d.pv, d.nv, d.sv, d.lv], []⟩

/-- The fields hold d and count c; what they hold is x in d'. -/
structure PMid (σ0 σ : AS) (xb N : Nat) (fv : Value) (cn : Nat) (x : PD) (d d' : FP) : Prop where
  c : PRepC σ0 σ xb N x d'
  get : σ.get xb = pblk fv N cn d

abbrev PRepV (σ0 σ : AS) (xb N : Nat) (fv : Value) (x : PD) (d : FP) : Prop := PMid σ0 σ xb N fv (cU x.outer x.inner) x d d

section
variable {σ0 σ σ' s : AS} {xb N c : Nat} {fv : Value} {x : PD} {d d' : FP}

theorem MapAt.ne {lo : Nat} {v : Value} {f : Int → Option Value} (h : MapAt lo σ v f) {i j : Nat} (ho : MOwn v i) (hk : (σ.get j).kind ≠ 3) : i ≠ j := fun e => hk (by rw [← e]; exact (h.own ho).2.2)
theorem Stk.ne {lo E z k : Nat} {v : Value} {cs : List Value} (h : Stk lo E z σ v k cs) {i j : Nat} (ho : Own v i) (hk : (σ.get j).kind ≠ 2) : i ≠ j := fun e => hk (by rw [← e]; exact (h.own ho).2.2.1)

theorem PRepC.keep (h : PRepC σ0 σ xb N x d) (hE : Ext σ0 σ') (hn : σ.next ≤ σ'.next) (hg : ∀ i, i < σ.next → i ≠ xb → σ'.get i = σ.get i) (he : (σ'.get xb).elem = 58 ∧ (σ'.get xb).kind = 1) : PRepC σ0 σ' xb N x d := by
  have k3 : (σ.get xb).kind ≠ 3 := by rw [h.kd]; decide
  have k2 : (σ.get xb).kind ≠ 2 := by rw [h.kd]; decide
  exact ⟨hE, h.lo, by have := h.lt; omega, he.1, he.2, h.ol, h.il, h.outer.keep hn fun i ho hi => hg i hi (h.outer.ne ho k3), h.inner.keep hn fun i ho hi => hg i hi (h.inner.ne ho k3), h.place.keep hn fun i ho hi => hg i hi (h.place.ne ho k3), h.oi, h.op, h.ip,
    h.path.keep hn fun i ho hi => hg i hi (h.path.ne ho k2), h.inside.keep hn fun i ho hi => hg i hi (h.inside.ne ho k2), h.ps, h.stem.keep hn fun i ho hi => hg i hi (h.stem.ne ho k2), h.loop.keep hn fun i ho hi => hg i hi (h.loop.ne ho k2)⟩

theorem PMid.ext (h : PMid σ0 σ xb N fv c x d d') (e : Ext σ σ') : PMid σ0 σ' xb N fv c x d d' :=
  ⟨h.c.keep (h.c.ext.trans e) e.nxt (fun i hi _ => e.get i hi) (by rw [e.get _ h.c.lt]; exact ⟨h.c.el, h.c.kd⟩), (e.get _ h.c.lt).trans h.get⟩
theorem PRepC.merge (h : PRepC σ0 s xb N x d) (e : Ext σ0 σ) : PRepC σ0 (σ.merge s) xb N x d := h.keep (ext_merge e h.ext) (Nat.le_refl _) (fun _ _ _ => rfl) ⟨h.el, h.kd⟩
theorem PMid.merge (h : PMid σ0 s xb N fv c x d d') (e : Ext σ0 σ) : PMid σ0 (σ.merge s) xb N fv c x d d' := ⟨h.c.merge e, h.get⟩
theorem PRepC.put (h : PRepC σ0 σ xb N x d) (c : Nat) : PMid σ0 (σ.put xb (pblk fv N c d)) xb N fv c x d d :=
  ⟨h.keep (h.ext.put h.lo _) (Nat.le_refl _) (fun i _ hi => by rw [AS.get_put, if_neg (fun e => hi e.symm)]) (by rw [AS.get_put, if_pos rfl]; exact ⟨rfl, rfl⟩), by rw [AS.get_put, if_pos rfl]⟩
theorem PMid.put (h : PMid σ0 σ xb N fv c x d d') : PMid σ0 (σ.put xb (pblk fv N c d')) xb N fv c x d' d' := h.c.put c
theorem fld58_0 {b : Nat} : aField Try.prog 58 0 (.pointer (some ⟨b, 0, none⟩)) = some (.pointer (some ⟨b, 0, none⟩)) := by kernel_rfl
theorem PMid.ld0 (h : PMid σ0 σ xb N fv c x d d') : aLoad Try.prog σ 49 (.pointer (some ⟨xb, 0, none⟩)) = some (fv) := load1 Try.underlying49 rfl (cells_at h.get rfl (by simp))
theorem fld58_1 {b : Nat} : aField Try.prog 58 1 (.pointer (some ⟨b, 0, none⟩)) = some (.pointer (some ⟨b, 1, none⟩)) := by kernel_rfl
theorem PMid.ld1 (h : PMid σ0 σ xb N fv c x d d') : aLoad Try.prog σ 3 (.pointer (some ⟨xb, 1, none⟩)) = some (.int .i64 (N : Int)) := load1 Try.underlying3 rfl (cells_at h.get rfl (by simp))
theorem fld58_2 {b : Nat} : aField Try.prog 58 2 (.pointer (some ⟨b, 0, none⟩)) = some (.pointer (some ⟨b, 2, none⟩)) := by kernel_rfl
theorem PMid.ld2 (h : PMid σ0 σ xb N fv c x d d') : aLoad Try.prog σ 3 (.pointer (some ⟨xb, 2, none⟩)) = some (.int .i64 (c : Int)) := load1 Try.underlying3 rfl (cells_at h.get rfl (by simp))
theorem fld58_3 {b : Nat} : aField Try.prog 58 3 (.pointer (some ⟨b, 0, none⟩)) = some (.pointer (some ⟨b, 3, none⟩)) := by kernel_rfl
theorem PMid.ld3 (h : PMid σ0 σ xb N fv c x d d') : aLoad Try.prog σ 55 (.pointer (some ⟨xb, 3, none⟩)) = some (d.om) := load1 Try.underlying55 rfl (cells_at h.get rfl (by simp))
theorem fld58_4 {b : Nat} : aField Try.prog 58 4 (.pointer (some ⟨b, 0, none⟩)) = some (.pointer (some ⟨b, 4, none⟩)) := by kernel_rfl
theorem PMid.ld4 (h : PMid σ0 σ xb N fv c x d d') : aLoad Try.prog σ 55 (.pointer (some ⟨xb, 4, none⟩)) = some (d.im) := load1 Try.underlying55 rfl (cells_at h.get rfl (by simp))
theorem fld58_5 {b : Nat} : aField Try.prog 58 5 (.pointer (some ⟨b, 0, none⟩)) = some (.pointer (some ⟨b, 5, none⟩)) := by kernel_rfl
theorem PMid.ld5 (h : PMid σ0 σ xb N fv c x d d') : aLoad Try.prog σ 56 (.pointer (some ⟨xb, 5, none⟩)) = some (d.pm) := load1 Try.underlying56 rfl (cells_at h.get rfl (by simp))
theorem fld58_6 {b : Nat} : aField Try.prog 58 6 (.pointer (some ⟨b, 0, none⟩)) = some (.pointer (some ⟨b, 6, none⟩)) := by kernel_rfl
theorem PMid.ld6 (h : PMid σ0 σ xb N fv c x d d') : aLoad Try.prog σ 51 (.pointer (some ⟨xb, 6, none⟩)) = some (d.pv) := load1 Try.underlying51 rfl (cells_at h.get rfl (by simp))
theorem fld58_7 {b : Nat} : aField Try.prog 58 7 (.pointer (some ⟨b, 0, none⟩)) = some (.pointer (some ⟨b, 7, none⟩)) := by kernel_rfl
theorem PMid.ld7 (h : PMid σ0 σ xb N fv c x d d') : aLoad Try.prog σ 51 (.pointer (some ⟨xb, 7, none⟩)) = some (d.nv) := load1 Try.underlying51 rfl (cells_at h.get rfl (by simp))
theorem fld58_8 {b : Nat} : aField Try.prog 58 8 (.pointer (some ⟨b, 0, none⟩)) = some (.pointer (some ⟨b, 8, none⟩)) := by kernel_rfl
theorem PMid.ld8 (h : PMid σ0 σ xb N fv c x d d') : aLoad Try.prog σ 51 (.pointer (some ⟨xb, 8, none⟩)) = some (d.sv) := load1 Try.underlying51 rfl (cells_at h.get rfl (by simp))
theorem fld58_9 {b : Nat} : aField Try.prog 58 9 (.pointer (some ⟨b, 0, none⟩)) = some (.pointer (some ⟨b, 9, none⟩)) := by kernel_rfl
theorem PMid.ld9 (h : PMid σ0 σ xb N fv c x d d') : aLoad Try.prog σ 51 (.pointer (some ⟨xb, 9, none⟩)) = some (d.lv) := load1 Try.underlying51 rfl (cells_at h.get rfl (by simp))

theorem store58 {t i : Nat} {v : Value} {vals : List Value} (h : σ.get xb = ⟨1, 58, 0, vals, []⟩) (hi : i < vals.length) (hv : (∃ a n c, v = .slice a n c) ∨ ∃ k, v = .int .i64 k) (ht : ∃ inf, Try.prog.info? t = some inf ∧ inf.size = 1) :
    aStore Try.prog σ t v (.pointer (some ⟨xb, i, none⟩)) = some (σ.put xb ⟨1, 58, 0, vals.set i v, []⟩) := by
  obtain ⟨inf, hi2, hs⟩ := ht
  have hz : Nat.beq v.cells.size 1 = true ∧ v.cells.toList = [v] ∧ one v = true := by
    rcases hv with ⟨a, n, c, rfl⟩ | ⟨f, rfl⟩ <;> exact ⟨rfl, rfl, rfl⟩
  unfold aStore
  simp only [hi2, hs, hz.1, if_true, hz.2.1]
  unfold aWrite
  simp only [h, hasLen_eq, List.length_cons, List.length_nil, Nat.zero_add, List.all_cons, List.all_nil, hz.2.2]
  rw [ble_t (show i + 1 ≤ vals.length by omega), lsplice_cons, lsplice_nil]
  rfl
theorem sz51 : ∃ inf, Try.prog.info? 51 = some inf ∧ inf.size = 1 := ⟨(Try.prog.info? 51).get!, by kernel_rfl, by kernel_rfl⟩
theorem sz3 : ∃ inf, Try.prog.info? 3 = some inf ∧ inf.size = 1 := ⟨(Try.prog.info? 3).get!, by kernel_rfl, by kernel_rfl⟩
theorem PMid.st6 {v' : Value} (h : PMid σ0 σ xb N fv c x d { d with pv := v' }) (hv : ∃ a n c, v' = .slice a n c) :
    aStore Try.prog σ 51 v' (.pointer (some ⟨xb, 6, none⟩)) = some (σ.put xb (pblk fv N c { d with pv := v' })) := store58 h.get (by simp) (.inl hv) sz51
theorem PMid.st7 {v' : Value} (h : PMid σ0 σ xb N fv c x d { d with nv := v' }) (hv : ∃ a n c, v' = .slice a n c) :
    aStore Try.prog σ 51 v' (.pointer (some ⟨xb, 7, none⟩)) = some (σ.put xb (pblk fv N c { d with nv := v' })) := store58 h.get (by simp) (.inl hv) sz51
theorem PMid.st8 {v' : Value} (h : PMid σ0 σ xb N fv c x d { d with sv := v' }) (hv : ∃ a n c, v' = .slice a n c) :
    aStore Try.prog σ 51 v' (.pointer (some ⟨xb, 8, none⟩)) = some (σ.put xb (pblk fv N c { d with sv := v' })) := store58 h.get (by simp) (.inl hv) sz51
theorem PMid.st9 {v' : Value} (h : PMid σ0 σ xb N fv c x d { d with lv := v' }) (hv : ∃ a n c, v' = .slice a n c) :
    aStore Try.prog σ 51 v' (.pointer (some ⟨xb, 9, none⟩)) = some (σ.put xb (pblk fv N c { d with lv := v' })) := store58 h.get (by simp) (.inl hv) sz51
theorem PMid.st2 (h : PMid σ0 σ xb N fv c x d d') (c' : Nat) : aStore Try.prog σ 3 (.int .i64 (c' : Int)) (.pointer (some ⟨xb, 2, none⟩)) = some (σ.put xb (pblk fv N c' d)) := store58 h.get (by simp) (.inr ⟨_, rfl⟩) sz3
theorem PMid.count (h : PMid σ0 σ xb N fv c x d d) (c' : Nat) : PMid σ0 (σ.put xb (pblk fv N c' d)) xb N fv c' x d d := h.c.put c'

theorem PRepC.setPath (h : PRepC σ0 σ xb N x d) {v' : Value} {p : List Arc} (hc : Chg σ0 σ s d.pv v') (hs : Stk σ0.next 53 2 s v' p.length (cellsOf p)) (hl : x.stem = [] ∧ x.loop = []) (hd : d.sv = .slice none 0 0 ∧ d.lv = .slice none 0 0) : PRepC σ0 s xb N { x with path := p } { d with pv := v' } := by
  have own : ∀ i, Own d.pv i → σ0.next ≤ i ∧ (σ.get i).kind = 2 := fun i hi => ⟨(h.path.own hi).1, (h.path.own hi).2.2.1⟩
  have ne : ∀ {i : Nat}, (σ.get i).kind ≠ 2 → ¬ Own d.pv i := fun h1 h2 => h1 (own _ h2).2
  have nil : ∀ {v : Value} {l : List Arc}, v = .slice none 0 0 → l = [] → Stk σ0.next 53 2 s v l.length (cellsOf l) := fun h1 h2 => by rw [h1, h2]; exact ⟨rfl, rfl, .inl ⟨rfl, rfl⟩⟩
  refine ⟨hc.ext h.ext fun i hi => (own i hi).1, h.lo, by have := h.lt; have := hc.nxt; omega, ?_, ?_, h.ol, h.il, h.outer.keep hc.nxt fun i ho hi => hc.get i hi (ne (by rw [(h.outer.own ho).2.2]; decide)), h.inner.keep hc.nxt fun i ho hi => hc.get i hi (ne (by rw [(h.inner.own ho).2.2]; decide)), h.place.keep hc.nxt fun i ho hi => hc.get i hi (ne (by rw [(h.place.own ho).2.2]; decide)), h.oi, h.op, h.ip, hs, h.inside.keep hc.nxt (fun i ho hi => hc.get i hi (fun h2 => h.ps i h2 ho)), fun i hi ho => by rcases hc.own i hi with h2 | h2; exact h.ps i h2 ho; have := (h.inside.own ho).2.1; omega, nil hd.1 hl.1, nil hd.2 hl.2⟩
  · rw [hc.get xb h.lt (ne (by rw [h.kd]; decide))]; exact h.el
  · rw [hc.get xb h.lt (ne (by rw [h.kd]; decide))]; exact h.kd

theorem PRepC.setInside (h : PRepC σ0 σ xb N x d) {v' : Value} {p : List Arc} (hc : Chg σ0 σ s d.nv v') (hs : Stk σ0.next 53 2 s v' p.length (cellsOf p)) (hl : x.stem = [] ∧ x.loop = []) (hd : d.sv = .slice none 0 0 ∧ d.lv = .slice none 0 0) : PRepC σ0 s xb N { x with inside := p } { d with nv := v' } := by
  have own : ∀ i, Own d.nv i → σ0.next ≤ i ∧ (σ.get i).kind = 2 := fun i hi => ⟨(h.inside.own hi).1, (h.inside.own hi).2.2.1⟩
  have ne : ∀ {i : Nat}, (σ.get i).kind ≠ 2 → ¬ Own d.nv i := fun h1 h2 => h1 (own _ h2).2
  have nil : ∀ {v : Value} {l : List Arc}, v = .slice none 0 0 → l = [] → Stk σ0.next 53 2 s v l.length (cellsOf l) := fun h1 h2 => by rw [h1, h2]; exact ⟨rfl, rfl, .inl ⟨rfl, rfl⟩⟩
  refine ⟨hc.ext h.ext fun i hi => (own i hi).1, h.lo, by have := h.lt; have := hc.nxt; omega, ?_, ?_, h.ol, h.il, h.outer.keep hc.nxt fun i ho hi => hc.get i hi (ne (by rw [(h.outer.own ho).2.2]; decide)), h.inner.keep hc.nxt fun i ho hi => hc.get i hi (ne (by rw [(h.inner.own ho).2.2]; decide)), h.place.keep hc.nxt fun i ho hi => hc.get i hi (ne (by rw [(h.place.own ho).2.2]; decide)), h.oi, h.op, h.ip, h.path.keep hc.nxt (fun i ho hi => hc.get i hi (fun h2 => h.ps i ho h2)), hs, fun i hi ho => by rcases hc.own i ho with h2 | h2; exact h.ps i hi h2; have := (h.path.own hi).2.1; omega, nil hd.1 hl.1, nil hd.2 hl.2⟩
  · rw [hc.get xb h.lt (ne (by rw [h.kd]; decide))]; exact h.el
  · rw [hc.get xb h.lt (ne (by rw [h.kd]; decide))]; exact h.kd

end
end Go.Proofs.Ytbknckiapcafdaa.Nest
