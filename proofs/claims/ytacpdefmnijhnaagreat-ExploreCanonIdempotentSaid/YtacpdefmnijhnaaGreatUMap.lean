/- Maps with integers as keys. -/
import Derived.Test.YtacpdefmnijhnaaGreatUN
set_option linter.unusedSimpArgs false
set_option linter.unusedVariables false
namespace Go.Proofs.YtacpdefmnijhnaaGreat.U
open Abs

def entsOf (m : List (Int × Value)) : List (Value × Value) := m.map fun e => (.int .i64 e.1, e.2)

def mfind : List (Int × Value) → Int → Option (Nat × Value)
  | [], _ => none
  | e :: m, k => if k = e.1 then some (0, e.2) else (mfind m k).map fun p => (p.1 + 1, p.2)
def mval (m : List (Int × Value)) (k : Int) : Option Value := (mfind m k).map (·.2)
def keysOf (m : List (Int × Value)) : List Int := m.map (·.1)

theorem aFind_ents : ∀ (m : List (Int × Value)) (k : Int) (i : Nat), aFind (.int .i64) (.int .i64 k) (entsOf m) i = some ((mfind m k).map fun p => (i + p.1, p.2))
  | [], _, _ => rfl
  | e :: m, k, i => by
    have ih := aFind_ents m k (i + 1)
    show (match Instr.sameNow (.int .i64) (.int .i64 k) (.int .i64 e.1) with
      | some true => some (some (i, e.2))
      | some false => aFind (.int .i64) (.int .i64 k) (entsOf m) (i + 1)
      | none => none) = _
    have hs : Instr.sameNow (.int .i64) (.int .i64 k) (.int .i64 e.1) = some (k == e.1) := rfl
    rw [hs]
    unfold mfind
    by_cases h : k = e.1
    · rw [if_pos h, show (k == e.1) = true by rw [beq_iff_eq]; exact h]; rfl
    · rw [if_neg h, show (k == e.1) = false by rw [beq_eq_false_iff_ne]; exact h]
      dsimp only
      rw [ih]
      cases mfind m k with
      | none => rfl
      | some p => simp only [Option.map_some]; congr 2; rw [Nat.add_assoc, Nat.add_comm 1]

theorem mfind_get : ∀ {m : List (Int × Value)} {k : Int} {i : Nat} {v : Value}, mfind m k = some (i, v) → m[i]? = some (k, v)
  | [], _, _, _, h => by cases h
  | e :: m, k, i, v, h => by
    unfold mfind at h
    split at h
    · rename_i hk
      cases h
      simp [hk]
    · cases hq : mfind m k with
      | none => rw [hq] at h; cases h
      | some p =>
        rw [hq] at h
        cases h
        have := mfind_get hq
        simpa using this
theorem mval_none {m : List (Int × Value)} {k : Int} : mval m k = none ↔ k ∉ keysOf m := by
  induction m with
  | nil => simp [mval, mfind, keysOf]
  | cons e m ih =>
    unfold mval mfind
    by_cases h : k = e.1
    · rw [if_pos h]; simp [keysOf, h]
    · rw [if_neg h]
      have : (Option.map (·.2) ((mfind m k).map fun p => (p.1 + 1, p.2)) = none) ↔ mval m k = none := by
        unfold mval; cases mfind m k <;> simp
      rw [this, ih]
      simp [keysOf, h]
theorem mval_app {m : List (Int × Value)} {k k' : Int} {v : Value} (h : mval m k = none) : mval (m ++ [(k, v)]) k' = if k' = k then some v else mval m k' := by
  induction m with
  | nil => unfold mval mfind mfind; by_cases e : k' = k <;> simp [e]
  | cons e m ih =>
    have hk := mval_none.1 h
    have hne : k ≠ e.1 := fun h2 => hk (by simp [keysOf, h2])
    have ih := ih (mval_none.2 fun h2 => hk (by simp [keysOf] at h2 ⊢; exact .inr h2))
    unfold mval at ih ⊢
    show Option.map (·.2) (mfind (e :: (m ++ [(k, v)])) k') = _
    unfold mfind
    by_cases h2 : k' = e.1
    · rw [if_pos h2, if_pos h2, if_neg (fun h3 => hne (by rw [← h3, h2]))]
    · rw [if_neg h2, if_neg h2]
      have e1 : ∀ o : Option (Nat × Value), Option.map (·.2) (o.map fun p => (p.1 + 1, p.2)) = o.map (·.2) := fun o => by cases o <;> rfl
      rw [e1, e1]; exact ih
theorem mval_set {m : List (Int × Value)} {k k' : Int} {v w : Value} {i : Nat} (h : mfind m k = some (i, w)) : mval (m.set i (k, v)) k' = if k' = k then some v else mval m k' := by
  induction m generalizing i with
  | nil => cases h
  | cons e m ih =>
    have e1 : ∀ o : Option (Nat × Value), Option.map (·.2) (o.map fun p => (p.1 + 1, p.2)) = o.map (·.2) := fun o => by cases o <;> rfl
    unfold mfind at h
    split at h
    · rename_i hk
      cases h
      rw [List.set_cons_zero]
      unfold mval mfind
      by_cases h2 : k' = k
      · rw [if_pos h2, if_pos h2]; rfl
      · rw [if_neg h2, if_neg h2, if_neg (fun h3 => h2 (by rw [h3, hk]))]
    · rename_i hk
      cases hq : mfind m k with
      | none => rw [hq] at h; cases h
      | some p =>
        rw [hq] at h
        cases h
        rw [List.set_cons_succ]
        have ih := ih hq
        unfold mval at ih ⊢
        unfold mfind
        by_cases h2 : k' = e.1
        · rw [if_pos h2, if_pos h2, if_neg (fun h3 => hk (by rw [← h3, h2]))]
        · rw [if_neg h2, if_neg h2, e1, e1]; exact ih
theorem mval_del {m : List (Int × Value)} {k k' : Int} {w : Value} {i : Nat} (hn : (keysOf m).Nodup) (h : mfind m k = some (i, w)) : mval (m.eraseIdx i) k' = if k' = k then none else mval m k' := by
  induction m generalizing i with
  | nil => cases h
  | cons e m ih =>
    have e1 : ∀ o : Option (Nat × Value), Option.map (·.2) (o.map fun p => (p.1 + 1, p.2)) = o.map (·.2) := fun o => by cases o <;> rfl
    have hn2 : e.1 ∉ keysOf m ∧ (keysOf m).Nodup := by simpa [keysOf] using hn
    unfold mfind at h
    split at h
    · rename_i hk
      cases h
      show mval m k' = _
      by_cases h2 : k' = k
      · rw [if_pos h2]; exact mval_none.2 (by rw [h2, hk]; exact hn2.1)
      · rw [if_neg h2]
        unfold mval
        conv => rhs; unfold mfind
        rw [if_neg (fun h3 => h2 (by rw [h3, hk])), e1]
    · rename_i hk
      cases hq : mfind m k with
      | none => rw [hq] at h; cases h
      | some p =>
        rw [hq] at h
        cases h
        have ih := ih hn2.2 hq
        show mval (e :: m.eraseIdx p.1) k' = _
        unfold mval at ih ⊢
        unfold mfind
        by_cases h2 : k' = e.1
        · rw [if_pos h2, if_pos h2, if_neg (fun h3 => hk (by rw [← h3, h2]))]
        · rw [if_neg h2, if_neg h2, e1, e1]; exact ih

theorem keys_set {m : List (Int × Value)} {k : Int} {v w : Value} {i : Nat} (h : mfind m k = some (i, w)) : keysOf (m.set i (k, v)) = keysOf m := by
  have hg := mfind_get h
  obtain ⟨h1, h2⟩ := List.getElem?_eq_some_iff.1 hg
  unfold keysOf
  rw [List.map_set]
  apply List.ext_getElem?
  intro j
  by_cases hj : i = j
  · subst hj
    rw [List.getElem?_set_self (by simpa using h1)]
    simp [hg]
  · rw [List.getElem?_set_ne hj]

theorem ents_set (m : List (Int × Value)) (i : Nat) (k : Int) (v : Value) : (entsOf m).set i (.int .i64 k, v) = entsOf (m.set i (k, v)) := by unfold entsOf; rw [List.map_set]
theorem ents_app (m : List (Int × Value)) (k : Int) (v : Value) : entsOf m ++ [(.int .i64 k, v)] = entsOf (m ++ [(k, v)]) := by unfold entsOf; rw [List.map_append]; rfl
theorem ents_del : ∀ (m : List (Int × Value)) (i : Nat), (entsOf m).eraseIdx i = entsOf (m.eraseIdx i)
  | [], _ => by simp [entsOf]
  | e :: m, 0 => by simp [entsOf]
  | e :: m, i + 1 => by
    have := ents_del m i
    unfold entsOf at this ⊢
    simp only [List.map_cons, List.eraseIdx_cons_succ, this]

/-- A map of type T: what it holds under each key. -/
def MapAt (lo : Nat) (σ : AS) (v : Value) (f : Int → Option Value) : Prop :=
  ∃ r m, v = .map (some r) ∧ lo ≤ r ∧ r < σ.next ∧ (σ.get r).kind = 3 ∧ (σ.get r).ents = entsOf m ∧ (keysOf m).Nodup ∧ ∀ k, mval m k = f k
def MOwn (v : Value) (i : Nat) : Prop := v = .map (some i)

section
variable {lo T E : Nat} {σ σ' : AS} {v : Value} {f : Int → Option Value}

theorem MapAt.keep (h : MapAt lo σ v f) (hn : σ.next ≤ σ'.next) (hg : ∀ i, MOwn v i → i < σ.next → σ'.get i = σ.get i) : MapAt lo σ' v f := by
  obtain ⟨r, m, h1, h2, h3, h4, h5, h6⟩ := h
  exact ⟨r, m, h1, h2, by omega, by rw [hg r h1 h3]; exact h4, by rw [hg r h1 h3]; exact h5, h6⟩
theorem MapAt.own (h : MapAt lo σ v f) {i : Nat} (ho : MOwn v i) : lo ≤ i ∧ i < σ.next ∧ (σ.get i).kind = 3 := by
  obtain ⟨r, m, h1, h2, h3, h4, h5, h6⟩ := h
  unfold MOwn at ho
  rw [h1] at ho
  cases ho
  exact ⟨h2, h3, h4⟩

theorem aFindK_ents {m : List (Int × Value)} {k : Int} : aFindK Tryz.prog 3 (.int .i64) (.int .i64 k) (entsOf m) = some (mfind m k) := by
  unfold aFindK
  rw [if_pos (show basicKey (.int .i64) = true from rfl), aFind_ents]
  cases mfind m k with
  | none => rfl
  | some p => simp

theorem MapAt.look (hu : Tryz.prog.underlying T = some (.map 3 E)) {z : Value} (hz : ∃ inf, Tryz.prog.info? E = some inf ∧ inf.zero = some z) (hf : flat z = true) (h : MapAt lo σ v f) (k : Int) (ok : Bool) :
    aLookup Tryz.prog σ T v (.int .i64 k) ok = some (match f k with | some x => if ok = true then .tuple #[x, .bool true] else x | none => if ok = true then .tuple #[z, .bool false] else z) := by
  obtain ⟨r, m, rfl, h2, h3, h4, h5, h6, h7⟩ := h
  obtain ⟨inf, hi, hiz⟩ := hz
  unfold aLookup aEnts
  simp only [hu, Tryz.underlying3, h4, h5, Nat.beq_refl, if_true, aFindK_ents]
  have := h7 k
  unfold mval at this
  cases hq : mfind m k with
  | none =>
    rw [hq] at this
    rw [← this]
    simp only [hi, hiz, hf, if_true, Option.map_none]
  | some p =>
    rw [hq] at this
    rw [← this]
    rfl

theorem MapAt.upd (hu : Tryz.prog.underlying T = some (.map 3 E)) (h : MapAt lo σ v f) (k : Int) (x : Value) : ∃ r B, v = .map (some r) ∧ B.kind = 3 ∧ aUpdate Tryz.prog σ T v (.int .i64 k) x = some (σ.put r B) ∧ MapAt lo (σ.put r B) v (fun j => if j = k then some x else f j) := by
  obtain ⟨r, m, rfl, h2, h3, h4, h5, h6, h7⟩ := h
  have hk := h7
  cases hq : mfind m k with
  | none =>
    have hn : mval m k = none := by unfold mval; rw [hq]; rfl
    refine ⟨r, grown (σ.get r) (.int .i64 k) x, rfl, h4, ?_, r, m ++ [(k, x)], rfl, h2, h3, ?_, ?_, ?_, fun j => ?_⟩
    · unfold aUpdate
      simp only [hu, Tryz.underlying3, h4, h5, Nat.beq_refl, if_true, aFindK_ents, hq, ents_app]
    · rw [AS.get_put, if_pos rfl]; exact h4
    · rw [AS.get_put, if_pos rfl]
      show (σ.get r).ents ++ [(.int .i64 k, x)] = _
      rw [h5, ents_app]
    · have := mval_none.1 hn
      unfold keysOf at this h6 ⊢
      rw [List.map_append, List.nodup_append]
      refine ⟨h6, by simp, fun a ha b hb => ?_⟩
      simp at hb
      rintro rfl
      exact this (by rw [← hb]; exact ha)
    · rw [mval_app hn, h7]
  | some p =>
    obtain ⟨i, w⟩ := p
    refine ⟨r, { σ.get r with ents := entsOf (m.set i (k, x)) }, rfl, h4, ?_, r, m.set i (k, x), rfl, h2, h3, ?_, ?_, ?_, fun j => ?_⟩
    · unfold aUpdate
      simp only [hu, Tryz.underlying3, h4, h5, Nat.beq_refl, if_true, aFindK_ents, hq, ents_set]
    · rw [AS.get_put, if_pos rfl]; exact h4
    · rw [AS.get_put, if_pos rfl]
    · rw [keys_set hq]; exact h6
    · rw [mval_set hq, h7]

end

end Go.Proofs.YtacpdefmnijhnaaGreat.U
