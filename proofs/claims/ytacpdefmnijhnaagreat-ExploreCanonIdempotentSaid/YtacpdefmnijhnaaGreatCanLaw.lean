/- Renumbering a system in the order in which it is met: done twice, it changes nothing the second time. No program. -/
import Derived.WalkKit
set_option linter.unusedSimpArgs false
set_option linter.unusedVariables false
namespace Go.Proofs.YtacpdefmnijhnaaGreat.Can

/-- An arc: its event, its target. -/
abbrev Arc : Type := Nat × Nat

def alt (a b : Arc) : Prop := a.1 < b.1 ∨ (a.1 = b.1 ∧ a.2 < b.2)
instance (a b : Arc) : Decidable (alt a b) := by unfold alt; infer_instance

theorem alt_trans {a b c : Arc} (h : alt a b) (k : alt b c) : alt a c := by unfold alt at *; omega
theorem alt_irrefl (a : Arc) : ¬ alt a a := by unfold alt; omega
theorem alt_tri {a b : Arc} (h : ¬ alt a b) (hne : a ≠ b) : alt b a := by
  obtain ⟨x, y⟩ := a
  obtain ⟨z, w⟩ := b
  unfold alt at *
  simp only [ne_eq, Prod.mk.injEq] at hne
  simp only at h ⊢
  omega

/-- The arc goes into a strictly ascending list. -/
def ins (x : Arc) : List Arc → List Arc
  | [] => [x]
  | y :: l => if alt x y then x :: y :: l else if x = y then y :: l else y :: ins x l

def srt : List Arc → List Arc
  | [] => []
  | x :: l => ins x (srt l)

abbrev Asc (l : List Arc) : Prop := l.Pairwise alt

theorem mem_ins {x y : Arc} : ∀ {l : List Arc}, y ∈ ins x l ↔ y = x ∨ y ∈ l
  | [] => by simp [ins]
  | z :: l => by
    unfold ins
    split
    · simp
    · split
      · rename_i h; subst h; simp
      · rw [List.mem_cons, mem_ins (l := l), List.mem_cons]
        constructor
        · rintro (h | h | h)
          · exact .inr (.inl h)
          · exact .inl h
          · exact .inr (.inr h)
        · rintro (h | h | h)
          · exact .inr (.inl h)
          · exact .inl h
          · exact .inr (.inr h)

theorem asc_ins {x : Arc} : ∀ {l : List Arc}, Asc l → Asc (ins x l)
  | [], _ => by simp [ins, Asc]
  | z :: l, h => by
    unfold Asc at h
    rw [List.pairwise_cons] at h
    unfold ins
    split
    · rename_i hx
      refine List.pairwise_cons.2 ⟨fun y hy => ?_, List.pairwise_cons.2 h⟩
      rcases List.mem_cons.1 hy with rfl | hy
      · exact hx
      · exact alt_trans hx (h.1 y hy)
    · split
      · exact List.pairwise_cons.2 h
      · rename_i h1 h2
        refine List.pairwise_cons.2 ⟨fun y hy => ?_, asc_ins h.2⟩
        rcases mem_ins.1 hy with rfl | hy
        · exact alt_tri h1 h2
        · exact h.1 y hy

theorem mem_srt {y : Arc} : ∀ {l : List Arc}, y ∈ srt l ↔ y ∈ l
  | [] => by simp [srt]
  | x :: l => by rw [srt, mem_ins, mem_srt, List.mem_cons]

theorem asc_srt : ∀ (l : List Arc), Asc (srt l)
  | [] => List.Pairwise.nil
  | x :: l => asc_ins (asc_srt l)

/-- Ascending lists with the same members are the same. -/
theorem asc_ext : ∀ {l m : List Arc}, Asc l → Asc m → (∀ x, x ∈ l ↔ x ∈ m) → l = m
  | [], [], _, _, _ => rfl
  | [], y :: m, _, _, h => absurd ((h y).2 (by simp)) (by simp)
  | x :: l, [], _, _, h => absurd ((h x).1 (by simp)) (by simp)
  | x :: l, y :: m, hl, hm, h => by
    unfold Asc at hl hm
    rw [List.pairwise_cons] at hl hm
    have hxy : x = y := by
      rcases List.mem_cons.1 ((h x).1 (by simp)) with e | hx
      · exact e
      · rcases List.mem_cons.1 ((h y).2 (by simp)) with e | hy
        · exact e.symm
        · exact absurd (alt_trans (hl.1 y hy) (hm.1 x hx)) (alt_irrefl x)
    subst hxy
    congr 1
    refine asc_ext hl.2 hm.2 fun z => ⟨fun hz => ?_, fun hz => ?_⟩
    · rcases List.mem_cons.1 ((h z).1 (by simp [hz])) with e | hz'
      · subst e; exact absurd (hl.1 z hz) (alt_irrefl z)
      · exact hz'
    · rcases List.mem_cons.1 ((h z).2 (by simp [hz])) with e | hz'
      · subst e; exact absurd (hm.1 z hz) (alt_irrefl z)
      · exact hz'

theorem srt_id {l : List Arc} (h : Asc l) : srt l = l := asc_ext (asc_srt l) h fun _ => mem_srt

theorem srt_eq {l m : List Arc} (hm : Asc m) (h : ∀ x, x ∈ m ↔ x ∈ l) : m = srt l := asc_ext hm (asc_srt l) fun x => (h x).trans mem_srt.symm

theorem ins_length {x : Arc} : ∀ {l : List Arc}, (ins x l).length ≤ l.length + 1
  | [] => by simp [ins]
  | z :: l => by
    unfold ins
    split
    · simp
    · split
      · simp
      · have := ins_length (x := x) (l := l)
        simp only [List.length_cons]; omega

theorem srt_length : ∀ (l : List Arc), (srt l).length ≤ l.length
  | [] => Nat.le_refl _
  | x :: l => by have := srt_length l; have := ins_length (x := x) (l := srt l); simp only [srt, List.length_cons]; omega

/-- One more state is met. -/
def meet (old : List Nat) (t : Nat) : List Nat := if t ∈ old then old else old ++ [t]

/-- The states that are met along a row. -/
def meets : List Nat → List Arc → List Nat
  | old, [] => old
  | old, a :: l => meets (meet old a.2) l

/-- The number of a state. -/
def num (old : List Nat) (t : Nat) : Nat := old.idxOf t

theorem meet_pre (old : List Nat) (t : Nat) : old <+: meet old t := by
  unfold meet
  split
  · exact List.prefix_rfl
  · exact List.prefix_append _ _

theorem meets_pre : ∀ (l : List Arc) (old : List Nat), old <+: meets old l
  | [], old => List.prefix_rfl
  | a :: l, old => (meet_pre old a.2).trans (meets_pre l _)

theorem mem_meet {old : List Nat} {t x : Nat} : x ∈ meet old t ↔ x ∈ old ∨ x = t := by
  unfold meet
  split
  · rename_i h
    constructor
    · exact .inl
    · rintro (h' | rfl)
      · exact h'
      · exact h
  · simp

theorem mem_meets {x : Nat} : ∀ {l : List Arc} {old : List Nat}, x ∈ meets old l ↔ x ∈ old ∨ ∃ a ∈ l, a.2 = x
  | [], old => by simp [meets]
  | a :: l, old => by
    rw [meets, mem_meets, mem_meet]
    constructor
    · rintro ((h | rfl) | ⟨b, hb, e⟩)
      · exact .inl h
      · exact .inr ⟨a, by simp, rfl⟩
      · exact .inr ⟨b, by simp [hb], e⟩
    · rintro (h | ⟨b, hb, e⟩)
      · exact .inl (.inl h)
      · rcases List.mem_cons.1 hb with rfl | hb
        · exact .inl (.inr e.symm)
        · exact .inr ⟨b, hb, e⟩

theorem nodup_meet {old : List Nat} {t : Nat} (h : old.Nodup) : (meet old t).Nodup := by
  unfold meet
  split
  · exact h
  · rename_i hn
    rw [List.nodup_append]
    exact ⟨h, by simp, fun a ha b hb => by simp at hb; subst hb; rintro rfl; exact hn ha⟩

theorem nodup_meets : ∀ {l : List Arc} {old : List Nat}, old.Nodup → (meets old l).Nodup
  | [], _, h => h
  | a :: l, old, h => nodup_meets (l := l) (old := meet old a.2) (nodup_meet h)

theorem num_pre {old new : List Nat} (h : old <+: new) {t : Nat} (ht : t ∈ old) : num new t = num old t := by
  obtain ⟨r, rfl⟩ := h
  unfold num
  rw [List.idxOf_append, if_pos ht]

theorem num_lt {old : List Nat} {t : Nat} (ht : t ∈ old) : num old t < old.length := List.idxOf_lt_length_of_mem ht

theorem num_get {old : List Nat} {t : Nat} (ht : t ∈ old) : old[num old t]? = some t := by
  rw [List.getElem?_eq_getElem (num_lt ht)]
  simp [num]

theorem num_inj {old : List Nat} {s t : Nat} (hs : s ∈ old) (ht : t ∈ old) (h : num old s = num old t) : s = t := by
  have h1 := num_get hs
  rw [h, num_get ht] at h1
  exact (Option.some.inj h1).symm

theorem num_of_get {old : List Nat} (hn : old.Nodup) {i t : Nat} (h : old[i]? = some t) : num old t = i := by
  have hi := (List.getElem?_eq_some_iff.1 h)
  obtain ⟨hlt, e⟩ := hi
  subst e
  exact hn.idxOf_getElem i hlt

/-- The states that are met have numbers in the order in which they are met: whoever has a number that is new has all new ones below it behind it. -/
theorem meets_order : ∀ (l : List Arc) (old new : List Nat), meets old l = new → ∀ (p : List Arc) (y : Arc) (q : List Arc), l = p ++ y :: q → ∀ u, old.length ≤ u → u < num new y.2 → ∃ z ∈ p, num new z.2 = u
  | [], old, new, h, p, y, q, e, u, hu, hlt => by cases p <;> cases e
  | a :: l, old, new, h, [], y, q, e, u, hu, hlt => by
    obtain ⟨rfl, rfl⟩ : a = y ∧ l = q := by simpa using e
    exfalso
    have hmem : a.2 ∈ meet old a.2 := mem_meet.2 (.inr rfl)
    have hp : meet old a.2 <+: new := by rw [← h]; exact meets_pre _ _
    have h1 : num new a.2 = num (meet old a.2) a.2 := num_pre hp hmem
    unfold meet at h1
    split at h1
    · rename_i hy
      rw [h1] at hlt
      have := num_lt hy
      omega
    · rename_i hy
      have : num (old ++ [a.2]) a.2 = old.length := by
        unfold num
        rw [List.idxOf_append, if_neg hy]
        simp
      omega
  | a :: l, old, new, h, b :: p, y, q, e, u, hu, hlt => by
    cases e
    by_cases hu2 : (meet old a.2).length ≤ u
    · obtain ⟨z, hz, e⟩ := meets_order (p ++ y :: q) (meet old a.2) new h p y q rfl u hu2 hlt
      exact ⟨z, by simp [hz], e⟩
    · refine ⟨a, by simp, ?_⟩
      have hmem : a.2 ∈ meet old a.2 := mem_meet.2 (.inr rfl)
      have hp : meet old a.2 <+: new := by rw [← h]; exact meets_pre _ _
      rw [num_pre hp hmem]
      unfold meet at hu2 ⊢
      split
      · rename_i hy; rw [if_pos hy] at hu2; omega
      · rename_i hy
        rw [if_neg hy] at hu2
        simp at hu2
        unfold num
        rw [List.idxOf_append, if_neg hy]
        simp; omega

/-- The row in new numbers. -/
def ren (new : List Nat) (l : List Arc) : List Arc := l.map fun a => (a.1, num new a.2)

/-- A row is in order: whoever has a target that is not known has all those below it behind it. -/
def RowOk (k : Nat) (l : List Arc) : Prop := ∀ (p : List Arc) (y : Arc) (q : List Arc), l = p ++ y :: q → ∀ u, k ≤ u → u < y.2 → ∃ z ∈ p, z.2 = u

theorem rowOk_srt {old : List Nat} {l : List Arc} (hl : Asc l) : RowOk old.length (srt (ren (meets old l) l)) := by
  intro p y q e u hu hlt
  have hy : y ∈ ren (meets old l) l := mem_srt.1 (by rw [e]; simp)
  obtain ⟨y0, hy0, rfl⟩ := List.mem_map.1 hy
  obtain ⟨p0, q0, e0⟩ := List.append_of_mem hy0
  obtain ⟨z, hz, ez⟩ := meets_order l old _ rfl p0 y0 q0 e0 u hu hlt
  have hz' : (z.1, num (meets old l) z.2) ∈ srt (ren (meets old l) l) := mem_srt.2 (List.mem_map.2 ⟨z, by rw [e0]; simp [hz], rfl⟩)
  have hle : z.1 ≤ y0.1 := by
    rw [e0] at hl
    have := (List.pairwise_append.1 hl).2.2 z hz y0 (by simp)
    unfold alt at this; omega
  rw [e] at hz'
  have hasc := asc_srt (ren (meets old l) l)
  rw [e] at hasc
  refine ⟨(z.1, num (meets old l) z.2), ?_, ez⟩
  rcases List.mem_append.1 hz' with h | h
  · exact h
  · exfalso
    have hlt2 : alt (z.1, num (meets old l) z.2) (y0.1, num (meets old l) y0.2) := by
      unfold alt
      simp only [ez]
      simp only at hlt
      omega
    rcases List.mem_cons.1 h with h | h
    · rw [h] at hlt2; exact alt_irrefl _ hlt2
    · have := (List.pairwise_cons.1 (List.pairwise_append.1 hasc).2.1).1 _ h
      exact alt_irrefl _ (alt_trans hlt2 this)

/-- In a row that is in order the states are met in the order of their numbers. -/
theorem meets_ok : ∀ (l : List Arc) (k : Nat), RowOk k l → ∃ m, k ≤ m ∧ meets (List.range k) l = List.range m ∧ (∀ a ∈ l, a.2 < m)
  | [], k, _ => ⟨k, Nat.le_refl _, rfl, by simp⟩
  | a :: l, k, h => by
    have ha : a.2 ≤ k := by
      rcases Nat.lt_or_ge k a.2 with hlt | hge
      · obtain ⟨z, hz, _⟩ := h [] a l rfl k (Nat.le_refl _) hlt
        cases hz
      · exact hge
    have step : ∃ k', k ≤ k' ∧ meet (List.range k) a.2 = List.range k' ∧ a.2 < k' ∧ k' ≤ max k (a.2 + 1) := by
      unfold meet
      by_cases hk : a.2 < k
      · rw [if_pos (by simpa using hk)]
        exact ⟨k, Nat.le_refl _, rfl, hk, by omega⟩
      · rw [if_neg (by simpa using hk)]
        have : a.2 = k := by omega
        exact ⟨k + 1, by omega, by rw [this, List.range_succ], by omega, by omega⟩
    obtain ⟨k', h1, h2, h3, h4⟩ := step
    have hok : RowOk k' l := by
      intro p y q e u hu hlt
      obtain ⟨z, hz, ez⟩ := h (a :: p) y q (by rw [e]; rfl) u (by omega) hlt
      rcases List.mem_cons.1 hz with rfl | hz
      · omega
      · exact ⟨z, hz, ez⟩
    obtain ⟨m, h5, h6, h7⟩ := meets_ok l k' hok
    exact ⟨m, by omega, by rw [meets, h2, h6], fun b hb => by
      rcases List.mem_cons.1 hb with rfl | hb
      · omega
      · exact h7 b hb⟩

theorem num_range {m t : Nat} (h : t < m) : num (List.range m) t = t := by
  refine num_of_get List.nodup_range ?_
  rw [List.getElem?_range h]

theorem ren_range {m : Nat} {l : List Arc} (h : ∀ a ∈ l, a.2 < m) : ren (List.range m) l = l := by
  unfold ren
  refine (List.map_congr_left fun a ha => ?_).trans (List.map_id l)
  rw [num_range (h a ha)]; rfl

/-! ### All rows -/

/-- A round: the row of the state that is next. -/
def round (l : List (List Arc)) (st : List Nat × List (List Arc)) : List Nat × List (List Arc) :=
  match st.1[st.2.length]? with
  | none => st
  | some o => let row := srt (l.getD o []); let old := meets st.1 row; (old, st.2 ++ [srt (ren old row)])

def rounds (l : List (List Arc)) : Nat → List Nat × List (List Arc)
  | 0 => ([0], [])
  | k + 1 => round l (rounds l k)

/-- What holds after each round. -/
structure Inv (l : List (List Arc)) (st : List Nat × List (List Arc)) : Prop where
  nodup : st.1.Nodup
  zero : st.1[0]? = some 0
  done : st.2.length ≤ st.1.length
  rows : ∀ (s o : Nat) (r : List Arc), st.1[s]? = some o → st.2[s]? = some r → r = srt (ren st.1 (srt (l.getD o []))) ∧ ∀ a ∈ srt (l.getD o []), a.2 ∈ st.1

theorem ren_pre {old new : List Nat} (h : old <+: new) {l : List Arc} (hl : ∀ a ∈ l, a.2 ∈ old) : ren new l = ren old l :=
  List.map_congr_left fun a ha => by rw [num_pre h (hl a ha)]

theorem Inv.round {l : List (List Arc)} {st : List Nat × List (List Arc)} (h : Inv l st) : Inv l (round l st) := by
  unfold Can.round
  split
  · exact h
  · rename_i o ho
    have hp := meets_pre (srt (l.getD o [])) st.1
    have hlt := (List.getElem?_eq_some_iff.1 ho).1
    obtain ⟨e, he⟩ := hp
    refine ⟨nodup_meets h.nodup, ?_, ?_, ?_⟩
    · show (meets st.1 (srt (l.getD o [])))[0]? = some 0
      rw [← he, List.getElem?_append_left (by omega)]; exact h.zero
    · show (st.2 ++ [_]).length ≤ (meets st.1 _).length
      rw [← he]; simp; omega
    · intro s o' r hs hr
      simp only at hs hr ⊢
      by_cases hk : s < st.2.length
      · rw [List.getElem?_append_left hk] at hr
        have hs' : st.1[s]? = some o' := by
          rw [← he, List.getElem?_append_left (by omega)] at hs; exact hs
        obtain ⟨h1, h2⟩ := h.rows s o' r hs' hr
        refine ⟨by rw [h1, ← he, ren_pre (List.prefix_append st.1 e) h2], fun a ha => by rw [← he]; simp [h2 a ha]⟩
      · have hr1 := (List.getElem?_eq_some_iff.1 hr).1
        simp at hr1
        have : s = st.2.length := by omega
        subst this
        rw [List.getElem?_append_right (Nat.le_refl _), Nat.sub_self] at hr
        simp at hr
        have hs' : o' = o := by
          rw [← he, List.getElem?_append_left hlt] at hs
          rw [ho] at hs; exact (Option.some.inj hs).symm
        subst hs'
        exact ⟨hr.symm, fun a ha => mem_meets.2 (.inr ⟨a, ha, rfl⟩)⟩

theorem Inv.rounds (l : List (List Arc)) : ∀ k, Inv l (rounds l k)
  | 0 => ⟨by simp [Can.rounds], by simp [Can.rounds], by simp [Can.rounds], fun s o r hs hr => by simp [Can.rounds] at hr⟩
  | k + 1 => (Inv.rounds l k).round

theorem rounds_length {l : List (List Arc)} : ∀ k, (rounds l k).2.length ≤ k
  | 0 => by simp [rounds]
  | k + 1 => by
    have := rounds_length (l := l) k
    unfold rounds round
    split
    · omega
    · simp; omega

/-- The rows of the second time: those of the first time, by the first numbers. -/
theorem again (l : List (List Arc)) : ∀ k, (rounds l k).2.length = k → ∃ m, (rounds l k).1.length = m ∧ ∀ a, (rounds l k).2 <+: a → rounds a k = (List.range m, (rounds l k).2)
  | 0, _ => ⟨1, rfl, fun a _ => rfl⟩
  | k + 1, hk => by
    have hstep : (rounds l (k + 1)) = round l (rounds l k) := rfl
    have hle := rounds_length (l := l) k
    cases ho : (rounds l k).1[(rounds l k).2.length]? with
    | none =>
      exfalso
      have : rounds l (k + 1) = rounds l k := by rw [hstep]; unfold round; rw [ho]
      rw [this] at hk
      omega
    | some o =>
      have hr : rounds l (k + 1) = (meets (rounds l k).1 (srt (l.getD o [])), (rounds l k).2 ++ [srt (ren (meets (rounds l k).1 (srt (l.getD o []))) (srt (l.getD o [])))]) := by
        rw [hstep]; unfold round; rw [ho]
      rw [hr] at hk
      simp at hk
      obtain ⟨m, h1, h2⟩ := again l k hk
      have hok := rowOk_srt (old := (rounds l k).1) (asc_srt (l.getD o []))
      rw [h1] at hok
      obtain ⟨m', h3, h4, h5⟩ := meets_ok _ _ hok
      refine ⟨_, rfl, fun a ha => ?_⟩
      rw [hr] at ha ⊢
      simp only at ha ⊢
      have ha' : (rounds l k).2 <+: a := (List.prefix_append _ _).trans ha
      have hk2 := h2 a ha'
      have hm : k < m := by
        have := (List.getElem?_eq_some_iff.1 ho).1
        omega
      have hrow : a.getD k [] = srt (ren (meets (rounds l k).1 (srt (l.getD o []))) (srt (l.getD o []))) := by
        obtain ⟨e, rfl⟩ := ha
        rw [List.getD_eq_getElem?_getD, List.append_assoc, List.getElem?_append_right (by omega)]
        simp [hk]
      have hrange : (List.range m)[k]? = some k := List.getElem?_range hm
      have hsame : srt (a.getD k []) = a.getD k [] := by rw [hrow]; exact srt_id (asc_srt _)
      have hmm : m' = (meets (rounds l k).1 (srt (l.getD o []))).length := by
        have key : ∀ u, u < m' ↔ u < (meets (rounds l k).1 (srt (l.getD o []))).length := by
          intro u
          have e1 : u < m' ↔ u ∈ meets (List.range m) (srt (ren (meets (rounds l k).1 (srt (l.getD o []))) (srt (l.getD o [])))) := by rw [h4, List.mem_range]
          rw [e1, mem_meets, List.mem_range]
          have hp := meets_pre (srt (l.getD o [])) (rounds l k).1
          constructor
          · rintro (h | ⟨b, hb, rfl⟩)
            · have := hp.length_le; omega
            · obtain ⟨c, hc, rfl⟩ := List.mem_map.1 (mem_srt.1 hb)
              exact num_lt (mem_meets.2 (.inr ⟨c, hc, rfl⟩))
          · intro hu
            by_cases hum : u < m
            · exact .inl hum
            · right
              have hmem := List.getElem_mem hu
              have hnum : num (meets (rounds l k).1 (srt (l.getD o []))) (meets (rounds l k).1 (srt (l.getD o [])))[u] = u :=
                num_of_get (nodup_meets (Inv.rounds l k).nodup) (List.getElem?_eq_getElem hu)
              rcases mem_meets.1 hmem with h | ⟨b, hb, e⟩
              · rw [num_pre hp h] at hnum
                have := num_lt h
                omega
              · exact ⟨(b.1, u), mem_srt.2 (List.mem_map.2 ⟨b, hb, by rw [e, hnum]⟩), rfl⟩
        have h6 := key m'
        have h7 := key (meets (rounds l k).1 (srt (l.getD o []))).length
        omega
      show round a (rounds a k) = _
      rw [hk2]
      unfold round
      simp only [hk, hrange, hsame]
      rw [hrow, h4, ren_range h5, srt_id (asc_srt _), hmm]

end Go.Proofs.YtacpdefmnijhnaaGreat.Can
