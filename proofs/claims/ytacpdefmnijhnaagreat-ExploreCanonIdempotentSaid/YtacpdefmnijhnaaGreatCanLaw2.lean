/- More on renumbering: what a check of the result asks, when it is done, what the second time tells. No program. -/
import Derived.Test.YtacpdefmnijhnaaGreatCanLaw
set_option linter.unusedSimpArgs false
set_option linter.unusedVariables false
namespace Go.Proofs.YtacpdefmnijhnaaGreat.Can

/-- What is known after a row: one more than the largest target. -/
def knows : Nat → List Arc → Nat
  | k, [] => k
  | k, a :: l => knows (max k (a.2 + 1)) l

theorem knows_app : ∀ (l m : List Arc) (k : Nat), knows k (l ++ m) = knows (knows k l) m
  | [], _, _ => rfl
  | a :: l, m, k => knows_app l m _
theorem knows_le : ∀ (l : List Arc) (k : Nat), k ≤ knows k l
  | [], k => Nat.le_refl _
  | a :: l, k => Nat.le_trans (Nat.le_max_left _ _) (knows_le l _)
theorem knows_mem : ∀ {l : List Arc} {k : Nat} {a : Arc}, a ∈ l → a.2 < knows k l
  | b :: l, k, a, h => by
    rcases List.mem_cons.1 h with rfl | h
    · exact Nat.lt_of_lt_of_le (Nat.lt_of_lt_of_le (Nat.lt_succ_self _) (Nat.le_max_right k _)) (knows_le l _)
    · exact knows_mem (l := l) (k := max k (b.2 + 1)) h
theorem knows_max : ∀ {l : List Arc} {k m : Nat}, k ≤ m → (∀ a ∈ l, a.2 < m) → knows k l ≤ m
  | [], k, m, h, _ => h
  | a :: l, k, m, h, g => knows_max (l := l) (by have := g a (by simp); omega) fun b hb => g b (by simp [hb])

theorem RowOk.knows {k : Nat} {p q : List Arc} {a : Arc} (h : RowOk k (p ++ a :: q)) : a.2 ≤ knows k p := by
  rcases Nat.lt_or_ge (Can.knows k p) a.2 with hlt | hge
  · obtain ⟨z, hz, e⟩ := h p a q rfl _ (knows_le p k) hlt
    have := knows_mem (k := k) hz
    omega
  · exact hge

theorem knows_meets {k m : Nat} {l : List Arc} (h : RowOk k l) (hm : meets (List.range k) l = List.range m) : knows k l = m := by
  obtain ⟨m', h1, h2, h3⟩ := meets_ok l k h
  rw [h2] at hm
  obtain rfl : m' = m := by have := congrArg List.length hm; simpa using this
  refine Nat.le_antisymm (knows_max h1 h3) ?_
  rcases Nat.lt_or_ge (knows k l) m' with hlt | hge
  · exfalso
    have hmem : knows k l ∈ meets (List.range k) l := by rw [h2]; exact List.mem_range.2 hlt
    rcases mem_meets.1 hmem with h4 | ⟨a, ha, e⟩
    · have := List.mem_range.1 h4
      have := knows_le l k
      omega
    · have := knows_mem (k := k) ha
      omega
  · exact hge

theorem round_none {l : List (List Arc)} {st : List Nat × List (List Arc)} (h : st.1.length ≤ st.2.length) : round l st = st := by
  unfold round
  rw [List.getElem?_eq_none h]
theorem rounds_stop {l : List (List Arc)} {K : Nat} (h1 : (rounds l K).1.length ≤ (rounds l K).2.length) : ∀ j, rounds l (K + j) = rounds l K
  | 0 => rfl
  | j + 1 => by
    show round l (rounds l (K + j)) = _
    rw [rounds_stop h1 j, round_none h1]

/-- It is done: every state that is met has its row. -/
structure Done (l : List (List Arc)) (K : Nat) : Prop where
  row : (rounds l K).2.length = K
  old : (rounds l K).1.length = K

theorem Done.same {l : List (List Arc)} {K K' : Nat} (h : Done l K) (h' : Done l K') : K = K' := by
  rcases Nat.lt_or_ge K K' with hlt | hge
  · have e := rounds_stop (l := l) (K := K) (by rw [h.row, h.old]; exact Nat.le_refl _) (K' - K)
    rw [show K + (K' - K) = K' by omega] at e
    have := h'.row
    rw [e, h.row] at this
    exact this
  · have e := rounds_stop (l := l) (K := K') (by rw [h'.row, h'.old]; exact Nat.le_refl _) (K - K')
    rw [show K' + (K - K') = K by omega] at e
    have := h.row
    rw [e, h'.row] at this
    exact this.symm

/-- Done once, it is done at once the second time, and nothing changes. -/
theorem Done.again {l : List (List Arc)} {K : Nat} (h : Done l K) : Done (rounds l K).2 K ∧ rounds (rounds l K).2 K = (List.range K, (rounds l K).2) := by
  obtain ⟨m, h1, h2⟩ := Can.again l K h.row
  have h3 := h2 _ List.prefix_rfl
  rw [h.old] at h1
  subst h1
  exact ⟨⟨by rw [h3]; exact h.row, by rw [h3]; simp⟩, h3⟩

theorem rounds_some {l : List (List Arc)} {K s : Nat} (h : (rounds l K).2.length = K) (hs : s < K) : ∃ o, (rounds l s).2.length = s ∧ (rounds l s).1[s]? = some o ∧ rounds l (s + 1) = (meets (rounds l s).1 (srt (l.getD o [])), (rounds l s).2 ++ [srt (ren (meets (rounds l s).1 (srt (l.getD o []))) (srt (l.getD o [])))]) := by
  have hl := rounds_length (l := l) s
  have hlt : (rounds l s).2.length = s ∧ s < (rounds l s).1.length := by
    rcases Nat.lt_or_ge (rounds l s).2.length (rounds l s).1.length with h1 | h1
    · have up : ∀ j, (rounds l (s + j)).2.length ≤ (rounds l s).2.length + j := by
        intro j
        induction j with
        | zero => exact Nat.le_refl _
        | succ j ih =>
          show (round l (rounds l (s + j))).2.length ≤ _
          unfold round
          split
          · omega
          · simp; omega
      have := up (K - s)
      rw [show s + (K - s) = K by omega, h] at this
      omega
    · have e := rounds_stop h1 (K - s)
      rw [show s + (K - s) = K by omega] at e
      rw [e] at h
      omega
  obtain ⟨o, ho⟩ : ∃ o, (rounds l s).1[s]? = some o := ⟨_, List.getElem?_eq_getElem hlt.2⟩
  refine ⟨o, hlt.1, ho, ?_⟩
  show round l (rounds l s) = _
  unfold round
  rw [hlt.1, ho]

theorem rounds_pre {l : List (List Arc)} : ∀ {j k : Nat}, j ≤ k → (rounds l j).2 <+: (rounds l k).2 ∧ (rounds l j).1 <+: (rounds l k).1
  | j, 0, h => by obtain rfl : j = 0 := by omega
                  exact ⟨List.prefix_rfl, List.prefix_rfl⟩
  | j, k + 1, h => by
    by_cases e : j = k + 1
    · subst e; exact ⟨List.prefix_rfl, List.prefix_rfl⟩
    · obtain ⟨h1, h2⟩ := rounds_pre (l := l) (j := j) (k := k) (by omega)
      have h3 : (rounds l k).2 <+: (rounds l (k + 1)).2 ∧ (rounds l k).1 <+: (rounds l (k + 1)).1 := by
        show (rounds l k).2 <+: (round l (rounds l k)).2 ∧ _ <+: (round l (rounds l k)).1
        unfold round
        split
        · exact ⟨List.prefix_rfl, List.prefix_rfl⟩
        · exact ⟨List.prefix_append _ _, meets_pre _ _⟩
      exact ⟨h1.trans h3.1, h2.trans h3.2⟩

/-- What the check of the result asks of each row. -/
theorem Done.rowOk {l : List (List Arc)} {K : Nat} (h : Done l K) {s : Nat} (hs : s < K) : ∃ r, (rounds l K).2[s]? = some r ∧ Asc r ∧ s < (rounds l s).1.length ∧ (∀ p a q, r = p ++ a :: q → a.2 ≤ knows (rounds l s).1.length p) ∧ knows (rounds l s).1.length r = (rounds l (s + 1)).1.length := by
  obtain ⟨o, h1, h2, h3⟩ := rounds_some h.row hs
  have hok := rowOk_srt (old := (rounds l s).1) (asc_srt (l.getD o []))
  refine ⟨_, ?_, asc_srt _, (List.getElem?_eq_some_iff.1 h2).1, fun p a q e => RowOk.knows (by rw [← e]; exact hok), ?_⟩
  · have hp := (rounds_pre (l := l) (show s + 1 ≤ K by omega)).1
    rw [h3] at hp
    obtain ⟨e, he⟩ := hp
    rw [← he]
    simp only [List.append_assoc]
    rw [List.getElem?_append_right (by omega), h1, Nat.sub_self]
    rfl
  · refine knows_meets hok ?_
    have hr1 : (rounds l (s + 1)).2.length = s + 1 := by rw [h3]; simp [h1]
    obtain ⟨m0, e0, a0⟩ := Can.again l s h1
    obtain ⟨m1, e1, a1⟩ := Can.again l (s + 1) hr1
    have b0 := a0 (rounds l (s + 1)).2 (rounds_pre (l := l) (Nat.le_succ s)).1
    have b1 := a1 (rounds l (s + 1)).2 List.prefix_rfl
    have hst : rounds (rounds l (s + 1)).2 (s + 1) = round (rounds l (s + 1)).2 (rounds (rounds l (s + 1)).2 s) := rfl
    rw [hst, b0] at b1
    unfold round at b1
    have hm0 : s < m0 := by rw [← e0]; exact (List.getElem?_eq_some_iff.1 h2).1
    simp only [h1, List.getElem?_range hm0] at b1
    have hrow : (rounds l (s + 1)).2.getD s [] = srt (ren (meets (rounds l s).1 (srt (l.getD o []))) (srt (l.getD o []))) := by
      rw [h3, List.getD_eq_getElem?_getD, List.getElem?_append_right (by omega), h1, Nat.sub_self]
      rfl
    rw [hrow, srt_id (asc_srt _)] at b1
    rw [e0, e1]
    exact (Prod.mk.inj b1).1

/-- The new states have the arcs of the old ones. -/
theorem Done.arcs {l : List (List Arc)} {K : Nat} (h : Done l K) {s o : Nat} {r : List Arc} (ho : (rounds l K).1[s]? = some o) (hr : (rounds l K).2[s]? = some r) {x : Arc} (hx : x ∈ l.getD o []) : ∃ y ∈ r, y.1 = x.1 ∧ (rounds l K).1[y.2]? = some x.2 := by
  obtain ⟨h1, h2⟩ := (Inv.rounds l K).rows s o r ho hr
  have hx' := mem_srt.2 hx
  refine ⟨(x.1, num (rounds l K).1 x.2), ?_, rfl, num_get (h2 x hx')⟩
  rw [h1]
  exact mem_srt.2 (List.mem_map.2 ⟨x, hx', rfl⟩)

/-- Members of a canonical form: events of the old ones, targets below the number of states. -/
theorem rounds_mem {l : List (List Arc)} (K : Nat) {r : List Arc} (hr : r ∈ (rounds l K).2) {y : Arc} (hy : y ∈ r) : (∃ o x, x ∈ l.getD o [] ∧ y.1 = x.1) ∧ y.2 < (rounds l K).1.length := by
  obtain ⟨s, hs⟩ := List.mem_iff_getElem?.1 hr
  have hI := Inv.rounds l K
  have hlt := (List.getElem?_eq_some_iff.1 hs).1
  have ho : (rounds l K).1[s]? = some ((rounds l K).1[s]'(Nat.lt_of_lt_of_le hlt hI.done)) := List.getElem?_eq_getElem _
  obtain ⟨h1, h2⟩ := hI.rows s _ r ho hs
  rw [h1] at hy
  obtain ⟨x, hx, rfl⟩ := List.mem_map.1 (mem_srt.1 hy)
  exact ⟨⟨_, x, mem_srt.1 hx, rfl⟩, num_lt (h2 x hx)⟩

theorem rounds_row_length {l : List (List Arc)} {B : Nat} (hl : ∀ r ∈ l, r.length ≤ B) (K : Nat) {r : List Arc} (hr : r ∈ (rounds l K).2) : r.length ≤ B := by
  obtain ⟨s, hs⟩ := List.mem_iff_getElem?.1 hr
  have hI := Inv.rounds l K
  have hlt := (List.getElem?_eq_some_iff.1 hs).1
  have ho : (rounds l K).1[s]? = some ((rounds l K).1[s]'(Nat.lt_of_lt_of_le hlt hI.done)) := List.getElem?_eq_getElem _
  obtain ⟨h1, h2⟩ := hI.rows s _ r ho hs
  rw [h1]
  refine Nat.le_trans (srt_length _) ?_
  unfold ren
  rw [List.length_map]
  refine Nat.le_trans (srt_length _) ?_
  rw [List.getD_eq_getElem?_getD]
  cases e : l[(rounds l K).1[s]'(Nat.lt_of_lt_of_le hlt hI.done)]? with
  | none => simp
  | some x => exact hl x (List.mem_of_getElem? e)

/-- All that is met are states. -/
theorem rounds_lt {l : List (List Arc)} {n : Nat} (h0 : 0 < n) (hl : ∀ r ∈ l, ∀ a ∈ r, a.2 < n) : ∀ (K : Nat), ∀ o ∈ (rounds l K).1, o < n
  | 0, o, ho => by
    obtain rfl : o = 0 := by simpa [rounds] using ho
    exact h0
  | K + 1, o, ho => by
    have ih := rounds_lt h0 hl K
    have : o ∈ (round l (rounds l K)).1 := ho
    unfold round at this
    split at this
    · exact ih o this
    · rename_i o' ho'
      rcases mem_meets.1 this with h | ⟨a, ha, rfl⟩
      · exact ih o h
      · have ha := mem_srt.1 ha
        rw [List.getD_eq_getElem?_getD] at ha
        cases e : l[o']? with
        | none => rw [e] at ha; simp at ha
        | some r => rw [e] at ha; exact hl r (List.mem_of_getElem? e) a ha

theorem nodup_bound : ∀ {n : Nat} {l : List Nat}, l.Nodup → (∀ o ∈ l, o < n) → l.length ≤ n
  | 0, [], _, _ => Nat.le_refl _
  | 0, a :: l, _, h => absurd (h a (by simp)) (Nat.not_lt_zero _)
  | n + 1, l, hn, h => by
    have h1 : (l.filter fun o => decide (o ≠ n)).length ≤ n := nodup_bound (hn.filter _) fun o ho => by
      obtain ⟨g1, g2⟩ := List.mem_filter.1 ho
      have := h o g1
      have := of_decide_eq_true g2
      omega
    have h2 : l.length ≤ (l.filter fun o => decide (o ≠ n)).length + 1 := by
      clear h h1
      induction l with
      | nil => simp
      | cons a l ih =>
        rw [List.nodup_cons] at hn
        by_cases e : a = n
        · subst e
          have : l.filter (fun o => decide (o ≠ a)) = l := List.filter_eq_self.2 fun o ho => decide_eq_true fun e => hn.1 (e ▸ ho)
          rw [List.filter_cons_of_neg (by simp), this]
          simp
        · rw [List.filter_cons_of_pos (by simpa using e)]
          have := ih hn.2
          simp only [List.length_cons]
          omega
    omega

/-! ### Equal neighbours are made one -/

/-- Not behind. -/
def le (a b : Arc) : Prop := ¬ alt b a

/-- What is done when r arcs of a list in order were looked at: the first k are what is kept. -/
structure Cmp (l cur : List Arc) (k r : Nat) : Prop where
  len : cur.length = l.length
  pos : 0 < k
  kr : k < r
  rl : r ≤ l.length
  tail : ∀ p, k ≤ p → cur[p]? = l[p]?
  asc : Asc (cur.take k)
  mem : ∀ x, x ∈ cur.take k ↔ x ∈ l.take r

theorem mem_take_succ {l : List Arc} {r : Nat} {y : Arc} (h : l[r]? = some y) (x : Arc) : x ∈ l.take (r + 1) ↔ x ∈ l.take r ∨ x = y := by
  rw [List.take_add_one, h]
  simp

theorem Cmp.start {l : List Arc} {k : Nat} {x : Arc} (h0 : 0 < k) (hk : k < l.length) (ha : Asc (l.take k)) (h1 : l[k]? = some x) (h2 : l[k - 1]? = some x) : Cmp l l k (k + 1) := by
  refine ⟨rfl, h0, Nat.lt_succ_self _, hk, fun _ _ => rfl, ha, fun y => ?_⟩
  rw [mem_take_succ h1]
  constructor
  · exact .inl
  · rintro (h | rfl)
    · exact h
    · refine List.mem_of_getElem? (i := k - 1) ?_
      rw [List.getElem?_take, if_pos (by omega)]
      exact h2

theorem Cmp.same {l cur : List Arc} {k r : Nat} {x : Arc} (h : Cmp l cur k r) (hr : r < l.length) (h1 : l[r]? = some x) (h2 : l[r - 1]? = some x) : Cmp l cur k (r + 1) := by
  have := h.kr
  refine ⟨h.len, h.pos, by omega, hr, h.tail, h.asc, fun y => ?_⟩
  rw [mem_take_succ h1, h.mem]
  constructor
  · exact .inl
  · rintro (h | rfl)
    · exact h
    · refine List.mem_of_getElem? (i := r - 1) ?_
      rw [List.getElem?_take, if_pos (by omega)]
      exact h2

theorem Cmp.more {l cur : List Arc} {k r : Nat} {x y : Arc} (h : Cmp l cur k r) (ho : ∀ p q a b, p < q → q < l.length → l[p]? = some a → l[q]? = some b → le a b) (hr : r < l.length) (h1 : l[r]? = some x) (h2 : l[r - 1]? = some y) (hne : x ≠ y) : Cmp l (cur.set k x) (k + 1) (r + 1) := by
  have hkr := h.kr
  have hlen := h.len
  have htk : (cur.set k x).take (k + 1) = cur.take k ++ [x] := by
    rw [List.take_add_one, List.getElem?_set_self (by omega)]
    rw [List.take_set_of_le (Nat.le_refl _)]
    rfl
  have hyx : alt y x := by
    have := ho (r - 1) r y x (by omega) hr h2 h1
    unfold le at this
    rcases Decidable.em (alt y x) with g | g
    · exact g
    · exact absurd (alt_tri g (fun e => hne e.symm)) this
  refine ⟨by rw [List.length_set]; exact h.len, by omega, by omega, hr, fun p hp => ?_, ?_, fun z => ?_⟩
  · rw [List.getElem?_set_ne (by omega)]
    exact h.tail p (by omega)
  · rw [htk]
    refine List.pairwise_append.2 ⟨h.asc, by simp, fun z hz w hw => ?_⟩
    obtain rfl : w = x := by simpa using hw
    obtain ⟨p, hp⟩ := List.mem_iff_getElem?.1 ((h.mem z).1 hz)
    rw [List.getElem?_take] at hp
    split at hp
    · rename_i hpr
      by_cases e : p = r - 1
      · subst e
        rw [h2] at hp; cases hp
        exact hyx
      · have := ho p (r - 1) z y (by omega) (by omega) hp h2
        unfold le alt at *
        omega
    · cases hp
  · rw [htk, List.mem_append, h.mem, mem_take_succ h1]
    simp

theorem Cmp.done {l cur : List Arc} {k : Nat} (h : Cmp l cur k l.length) : cur.take k = srt l := by
  refine srt_eq h.asc fun x => ?_
  rw [h.mem, List.take_of_length_le (Nat.le_refl _)]

/-- The first k are in strict order. -/
theorem asc_step {l : List Arc} {k : Nat} {x y : Arc} (ha : Asc (l.take k)) (ho : ∀ p q a b, p < q → q < l.length → l[p]? = some a → l[q]? = some b → le a b) (h0 : 0 < k) (hk : k < l.length) (h1 : l[k]? = some x) (h2 : l[k - 1]? = some y) (hne : x ≠ y) : Asc (l.take (k + 1)) := by
  have hyx : alt y x := by
    have := ho (k - 1) k y x (by omega) hk h2 h1
    unfold le at this
    rcases Decidable.em (alt y x) with g | g
    · exact g
    · exact absurd (alt_tri g (fun e => hne e.symm)) this
  rw [List.take_add_one, h1]
  refine List.pairwise_append.2 ⟨ha, by simp, fun z hz w hw => ?_⟩
  obtain rfl : w = x := by simpa using hw
  obtain ⟨p, hp⟩ := List.mem_iff_getElem?.1 hz
  rw [List.getElem?_take] at hp
  split at hp
  · rename_i hpr
    by_cases e : p = k - 1
    · subst e
      rw [h2] at hp; cases hp
      exact hyx
    · have := ho p (k - 1) z y (by omega) (by omega) hp h2
      unfold le alt at *
      omega
  · cases hp
end Go.Proofs.YtacpdefmnijhnaaGreat.Can
