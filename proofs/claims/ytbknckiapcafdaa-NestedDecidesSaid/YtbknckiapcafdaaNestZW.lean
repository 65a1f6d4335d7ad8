/- Components by an explicit stack, without a program. -/
import Derived.Test.YtbknckiapcafdaaNestZT
set_option linter.unusedSimpArgs false
set_option linter.unusedVariables false
namespace Go.Proofs.Ytbknckiapcafdaa.Nest
open Abs Abs2

def upd {α : Type} (f : Nat → α) (s : Nat) (x : α) : Nat → α := fun i => if i = s then x else f i
theorem upd_self {α : Type} (f : Nat → α) (s : Nat) (x : α) : upd f s x s = x := if_pos rfl
theorem upd_ne {α : Type} (f : Nat → α) {s i : Nat} (x : α) (h : i ≠ s) : upd f s x i = f i := if_neg h
theorem upd_same {α : Type} (f : Nat → α) (s : Nat) : upd f s (f s) = f := by
  funext i; unfold upd; split
  · rename_i h; rw [h]
  · rfl

/-- A search's state: index, low, component, progress (0: not seen, 1 + arcs taken), the way, the open ones, the count. -/
structure TS where
  ix : Nat → Nat
  lo : Nat → Nat
  out : Nat → Int
  pr : Nat → Nat
  path : List Nat
  op : List Nat
  cnt : Nat

structure TInv (L : Lts) (g : Nat → List Nat) (n : Nat) (X : TS) : Prop where
  pN : X.path.Nodup
  pn : ∀ s, s ∈ X.path → s < n
  srt : X.path.Pairwise fun a b => 0 < X.ix a ∧ 2 ≤ X.pr a ∧ (X.ix b = 0 ∨ X.ix a < X.ix b)
  arc : X.path.Pairwise fun a b => TStar L a b
  opm : ∀ s, s ∈ X.op ↔ 0 < X.ix s ∧ X.out s < 0
  ops : X.op.Pairwise fun a b => X.ix a < X.ix b
  ixn : ∀ s, 0 < X.ix s → s < n
  ixc : ∀ s, X.ix s ≤ X.cnt
  cl : ∀ s, 0 ≤ X.out s → 0 < X.ix s ∧ s ∉ X.path
  outn : ∀ s, X.out s < n
  low : ∀ s, 0 < X.ix s → X.lo s ≤ X.ix s
  pr0 : ∀ s, X.ix s = 0 → X.pr s = 0
  prp : ∀ s, s ∈ X.path → 0 < X.ix s → 1 ≤ X.pr s ∧ X.pr s ≤ (g s).length + 1
  prd : ∀ s, 0 < X.ix s → s ∉ X.path → X.pr s = (g s).length + 2
  vis : ∀ u k v, k + 1 < X.pr u → (g u)[k]? = some v → 0 < X.ix v ∨ v ∈ X.path
  inv : ∀ u k v, k + 1 < X.pr u → (g u)[k]? = some v → X.out u < 0 → 0 < X.ix v → X.out v < 0 → ∀ x, x ∈ X.path → 0 < X.ix x → X.ix x ≤ X.ix u → ∃ y, y ∈ X.path ∧ 0 < X.ix y ∧ X.ix x ≤ X.ix y ∧ X.lo y ≤ X.ix v
  cov : ∀ z, 0 < X.ix z → X.out z < 0 → ∃ x, x ∈ X.path ∧ 0 < X.ix x ∧ X.ix x ≤ X.ix z
  lov : ∀ y, y ∈ X.path → 0 < X.ix y → ∃ z, 0 < X.ix z ∧ X.out z < 0 ∧ X.lo y = X.ix z
  clo : ∀ u, 0 ≤ X.out u → ∀ v, v ∈ g u → 0 ≤ X.out v
  safe : (∃ s t, t ∈ g s ∧ X.out s = X.out t ∧ 0 ≤ X.out s) ∨ ∀ u, 0 ≤ X.out u → ¬ Bad L u
  acy : ¬ Cyc L → (∀ s, s ∈ X.op → s ∈ X.path) ∧ (∀ s, 0 < X.ix s → X.out s < 0 → X.lo s = X.ix s) ∧ ∀ s, 0 ≤ X.out s → X.out s = (s : Int)

theorem TInv.init (L : Lts) (g : Nat → List Nat) {n : Nat} : TInv L g n ⟨fun _ => 0, fun _ => 0, fun _ => -1, fun _ => 0, [], [], 0⟩ := by
  constructor <;> simp <;> omega

section
variable {L : Lts} {g : Nat → List Nat} {n s r : Nat} {p : List Nat} {X : TS}

theorem pw_snoc {α : Type} {R : α → α → Prop} {p : List α} {s : α} : (p ++ [s]).Pairwise R ↔ p.Pairwise R ∧ ∀ y, y ∈ p → R y s := by
  rw [List.pairwise_append]
  simp
theorem mem_snoc {p : List Nat} {s y : Nat} : y ∈ p ++ [s] ↔ y ∈ p ∨ y = s := by simp
theorem pw_imp {α : Type} {R S : α → α → Prop} : ∀ {l : List α}, (∀ a b, a ∈ l → b ∈ l → R a b → S a b) → l.Pairwise R → l.Pairwise S
  | [], _, _ => List.Pairwise.nil
  | a :: l, h, hp => by
    rw [List.pairwise_cons] at hp ⊢
    exact ⟨fun b hb => h a b (List.mem_cons_self ..) (List.mem_cons_of_mem _ hb) (hp.1 b hb), pw_imp (fun x y hx hy => h x y (List.mem_cons_of_mem _ hx) (List.mem_cons_of_mem _ hy)) hp.2⟩
theorem nd_snoc {p : List Nat} {s : Nat} : (p ++ [s]).Nodup ↔ p.Nodup ∧ s ∉ p := by
  rw [List.nodup_append]
  simp only [List.nodup_cons, List.not_mem_nil, not_false_eq_true, List.nodup_nil, true_and, and_true, List.mem_singleton, forall_eq]
  constructor
  · rintro ⟨h1, h2⟩; exact ⟨h1, fun h => h2 s h rfl⟩
  · rintro ⟨h1, h2⟩; exact ⟨h1, fun a ha e => h2 (e ▸ ha)⟩

theorem TInv.enter (h : TInv L g n X) (hp : X.path = []) (hr : X.ix r = 0) (hn : r < n) : TInv L g n { X with path := [r] } := by
  obtain ⟨pN, pn, srt, arc, opm, ops, ixn, ixc, cl, outn, low, pr0, prp, prd, vis, inv, cov, lov, clo, safe, acy⟩ := h
  rw [hp] at *
  constructor <;> dsimp only
  case pN => simp
  case srt => simp
  case arc => simp
  case acy => intro hc; obtain ⟨a1, a2, a3⟩ := acy hc; exact ⟨fun s hs => absurd (a1 s hs) (by simp), a2, a3⟩
  case opm => exact opm
  case ops => exact ops
  case safe => exact safe
  all_goals clear acy safe ops arc srt pN
  all_goals grind

theorem TInv.visit (h : TInv L g n X) (hp : X.path = p ++ [s]) (hs : X.ix s = 0) : TInv L g n { X with ix := upd X.ix s (X.cnt + 1), lo := upd X.lo s (X.cnt + 1), pr := upd X.pr s 1, op := X.op ++ [s], cnt := X.cnt + 1 } := by
  obtain ⟨pN, pn, srt, arc, opm, ops, ixn, ixc, cl, outn, low, pr0, prp, prd, vis, inv, cov, lov, clo, safe, acy⟩ := h
  rw [hp] at *
  have hns : s ∉ p := (nd_snoc.1 pN).2
  have hso : s ∉ X.op := fun h => by have := (opm s).1 h; omega
  obtain ⟨srt1, srt2⟩ := pw_snoc.1 srt
  have hu : ∀ i, i ≠ s → upd X.ix s (X.cnt + 1) i = X.ix i := fun i hi => upd_ne _ _ hi
  have hul : ∀ i, i ≠ s → upd X.lo s (X.cnt + 1) i = X.lo i := fun i hi => upd_ne _ _ hi
  have hup : ∀ i, i ≠ s → upd X.pr s 1 i = X.pr i := fun i hi => upd_ne _ _ hi
  have hv := upd_self X.ix s (X.cnt + 1)
  have hvl := upd_self X.lo s (X.cnt + 1)
  have hvp := upd_self X.pr s 1
  constructor <;> dsimp only
  case pN => exact pN
  case srt =>
    refine pw_snoc.2 ⟨pw_imp (fun a b ha hb h => ?_) srt1, fun y hy => ?_⟩
    · have e1 : a ≠ s := fun e => hns (e ▸ ha)
      have e2 : b ≠ s := fun e => hns (e ▸ hb)
      rw [hu a e1, hu b e2, hup a e1]; exact h
    · have e1 : y ≠ s := fun e => hns (e ▸ hy)
      rw [hu y e1, hup y e1, hv]
      have := srt2 y hy
      have := ixc y
      omega
  case arc => exact arc
  case ops =>
    refine pw_snoc.2 ⟨pw_imp (fun a b ha hb h => ?_) ops, fun y hy => ?_⟩
    · have e1 : a ≠ s := fun e => hso (e ▸ ha)
      have e2 : b ≠ s := fun e => hso (e ▸ hb)
      rw [hu a e1, hu b e2]; exact h
    · have e1 : y ≠ s := fun e => hso (e ▸ hy)
      rw [hu y e1, hv]
      have := ixc y
      omega
  case acy =>
    intro hc; obtain ⟨a1, a2, a3⟩ := acy hc
    refine ⟨fun z hz => ?_, fun z hz1 hz2 => ?_, a3⟩
    · rcases mem_snoc.1 hz with hz | rfl
      · exact a1 z hz
      · simp
    · by_cases e : z = s
      · subst e; rw [hv, hvl]
      · rw [hu z e, hul z e]; rw [hu z e] at hz1; exact a2 z hz1 hz2
  case safe => exact safe
  case inv =>
    intro u k v h1 h2 h3 h4 h5 x hx h6 h7
    by_cases eu : u = s
    · subst eu; rw [hvp] at h1; omega
    · rw [hup u eu] at h1
      rw [hu u eu] at h7
      by_cases ev : v = s
      · subst ev
        refine ⟨v, by simp, by rw [hv]; omega, ?_, by rw [hvl, hv]; exact Nat.le_refl _⟩
        rw [hv]
        have := ixc u
        omega
      · rw [hu v ev] at h4
        have ex : x ≠ s := fun e => by rw [e, hv] at h7; have := ixc u; omega
        rw [hu x ex] at h6 h7
        obtain ⟨y, y1, y2, y3, y4⟩ := inv u k v h1 h2 h3 h4 h5 x hx h6 h7
        have ey : y ≠ s := fun e => by rw [e, hs] at y2; omega
        exact ⟨y, y1, by rw [hu y ey]; exact y2, by rw [hu x ex, hu y ey]; exact y3, by rw [hul y ey, hu v ev]; exact y4⟩
  all_goals clear acy safe ops arc srt pN inv
  all_goals grind

set_option maxHeartbeats 4000000 in
/-- What a step over an arc keeps. -/
theorem TInv.arcs (h : TInv L g n X) {k t : Nat} (hp : X.path = p ++ [s]) (hs : 0 < X.ix s) (hk : X.pr s = k + 1) (ht : (g s)[k]? = some t) (hix : 0 < X.ix t) (lo' : Nat → Nat)
    (hlo1 : ∀ i, i ≠ s → lo' i = X.lo i) (hlo2 : lo' s ≤ X.lo s) (hlo3 : X.out t < 0 → lo' s ≤ X.ix t) (hlo4 : lo' s = X.lo s ∨ X.out t < 0 ∧ lo' s = X.ix t)
    (hac : ¬ Cyc L → lo' s = X.lo s) : TInv L g n { X with pr := upd X.pr s (k + 2), lo := lo' } := by
  obtain ⟨pN, pn, srt, arc, opm, ops, ixn, ixc, cl, outn, low, pr0, prp, prd, vis, inv, cov, lov, clo, safe, acy⟩ := h
  rw [hp] at *
  have hkl := (List.getElem?_eq_some_iff.1 ht).1
  have hns : s ∉ p := (nd_snoc.1 pN).2
  obtain ⟨srt1, srt2⟩ := pw_snoc.1 srt
  have hup : ∀ i, i ≠ s → upd X.pr s (k + 2) i = X.pr i := fun i hi => upd_ne _ _ hi
  have hvp := upd_self X.pr s (k + 2)
  have hlo5 : ∀ i, lo' i ≤ X.lo i := fun i => by
    by_cases e : i = s
    · rw [e]; exact hlo2
    · rw [hlo1 i e]; exact Nat.le_refl _
  constructor <;> dsimp only
  case pN => exact pN
  case srt =>
    refine pw_snoc.2 ⟨pw_imp (fun a b ha hb h => ?_) srt1, fun y hy => ?_⟩
    · rw [hup a (fun e => hns (e ▸ ha))]; exact h
    · rw [hup y (fun e => hns (e ▸ hy))]; exact srt2 y hy
  case arc => exact arc
  case ops => exact ops
  case acy =>
    intro hc; obtain ⟨a1, a2, a3⟩ := acy hc
    refine ⟨a1, fun z hz1 hz2 => ?_, a3⟩
    by_cases e : z = s
    · rw [e, hac hc]; exact a2 s hs (e ▸ hz2)
    · rw [hlo1 z e]; exact a2 z hz1 hz2
  case safe => exact safe
  case opm => exact opm
  case inv =>
    intro u k' v h1 h2 h3 h4 h5 x hx h6 h7
    by_cases hold : k' + 1 < X.pr u
    · obtain ⟨y, y1, y2, y3, y4⟩ := inv u k' v hold h2 h3 h4 h5 x hx h6 h7
      exact ⟨y, y1, y2, y3, Nat.le_trans (hlo5 y) y4⟩
    · have eu : u = s := by
        by_cases e : u = s
        · exact e
        · rw [hup u e] at h1; exact absurd h1 hold
      subst eu
      rw [hvp] at h1
      have : k' = k := by omega
      subst this
      rw [ht] at h2
      cases h2
      refine ⟨u, by simp, hs, ?_, hlo3 h5⟩
      exact h7
  all_goals clear acy safe ops arc srt pN inv opm hac
  case lov => 
    intro y h1 h2
    by_cases e : y = s
    · subst e
      rcases hlo4 with h4 | ⟨h4, h5⟩
      · rw [h4]; exact lov y h1 h2
      · exact ⟨t, hix, h4, h5⟩
    · rw [hlo1 y e]; exact lov y h1 h2
  case vis =>
    intro u k' v h1 h2
    by_cases e : u = s
    · subst e
      rw [hvp] at h1
      by_cases ek : k' = k
      · subst ek; rw [ht] at h2; cases h2; exact .inl hix
      · exact vis u k' v (by omega) h2
    · rw [hup u e] at h1; exact vis u k' v h1 h2
  all_goals grind
set_option maxHeartbeats 4000000 in
theorem TInv.push (h : TInv L g n X) {k t : Nat} (hE : ∀ s t, t ∈ g s ↔ Tau L s t) (hp : X.path = p ++ [s]) (hs : 0 < X.ix s) (hk : X.pr s = k + 1) (ht : (g s)[k]? = some t) (hix : X.ix t = 0) (htn : t < n) : TInv L g n { X with pr := upd X.pr s (k + 2), path := X.path ++ [t] } := by
  obtain ⟨pN, pn, srt, arc, opm, ops, ixn, ixc, cl, outn, low, pr0, prp, prd, vis, inv, cov, lov, clo, safe, acy⟩ := h
  rw [hp] at *
  have hkl := (List.getElem?_eq_some_iff.1 ht).1
  have hns : s ∉ p := (nd_snoc.1 pN).2
  obtain ⟨srt1, srt2⟩ := pw_snoc.1 srt
  obtain ⟨arc1, arc2⟩ := pw_snoc.1 arc
  have hup : ∀ i, i ≠ s → upd X.pr s (k + 2) i = X.pr i := fun i hi => upd_ne _ _ hi
  have hvp := upd_self X.pr s (k + 2)
  have hts : t ≠ s := fun e => by rw [e] at hix; omega
  have htp : t ∉ p ++ [s] := fun h => by
    rcases mem_snoc.1 h with h | h
    · have := (srt2 t h).1; omega
    · exact hts h
  have htau : Tau L s t := (hE s t).1 (List.mem_of_getElem? ht)
  constructor <;> dsimp only
  case pN => exact nd_snoc.2 ⟨pN, htp⟩
  case srt =>
    refine pw_snoc.2 ⟨pw_snoc.2 ⟨pw_imp (fun a b ha hb h => ?_) srt1, fun y hy => ?_⟩, fun y hy => ?_⟩
    · rw [hup a (fun e => hns (e ▸ ha))]; exact h
    · rw [hup y (fun e => hns (e ▸ hy))]; exact srt2 y hy
    · rcases mem_snoc.1 hy with hy | rfl
      · rw [hup y (fun e => hns (e ▸ hy))]; exact ⟨(srt2 y hy).1, (srt2 y hy).2.1, .inl hix⟩
      · rw [hvp]; exact ⟨hs, by omega, .inl hix⟩
  case arc =>
    refine pw_snoc.2 ⟨arc, fun y hy => ?_⟩
    rcases mem_snoc.1 hy with hy | rfl
    · exact (arc2 y hy).snoc htau
    · exact .step htau (.refl _)
  case ops => exact ops
  case acy =>
    intro hc; obtain ⟨a1, a2, a3⟩ := acy hc
    exact ⟨fun z hz => mem_snoc.2 (.inl (a1 z hz)), a2, a3⟩
  case safe => exact safe
  case opm => exact opm
  case inv =>
    intro u k' v h1 h2 h3 h4 h5 x hx h6 h7
    have hx : x ∈ p ++ [s] := by
      rcases mem_snoc.1 hx with hx | rfl
      · exact hx
      · omega
    by_cases hold : k' + 1 < X.pr u
    · obtain ⟨y, y1, y2, y3, y4⟩ := inv u k' v hold h2 h3 h4 h5 x hx h6 h7
      exact ⟨y, mem_snoc.2 (.inl y1), y2, y3, y4⟩
    · exfalso
      have eu : u = s := by
        by_cases e : u = s
        · exact e
        · rw [hup u e] at h1; exact absurd h1 hold
      subst eu
      rw [hvp] at h1
      have : k' = k := by omega
      subst this
      rw [ht] at h2
      cases h2
      omega
  all_goals clear acy safe ops arc srt pN inv opm arc1 arc2 srt1 hE htau
  case vis =>
    intro u k' v h1 h2
    by_cases e : u = s
    · subst e
      rw [hvp] at h1
      by_cases ek : k' = k
      · subst ek; rw [ht] at h2; cases h2; exact .inr (by simp)
      · rcases vis u k' v (by omega) h2 with h | h
        · exact .inl h
        · exact .inr (mem_snoc.2 (.inl h))
    · rw [hup u e] at h1
      rcases vis u k' v h1 h2 with h | h
      · exact .inl h
      · exact .inr (mem_snoc.2 (.inl h))
  all_goals grind

theorem TInv.look (h : TInv L g n X) {k t : Nat} (hE : ∀ s t, t ∈ g s ↔ Tau L s t) (hp : X.path = p ++ [s]) (hs : 0 < X.ix s) (hk : X.pr s = k + 1) (ht : (g s)[k]? = some t) (hix : 0 < X.ix t) (ho : X.out t < 0) :
    TInv L g n { X with pr := upd X.pr s (k + 2), lo := upd X.lo s (min (X.lo s) (X.ix t)) } := by
  refine h.arcs hp hs hk ht hix _ (fun i hi => upd_ne _ _ hi) ?_ (fun _ => ?_) ?_ fun hc => ?_ <;> rw [upd_self]
  · omega
  · omega
  · by_cases e : X.lo s ≤ X.ix t
    · exact .inl (by omega)
    · exact .inr ⟨ho, by omega⟩
  · exfalso
    obtain ⟨a1, -, -⟩ := h.acy hc
    have h1 := a1 t ((h.opm t).2 ⟨hix, ho⟩)
    have htau : Tau L s t := (hE s t).1 (List.mem_of_getElem? ht)
    have harc := h.arc
    rw [hp] at h1 harc
    rcases mem_snoc.1 h1 with h1 | rfl
    · exact hc ⟨s, t, htau, (pw_snoc.1 harc).2 t h1⟩
    · exact hc ⟨t, t, htau, .refl _⟩
theorem TInv.pass (h : TInv L g n X) {k t : Nat} (hp : X.path = p ++ [s]) (hs : 0 < X.ix s) (hk : X.pr s = k + 1) (ht : (g s)[k]? = some t) (hix : 0 < X.ix t) (ho : ¬ X.out t < 0) : TInv L g n { X with pr := upd X.pr s (k + 2) } :=
  h.arcs hp hs hk ht hix _ (fun i hi => rfl) (Nat.le_refl _) (fun h => absurd h ho) (.inl rfl) fun _ => rfl

theorem bad_succ {u : Nat} (h : Bad L u) : ∃ t, Tau L u t ∧ Bad L t := by
  obtain ⟨v, w, h1, h2, h3⟩ := h
  cases h1 with
  | refl => exact ⟨w, h2, u, w, h3, h2, h3⟩
  | step h4 h5 => exact ⟨_, h4, v, w, h5, h2, h3⟩

/-- The top's low is its index where nothing lies below it. -/
theorem TInv.alone (h : TInv L g n X) (hp : X.path = p ++ [s]) (hs : 0 < X.ix s) (hne : X.lo s ≠ X.ix s) : ∃ q u, p = q ++ [u] := by
  obtain ⟨z, z1, z2, z3⟩ := h.lov s (by rw [hp]; simp) hs
  obtain ⟨x, x1, x2, x3⟩ := h.cov z z1 z2
  have := h.low s hs
  rw [hp] at x1
  rcases mem_snoc.1 x1 with x1 | rfl
  · rcases List.eq_nil_or_concat p with e | ⟨q, u, e⟩
    · rw [e] at x1; cases x1
    · exact ⟨q, u, by rw [e]; simp⟩
  · omega

set_option maxHeartbeats 4000000 in
theorem TInv.merge (h : TInv L g n X) {q : List Nat} {u : Nat} (hp : X.path = (q ++ [u]) ++ [s]) (hs : 0 < X.ix s) (hk : X.pr s = (g s).length + 1) (hne : X.lo s ≠ X.ix s) :
    TInv L g n { X with path := q ++ [u], pr := upd X.pr s ((g s).length + 2), lo := upd X.lo u (min (X.lo u) (X.lo s)) } := by
  obtain ⟨pN, pn, srt, arc, opm, ops, ixn, ixc, cl, outn, low, pr0, prp, prd, vis, inv, cov, lov, clo, safe, acy⟩ := h
  rw [hp] at *
  obtain ⟨pN1, hns⟩ := nd_snoc.1 pN
  obtain ⟨srt1, srt2⟩ := pw_snoc.1 srt
  obtain ⟨srt3, srt4⟩ := pw_snoc.1 srt1
  obtain ⟨arc1, arc2⟩ := pw_snoc.1 arc
  have hup : ∀ i, i ≠ s → upd X.pr s ((g s).length + 2) i = X.pr i := fun i hi => upd_ne _ _ hi
  have hvp := upd_self X.pr s ((g s).length + 2)
  have hul : ∀ i, i ≠ u → upd X.lo u (min (X.lo u) (X.lo s)) i = X.lo i := fun i hi => upd_ne _ _ hi
  have hvl := upd_self X.lo u (min (X.lo u) (X.lo s))
  have hlo5 : ∀ i, upd X.lo u (min (X.lo u) (X.lo s)) i ≤ X.lo i := fun i => by
    by_cases e : i = u
    · rw [e, hvl]; omega
    · rw [hul i e]; exact Nat.le_refl _
  have hus := srt2 u (by simp)
  have hmax : ∀ x, x ∈ q ++ [u] → X.ix x ≤ X.ix u := fun x hx => by
    rcases mem_snoc.1 hx with hx | rfl
    · have := srt4 x hx; omega
    · exact Nat.le_refl _
  constructor <;> dsimp only
  case pN => exact pN1
  case srt =>
    refine pw_imp (fun a b ha hb h => ?_) srt1
    rw [hup a (fun e => hns (e ▸ ha))]; exact h
  case arc => exact arc1
  case ops => exact ops
  case acy =>
    intro hc; obtain ⟨a1, a2, a3⟩ := acy hc
    by_cases ho : X.out s < 0
    · exact absurd (a2 s hs ho) hne
    · exact absurd (cl s (by omega)).2 (by simp)
  case safe => exact safe
  case opm => exact opm
  case inv =>
    intro w k' v h1 h2 h3 h4 h5 x hx h6 h7
    have hold : k' + 1 < X.pr w := by
      by_cases e : w = s
      · subst e
        rw [hk]
        have := (List.getElem?_eq_some_iff.1 h2).1
        omega
      · rw [hup w e] at h1; exact h1
    obtain ⟨y, y1, y2, y3, y4⟩ := inv w k' v hold h2 h3 h4 h5 x (mem_snoc.2 (.inl hx)) h6 h7
    rcases mem_snoc.1 y1 with y1 | rfl
    · exact ⟨y, y1, y2, y3, Nat.le_trans (hlo5 y) y4⟩
    · exact ⟨u, by simp, hus.1, hmax x hx, by rw [hvl]; omega⟩
  case cov =>
    intro z h1 h2
    obtain ⟨x, x1, x2, x3⟩ := cov z h1 h2
    rcases mem_snoc.1 x1 with x1 | rfl
    · exact ⟨x, x1, x2, x3⟩
    · exact ⟨u, by simp, hus.1, by omega⟩
  case lov =>
    intro y h1 h2
    by_cases e : y = u
    · subst e
      by_cases e2 : X.lo y ≤ X.lo s
      · obtain ⟨z, z1, z2, z3⟩ := lov y (mem_snoc.2 (.inl h1)) h2
        exact ⟨z, z1, z2, by rw [hvl]; omega⟩
      · obtain ⟨z, z1, z2, z3⟩ := lov s (by simp) hs
        exact ⟨z, z1, z2, by rw [hvl]; omega⟩
    · rw [hul y e]; exact lov y (mem_snoc.2 (.inl h1)) h2
  case vis =>
    intro w k' v h1 h2
    have hold : k' + 1 < X.pr w := by
      by_cases e : w = s
      · subst e
        rw [hk]
        have := (List.getElem?_eq_some_iff.1 h2).1
        omega
      · rw [hup w e] at h1; exact h1
    rcases vis w k' v hold h2 with h | h
    · exact .inl h
    · rcases mem_snoc.1 h with h | rfl
      · exact .inr h
      · exact .inl hs
  all_goals clear acy safe ops arc srt pN inv opm arc1 arc2 srt1 vis cov lov hmax srt3
  all_goals grind

set_option maxHeartbeats 4000000 in
theorem TInv.close (h : TInv L g n X) (hE : ∀ s t, t ∈ g s ↔ Tau L s t) {q k : List Nat} {m : Nat} (hp : X.path = p ++ [s]) (hs : 0 < X.ix s) (hk : X.pr s = (g s).length + 1) (heq : X.lo s = X.ix s) (hop : X.op = q ++ s :: k) (hm : m ∈ s :: k) :
    TInv L g n { X with path := p, pr := upd X.pr s ((g s).length + 2), op := q, out := fun i => if i ∈ s :: k then (m : Int) else X.out i } := by
  obtain ⟨pN, pn, srt, arc, opm, ops, ixn, ixc, cl, outn, low, pr0, prp, prd, vis, inv, cov, lov, clo, safe, acy⟩ := h
  rw [hp] at *
  rw [hop] at ops
  obtain ⟨pN1, hns⟩ := nd_snoc.1 pN
  obtain ⟨srt1, srt2⟩ := pw_snoc.1 srt
  obtain ⟨arc1, arc2⟩ := pw_snoc.1 arc
  obtain ⟨ops1, ops2, ops3⟩ := List.pairwise_append.1 ops
  rw [List.pairwise_cons] at ops2
  have hKge : ∀ u, u ∈ s :: k → X.ix s ≤ X.ix u := fun u hu => by
    rcases List.mem_cons.1 hu with rfl | hu
    · exact Nat.le_refl _
    · exact Nat.le_of_lt (ops2.1 u hu)
  have hqlt : ∀ u, u ∈ q → X.ix u < X.ix s := fun u hu => ops3 u hu s (List.mem_cons_self ..)
  have hmemop : ∀ u, u ∈ X.op ↔ u ∈ q ∨ u ∈ s :: k := fun u => by rw [hop, List.mem_append]
  have hKop : ∀ u, u ∈ s :: k → 0 < X.ix u ∧ X.out u < 0 := fun u hu => (opm u).1 ((hmemop u).2 (.inr hu))
  have hopK : ∀ u, 0 < X.ix u → X.out u < 0 → X.ix s ≤ X.ix u → u ∈ s :: k := fun u h1 h2 h3 => by
    rcases (hmemop u).1 ((opm u).2 ⟨h1, h2⟩) with h | h
    · have := hqlt u h; omega
    · exact h
  have hup : ∀ i, i ≠ s → upd X.pr s ((g s).length + 2) i = X.pr i := fun i hi => upd_ne _ _ hi
  have hvp := upd_self X.pr s ((g s).length + 2)
  have hplt : ∀ y, y ∈ p → 0 < X.ix y ∧ X.ix y < X.ix s := fun y hy => by have := srt2 y hy; omega
  have hKp : ∀ u, u ∈ s :: k → u ∉ p := fun u hu hup => by have := hplt u hup; have := hKge u hu; omega
  have hKpr : ∀ u, u ∈ s :: k → (g u).length < X.pr u := fun u hu => by
    by_cases e : u = s
    · subst e; omega
    · have := prd u (hKop u hu).1 (fun h => by
        rcases mem_snoc.1 h with h | h
        · exact hKp u hu h
        · exact e h)
      omega
  have hsK : s ∈ s :: k := List.mem_cons_self ..
  have hso : X.out s < 0 := (hKop s hsK).2
  have hKs : ∀ u, u ∈ s :: k → ∀ v, v ∈ g u → v ∈ s :: k ∨ 0 ≤ X.out v := fun u hu v hv => by
    obtain ⟨j, hj⟩ := List.mem_iff_getElem?.1 hv
    have hjl := (List.getElem?_eq_some_iff.1 hj).1
    have hpr := hKpr u hu
    have hvix : 0 < X.ix v := by
      rcases vis u j v (by omega) hj with h | h
      · exact h
      · rcases mem_snoc.1 h with h | rfl
        · exact (hplt v h).1
        · exact hs
    by_cases ho : X.out v < 0
    · obtain ⟨y, y1, y2, y3, y4⟩ := inv u j v (by omega) hj (hKop u hu).2 hvix ho s (by simp) hs (hKge u hu)
      rcases mem_snoc.1 y1 with y1 | rfl
      · have := hplt y y1; omega
      · exact .inl (hopK v hvix ho (by omega))
    · exact .inr (by omega)
  have hmn : m < n := ixn m (hKop m hm).1
  have hoK : ∀ u, u ∈ s :: k → (if u ∈ s :: k then (m : Int) else X.out u) = m := fun u hu => if_pos hu
  have hoN : ∀ u, u ∉ s :: k → (if u ∈ s :: k then (m : Int) else X.out u) = X.out u := fun u hu => if_neg hu
  have hcK : ∀ u, 0 ≤ X.out u → u ∉ s :: k := fun u h1 h2 => by have := (hKop u h2).2; omega
  constructor <;> dsimp only
  case pN => exact pN1
  case srt =>
    refine pw_imp (fun a b ha hb h => ?_) srt1
    rw [hup a (fun e => hns (e ▸ ha))]; exact h
  case arc => exact arc1
  case ops => exact ops1
  case acy =>
    intro hc; obtain ⟨a1, a2, a3⟩ := acy hc
    have hKss : ∀ u, u ∈ s :: k → u = s := fun u hu => by
      rcases mem_snoc.1 (a1 u ((hmemop u).2 (.inr hu))) with h | h
      · exact absurd h (hKp u hu)
      · exact h
    refine ⟨fun z hz => ?_, fun z h1 h2 => ?_, fun z hz => ?_⟩
    · rcases mem_snoc.1 (a1 z ((hmemop z).2 (.inl hz))) with h | h
      · exact h
      · have := hqlt z hz; rw [h] at this; omega
    · by_cases e : z ∈ s :: k
      · rw [hoK z e] at h2; omega
      · rw [hoN z e] at h2; exact a2 z h1 h2
    · by_cases e : z ∈ s :: k
      · rw [hoK z e, hKss m hm, hKss z e]
      · rw [hoN z e] at hz ⊢; exact a3 z hz
  case safe =>
    by_cases hin : ∃ a b, a ∈ s :: k ∧ b ∈ s :: k ∧ b ∈ g a
    · obtain ⟨a, b, ha, hb, hab⟩ := hin
      exact .inl ⟨a, b, hab, by rw [hoK a ha, hoK b hb], by rw [hoK a ha]; omega⟩
    · rcases safe with ⟨a, b, hab, he, h0⟩ | hsafe
      · exact .inl ⟨a, b, hab, by rw [hoN a (hcK a h0), hoN b (hcK b (he ▸ h0))]; exact he, by rw [hoN a (hcK a h0)]; exact h0⟩
      · refine .inr fun u hu hb => ?_
        by_cases e : u ∈ s :: k
        · obtain ⟨t, ht, hbt⟩ := bad_succ hb
          have htg := (hE u t).2 ht
          rcases hKs u e t htg with h | h
          · exact hin ⟨u, t, e, h, htg⟩
          · exact hsafe t h hbt
        · rw [hoN u e] at hu; exact hsafe u hu hb
  case opm =>
    intro u
    by_cases e : u ∈ s :: k
    · rw [hoK u e]
      constructor
      · intro h; have := hqlt u h; have := hKge u e; omega
      · rintro ⟨_, h⟩; omega
    · rw [hoN u e, ← opm u, hmemop u]
      constructor
      · exact .inl
      · rintro (h | h)
        · exact h
        · exact absurd h e
  case inv =>
    intro w k' v h1 h2 h3 h4 h5 x hx h6 h7
    have ew : w ∉ s :: k := fun e => by rw [hoK w e] at h3; omega
    have ev : v ∉ s :: k := fun e => by rw [hoK v e] at h5; omega
    rw [hoN w ew] at h3
    rw [hoN v ev] at h5
    have ews : w ≠ s := fun e => ew (e ▸ hsK)
    rw [hup w ews] at h1
    obtain ⟨y, y1, y2, y3, y4⟩ := inv w k' v h1 h2 h3 h4 h5 x (mem_snoc.2 (.inl hx)) h6 h7
    rcases mem_snoc.1 y1 with y1 | rfl
    · exact ⟨y, y1, y2, y3, y4⟩
    · exact absurd (hopK v h4 h5 (by omega)) ev
  case cov =>
    intro z h1 h2
    have ez : z ∉ s :: k := fun e => by rw [hoK z e] at h2; omega
    rw [hoN z ez] at h2
    obtain ⟨x, x1, x2, x3⟩ := cov z h1 h2
    rcases mem_snoc.1 x1 with x1 | rfl
    · exact ⟨x, x1, x2, x3⟩
    · exact absurd (hopK z h1 h2 x3) ez
  case lov =>
    intro y h1 h2
    obtain ⟨z, z1, z2, z3⟩ := lov y (mem_snoc.2 (.inl h1)) h2
    have := low y h2
    have := hplt y h1
    have ez : z ∉ s :: k := fun e => by have := hKge z e; omega
    exact ⟨z, z1, by rw [hoN z ez]; exact z2, z3⟩
  case vis =>
    intro w k' v h1 h2
    have hold : k' + 1 < X.pr w := by
      by_cases e : w = s
      · subst e
        rw [hk]
        have := (List.getElem?_eq_some_iff.1 h2).1
        omega
      · rw [hup w e] at h1; exact h1
    rcases vis w k' v hold h2 with h | h
    · exact .inl h
    · rcases mem_snoc.1 h with h | rfl
      · exact .inr h
      · exact .inl hs
  case clo =>
    intro u hu v hv
    by_cases ev : v ∈ s :: k
    · rw [hoK v ev]; omega
    · rw [hoN v ev]
      by_cases eu : u ∈ s :: k
      · exact (hKs u eu v hv).resolve_left ev
      · rw [hoN u eu] at hu; exact clo u hu v hv
  case cl =>
    intro u hu
    by_cases eu : u ∈ s :: k
    · exact ⟨(hKop u eu).1, hKp u eu⟩
    · rw [hoN u eu] at hu
      obtain ⟨c1, c2⟩ := cl u hu
      exact ⟨c1, fun h => c2 (mem_snoc.2 (.inl h))⟩
  case outn =>
    intro u
    by_cases eu : u ∈ s :: k
    · rw [hoK u eu]; omega
    · rw [hoN u eu]; exact outn u
  case pn => exact fun u hu => pn u (mem_snoc.2 (.inl hu))
  case ixn => exact ixn
  case ixc => exact ixc
  case low => exact low
  case pr0 =>
    intro u hu
    have e : u ≠ s := fun e => by rw [e] at hu; omega
    rw [hup u e]; exact pr0 u hu
  case prp =>
    intro u hu h1
    have e : u ≠ s := fun e => hns (e ▸ hu)
    rw [hup u e]; exact prp u (mem_snoc.2 (.inl hu)) h1
  case prd =>
    intro u hu h1
    by_cases e : u = s
    · rw [e, hvp]
    · rw [hup u e]; exact prd u hu fun h => by
        rcases mem_snoc.1 h with h | h
        · exact h1 h
        · exact e h

/-- What stands when all are closed. -/
theorem TInv.done (h : TInv L g n X) (hE : ∀ s t, t ∈ g s ↔ Tau L s t) (hp : X.path = []) (hall : ∀ s, s < n → 0 < X.ix s) (hg : ∀ s t, t ∈ g s → s < n ∧ t < n) : (∀ s, s < n → 0 ≤ X.out s) ∧ ((∃ s t, t ∈ g s ∧ X.out s = X.out t) ↔ Cyc L) := by
  have hcl : ∀ s, s < n → 0 ≤ X.out s := fun s hs => by
    by_cases ho : X.out s < 0
    · obtain ⟨x, x1, -⟩ := h.cov s (hall s hs) ho
      rw [hp] at x1; cases x1
    · omega
  refine ⟨hcl, ⟨fun ⟨s, t, h1, h2⟩ => ?_, fun ⟨v, w, h1, h2⟩ => ?_⟩⟩
  · by_cases hc : Cyc L
    · exact hc
    · exfalso
      obtain ⟨-, -, a3⟩ := h.acy hc
      obtain ⟨hs, ht⟩ := hg s t h1
      rw [a3 s (hcl s hs), a3 t (hcl t ht)] at h2
      have : s = t := by omega
      subst this
      exact hc ⟨s, s, (hE s s).1 h1, .refl _⟩
  · rcases h.safe with ⟨s, t, h3, h4, -⟩ | h3
    · exact ⟨s, t, h3, h4⟩
    · exact absurd ⟨v, w, .refl _, h1, h2⟩ (h3 v (hcl v (hg v w ((hE v w).2 h1)).1))
end

/-- Sums, for what is left to do. -/
def sumTo (f : Nat → Nat) : Nat → Nat
  | 0 => 0
  | k + 1 => sumTo f k + f k
theorem sumTo_le {f f' : Nat → Nat} : ∀ {n : Nat}, (∀ i, i < n → f' i ≤ f i) → sumTo f' n ≤ sumTo f n
  | 0, _ => Nat.le_refl _
  | k + 1, h => Nat.add_le_add (sumTo_le fun i hi => h i (by omega)) (h k (by omega))
theorem sumTo_lt {f f' : Nat → Nat} {s : Nat} : ∀ {n : Nat}, s < n → (∀ i, i < n → f' i ≤ f i) → f' s < f s → sumTo f' n < sumTo f n
  | 0, h, _, _ => absurd h (Nat.not_lt_zero _)
  | k + 1, h, h1, h2 => by
    by_cases e : s = k
    · subst e
      exact Nat.add_lt_add_of_le_of_lt (sumTo_le fun i hi => h1 i (by omega)) h2
    · exact Nat.add_lt_add_of_lt_of_le (sumTo_lt (by omega) (fun i hi => h1 i (by omega)) h2) (h1 k (by omega))
/-- What is left to do. -/
def left (g : Nat → List Nat) (n : Nat) (pr : Nat → Nat) : Nat := sumTo (fun i => (g i).length + 2 - pr i) n
theorem left_lt {g : Nat → List Nat} {n s x : Nat} {pr pr' : Nat → Nat} (hs : s < n) (hx : pr s < x) (hx2 : x ≤ (g s).length + 2) (h1 : x ≤ pr' s) (h2 : ∀ i, pr i ≤ pr' i) : left g n pr' < left g n pr :=
  sumTo_lt hs (fun i _ => by have := h2 i; omega) (by have := h2 s; omega)
end Go.Proofs.Ytbknckiapcafdaa.Nest

/- Min of a list (67); a component is closed (56). -/
set_option linter.unusedSimpArgs false
set_option linter.unusedVariables false
namespace Go.Proofs.Ytbknckiapcafdaa.Nest
open Abs Abs2

theorem min_ii {P : Program} {x y : Int} : aMinMax Builtin.min2 P [.int .i64 x, .int .i64 y] = some (.int .i64 (if y < x then y else x)) := rfl

/-- Natural numbers as integers. -/
def ints : List Nat → List Int := List.map fun u => (u : Int)
theorem ints_len (l : List Nat) : (ints l).length = l.length := List.length_map ..
theorem ints_at {l : List Nat} {i u : Nat} (h : l[i]? = some u) : (ints l)[i]? = some (u : Int) := by unfold ints; rw [List.getElem?_map, h]; rfl
theorem ints_drop (l : List Nat) (i : Nat) : (ints l).drop i = ints (l.drop i) := (List.map_drop ..).symm
theorem ints_take (l : List Nat) (i : Nat) : (ints l).take i = ints (l.take i) := (List.map_take ..).symm
theorem ints_mem {l : List Nat} {x : Int} (h : x ∈ ints l) : ∃ m, m ∈ l ∧ x = (m : Int) := by obtain ⟨m, h1, h2⟩ := List.mem_map.1 h; exact ⟨m, h1, h2.symm⟩
theorem ints_snoc (l : List Nat) (s : Nat) : ints (l ++ [s]) = ints l ++ [(s : Int)] := List.map_append ..

/-- A list of integers as a table. -/
def tab (n : Nat) (f : Nat → Int) : List Int := (List.range n).map f
theorem tab_len (n : Nat) (f : Nat → Int) : (tab n f).length = n := by simp [tab]
theorem tab_at {n i : Nat} {f : Nat → Int} (h : i < n) : (tab n f)[i]? = some (f i) := by simp [tab, h]
theorem tab_set {n i : Nat} {f : Nat → Int} {x : Int} : (tab n f).set i x = tab n (upd f i x) := by
  apply List.ext_getElem?
  intro j
  by_cases hj : j < n
  · rw [tab_at hj]
    by_cases e : i = j
    · subst e
      rw [List.getElem?_set_self (by rw [tab_len]; exact hj), upd_self]
    · rw [List.getElem?_set_ne e, tab_at hj, upd_ne _ _ (fun h => e h.symm)]
  · rw [List.getElem?_eq_none (by rw [List.length_set, tab_len]; omega), List.getElem?_eq_none (by rw [tab_len]; omega)]

theorem OL.tail {lo : Nat} {σ : AS} {v : Value} {l : List Int} (h : OL lo σ v l) {p : Nat} (hp : p < l.length) :
    ∃ b c, Own v b ∧ ∀ τ : AS, σ.next ≤ τ.next → τ.get b = σ.get b → aSlice Try.prog τ 33 v (some (.int .i64 (p : Int))) none none = some (.slice (some ⟨b, p, none⟩) (l.drop p).length c) ∧ RS 1 RInt τ (.slice (some ⟨b, p, none⟩) (l.drop p).length c) (l.drop p) := by
  obtain ⟨c1, c2, ⟨h3, h0⟩ | ⟨b, n, vals, rfl, h4, h5, h6, h7, h8, h9⟩⟩ := h
  · omega
  have hrs : ∀ c, ∀ τ : AS, σ.next ≤ τ.next → τ.get b = σ.get b → RS 1 RInt τ (.slice (some ⟨b, p, none⟩) (l.drop p).length c) (l.drop p) := fun c τ hn hg => by
    refine ⟨_, _, rfl, fun _ => ⟨b, p, rfl, by omega, fun i x hx => ?_⟩⟩
    rw [List.getElem?_drop] at hx
    have hv : vals[p + i]? = some (vInt x) := by
      have h10 : (l.map vInt)[p + i]? = some (vInt x) := by rw [List.getElem?_map, hx]; rfl
      rw [← h9, List.getElem?_take] at h10
      split at h10
      · exact h10
      · cases h10
    obtain ⟨g1, g2⟩ := List.getElem?_eq_some_iff.1 hv
    refine ⟨[vInt x], ?_, rfl⟩
    unfold aCells
    simp only [hg.trans h7, hasLen_eq, Nat.mul_one]
    rw [ble_t (show p + i + 1 ≤ vals.length by omega), List.drop_eq_getElem_cons g1, g2]
    rfl
  by_cases h0 : p = 0
  · subst h0
    refine ⟨b, OPENCAP + n, ⟨_, _, rfl⟩, fun τ hn hg => ⟨open_slice el3 (hg.trans h7) ?_, hrs _ τ hn hg⟩⟩
    unfold aSliceAt
    simp only [aboundO, open_lb, abound_le 0 _ (Nat.zero_le _), open_cap, if_true, Nat.beq_refl, List.drop_zero]
  · refine ⟨b, OPENCAP + (n - p), ⟨_, _, rfl⟩, fun τ hn hg => ⟨open_slice el3 (hg.trans h7) ?_, hrs _ τ hn hg⟩⟩
    have d0 : Nat.beq p 0 = false := beq_f h0
    unfold aSliceAt
    simp only [aboundO, open_lb, abound_le p l.length (by omega), open_cap, if_true, d0, Bool.false_eq_true, if_false]
    rw [if_pos (by rw [Nat.blt_eq]; omega)]
    simp only [Option.map_some, Addr.add, Nat.zero_add, Nat.mul_one, List.length_drop]
    rw [if_neg h0]

theorem OL.cut {lo : Nat} {σ : AS} {v : Value} {l : List Int} (h : OL lo σ v l) {j : Nat} (hj : j ≤ l.length) : ∃ x, aSlice Try.prog σ 33 v none (some (.int .i64 (j : Int))) none = some x ∧ OL lo σ x (l.take j) ∧ ∀ i, Own x i → Own v i := by
  obtain ⟨x, h1, h2, h3, -⟩ := Stk.cut el3 h hj
  refine ⟨x, h1, ?_, h3⟩
  unfold OL
  rw [List.length_take, Nat.min_eq_left hj, List.map_take]
  rw [Nat.mul_one] at h2
  exact h2

set_option maxHeartbeats 8000000 in
theorem min_c {σ : AS} {v : Value} {l : List Int} (h : RS 1 RInt σ v l) (h0 : l ≠ []) (hl : l.length ≤ 1000000) : C Try.prog Kn 0 67 [v] σ fun v' σ' => ∃ x, x ∈ l ∧ v' = .int .i64 x ∧ Ext σ σ' := by
  obtain ⟨va, vc, rfl, -⟩ := id h
  have hpos := List.length_pos_iff.2 h0
  have d0 : decide ((l.length : Int) < 1) = false := decide_eq_false (by omega)
  obtain ⟨x0, hx0⟩ : ∃ x, l[0]? = some x := ⟨l[0], by simp [hpos]⟩
  obtain ⟨-, b, off, rfl, hb, hc0⟩ := intOf h hx0
  have ld : ∀ (i : Nat) (x : Int), l[i]? = some x → aLoad Try.prog σ 3 (.pointer (some ⟨b, off + i * 1, none⟩)) = some (.int .i64 x) := fun i x hx => by
    obtain ⟨-, b2, off2, e, -, hc⟩ := intOf h hx
    cases e
    exact load1 Try.underlying3 rfl hc
  have i0 : aIndexAddr Try.prog 33 (.slice (some ⟨b, off, none⟩) l.length vc) (.int .i64 0) = some (.pointer (some ⟨b, off + 0 * 1, none⟩)) := idx33 (b := b) (off := off) (cap := vc) (i := 0) hpos
  refine C_of (kn (by decide)) Try.func67 rfl (Nat.le_of_ble_eq_true rfl) ?_
  show W _ _ _ 25 _ _ _ _
  unfold Try.f67
  dsimp only
  repeat apply W_assoc
  apply W_reg
  · intro callf
    simp +decide only [aOps, rinit, aWanted, ↓bite_eq, ↓reduceIte, aStep_eq, aStepOld, aOp, aev, ann, aPut]
    rfl
  repeat apply W_assoc
  apply W_reg
  · intro callf
    simp +decide only [aOps, aWanted, ↓bite_eq, ↓reduceIte, aStep_eq, aStepOld, aOp, opBin, opCall, aev, aevs, ann, aPut, rget_rput, aBuiltin, aLen, List.getElem?_toArray, List.getElem?_cons_zero, Try.underlying33, goInt, d0, aBin, aInts, aInt_eq]
    rfl
  repeat apply W_assoc
  refine W_if (b := false) ?_ ?_ ?_
  · simp +decide only [aev, rget_rput, if_true, if_false]
  · intro h; cases h
  intro _
  apply W_skipq
  repeat apply W_assoc
  apply W_reg
  · intro callf
    simp +decide only [aOps, aWanted, ↓bite_eq, ↓reduceIte, aStep_eq, aStepOld, aOp, opIndexAddr, opLoad, aev, ann, aPut, rget_rput, i0, ld 0 x0 hx0]
    rfl
  repeat apply W_assoc
  apply W_reg
  · intro callf
    simp +decide only [aOps, aWanted, ↓bite_eq, ↓reduceIte, aStep_eq, aStepOld, aOp, aev, ann, aPut]
    rfl
  repeat apply W_assoc
  refine W_for (fun (i : Nat) r s => i ≤ l.length ∧ s = σ ∧ rget r 0 = .slice (some ⟨b, off, none⟩) l.length vc ∧ rget r 4 = .int .i64 (i : Int) ∧ ∃ x, x ∈ l ∧ rget r 3 = .int .i64 x)
    (fun i => l.length - i) ?_ 1 ?_
  rotate_left
  · refine ⟨hpos, rfl, ?_, ?_, x0, List.mem_of_getElem? hx0, ?_⟩ <;> simp +decide only [rget_rput, if_true, if_false] <;> first | exact True.intro | rfl
  rintro i r s ⟨hi, rfl, h0', h4, x, hx, h3⟩
  by_cases hlt : i < l.length
  rotate_left
  · have d1 : decide ((i : Int) < (l.length : Int)) = false := decide_eq_false (by omega)
    repeat apply W_assoc
    apply W_reg
    · intro callf
      simp +decide only [aOps, aWanted, ↓bite_eq, ↓reduceIte, aStep_eq, aStepOld, aOp, opBin, opCall, aev, aevs, ann, aPut, rget_rput, aBuiltin, aLen, List.getElem?_toArray, List.getElem?_cons_zero, h0', h4, d1, Try.underlying33, goInt, aBin, aInts, aInt_eq]
      rfl
    repeat apply W_assoc
    refine W_if (b := false) ?_ ?_ ?_
    · simp +decide only [aev, rget_rput, if_true, if_false]
    · intro h; cases h
    intro _
    refine W_exitq ⟨fun h => (nomatch h), fun _ => ?_, fun h1 h2 => absurd rfl h2⟩
    repeat apply W_assoc
    apply W_reg
    · intro callf
      simp +decide only [aOps, aWanted, ↓bite_eq, ↓reduceIte, aStep_eq, aStepOld, aOp, aev, ann, aPut, rget_rput, h3]
      rfl
    refine W_ret ⟨Nat.le_refl _, [.int .i64 x], ?_, x, hx, rfl, Ext.refl _⟩
    simp +decide only [aResults, rget_rput, if_true, if_false]
  have d1 : decide ((i : Int) < (l.length : Int)) = true := decide_eq_true (by omega)
  repeat apply W_assoc
  apply W_reg
  · intro callf
    simp +decide only [aOps, aWanted, ↓bite_eq, ↓reduceIte, aStep_eq, aStepOld, aOp, opBin, opCall, aev, aevs, ann, aPut, rget_rput, aBuiltin, aLen, List.getElem?_toArray, List.getElem?_cons_zero, h0', h4, d1, Try.underlying33, goInt, aBin, aInts, aInt_eq]
    rfl
  repeat apply W_assoc
  refine W_if (b := true) ?_ ?_ ?_
  · simp +decide only [aev, rget_rput, if_true, if_false]
  rotate_left
  · intro h; cases h
  intro _
  apply W_skipq
  obtain ⟨y, hy⟩ : ∃ y, l[i]? = some y := ⟨l[i], by simp [hlt]⟩
  have w1 : IntKind.i64.wrap ((i : Int) + 1) = ((i + 1 : Nat) : Int) := by rw [wrap64_id _ (by omega) (by omega)]; omega
  refine W_blk ?_
  refine W_tail ?_
  repeat apply W_assoc
  apply W_reg
  · intro callf
    simp +decide only [aOps, aWanted, ↓bite_eq, ↓reduceIte, aStep_eq, aStepOld, aOp, opCall, opIndexAddr, opLoad, aev, aevs, ann, aPut, rget_rput, aBuiltin, h0', h3, h4, idx33 hlt, ld i y hy, min_ii]
    rfl
  refine W_skip ⟨fun _ => ?_, fun h => absurd rfl h⟩
  refine W_tail ?_
  repeat apply W_assoc
  apply W_reg
  · intro callf
    simp +decide only [aOps, aWanted, ↓bite_eq, ↓reduceIte, aStep_eq, aStepOld, aOp, opBin, aev, ann, aPut, rget_rput, h4, w1, aBin, aInts, aInt_eq]
    rfl
  refine W_skip ⟨fun _ => ⟨i + 1, ?_, ?_⟩, fun h => (nomatch h), fun h => absurd rfl h⟩
  · show l.length - (i + 1) < l.length - i
    omega
  · refine ⟨hlt, rfl, ?_, ?_, if y < x then y else x, ?_, ?_⟩
    rotate_left 2
    · split
      · exact List.mem_of_getElem? hy
      · exact hx
    all_goals simp +decide only [rget_rput, if_true, if_false, h0']

set_option maxHeartbeats 16000000 in
theorem close_c {lo n : Nat} {σ : AS} {ov outv : Value} {q k : List Nat} {s : Nat} {f : Nat → Int} (hop : OL lo σ ov (ints (q ++ s :: k))) (hout : IL lo σ outv (tab n f)) (hlo : lo ≤ σ.next)
    (hnd : s ∉ k) (hl : (q ++ s :: k).length ≤ 1000000) (hn : ∀ u, u ∈ q ++ s :: k → u < n) :
    C Try.prog Kn 0 56 [ov, .int .i64 (s : Int), outv] σ fun v σ' => ∃ m, m ∈ s :: k ∧ OL lo σ' v (ints q) ∧ IL lo σ' outv (tab n fun i => if i ∈ s :: k then (m : Int) else f i) ∧
      σ.next ≤ σ'.next ∧ (∀ i, i < σ.next → ¬ Own outv i → σ'.get i = σ.get i) ∧ (∀ q, q ≤ lo → q ≤ σ.low → q ≤ σ'.low) ∧ ∀ i, Own v i → Own ov i := by
  have hlq : (q ++ s :: k).length = q.length + k.length + 1 := by simp; omega
  have hlen : (ints (q ++ s :: k)).length = q.length + k.length + 1 := by rw [ints_len, hlq]
  have hne : ints (q ++ s :: k) ≠ [] := fun e => by rw [e] at hlen; simp at hlen
  have hl2 : q.length + k.length + 1 ≤ 1000000 := by omega
  obtain ⟨b, c, hov, hb1, hb2, hb3, hb4, hix, hld, -⟩ := hop.at hne
  have hsk : ∀ i u, q.length < i → (q ++ s :: k)[i]? = some u → u ≠ s := fun (i u : Nat) hi h e => by
    rw [List.getElem?_append_right (by omega), show i - q.length = (i - q.length - 1) + 1 by omega, List.getElem?_cons_succ] at h
    exact hnd (e ▸ List.mem_of_getElem? h)
  have hs0 : (q ++ s :: k)[q.length]? = some s := by simp
  have hdrop : (q ++ s :: k).drop q.length = s :: k := by simp
  obtain ⟨tb, tc, hto, htl⟩ := hop.tail (p := q.length) (by rw [hlen]; omega)
  have hdm : (ints (q ++ s :: k)).drop q.length = ints (s :: k) := by rw [ints_drop, hdrop]
  have htm : (ints (q ++ s :: k)).take q.length = ints q := by rw [ints_take]; simp
  have hkl : (ints (s :: k)).length = k.length + 1 := by rw [ints_len]; rfl
  rw [hdm, hkl] at htl
  have w0 : IntKind.i64.wrap (((ints (q ++ s :: k)).length : Int) - 1) = ((q.length + k.length : Nat) : Int) := by rw [hlen, wrap64_id _ (by omega) (by omega)]; omega
  obtain ⟨ob, hobv, hob1, hob2, hobg, -⟩ := hout.at
  have htb : tb ≠ ob := fun e => by
    have := (hop.own hto).2.2.1
    rw [e, hobg] at this
    cases this
  refine C_of (kn (by decide)) Try.func56 rfl (Nat.le_of_ble_eq_true rfl) ?_
  show W _ _ _ 42 _ _ _ _
  unfold Try.f56
  dsimp only
  repeat apply W_assoc
  apply W_reg
  · intro callf
    simp +decide only [aOps, rinit, aWanted, ↓bite_eq, ↓reduceIte, aStep_eq, aStepOld, aOp, aev, ann, aPut, Nat.zero_add]
    rfl
  repeat apply W_assoc
  apply W_reg
  · intro callf
    simp +decide only [aOps, aWanted, ↓bite_eq, ↓reduceIte, aStep_eq, aStepOld, aOp, opBin, opCall, aev, aevs, ann, aPut, rget_rput, aBuiltin, aLen, List.getElem?_toArray, List.getElem?_cons_zero, hov, Try.underlying33, goInt, w0, aBin, aInts, aInt_eq]
    rfl
  repeat apply W_assoc
  refine W_forM (fun (i : Nat) r s0 => q.length ≤ i ∧ i ≤ q.length + k.length ∧ s0 = σ ∧ rget r 0 = ov ∧ rget r 1 = .int .i64 (s : Int) ∧ rget r 2 = outv ∧ rget r 7 = .int .i64 (i : Int))
    (fun i => i) (fun r s0 => s0 = σ ∧ rget r 0 = ov ∧ rget r 2 = outv ∧ rget r 7 = .int .i64 (q.length : Int)) ?_ ?_ (q.length + k.length) ?_
  rotate_left 2
  · refine ⟨Nat.le_add_right _ _, Nat.le_refl _, rfl, ?_, ?_, ?_, ?_⟩ <;> simp +decide only [rget_rput, if_true, if_false, hov] <;> first | exact True.intro | rfl
  rotate_left
  · rintro r s0 ⟨rfl, h0, h2, h7⟩
    repeat apply W_assoc
    apply W_regL
    apply Ls_pre 3
    · intro callf
      simp +decide only [List.take, aOps, aWanted, ↓bite_eq, ↓reduceIte, aStep_eq, aStepOld, aOp, opSlice, aev, ann, aPut, rget_rput, h0, h7, aopt, (htl s0 (Nat.le_refl _) rfl).1]
      rfl
    dsimp only [List.drop]
    refine Ls_fn (vs := [.slice (some ⟨tb, q.length, none⟩) (k.length + 1) tc]) (by simp +decide only [aevs, aev, rget_rput, if_true, if_false]) (by decide) (C.mono (min_c (htl s0 (Nat.le_refl _) rfl).2 (by intro e; rw [e] at hkl; simp at hkl) (by rw [hkl]; omega)) ?_)
    rintro v σ' ⟨x, hx, rfl, e1⟩
    obtain ⟨m, hm, rfl⟩ := ints_mem hx
    apply Ls_all
    · intro callf
      simp +decide only [aOps, aWanted, ↓bite_eq, ↓reduceIte, aStep_eq, aStepOld, aOp, aev, ann, aPut, rget_rput]
      rfl
    have hout := hout.ext e1
    have hop1 := hop.ext e1
    have htl1 : ∀ τ : AS, σ'.next ≤ τ.next → τ.get tb = σ'.get tb → _ := fun τ h1 h2 => htl τ (Nat.le_trans e1.nxt h1) (h2.trans (e1.get tb (hop.own hto).2.1))
    have hobg := (e1.get ob hob2).trans hobg
    have hn1 := e1.nxt
    have hg1 : ∀ i, i < s0.next → ¬ Own outv i → σ'.get i = s0.get i := fun i hi _ => e1.get i hi
    have hlw1 : ∀ q, q ≤ lo → q ≤ s0.low → q ≤ σ'.low := fun q h1 h2 => e1.low q h2 (by omega)
    clear htl
    generalize σ' = σ2 at hout hop1 htl1 hn1 hg1 hlw1 hobg
    repeat apply W_assoc
    apply W_reg
    · intro callf
      simp +decide only [aOps, aWanted, ↓bite_eq, ↓reduceIte, aStep_eq, aStepOld, aOp, opCall, opSlice, aev, aevs, ann, aPut, rget_rput, aBuiltin, aLen, List.getElem?_toArray, List.getElem?_cons_zero, h0, h7, aopt, (htl1 σ2 (Nat.le_refl _) rfl).1, Try.underlying33, goInt]
      rfl
    repeat apply W_assoc
    refine W_forM (fun (i : Nat) r s0 => i ≤ k.length + 1 ∧ (∃ f' : Nat → Int, s0.get ob = ⟨1, 3, 0, (tab n f').map vInt, []⟩ ∧ (∀ u, f' u = if u ∈ (s :: k).take i then (m : Int) else f u) ∧ s0.next = σ2.next ∧ (∀ i, i ≠ ob → s0.get i = σ2.get i) ∧ (∀ q, q ≤ lo → q ≤ σ2.low → q ≤ s0.low)) ∧ rget r 0 = ov ∧ rget r 2 = outv ∧ rget r 7 = .int .i64 (q.length : Int) ∧ rget r 8 = .int .i64 (m : Int) ∧ rget r 28 = .slice (some ⟨tb, q.length, none⟩) (k.length + 1) tc ∧ rget r 29 = .int .i64 ((k.length + 1 : Nat) : Int) ∧ rget r 30 = .int .i64 (i : Int))
      (fun i => k.length + 1 - i) (fun r s0 => s0.get ob = ⟨1, 3, 0, (tab n fun i => if i ∈ s :: k then (m : Int) else f i).map vInt, []⟩ ∧ s0.next = σ2.next ∧ (∀ i, i ≠ ob → s0.get i = σ2.get i) ∧ (∀ q, q ≤ lo → q ≤ σ2.low → q ≤ s0.low) ∧ rget r 0 = ov ∧ rget r 7 = .int .i64 (q.length : Int)) ?_ ?_ 0 ?_
    rotate_left 2
    · refine ⟨Nat.zero_le _, ⟨f, hobg, fun u => by simp, rfl, fun _ _ => rfl, fun _ _ h => h⟩, ?_, ?_, ?_, ?_, ?_, ?_, ?_⟩ <;> simp +decide only [rget_rput, if_true, if_false, h0, h2, h7] <;> first | exact True.intro | rfl
    rotate_left
    · rintro r σ3 ⟨hg3, hn3, hs3, hl3, h0, h7⟩
      have hop3 : OL lo σ3 ov (ints (q ++ s :: k)) := hop1.keep (by omega) fun i ho _ => hs3 i (fun e => by
        have := (hop1.own ho).2.2.1
        rw [e, hobg] at this
        cases this)
      obtain ⟨cv3, hcv3, hcO3, hcw3⟩ := hop3.cut (j := q.length) (by rw [hlen]; omega)
      rw [htm] at hcO3
      repeat apply W_assoc
      apply W_reg
      · intro callf
        simp +decide only [aOps, aWanted, ↓bite_eq, ↓reduceIte, aStep_eq, aStepOld, aOp, opSlice, aev, ann, aPut, rget_rput, h0, h7, aopt, hcv3]
        rfl
      refine W_ret ⟨Nat.le_refl _, [cv3], ?_, m, hm, hcO3, ⟨ob, by rw [hobv, tab_len, tab_len], hob1, by omega, hg3⟩, by omega, fun i hi ho => ?_, fun q h1 h2 => hl3 q h1 (hlw1 q h1 h2), hcw3⟩
      · simp +decide only [aResults, rget_rput, if_true, if_false]
      · rw [hs3 i (fun e => ho (by rw [e, hobv]; exact ⟨_, _, rfl⟩))]
        exact hg1 i hi ho
    rintro i r σ3 ⟨hi, ⟨f', hg3, hf', hn3, hs3, hl3⟩, h0, h2, h7, h8, h28, h29, h30⟩
    by_cases hlt : i < k.length + 1
    rotate_left
    · have d1 : decide ((i : Int) < ((k.length + 1 : Nat) : Int)) = false := decide_eq_false (by omega)
      repeat apply W_assoc
      apply W_reg
      · intro callf
        simp +decide only [aOps, aWanted, ↓bite_eq, ↓reduceIte, aStep_eq, aStepOld, aOp, opBin, aev, ann, aPut, h29, h30, d1, aBin, aInts, aInt_eq]
        rfl
      repeat apply W_assoc
      refine W_if (b := false) ?_ ?_ ?_
      · simp +decide only [aev, rget_rput, if_true]
      · intro h; cases h
      intro _
      have hfe : f' = fun u => if u ∈ s :: k then (m : Int) else f u := by
        funext u
        rw [hf' u, List.take_of_length_le (by simp; omega)]
      refine W_exitq ⟨fun h => (nomatch h), fun _ => ⟨by rw [hg3, hfe], hn3, hs3, hl3, ?_, ?_⟩, fun h1 h2 => absurd rfl h2⟩ <;> simp +decide only [rget_rput, if_false, h0, h7]
    have d1 : decide ((i : Int) < ((k.length + 1 : Nat) : Int)) = true := decide_eq_true (by omega)
    repeat apply W_assoc
    apply W_reg
    · intro callf
      simp +decide only [aOps, aWanted, ↓bite_eq, ↓reduceIte, aStep_eq, aStepOld, aOp, opBin, aev, ann, aPut, h29, h30, d1, aBin, aInts, aInt_eq]
      rfl
    repeat apply W_assoc
    refine W_if (b := true) ?_ ?_ ?_
    · simp +decide only [aev, rget_rput, if_true]
    rotate_left
    · intro h; cases h
    intro _
    apply W_skipq
    obtain ⟨u, hu⟩ : ∃ u, (s :: k)[i]? = some u := ⟨(s :: k)[i]'(by simpa using hlt), by simp []⟩
    have hun : u < n := hn u (List.mem_append.2 (.inr (List.mem_of_getElem? hu)))
    have htl3 := (htl1 σ3 (by omega) (hs3 tb htb)).2
    rw [← hkl] at htl3
    obtain ⟨-, b2, off2, e2, -, hc2⟩ := intOf htl3 (ints_at hu)
    cases e2
    have ldu := load1 (P := Try.prog) Try.underlying3 rfl hc2
    have w1 : IntKind.i64.wrap ((i : Int) + 1) = ((i + 1 : Nat) : Int) := by rw [wrap64_id _ (by omega) (by omega)]; omega
    have hI3 : IL lo σ3 outv (tab n f') := ⟨ob, by rw [hobv, tab_len, tab_len], hob1, by omega, hg3⟩
    obtain ⟨ob', e3, -, -, -, hoix, -, host⟩ := hI3.at
    obtain rfl : ob = ob' := by rw [hobv, tab_len, tab_len] at e3; cases e3; rfl
    have st3 := host u (m : Int) (by rw [tab_len]; exact hun) σ3 rfl
    rw [tab_set] at st3
    refine W_blk ?_
    repeat apply W_assoc
    apply W_reg
    · intro callf
      simp +decide only [aOps, aWanted, ↓bite_eq, ↓reduceIte, aStep_eq, aStepOld, aOp, opIndexAddr, opLoad, aev, ann, aPut, rget_rput, h28, h30, idx33 hlt, ldu]
      rfl
    refine W_tail ?_
    repeat apply W_assoc
    apply W_reg
    · intro callf
      simp +decide only [aOps, aWanted, ↓bite_eq, ↓reduceIte, aStep_eq, aStepOld, aOp, opIndexAddr, opStore, aev, ann, unn, aPut, rget_rput, h2, h8, hoix u (by rw [tab_len]; exact hun), show Value.int .i64 (m : Int) = vInt (m : Int) from rfl, st3]
      rfl
    refine W_skip ⟨fun _ => ?_, fun h => absurd rfl h⟩
    refine W_tail ?_
    repeat apply W_assoc
    apply W_reg
    · intro callf
      simp +decide only [aOps, aWanted, ↓bite_eq, ↓reduceIte, aStep_eq, aStepOld, aOp, opBin, aev, ann, aPut, rget_rput, h30, w1, aBin, aInts, aInt_eq]
      rfl
    refine W_skip ⟨fun _ => ⟨i + 1, ?_, ?_⟩, fun h => (nomatch h), fun h => absurd rfl h⟩
    · show k.length + 1 - (i + 1) < k.length + 1 - i
      omega
    · refine ⟨hlt, ⟨upd f' u m, by rw [AS.get_put, if_pos rfl], fun w => ?_, hn3, fun j hj => by rw [AS.get_put, if_neg (fun e => hj e.symm)]; exact hs3 j hj, fun q h1 h2 => Nat.le_min.2 ⟨hl3 q h1 h2, Nat.le_trans h1 hob1⟩⟩, ?_, ?_, ?_, ?_, ?_, ?_, ?_⟩
      · rw [List.take_add_one, hu]
        unfold upd
        by_cases e : w = u
        · subst e
          rw [if_pos rfl, if_pos (by simp)]
        · rw [if_neg e, hf' w]
          have : (w ∈ List.take i (s :: k) ++ (some u).toList) ↔ w ∈ List.take i (s :: k) := by simp [e]
          simp only [this]
      all_goals simp +decide only [rget_rput, if_true, if_false, h0, h2, h7, h8, h28, h29]
  rintro i r s0 ⟨hi1, hi2, rfl, h0, h1, h2, h7⟩
  obtain ⟨u, hu⟩ : ∃ u, (q ++ s :: k)[i]? = some u := ⟨(q ++ s :: k)[i]'(by omega), by simp []⟩
  have ldu := hld i (u : Int) (ints_at hu) s0 rfl
  have hxu := hix i (by rw [hlen]; omega)
  by_cases hlt : q.length < i
  rotate_left
  · obtain rfl : i = q.length := by omega
    obtain rfl : s = u := by rw [hs0] at hu; cases hu; rfl
    have d1 : ((s : Int) != (s : Int)) = false := by simp
    repeat apply W_assoc
    apply W_reg
    · intro callf
      simp +decide only [aOps, aWanted, ↓bite_eq, ↓reduceIte, aStep_eq, aStepOld, aOp, opBin, opIndexAddr, opLoad, aev, ann, aPut, rget_rput, h0, h1, h7, hxu, ldu, vInt, d1, aBin, aInts, aInt_eq]
      rfl
    repeat apply W_assoc
    refine W_if (b := false) ?_ ?_ ?_
    · simp +decide only [aev, rget_rput, if_true, if_false]
    · intro h; cases h
    intro _
    refine W_exitq ⟨fun h => (nomatch h), fun _ => ⟨rfl, ?_, ?_, ?_⟩, fun h1 h2 => absurd rfl h2⟩ <;> simp +decide only [rget_rput, if_false, h0, h2, h7]
  have hus := hsk i u hlt hu
  have d1 : ((u : Int) != (s : Int)) = true := by simp; omega
  have w1 : IntKind.i64.wrap ((i : Int) - 1) = ((i - 1 : Nat) : Int) := by rw [wrap64_id _ (by omega) (by omega)]; omega
  repeat apply W_assoc
  apply W_reg
  · intro callf
    simp +decide only [aOps, aWanted, ↓bite_eq, ↓reduceIte, aStep_eq, aStepOld, aOp, opBin, opIndexAddr, opLoad, aev, ann, aPut, rget_rput, h0, h1, h7, hxu, ldu, vInt, d1, aBin, aInts, aInt_eq]
    rfl
  repeat apply W_assoc
  refine W_if (b := true) ?_ ?_ ?_
  · simp +decide only [aev, rget_rput, if_true, if_false]
  rotate_left
  · intro h; cases h
  intro _
  apply W_skipq
  refine W_tail ?_
  refine W_blk ?_
  refine W_tail ?_
  repeat apply W_assoc
  apply W_reg
  · intro callf
    simp +decide only [aOps, aWanted, ↓bite_eq, ↓reduceIte, aStep_eq, aStepOld, aOp, opBin, aev, ann, aPut, rget_rput, h7, w1, aBin, aInts, aInt_eq]
    rfl
  refine W_skip ⟨fun _ => ?_, fun h => absurd rfl h⟩
  refine W_skip ⟨fun _ => ⟨i - 1, ?_, ?_⟩, fun h => (nomatch h), fun h => absurd rfl h⟩
  · show i - 1 < i
    omega
  · refine ⟨by omega, by omega, rfl, ?_, ?_, ?_, ?_⟩ <;> simp +decide only [rget_rput, if_true, if_false, h0, h1, h2]

end Go.Proofs.Ytbknckiapcafdaa.Nest
