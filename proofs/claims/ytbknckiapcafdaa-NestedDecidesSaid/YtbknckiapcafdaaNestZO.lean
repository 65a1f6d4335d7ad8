/- What a nested search finds, without a program: a lasso, if one can be reached. -/
import Derived.Test.YtbknckiapcafdaaNestZH
set_option linter.unusedSimpArgs false
set_option linter.unusedVariables false
namespace Go.Proofs.Ytbknckiapcafdaa.Nest
open Abs Abs2

/-- A silent arc. -/
def Tau (L : Lts) (s t : Nat) : Prop := ∃ row a, L[s]? = some row ∧ a ∈ row ∧ a.1 = 0 ∧ a.2 = (t : Int)
inductive TStar (L : Lts) : Nat → Nat → Prop
  | refl (s : Nat) : TStar L s s
  | step {s t u : Nat} : Tau L s t → TStar L t u → TStar L s u
theorem TStar.trans {L : Lts} {s t u : Nat} (h : TStar L s t) (k : TStar L t u) : TStar L s u := by
  induction h with
  | refl => exact k
  | step h _ ih => exact .step h (ih k)
theorem TStar.snoc {L : Lts} {s t u : Nat} (h : TStar L s t) (k : Tau L t u) : TStar L s u := h.trans (.step k (.refl _))
/-- A silent cycle can be reached silently. -/
def Bad (L : Lts) (u : Nat) : Prop := ∃ v w, TStar L u v ∧ Tau L v w ∧ TStar L w v
def Cyc (L : Lts) : Prop := ∃ v w, Tau L v w ∧ TStar L w v

def mark (l : List Bool) (u : Nat) : Prop := l.getD u false = true
theorem mark_set {l : List Bool} {s u : Nat} (hs : s < l.length) : mark (l.set s true) u ↔ u = s ∨ mark l u := by
  unfold mark
  rw [List.getD_eq_getElem?_getD, List.getD_eq_getElem?_getD]
  by_cases e : s = u
  · subst e; rw [List.getElem?_set_self hs]; simp
  · rw [List.getElem?_set_ne e]
    constructor
    · intro h; exact .inr h
    · rintro (h | h)
      · exact absurd h.symm e
      · exact h
theorem getD_true {l : List Bool} {s : Nat} (hs : s < l.length) : l.getD s true = l.getD s false := by simp [List.getD, hs]
theorem mark_some {l : List Bool} {s : Nat} (hs : s < l.length) (h : ¬ mark l s) : l[s]? = some false := by
  unfold mark at h
  rw [List.getD_eq_getElem?_getD, List.getElem?_eq_getElem hs] at h
  rw [List.getElem?_eq_getElem hs]
  have h : ¬ l[s] = true := h
  simp only [Bool.not_eq_true] at h
  rw [h]

structure DI (L : Lts) (x : SS) (oo : List Int) : Prop where
  len : x.inner.length = L.length
  oom : ∀ t ∈ oo, 0 ≤ t ∧ mark x.inner t.toNat
  bad : ∀ u, mark x.inner u → (u : Int) ∉ oo → ¬ Bad L u

structure DP (L : Lts) (x y : SS) (oo : List Int) : Prop where
  di : DI L y oo
  on : y.on = x.on
  mono : ∀ u, mark x.inner u → mark y.inner u
  cnt : cnt y.inner ≤ cnt x.inner

theorem innerGo_dfs {L : Lts} {rec : SS → Nat → SS} {f : Nat} {oo : List Int}
    (hrec : ∀ (z : SS) (t : Nat), z.found = false → z.on = oo ++ [(t : Int)] → DI L z oo → t < L.length → ¬ mark z.inner t → cnt z.inner ≤ f → (rec z t).found = false → DP L z (rec z t) oo ∧ mark (rec z t).inner t) :
    ∀ (row : List Arc) (x : SS), x.found = false → x.on = oo → DI L x oo → cnt x.inner ≤ f → (∀ a ∈ row, 0 ≤ a.2 ∧ a.2 < (L.length : Int)) → (innerGo rec row x).found = false →
      DP L x (innerGo rec row x) oo ∧ ∀ a ∈ row, a.1 = 0 → mark (innerGo rec row x).inner a.2.toNat ∧ a.2 ∉ oo
  | [], x, hf, ho, hd, hc, hr, hy => ⟨⟨hd, rfl, fun _ h => h, Nat.le_refl _⟩, fun a ha => (nomatch ha)⟩
  | a :: l, x, hf, ho, hd, hc, hr, hy => by
    have ih := innerGo_dfs hrec l
    have hrl : ∀ a ∈ l, 0 ≤ a.2 ∧ a.2 < (L.length : Int) := fun b hb => hr b (by simp [hb])
    have hra := hr a (by simp)
    unfold innerGo at hy ⊢
    rw [if_neg (by rw [hf]; decide)] at hy ⊢
    by_cases h0 : a.1 = 0
    rotate_left
    · rw [if_pos h0] at hy ⊢
      obtain ⟨p, q⟩ := ih x hf ho hd hc hrl hy
      refine ⟨p, fun b hb hb0 => ?_⟩
      rcases List.mem_cons.1 hb with rfl | hb
      · exact absurd hb0 h0
      · exact q b hb hb0
    rw [if_neg (by simpa using h0)] at hy ⊢
    cases hfn : findOn x.on a.2 with
    | some k => rw [hfn] at hy; cases hy
    | none =>
      rw [hfn] at hy
      dsimp only at hy ⊢
      have hno : a.2 ∉ oo := by rw [← ho]; exact mem_findOn.1 hfn
      have et : ((a.2.toNat : Nat) : Int) = a.2 := by omega
      have ht : a.2.toNat < L.length := by omega
      have hgt := getD_true (l := x.inner) (s := a.2.toNat) (by rw [hd.len]; exact ht)
      by_cases hm : x.inner.getD a.2.toNat true = true
      · rw [if_pos hm] at hy ⊢
        obtain ⟨p, q⟩ := ih x hf ho hd hc hrl hy
        refine ⟨p, fun b hb hb0 => ?_⟩
        rcases List.mem_cons.1 hb with rfl | hb
        · exact ⟨p.mono _ (by unfold mark; rw [← hgt]; exact hm), hno⟩
        · exact q b hb hb0
      · rw [if_neg hm] at hy ⊢
        have hz := hrec { x with path := x.path ++ [a], on := x.on ++ [a.2] } a.2.toNat hf (by show x.on ++ [a.2] = _; rw [ho, et]) ⟨hd.len, hd.oom, hd.bad⟩ ht (by unfold mark; show ¬ x.inner.getD _ _ = true; rw [← hgt]; exact hm) hc
        generalize rec { x with path := x.path ++ [a], on := x.on ++ [a.2] } a.2.toNat = z at hz hy
        by_cases hzt : z.found = true
        · rw [if_pos hzt, innerGo_found _ hzt, hzt] at hy; cases hy
        · have hzf : z.found = false := by simpa using hzt
          rw [if_neg hzt] at hy ⊢
          obtain ⟨p, pm⟩ := hz hzf
          have po : z.on.dropLast = oo := by rw [p.on]; show (x.on ++ [a.2]).dropLast = oo; rw [ho]; simp
          obtain ⟨p2, q2⟩ := ih { z with path := z.path.dropLast, on := z.on.dropLast } hzf po ⟨p.di.len, p.di.oom, p.di.bad⟩ (Nat.le_trans p.cnt hc) hrl hy
          refine ⟨⟨p2.di, by rw [p2.on]; show z.on.dropLast = _; rw [po, ho], fun u hu => p2.mono u (p.mono u hu), Nat.le_trans p2.cnt p.cnt⟩, fun b hb hb0 => ?_⟩
          rcases List.mem_cons.1 hb with rfl | hb
          · exact ⟨p2.mono _ pm, hno⟩
          · exact q2 b hb hb0

theorem innerF_dfs {L : Lts} (hw : WF L) : ∀ (f : Nat) (x : SS) (s : Nat) (oo : List Int), x.found = false → x.on = oo ++ [(s : Int)] → DI L x oo → s < L.length → ¬ mark x.inner s → cnt x.inner ≤ f → (innerF L f x s).found = false →
    DP L x (innerF L f x s) oo ∧ mark (innerF L f x s).inner s
  | 0, x, s, oo, hf, ho, hd, hs, hm, hc, hy => by
    have := cnt_set (mark_some (by rw [hd.len]; exact hs) hm)
    omega
  | f + 1, x, s, oo, hf, ho, hd, hs, hm, hc, hy => by
    have hsl : s < x.inner.length := by rw [hd.len]; exact hs
    have hcs := cnt_set (mark_some hsl hm)
    obtain ⟨row, hrow⟩ : ∃ row, L[s]? = some row := ⟨L[s], by simp [hs]⟩
    have hgd : L.getD s [] = row := by simp [List.getD, hrow]
    have e : innerF L (f + 1) x s = innerGo (innerF L f) row { x with inner := x.inner.set s true } := by rw [← hgd]; rfl
    rw [e] at hy ⊢
    have hd1 : DI L { x with inner := x.inner.set s true } (oo ++ [(s : Int)]) := by
      refine ⟨by show (x.inner.set s true).length = _; rw [List.length_set]; exact hd.len, fun t ht => ?_, fun u hu hn => ?_⟩
      · rcases List.mem_append.1 ht with ht | ht
        · exact ⟨(hd.oom t ht).1, (mark_set hsl).2 (.inr (hd.oom t ht).2)⟩
        · rw [List.mem_singleton.1 ht]; exact ⟨by omega, (mark_set hsl).2 (.inl (by omega))⟩
      · rcases (mark_set hsl).1 hu with rfl | hu
        · exact absurd (List.mem_append.2 (.inr (by simp))) hn
        · exact hd.bad u hu fun h => hn (List.mem_append.2 (.inl h))
    obtain ⟨p, q⟩ := innerGo_dfs (oo := oo ++ [(s : Int)]) (fun z t h1 h2 h3 h4 h5 h6 h7 => innerF_dfs hw f z t _ h1 h2 h3 h4 h5 h6 h7) row { x with inner := x.inner.set s true } hf ho hd1 (by show cnt (x.inner.set s true) ≤ f; omega) (fun a ha => hw.to row (List.mem_of_getElem? hrow) a ha) hy
    have nb : ∀ t, Tau L s t → ¬ Bad L t ∧ t ≠ s := fun t ⟨row', a, h1, h2, h3, h4⟩ => by
      rw [hrow] at h1; cases h1
      obtain ⟨g1, g2⟩ := q a h2 h3
      rw [h4] at g2
      have : a.2.toNat = t := by omega
      rw [this] at g1
      exact ⟨p.di.bad t g1 g2, fun e => g2 (by rw [e]; simp)⟩
    refine ⟨⟨⟨p.di.len, fun t ht => p.di.oom t (List.mem_append.2 (.inl ht)), fun u hu hn => ?_⟩, p.on, fun u hu => p.mono u ((mark_set hsl).2 (.inr hu)), Nat.le_trans p.cnt (cnt_set_le _ _)⟩, p.mono s ((mark_set hsl).2 (.inl rfl))⟩
    by_cases e : u = s
    · subst e
      rintro ⟨v, w, h1, h2, h3⟩
      cases h1 with
      | refl =>
        obtain ⟨h4, h5⟩ := nb w h2
        cases h3 with
        | refl => exact h5 rfl
        | step h6 h7 => exact h4 ⟨w, _, .refl _, h6, h7.snoc h2⟩
      | step h6 h7 => exact (nb _ h6).1 ⟨v, w, h7, h2, h3⟩
    · exact p.di.bad u hu fun h => by
        rcases List.mem_append.1 h with h | h
        · exact hn h
        · exact e (by have h9 : (u : Int) = s := by simpa using h
                      omega)

/-- The outer search: what it has left is closed but for what it is at. -/
structure OI (L : Lts) (x : SS) (st : List Nat) : Prop where
  len : x.outer.length = L.length
  di : DI L x []
  im : ∀ u, mark x.outer u → u ∉ st → mark x.inner u
  cl : ∀ u row a, mark x.outer u → u ∉ st → L[u]? = some row → a ∈ row → mark x.outer a.2.toNat

structure OP (L : Lts) (x y : SS) (st : List Nat) : Prop where
  oi : OI L y st
  mono : ∀ u, mark x.outer u → mark y.outer u
  mono2 : ∀ u, mark x.inner u → mark y.inner u
  cnt : cnt y.outer ≤ cnt x.outer

theorem outerGo_dfs {L : Lts} {rec : SS → Nat → SS} {f : Nat} {st : List Nat}
    (hrec : ∀ (z : SS) (t : Nat), z.found = false → OI L z st → t < L.length → ¬ mark z.outer t → cnt z.outer ≤ f → (rec z t).found = false → OP L z (rec z t) st ∧ mark (rec z t).outer t) :
    ∀ (row : List Arc) (x : SS), x.found = false → OI L x st → cnt x.outer ≤ f → (∀ a ∈ row, 0 ≤ a.2 ∧ a.2 < (L.length : Int)) → (outerGo rec row x).found = false →
      OP L x (outerGo rec row x) st ∧ ∀ a ∈ row, mark (outerGo rec row x).outer a.2.toNat
  | [], x, hf, hd, hc, hr, hy => ⟨⟨hd, fun _ h => h, fun _ h => h, Nat.le_refl _⟩, fun a ha => (nomatch ha)⟩
  | a :: l, x, hf, hd, hc, hr, hy => by
    have ih := outerGo_dfs hrec l
    have hrl : ∀ a ∈ l, 0 ≤ a.2 ∧ a.2 < (L.length : Int) := fun b hb => hr b (by simp [hb])
    have hra := hr a (by simp)
    unfold outerGo at hy ⊢
    rw [if_neg (by rw [hf]; decide)] at hy ⊢
    have ht : a.2.toNat < L.length := by omega
    have hgt := getD_true (l := x.outer) (s := a.2.toNat) (by rw [hd.len]; exact ht)
    by_cases hm : x.outer.getD a.2.toNat true = true
    · rw [if_pos hm] at hy ⊢
      obtain ⟨p, q⟩ := ih x hf hd hc hrl hy
      refine ⟨p, fun b hb => ?_⟩
      rcases List.mem_cons.1 hb with rfl | hb
      · exact p.mono _ (by unfold mark; rw [← hgt]; exact hm)
      · exact q b hb
    · rw [if_neg hm] at hy ⊢
      have hz := hrec { x with stem := x.stem ++ [a] } a.2.toNat hf ⟨hd.len, ⟨hd.di.len, hd.di.oom, hd.di.bad⟩, hd.im, hd.cl⟩ ht (by unfold mark; show ¬ x.outer.getD _ _ = true; rw [← hgt]; exact hm) hc
      generalize rec { x with stem := x.stem ++ [a] } a.2.toNat = z at hz hy
      by_cases hzt : z.found = true
      · rw [if_pos hzt, outerGo_found _ hzt, hzt] at hy; cases hy
      · have hzf : z.found = false := by simpa using hzt
        rw [if_neg hzt] at hy ⊢
        obtain ⟨p, pm⟩ := hz hzf
        obtain ⟨p2, q2⟩ := ih { z with stem := z.stem.dropLast } hzf ⟨p.oi.len, ⟨p.oi.di.len, p.oi.di.oom, p.oi.di.bad⟩, p.oi.im, p.oi.cl⟩ (Nat.le_trans p.cnt hc) hrl hy
        refine ⟨⟨p2.oi, fun u hu => p2.mono u (p.mono u hu), fun u hu => p2.mono2 u (p.mono2 u hu), Nat.le_trans p2.cnt p.cnt⟩, fun b hb => ?_⟩
        rcases List.mem_cons.1 hb with rfl | hb
        · exact p2.mono _ pm
        · exact q2 b hb

theorem enterF_dfs {L : Lts} (hw : WF L) {x : SS} {s : Nat} (hf : x.found = false) (hd : DI L x []) (hs : s < L.length) (hy : (enterF L x s).found = false) :
    DI L (enterF L x s) [] ∧ (∀ u, mark x.inner u → mark (enterF L x s).inner u) ∧ mark (enterF L x s).inner s ∧ (enterF L x s).outer = x.outer := by
  unfold enterF at hy ⊢
  have hgt := getD_true (l := x.inner) (s := s) (by rw [hd.len]; exact hs)
  by_cases hm : x.inner.getD s true = true
  · rw [if_pos hm]
    exact ⟨hd, fun _ h => h, by unfold mark; rw [← hgt]; exact hm, rfl⟩
  · rw [if_neg hm] at hy ⊢
    obtain ⟨p, q⟩ := innerF_dfs hw L.length { x with path := [], on := [(s : Int)] } s [] hf rfl ⟨hd.len, hd.oom, hd.bad⟩ hs (by unfold mark; show ¬ x.inner.getD _ _ = true; rw [← hgt]; exact hm) (by have := cnt_le x.inner; rw [hd.len] at this; exact this) hy
    refine ⟨p.di, p.mono, q, ?_⟩
    have out : ∀ (f : Nat) (x : SS) (s : Nat), (innerF L f x s).outer = x.outer := by
      intro f
      induction f with
      | zero => intro x s; rfl
      | succ f ih =>
        intro x s
        have go : ∀ (row : List Arc) (x : SS), (innerGo (innerF L f) row x).outer = x.outer := by
          intro row
          induction row with
          | nil => intro x; rfl
          | cons a l ihl =>
            intro x
            unfold innerGo
            split
            · rfl
            · split
              · exact ihl x
              · split
                · rfl
                · split
                  · exact ihl x
                  · rw [ihl]
                    split
                    · exact ih _ _
                    · exact ih _ _
        exact go _ _
    exact out _ _ _

theorem outerF_dfs {L : Lts} (hw : WF L) : ∀ (f : Nat) (x : SS) (s : Nat) (st : List Nat), x.found = false → OI L x st → s < L.length → ¬ mark x.outer s → cnt x.outer ≤ f → (outerF L f x s).found = false →
    OP L x (outerF L f x s) st ∧ mark (outerF L f x s).outer s
  | 0, x, s, st, hf, hd, hs, hm, hc, hy => by
    have := cnt_set (mark_some (by rw [hd.len]; exact hs) hm)
    omega
  | f + 1, x, s, st, hf, hd, hs, hm, hc, hy => by
    have hsl : s < x.outer.length := by rw [hd.len]; exact hs
    have hcs := cnt_set (mark_some hsl hm)
    obtain ⟨row, hrow⟩ : ∃ row, L[s]? = some row := ⟨L[s], by simp [hs]⟩
    have hgd : L.getD s [] = row := by simp [List.getD, hrow]
    have e : outerF L (f + 1) x s = outerGo (outerF L f) row (enterF L { x with outer := x.outer.set s true } s) := by rw [← hgd]; rfl
    rw [e] at hy ⊢
    have hE : (enterF L { x with outer := x.outer.set s true } s).found = false := by
      cases hq : (enterF L { x with outer := x.outer.set s true } s).found with
      | false => rfl
      | true => rw [outerGo_found _ hq, hq] at hy; cases hy
    obtain ⟨d1, m1, s1, o1⟩ := enterF_dfs hw (x := { x with outer := x.outer.set s true }) hf ⟨hd.di.len, hd.di.oom, hd.di.bad⟩ hs hE
    generalize enterF L { x with outer := x.outer.set s true } s = z at hy hE d1 m1 s1 o1
    dsimp only at m1 o1
    have hz : OI L z (s :: st) := by
      refine ⟨by rw [o1, List.length_set]; exact hd.len, d1, fun u hu hn => ?_, fun u row a hu hn hr ha => ?_⟩
      · rw [o1] at hu
        rcases (mark_set hsl).1 hu with rfl | hu
        · exact s1
        · exact m1 u (hd.im u hu fun h => hn (List.mem_cons_of_mem _ h))
      · rw [o1] at hu ⊢
        rcases (mark_set hsl).1 hu with rfl | hu
        · exact absurd List.mem_cons_self hn
        · exact (mark_set hsl).2 (.inr (hd.cl u row a hu (fun h => hn (List.mem_cons_of_mem _ h)) hr ha))
    obtain ⟨p, q⟩ := outerGo_dfs (st := s :: st) (fun z t h1 h2 h3 h4 h5 h6 => outerF_dfs hw f z t _ h1 h2 h3 h4 h5 h6) row z hE hz (by rw [o1]; omega) (fun a ha => hw.to row (List.mem_of_getElem? hrow) a ha) hy
    have ms : mark (outerGo (outerF L f) row z).outer s := p.mono s (by rw [o1]; exact (mark_set hsl).2 (.inl rfl))
    refine ⟨⟨⟨p.oi.len, p.oi.di, fun u hu hn => ?_, fun u row' a hu hn hr ha => ?_⟩, fun u hu => p.mono u (by rw [o1]; exact (mark_set hsl).2 (.inr hu)), fun u hu => p.mono2 u (m1 u hu), Nat.le_trans p.cnt (by rw [o1]; exact cnt_set_le _ _)⟩, ms⟩
    · by_cases e2 : u = s
      · subst e2; exact p.mono2 u s1
      · exact p.oi.im u hu fun h => by rcases List.mem_cons.1 h with h | h; exact e2 h; exact hn h
    · by_cases e2 : u = s
      · subst e2
        rw [hrow] at hr; cases hr
        exact q a ha
      · exact p.oi.cl u row' a hu (fun h => by rcases List.mem_cons.1 h with h | h; exact e2 h; exact hn h) hr ha

/-- Where all states can be reached, a search that finds nothing tells that there is no silent cycle. -/
theorem find_none {L : Lts} (hw : WF L) (hpos : 0 < L.length) (hch : ChainTo L (L.length - 1)) (hn : (outerF L L.length (initS L.length) 0).found = false) : ¬ Cyc L := by
  have nomark : ∀ u, ¬ mark (List.replicate L.length false) u := fun u h => by
    unfold mark at h
    rw [List.getD_eq_getElem?_getD, List.getElem?_replicate] at h
    split at h <;> cases h
  obtain ⟨p, q⟩ := outerF_dfs hw L.length (initS L.length) 0 [] rfl ⟨by simp [initS], ⟨by simp [initS], fun t ht => (nomatch ht), fun u hu => absurd hu (nomark u)⟩, fun u hu => absurd hu (nomark u), fun u _ _ hu => absurd hu (nomark u)⟩ hpos (nomark 0) (by have := cnt_le (List.replicate L.length false); rw [List.length_replicate] at this; exact this) hn
  generalize outerF L L.length (initS L.length) 0 = y at p q
  have all : ∀ s, s < L.length → mark y.outer s := fun s => by
    induction s with
    | zero => intro _; exact q
    | succ s ih =>
      intro hs
      obtain ⟨row, h1, a, h2, h3⟩ := hch s (by omega)
      have := p.oi.cl s row a (ih (by omega)) (by simp) h1 h2
      rw [show a.2.toNat = s + 1 by omega] at this
      exact this
  rintro ⟨v, w, h1, h2⟩
  obtain ⟨row, a, h3, -⟩ := id h1
  have hv := (List.getElem?_eq_some_iff.1 h3).1
  exact p.oi.di.bad v (p.oi.im v (all v hv) (by simp)) (by simp) ⟨v, w, .refl _, h1, h2⟩

end Go.Proofs.Ytbknckiapcafdaa.Nest

/- What a nested search finds is a lasso. No program. -/
set_option linter.unusedSimpArgs false
set_option linter.unusedVariables false
namespace Go.Proofs.Ytbknckiapcafdaa.Nest
open Abs Abs2

theorem followF_app {L : Lts} : ∀ {k e : Nat} {p q : List Arc}, followF L k p = (e, true) → followF L k (p ++ q) = followF L e q
  | k, e, [], q, h => by cases h; rfl
  | k, e, a :: p, q, h => by
    unfold followF at h
    split at h
    · rename_i hm
      rw [List.cons_append]
      conv => lhs; unfold followF
      rw [if_pos hm]
      exact followF_app h
    · cases h
theorem followF_one {L : Lts} {s : Nat} {a : Arc} (h : a ∈ L.getD s []) : followF L s [a] = (a.2.toNat, true) := by
  unfold followF; rw [if_pos h]; rfl
theorem findOn_get : ∀ {l : List Int} {t : Int} {k : Nat}, findOn l t = some k → l[k]? = some t
  | [], _, _, h => by cases h
  | x :: l, t, k, h => by
    unfold findOn at h
    split at h
    · rename_i e; cases h; rw [e]; rfl
    · cases hq : findOn l t with
      | none => rw [hq] at h; cases h
      | some q =>
        rw [hq] at h
        cases h
        rw [List.getElem?_cons_succ]; exact findOn_get hq

/-- The path of an inner search is a walk. -/
structure LI (L : Lts) (x : SS) (b : Nat) : Prop where
  w : ∀ k t, x.on[k]? = some t → followF L b (x.path.take k) = (t.toNat, true)
  len : x.on.length = x.path.length + 1
  tau : ∀ a ∈ x.path, a.1 = 0
  stem : followF L 0 x.stem = (b, true)

def Las (L : Lts) (y : SS) : Prop := ∃ e, followF L 0 y.stem = (e, true) ∧ y.loop ≠ [] ∧ (∀ a ∈ y.loop, a.1 = 0) ∧ followF L e y.loop = (e, true)

theorem LI.push {L : Lts} {x : SS} {b s : Nat} {a : Arc} (h : LI L x b) (hl : x.on.getLast? = some (s : Int)) (ha : a ∈ L.getD s []) (h0 : a.1 = 0) : LI L { x with path := x.path ++ [a], on := x.on ++ [a.2] } b := by
  have hlen := h.len
  have hlast : x.on[x.path.length]? = some (s : Int) := by
    rw [List.getLast?_eq_getElem?] at hl
    rw [show x.path.length = x.on.length - 1 by omega]; exact hl
  have hw := h.w _ _ hlast
  rw [List.take_length, Int.toNat_natCast] at hw
  refine ⟨fun k t hk => ?_, by simp; omega, fun c hc => ?_, h.stem⟩
  · dsimp only at hk ⊢
    by_cases hkl : k < x.on.length
    · rw [List.getElem?_append_left hkl] at hk
      rw [List.take_append_of_le_length (by omega)]
      exact h.w k t hk
    · have hkl2 := (List.getElem?_eq_some_iff.1 hk).1
      simp at hkl2
      obtain rfl : k = x.on.length := by omega
      rw [List.getElem?_append_right (Nat.le_refl _), Nat.sub_self] at hk
      cases hk
      rw [List.take_of_length_le (by simp; omega), followF_app hw, followF_one ha]
  · rcases List.mem_append.1 hc with hc | hc
    · exact h.tau c hc
    · rw [List.mem_singleton.1 hc]; exact h0

theorem innerGo_las {L : Lts} {rec : SS → Nat → SS} {f b s : Nat} (hsp : ∀ z t, z.found = false → z.path.length + f ≤ 1000 → IPost z (rec z t))
    (hrec : ∀ (z : SS) (t : Nat), z.found = false → LI L z b → z.on.getLast? = some (t : Int) → z.path.length + f ≤ 1000 → (rec z t).found = true → Las L (rec z t)) :
    ∀ (row : List Arc) (x : SS), x.found = false → LI L x b → x.on.getLast? = some (s : Int) → (∀ a ∈ row, a ∈ L.getD s [] ∧ 0 ≤ a.2) → x.path.length + f + 1 ≤ 1000 → (innerGo rec row x).found = true → Las L (innerGo rec row x)
  | [], x, hf, _, _, _, _, hy => by unfold innerGo at hy; rw [hf] at hy; cases hy
  | a :: l, x, hf, hd, hl, hr, hb, hy => by
    have ih := innerGo_las (s := s) hsp hrec l
    have hrl : ∀ a ∈ l, a ∈ L.getD s [] ∧ 0 ≤ a.2 := fun b hb => hr b (by simp [hb])
    obtain ⟨ha, ha2⟩ := hr a (by simp)
    unfold innerGo at hy ⊢
    rw [if_neg (by rw [hf]; decide)] at hy ⊢
    by_cases h0 : a.1 = 0
    rotate_left
    · rw [if_pos h0] at hy ⊢
      exact ih x hf hd hl hrl hb hy
    rw [if_neg (by simpa using h0)] at hy ⊢
    have hlen := hd.len
    have hlast : x.on[x.path.length]? = some (s : Int) := by
      rw [List.getLast?_eq_getElem?] at hl
      rw [show x.path.length = x.on.length - 1 by omega]; exact hl
    have hw := hd.w _ _ hlast
    rw [List.take_length, Int.toNat_natCast] at hw
    cases hfn : findOn x.on a.2 with
    | some k =>
      dsimp only
      have hk := hd.w _ _ (findOn_get hfn)
      have hd2 : followF L a.2.toNat (x.path.drop k) = (s, true) := by
        have := followF_app (q := x.path.drop k) hk
        rw [List.take_append_drop, hw] at this
        exact this.symm
      refine ⟨a.2.toNat, ?_, by simp, fun c hc => ?_, ?_⟩
      · show followF L 0 (x.stem ++ x.path.take k) = _
        rw [followF_app hd.stem, hk]
      · rcases List.mem_append.1 hc with hc | hc
        · exact hd.tau c (List.mem_of_mem_drop hc)
        · rw [List.mem_singleton.1 hc]; exact h0
      · show followF L a.2.toNat (x.path.drop k ++ [a]) = _
        rw [followF_app hd2, followF_one ha]
    | none =>
      rw [hfn] at hy
      dsimp only at hy ⊢
      by_cases hm : x.inner.getD a.2.toNat true = true
      · rw [if_pos hm] at hy ⊢
        exact ih x hf hd hl hrl hb hy
      · rw [if_neg hm] at hy ⊢
        have et : ((a.2.toNat : Nat) : Int) = a.2 := by omega
        have hz := hrec { x with path := x.path ++ [a], on := x.on ++ [a.2] } a.2.toNat hf (hd.push hl ha h0) (by show (x.on ++ [a.2]).getLast? = _; rw [et]; simp) (by show (x.path ++ [a]).length + f ≤ 1000; simp; omega)
        have hp := hsp { x with path := x.path ++ [a], on := x.on ++ [a.2] } a.2.toNat hf (by show (x.path ++ [a]).length + f ≤ 1000; simp; omega)
        generalize rec { x with path := x.path ++ [a], on := x.on ++ [a.2] } a.2.toNat = z at hz hp hy
        by_cases hzt : z.found = true
        · rw [if_pos hzt, innerGo_found _ hzt]
          exact hz hzt
        · have hzf : z.found = false := by simpa using hzt
          rw [if_neg hzt] at hy ⊢
          obtain ⟨g1, g2, g3, g4⟩ := hp.no hzf
          dsimp only at g1 g2 g3
          have e1 : z.path.dropLast = x.path := by rw [g1]; simp
          have e2 : z.on.dropLast = x.on := by rw [g2]; simp
          exact ih { z with path := z.path.dropLast, on := z.on.dropLast } hzf ⟨by show ∀ k t, z.on.dropLast[k]? = some t → followF L b (z.path.dropLast.take k) = _; rw [e1, e2]; exact hd.w, by show z.on.dropLast.length = z.path.dropLast.length + 1; rw [e1, e2]; exact hlen, by show ∀ a ∈ z.path.dropLast, _; rw [e1]; exact hd.tau, by show followF L 0 z.stem = _; rw [g3]; exact hd.stem⟩ (by show z.on.dropLast.getLast? = _; rw [e2]; exact hl) hrl (by show z.path.dropLast.length + f + 1 ≤ 1000; rw [e1]; exact hb) hy

theorem row_getD {L : Lts} (hw : WF L) {s : Nat} : ∀ a ∈ L.getD s [], a ∈ L.getD s [] ∧ 0 ≤ a.2 := fun a ha => by
  refine ⟨ha, ?_⟩
  rw [List.getD_eq_getElem?_getD] at ha
  cases hq : L[s]? with
  | none => rw [hq] at ha; exact absurd ha (by simp)
  | some row => rw [hq] at ha; exact (hw.to row (List.mem_of_getElem? hq) a ha).1

theorem innerF_las {L : Lts} (hw : WF L) {b : Nat} : ∀ (f : Nat) (x : SS) (s : Nat), x.found = false → LI L x b → x.on.getLast? = some (s : Int) → x.path.length + f ≤ 1000 → (innerF L f x s).found = true → Las L (innerF L f x s)
  | 0, x, s, hf, _, _, _, hy => by unfold innerF at hy; rw [hf] at hy; cases hy
  | f + 1, x, s, hf, hd, hl, hb, hy =>
    innerGo_las (s := s) (innerF_spec L f) (innerF_las hw f) (L.getD s []) { x with inner := x.inner.set s true } hf ⟨hd.w, hd.len, hd.tau, hd.stem⟩ hl (row_getD hw) (by show x.path.length + f + 1 ≤ 1000; omega) hy

theorem enterF_las {L : Lts} (hw : WF L) (hN : L.length ≤ 400) {x : SS} {s : Nat} (hf : x.found = false) (hs : followF L 0 x.stem = (s, true)) (hy : (enterF L x s).found = true) : Las L (enterF L x s) := by
  unfold enterF at hy ⊢
  split
  · rename_i h; rw [if_pos h, hf] at hy; cases hy
  · rename_i h
    rw [if_neg h] at hy
    refine innerF_las hw (b := s) L.length { x with path := [], on := [(s : Int)] } s hf ⟨fun k t hk => ?_, rfl, fun a ha => (nomatch ha), hs⟩ rfl (by show 0 + L.length ≤ 1000; omega) hy
    have hk2 := (List.getElem?_eq_some_iff.1 hk).1
    obtain rfl : k = 0 := by simpa using hk2
    cases hk
    rfl

theorem outerGo_las {L : Lts} {rec : SS → Nat → SS} {f s : Nat} (hsp : ∀ z t, z.found = false → z.stem.length + f ≤ 1000 → OPost z (rec z t))
    (hrec : ∀ (z : SS) (t : Nat), z.found = false → followF L 0 z.stem = (t, true) → z.stem.length + f ≤ 1000 → (rec z t).found = true → Las L (rec z t)) :
    ∀ (row : List Arc) (x : SS), x.found = false → followF L 0 x.stem = (s, true) → (∀ a ∈ row, a ∈ L.getD s [] ∧ 0 ≤ a.2) → x.stem.length + f + 1 ≤ 1000 → (outerGo rec row x).found = true → Las L (outerGo rec row x)
  | [], x, hf, _, _, _, hy => by unfold outerGo at hy; rw [hf] at hy; cases hy
  | a :: l, x, hf, hd, hr, hb, hy => by
    have ih := outerGo_las (s := s) hsp hrec l
    have hrl : ∀ a ∈ l, a ∈ L.getD s [] ∧ 0 ≤ a.2 := fun b hb => hr b (by simp [hb])
    obtain ⟨ha, ha2⟩ := hr a (by simp)
    unfold outerGo at hy ⊢
    rw [if_neg (by rw [hf]; decide)] at hy ⊢
    by_cases hm : x.outer.getD a.2.toNat true = true
    · rw [if_pos hm] at hy ⊢
      exact ih x hf hd hrl hb hy
    · rw [if_neg hm] at hy ⊢
      have hz := hrec { x with stem := x.stem ++ [a] } a.2.toNat hf (by show followF L 0 (x.stem ++ [a]) = _; rw [followF_app hd, followF_one ha]) (by show (x.stem ++ [a]).length + f ≤ 1000; simp; omega)
      have hp := hsp { x with stem := x.stem ++ [a] } a.2.toNat hf (by show (x.stem ++ [a]).length + f ≤ 1000; simp; omega)
      generalize rec { x with stem := x.stem ++ [a] } a.2.toNat = z at hz hp hy
      by_cases hzt : z.found = true
      · rw [if_pos hzt, outerGo_found _ hzt]
        exact hz hzt
      · have hzf : z.found = false := by simpa using hzt
        rw [if_neg hzt] at hy ⊢
        obtain ⟨g3, g4⟩ := hp.no hzf
        dsimp only at g3
        have e1 : z.stem.dropLast = x.stem := by rw [g3]; simp
        exact ih { z with stem := z.stem.dropLast } hzf (by show followF L 0 z.stem.dropLast = _; rw [e1]; exact hd) hrl (by show z.stem.dropLast.length + f + 1 ≤ 1000; rw [e1]; exact hb) hy

theorem outerF_las {L : Lts} (hw : WF L) (hN : L.length ≤ 400) : ∀ (f : Nat) (x : SS) (s : Nat), x.found = false → followF L 0 x.stem = (s, true) → x.stem.length + f ≤ 1000 → (outerF L f x s).found = true → Las L (outerF L f x s)
  | 0, x, s, hf, _, _, hy => by unfold outerF at hy; rw [hf] at hy; cases hy
  | f + 1, x, s, hf, hs, hb, hy => by
    have e : outerF L (f + 1) x s = outerGo (outerF L f) (L.getD s []) (enterF L { x with outer := x.outer.set s true } s) := rfl
    rw [e] at hy ⊢
    have hl := enterF_las hw hN (x := { x with outer := x.outer.set s true }) (s := s) hf hs
    have hp := enterF_spec L hN (x := { x with outer := x.outer.set s true }) (s := s) hf (by show x.stem.length ≤ 1000; omega)
    generalize enterF L { x with outer := x.outer.set s true } s = z at hl hp hy
    by_cases hzt : z.found = true
    · rw [outerGo_found _ hzt]; exact hl hzt
    · have hzf : z.found = false := by simpa using hzt
      have hst : z.stem = x.stem := (hp.no hzf).1
      exact outerGo_las (s := s) (outerF_spec L hN f) (outerF_las hw hN f) (L.getD s []) z hzf (by rw [hst]; exact hs) (row_getD hw) (by rw [hst]; omega) hy

theorem follow_star {L : Lts} (hw : WF L) : ∀ {p : List Arc} {s e : Nat}, followF L s p = (e, true) → (∀ a ∈ p, a.1 = 0) → TStar L s e
  | [], s, e, h, _ => by cases h; exact .refl _
  | a :: p, s, e, h, h0 => by
    unfold followF at h
    split at h
    · rename_i hm
      have hm2 := (row_getD hw a hm).2
      refine .step ?_ (follow_star hw h fun b hb => h0 b (by simp [hb]))
      rw [List.getD_eq_getElem?_getD] at hm
      cases hq : L[s]? with
      | none => rw [hq] at hm; exact absurd hm (by simp)
      | some row => rw [hq] at hm; exact ⟨row, a, hq, hm, h0 a (by simp), by omega⟩
    · cases h

/-- What is found is a lasso; it is found exactly if there is a silent cycle, where all states can be reached. -/
theorem find_lasso {L : Lts} (hv : validB L = true) (hw : WF L) (hN : L.length ≤ 400) : lassoB L (findF L).1 (findF L).2.1 = (findF L).2.2.1 ∧ ((findF L).2.2.1 = true → Cyc L) := by
  have hlas := outerF_las hw hN L.length (initS L.length) 0 rfl rfl (by show 0 + L.length ≤ 1000; omega)
  unfold findF
  rw [if_pos hv]
  generalize outerF L L.length (initS L.length) 0 = y at hlas
  by_cases hy : y.found = true
  · rw [if_pos hy]
    obtain ⟨e, h1, h2, h3, h4⟩ := hlas hy
    refine ⟨?_, fun _ => ?_⟩
    · unfold lassoB
      have h5 : (y.loop.any fun a => a.1 != 0) = false := by
        rw [List.any_eq_false]
        intro a ha
        simp [h3 a ha]
      dsimp only
      rw [if_pos hv, if_neg (fun h => h2 (List.length_eq_zero_iff.1 h)), h5, if_neg (by decide), h1]
      dsimp only
      rw [if_pos rfl, h4]
      simp
    · cases hl : y.loop with
      | nil => exact absurd hl h2
      | cons a p =>
        rw [hl] at h3 h4
        unfold followF at h4
        split at h4
        · rename_i hm
          have hm2 := (row_getD hw a hm).2
          refine ⟨e, a.2.toNat, ?_, follow_star hw h4 fun b hb => h3 b (by simp [hb])⟩
          rw [List.getD_eq_getElem?_getD] at hm
          cases hq : L[e]? with
          | none => rw [hq] at hm; exact absurd hm (by simp)
          | some row => rw [hq] at hm; exact ⟨row, a, hq, hm, h3 a (by simp), by omega⟩
        · cases h4
  · rw [if_neg hy]
    refine ⟨?_, fun h => (nomatch h)⟩
    unfold lassoB
    dsimp only
    rw [if_pos hv]
    rfl

theorem find_cyc {L : Lts} (hv : validB L = true) (hw : WF L) (hN : L.length ≤ 400) (hpos : 0 < L.length) (hch : ChainTo L (L.length - 1)) : (findF L).2.2.1 = true ↔ Cyc L := by
  refine ⟨(find_lasso hv hw hN).2, fun hc => ?_⟩
  unfold findF
  rw [if_pos hv]
  cases hy : (outerF L L.length (initS L.length) 0).found with
  | true => rfl
  | false => exact absurd hc (find_none hw hpos hch hy)

end Go.Proofs.Ytbknckiapcafdaa.Nest
