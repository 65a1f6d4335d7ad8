/- Lists that grow and are cut at their ends; what a nested search does, in plain words. -/
import Derived.Test.YtbknckiapcafdaaNestR
set_option linter.unusedSimpArgs false
set_option linter.unusedVariables false
namespace Go.Proofs.Ytbknckiapcafdaa.Nest
open Abs Abs2

/-! ### The search, without a program -/

structure SS where
  outer : List Bool
  inner : List Bool
  path : List Arc
  on : List Int
  stem : List Arc
  loop : List Arc
  found : Bool

def findOn : List Int → Int → Option Nat
  | [], _ => none
  | x :: l, t => if x = t then some 0 else (findOn l t).map (· + 1)

def innerGo (rec : SS → Nat → SS) : List Arc → SS → SS
  | [], x => x
  | a :: l, x => if x.found = true then x else if a.1 ≠ 0 then innerGo rec l x else
    match findOn x.on a.2 with
    | some k => { x with found := true, stem := x.stem ++ x.path.take k, loop := x.path.drop k ++ [a] }
    | none => if x.inner.getD a.2.toNat true = true then innerGo rec l x else
      innerGo rec l (if (rec { x with path := x.path ++ [a], on := x.on ++ [a.2] } a.2.toNat).found = true then rec { x with path := x.path ++ [a], on := x.on ++ [a.2] } a.2.toNat
        else { rec { x with path := x.path ++ [a], on := x.on ++ [a.2] } a.2.toNat with
          path := (rec { x with path := x.path ++ [a], on := x.on ++ [a.2] } a.2.toNat).path.dropLast, on := (rec { x with path := x.path ++ [a], on := x.on ++ [a.2] } a.2.toNat).on.dropLast })

def innerF (L : Lts) : Nat → SS → Nat → SS
  | 0, x, _ => x
  | f + 1, x, s => innerGo (innerF L f) (L.getD s []) { x with inner := x.inner.set s true }

def outerGo (rec : SS → Nat → SS) : List Arc → SS → SS
  | [], x => x
  | a :: l, x => if x.found = true then x else if x.outer.getD a.2.toNat true = true then outerGo rec l x else
      outerGo rec l (if (rec { x with stem := x.stem ++ [a] } a.2.toNat).found = true then rec { x with stem := x.stem ++ [a] } a.2.toNat
        else { rec { x with stem := x.stem ++ [a] } a.2.toNat with stem := (rec { x with stem := x.stem ++ [a] } a.2.toNat).stem.dropLast })

def enterF (L : Lts) (x : SS) (s : Nat) : SS := if x.inner.getD s true = true then x else innerF L L.length { x with path := [], on := [(s : Int)] } s

def outerF (L : Lts) : Nat → SS → Nat → SS
  | 0, x, _ => x
  | f + 1, x, s => outerGo (outerF L f) (L.getD s []) (enterF L { x with outer := x.outer.set s true } s)

/-- How many are not yet marked. -/
def cnt : List Bool → Nat
  | [] => 0
  | b :: l => (if b = true then 0 else 1) + cnt l

theorem cnt_set : ∀ {l : List Bool} {s : Nat}, l[s]? = some false → cnt (l.set s true) + 1 = cnt l
  | [], s, h => by simp at h
  | b :: l, 0, h => by
    simp at h; subst h
    simp [cnt]; omega
  | b :: l, s + 1, h => by
    have := cnt_set (l := l) (s := s) (by simpa using h)
    simp only [List.set_cons_succ, cnt]
    omega
theorem cnt_le : ∀ l : List Bool, cnt l ≤ l.length
  | [] => Nat.le_refl _
  | b :: l => by
    have := cnt_le l
    simp only [cnt, List.length_cons]
    split <;> omega

/-- What an inner search keeps. -/
structure IPost (x y : SS) : Prop where
  outer : y.outer = x.outer
  len : y.inner.length = x.inner.length
  cnt : cnt y.inner ≤ cnt x.inner
  no : y.found = false → y.path = x.path ∧ y.on = x.on ∧ y.stem = x.stem ∧ y.loop = x.loop
  yes : y.found = true → y.stem.length ≤ x.stem.length + 1000 ∧ y.loop.length ≤ 1001

theorem innerGo_found (rec : SS → Nat → SS) {x : SS} (h : x.found = true) : ∀ l, innerGo rec l x = x
  | [] => rfl
  | a :: l => by unfold innerGo; rw [if_pos h]
theorem outerGo_found (rec : SS → Nat → SS) {x : SS} (h : x.found = true) : ∀ l, outerGo rec l x = x
  | [] => rfl
  | a :: l => by unfold outerGo; rw [if_pos h]

theorem IPost.refl {x : SS} (h : x.found = false) : IPost x x := ⟨rfl, rfl, Nat.le_refl _, fun _ => ⟨rfl, rfl, rfl, rfl⟩, fun h2 => by rw [h] at h2; cases h2⟩
theorem IPost.trans {x y z : SS} (h : IPost x y) (hy : y.found = false) (k : IPost y z) : IPost x z := by
  obtain ⟨e1, e2, e3, e4⟩ := h.no hy
  refine ⟨k.outer.trans h.outer, k.len.trans h.len, Nat.le_trans k.cnt h.cnt, fun hz => ?_, fun hz => ?_⟩
  · obtain ⟨g1, g2, g3, g4⟩ := k.no hz
    exact ⟨g1.trans e1, g2.trans e2, g3.trans e3, g4.trans e4⟩
  · rw [← e3]; exact k.yes hz

theorem innerGo_spec {rec : SS → Nat → SS} {f : Nat} (hrec : ∀ z t, z.found = false → z.path.length + f ≤ 1000 → IPost z (rec z t)) :
    ∀ (row : List Arc) (x : SS), x.found = false → x.path.length + f + 1 ≤ 1000 → IPost x (innerGo rec row x)
  | [], x, h, _ => IPost.refl h
  | a :: l, x, h, hf => by
    have ih := innerGo_spec hrec l
    unfold innerGo
    rw [if_neg (by rw [h]; decide)]
    split
    · exact ih x h hf
    · split
      · rename_i k _
        refine ⟨rfl, rfl, Nat.le_refl _, fun h2 => (nomatch h2), fun _ => ⟨?_, ?_⟩⟩
        · simp only [List.length_append, List.length_take]; omega
        · simp only [List.length_append, List.length_drop, List.length_cons, List.length_nil]; omega
      · split
        · exact ih x h hf
        · have hz := hrec { x with path := x.path ++ [a], on := x.on ++ [a.2] } a.2.toNat h (by simp only [List.length_append, List.length_cons, List.length_nil]; omega)
          generalize rec { x with path := x.path ++ [a], on := x.on ++ [a.2] } a.2.toNat = y at hz
          cases hy : y.found with
          | true =>
            rw [if_pos rfl, innerGo_found rec hy]
            exact ⟨hz.outer, hz.len, hz.cnt, fun h2 => (by rw [hy] at h2; cases h2), hz.yes⟩
          | false =>
            rw [if_neg (by decide)]
            obtain ⟨g1, g2, g3, g4⟩ := hz.no hy
            have e1 : y.path.dropLast = x.path := by rw [g1]; simp
            have e2 : y.on.dropLast = x.on := by rw [g2]; simp
            have p1 : IPost x { y with path := y.path.dropLast, on := y.on.dropLast } := ⟨hz.outer, hz.len, hz.cnt, fun _ => ⟨e1, e2, g3, g4⟩, fun h2 => by rw [show SS.found { y with path := y.path.dropLast, on := y.on.dropLast } = y.found from rfl, hy] at h2; cases h2⟩
            exact p1.trans hy (ih _ hy (by show y.path.dropLast.length + f + 1 ≤ 1000; rw [e1]; exact hf))

theorem cnt_set_le : ∀ (l : List Bool) (s : Nat), cnt (l.set s true) ≤ cnt l
  | [], s => Nat.le_refl _
  | b :: l, 0 => by cases b <;> simp [cnt]
  | b :: l, s + 1 => by
    have := cnt_set_le l s
    simp only [List.set_cons_succ, cnt]
    omega

theorem innerF_spec (L : Lts) : ∀ (f : Nat) (x : SS) (s : Nat), x.found = false → x.path.length + f ≤ 1000 → IPost x (innerF L f x s)
  | 0, x, s, h, _ => IPost.refl h
  | f + 1, x, s, h, hf => by
    have p : IPost { x with inner := x.inner.set s true } (innerF L (f + 1) x s) := innerGo_spec (f := f) (innerF_spec L f) _ _ h (by show x.path.length + f + 1 ≤ 1000; omega)
    exact ⟨p.outer, p.len.trans (by simp), Nat.le_trans p.cnt (cnt_set_le _ _), p.no, p.yes⟩

/-- What an outer search keeps. -/
structure OPost (x y : SS) : Prop where
  olen : y.outer.length = x.outer.length
  len : y.inner.length = x.inner.length
  cnt : cnt y.outer ≤ cnt x.outer
  no : y.found = false → y.stem = x.stem ∧ y.loop = x.loop
  yes : y.found = true → y.stem.length ≤ 2000 ∧ y.loop.length ≤ 1001

theorem OPost.refl {x : SS} (h : x.found = false) : OPost x x := ⟨rfl, rfl, Nat.le_refl _, fun _ => ⟨rfl, rfl⟩, fun h2 => by rw [h] at h2; cases h2⟩
theorem OPost.trans {x y z : SS} (h : OPost x y) (hy : y.found = false) (k : OPost y z) : OPost x z := by
  obtain ⟨e3, e4⟩ := h.no hy
  refine ⟨k.olen.trans h.olen, k.len.trans h.len, Nat.le_trans k.cnt h.cnt, fun hz => ?_, k.yes⟩
  obtain ⟨g3, g4⟩ := k.no hz
  exact ⟨g3.trans e3, g4.trans e4⟩

theorem outerGo_spec {rec : SS → Nat → SS} {f : Nat} (hrec : ∀ z t, z.found = false → z.stem.length + f ≤ 1000 → OPost z (rec z t)) :
    ∀ (row : List Arc) (x : SS), x.found = false → x.stem.length + f + 1 ≤ 1000 → OPost x (outerGo rec row x)
  | [], x, h, _ => OPost.refl h
  | a :: l, x, h, hf => by
    have ih := outerGo_spec hrec l
    unfold outerGo
    rw [if_neg (by rw [h]; decide)]
    split
    · exact ih x h hf
    · have hz := hrec { x with stem := x.stem ++ [a] } a.2.toNat h (by simp only [List.length_append, List.length_cons, List.length_nil]; omega)
      generalize rec { x with stem := x.stem ++ [a] } a.2.toNat = y at hz
      cases hy : y.found with
      | true =>
        rw [if_pos rfl, outerGo_found rec hy]
        exact ⟨hz.olen, hz.len, hz.cnt, fun h2 => (by rw [hy] at h2; cases h2), hz.yes⟩
      | false =>
        rw [if_neg (by decide)]
        obtain ⟨g3, g4⟩ := hz.no hy
        have e1 : y.stem.dropLast = x.stem := by rw [g3]; simp
        have p1 : OPost x { y with stem := y.stem.dropLast } := ⟨hz.olen, hz.len, hz.cnt, fun _ => ⟨e1, g4⟩, fun h2 => by rw [show SS.found { y with stem := y.stem.dropLast } = y.found from rfl, hy] at h2; cases h2⟩
        exact p1.trans hy (ih _ hy (by show y.stem.dropLast.length + f + 1 ≤ 1000; rw [e1]; exact hf))

theorem enterF_spec (L : Lts) (hL : L.length ≤ 400) {x : SS} {s : Nat} (h : x.found = false) (hs : x.stem.length ≤ 1000) : OPost x (enterF L x s) := by
  unfold enterF
  split
  · exact OPost.refl h
  · have p := innerF_spec L L.length { x with path := [], on := [(s : Int)] } s h (by show 0 + L.length ≤ 1000; omega)
    exact ⟨by rw [p.outer], p.len, by rw [p.outer]; exact Nat.le_refl _, fun h2 => ⟨(p.no h2).2.2.1, (p.no h2).2.2.2⟩, fun h2 => ⟨by have h3 := (p.yes h2).1; exact Nat.le_trans h3 (by show x.stem.length + 1000 ≤ 2000; omega), (p.yes h2).2⟩⟩

theorem outerF_spec (L : Lts) (hL : L.length ≤ 400) : ∀ (f : Nat) (x : SS) (s : Nat), x.found = false → x.stem.length + f ≤ 1000 → OPost x (outerF L f x s)
  | 0, x, s, h, _ => OPost.refl h
  | f + 1, x, s, h, hf => by
    have p := enterF_spec L hL (x := { x with outer := x.outer.set s true }) (s := s) h (by show x.stem.length ≤ 1000; omega)
    have q : OPost x (enterF L { x with outer := x.outer.set s true } s) := ⟨p.olen.trans (by simp), p.len, Nat.le_trans p.cnt (cnt_set_le _ _), p.no, p.yes⟩
    show OPost x (outerGo (outerF L f) (L.getD s []) (enterF L { x with outer := x.outer.set s true } s))
    cases hy : (enterF L { x with outer := x.outer.set s true } s).found with
    | true => rw [outerGo_found _ hy]; exact q
    | false => exact q.trans hy (outerGo_spec (outerF_spec L hL f) _ _ hy (by rw [(q.no hy).1]; omega))

/-! ### Lists that grow and are cut at their ends -/

/-- A type of slices. -/
structure El (T E z : Nat) : Prop where
  und : Try.prog.underlying T = some (.slice E)
  info : ∃ inf zz, Try.prog.info? E = some inf ∧ inf.size = z ∧ inf.bytes ≤ 32 ∧ inf.zero = some zz ∧ zz.cells.size = z ∧ flat zz = true
  pos : 0 < z

theorem el27 : El 22 27 2 := ⟨Try.underlying22, ⟨(Try.prog.info? 27).get!, (((Try.prog.info? 27).get!).zero).get!, by kernel_rfl, by kernel_rfl, Nat.le_of_ble_eq_true (by kernel_rfl), by kernel_rfl, by kernel_rfl, by kernel_rfl⟩, by decide⟩
theorem el3 : El 33 3 1 := ⟨Try.underlying33, ⟨(Try.prog.info? 3).get!, (((Try.prog.info? 3).get!).zero).get!, by kernel_rfl, by kernel_rfl, Nat.le_of_ble_eq_true (by kernel_rfl), by kernel_rfl, by kernel_rfl, by kernel_rfl⟩, by decide⟩

/-- v lies in block i. -/
def Own (v : Value) (i : Nat) : Prop := ∃ n c, v = .slice (some ⟨i, 0, none⟩) n c

/-- A list of k elements, in no block below lo; its cells are cs. -/
def Stk (lo E z : Nat) (σ : AS) (v : Value) (k : Nat) (cs : List Value) : Prop :=
  cs.length = k * z ∧ cs.all one = true ∧ ((v = .slice none 0 0 ∧ k = 0) ∨
    ∃ b n vals, v = .slice (some ⟨b, 0, none⟩) k (OPENCAP + n) ∧ k ≤ n ∧ lo ≤ b ∧ b < σ.next ∧ σ.get b = ⟨2, E, z, vals, []⟩ ∧ n * z ≤ vals.length ∧ vals.take (k * z) = cs)
/-- The same, or one element that was built. -/
def StkC (lo E z : Nat) (σ : AS) (v : Value) (k : Nat) (cs : List Value) : Prop :=
  (k = 1 ∧ cs.length = z ∧ cs.all one = true ∧ ∃ b, v = .slice (some ⟨b, 0, none⟩) 1 1 ∧ lo ≤ b ∧ b < σ.next ∧ σ.get b = ⟨1, E, 0, cs, []⟩) ∨ Stk lo E z σ v k cs

section
variable {lo T E z k m : Nat} {σ σ' : AS} {v x : Value} {cs new : List Value}

theorem Stk.len (h : Stk lo E z σ v k cs) : ∃ a c, v = .slice a k c := by
  obtain ⟨_, _, ⟨rfl, rfl⟩ | ⟨b, n, vals, rfl, _⟩⟩ := h <;> exact ⟨_, _, rfl⟩
theorem StkC.len (h : StkC lo E z σ v k cs) : ∃ a c, v = .slice a k c := by
  rcases h with ⟨rfl, _, _, b, rfl, _⟩ | h
  · exact ⟨_, _, rfl⟩
  · exact h.len

theorem Stk.keep (h : Stk lo E z σ v k cs) (hn : σ.next ≤ σ'.next) (hg : ∀ i, Own v i → i < σ.next → σ'.get i = σ.get i) : Stk lo E z σ' v k cs := by
  obtain ⟨h1, h2, h3 | ⟨b, n, vals, rfl, h4, h5, h6, h7, h8⟩⟩ := h
  · exact ⟨h1, h2, .inl h3⟩
  · exact ⟨h1, h2, .inr ⟨b, n, vals, rfl, h4, h5, by omega, (hg b ⟨_, _, rfl⟩ h6).trans h7, h8⟩⟩
theorem StkC.keep (h : StkC lo E z σ v k cs) (hn : σ.next ≤ σ'.next) (hg : ∀ i, Own v i → i < σ.next → σ'.get i = σ.get i) : StkC lo E z σ' v k cs := by
  rcases h with ⟨h0, h1, h2, b, rfl, h3, h4, h5⟩ | h
  · exact .inl ⟨h0, h1, h2, b, rfl, h3, by omega, (hg b ⟨_, _, rfl⟩ h4).trans h5⟩
  · exact .inr (h.keep hn hg)

theorem Stk.own (h : Stk lo E z σ v k cs) {i : Nat} (ho : Own v i) : lo ≤ i ∧ i < σ.next ∧ (σ.get i).kind = 2 ∧ (σ.get i).elem = E := by
  obtain ⟨n, c, rfl⟩ := ho
  obtain ⟨_, _, ⟨h3, _⟩ | ⟨b, n, vals, h3, h4, h5, h6, h7, h8⟩⟩ := h
  · cases h3
  · cases h3
    exact ⟨h5, h6, by rw [h7], by rw [h7]⟩
theorem beq_f {a b : Nat} (h : a ≠ b) : Nat.beq a b = false := by
  cases e : Nat.beq a b with
  | false => rfl
  | true => exact absurd (Nat.eq_of_beq_eq_true e) h

/-- Elements are appended. -/
theorem Stk.push (el : El T E z) (h : Stk lo E z σ v k cs) (hlo : lo ≤ σ.next) (hx : ∀ inf : TypeInfo, inf.size = z → aSource Try.prog σ false inf x = some (m, new)) (hn : new.length = m * z) (h1 : new.all one = true) (hk : k + m ≤ 1000000) :
    ∃ v' s, aAppend Try.prog σ #[T, T] v x = some (v', s) ∧ Stk lo E z s v' (k + m) (cs ++ new) ∧ σ.next ≤ s.next ∧ (∀ i, i < σ.next → ¬ Own v i → s.get i = σ.get i) ∧ (∀ q, q ≤ lo → q ≤ σ.low → q ≤ s.low) ∧
      ∀ i, Own v' i → Own v i ∨ σ.next ≤ i := by
  obtain ⟨hu, ⟨inf, zz, g1, g2, g3, g4, g5, g6⟩, g7⟩ := el
  have hs := hx inf g2
  obtain ⟨c1, c2, hv⟩ := h
  have d1 : Nat.beq z 0 = false := beq_f (by omega)
  have d2 : Nat.beq z z = true := Nat.beq_refl _
  have d3 : Nat.ble ((4 * (k + m) + 4000) * inf.bytes) 281474976710656 = true := ble_t (Nat.le_trans (Nat.mul_le_mul (show 4 * (k + m) + 4000 ≤ 4004000 by omega) g3) (by decide))
  have d4 : Nat.ble (k + m) 1000000000000 = true := ble_t (by omega)
  have d5 : Nat.beq new.length (m * z) = true := by rw [hn]; exact Nat.beq_refl _
  have hlen : (cs ++ new).length = (k + m) * z := by rw [List.length_append, c1, hn, Nat.add_mul]
  have hone : (cs ++ new).all one = true := by rw [List.all_append, c2, h1]; rfl
  rcases hv with ⟨rfl, rfl⟩ | ⟨b, n, vals, rfl, h4, h5, h6, h7, h8, h9⟩
  · have hcs : cs = [] := List.length_eq_zero_iff.1 (by rw [c1, Nat.zero_mul])
    subst hcs
    by_cases hm : m = 0
    · subst hm
      have hnew : new = [] := List.length_eq_zero_iff.1 (by rw [hn, Nat.zero_mul])
      subst hnew
      refine ⟨.slice none 0 0, σ, ?_, ⟨by simp, rfl, .inl ⟨rfl, rfl⟩⟩, Nat.le_refl _, fun _ _ _ => rfl, fun _ _ h => h, fun i hi => .inl hi⟩
      have d6 : Nat.ble (0 + 0) 0 = true := rfl
      unfold aAppend
      simp only [List.getElem?_toArray, List.getElem?_cons_zero, List.getElem?_cons_succ, hu, g1, g2, g4, g5, g6, hs, d1, d2, d3, d4, d6, open_zero, Bool.not_true, Bool.or_false, Bool.false_eq_true, if_false, Nat.beq_refl, if_true, List.length_nil, Nat.zero_mul]
    · refine ⟨.slice (some ⟨σ.next, 0, none⟩) (0 + m) (OPENCAP + (0 + m)), σ.new ⟨2, E, z, [] ++ new, []⟩, ?_, ⟨hlen, hone, .inr ⟨σ.next, 0 + m, [] ++ new, rfl, Nat.le_refl _, hlo, Nat.lt_succ_self _, by rw [AS.get_new, if_pos rfl], by rw [← hlen]; exact Nat.le_refl _, ?_⟩⟩, Nat.le_succ _, fun i hi _ => by rw [AS.get_new, if_neg (by omega)], fun _ _ h => h, fun i hi => .inr ?_⟩
      · have d6 : Nat.ble (0 + m) 0 = false := ble_f (by omega)
        unfold aAppend
        simp only [List.getElem?_toArray, List.getElem?_cons_zero, List.getElem?_cons_succ, hu, g1, g2, g4, g5, g6, hs, d1, d2, d3, d4, d5, d6, open_zero, aFirst, Bool.not_true, Bool.or_false, Bool.false_eq_true, if_false, Nat.beq_refl, if_true, List.length_nil, Nat.zero_mul]
      · rw [List.take_of_length_le (by rw [hlen]; exact Nat.le_refl _)]
      · obtain ⟨_, _, e⟩ := hi
        cases e; exact Nat.le_refl _
  · have d7 : (Nat.beq (σ.get b).kind 2 && Nat.beq (σ.get b).esz z) = true := by rw [h7]; show (Nat.beq 2 2 && Nat.beq z z) = true; rw [d2]; rfl
    have hkz : k * z ≤ vals.length := Nat.le_trans (Nat.mul_le_mul_right z h4) h8
    by_cases hfit : k + m ≤ n
    · have hfz : k * z + new.length ≤ vals.length := by
        rw [hn, ← Nat.add_mul]; exact Nat.le_trans (Nat.mul_le_mul_right z hfit) h8
      by_cases hm : m = 0
      · subst hm
        have hnew : new = [] := List.length_eq_zero_iff.1 (by rw [hn, Nat.zero_mul])
        subst hnew
        have hw : aWrite σ ⟨b, 0 + k * z, none⟩ [] = some σ := by
          unfold aWrite
          simp only [h7, hasLen_eq, Nat.zero_add, List.length_nil, Nat.add_zero, List.all_nil]
          rw [ble_t hkz]
          rfl
        rw [List.append_nil]
        refine ⟨.slice (some ⟨b, 0, none⟩) (k + 0) (OPENCAP + n), σ, ?_, ⟨by simpa using c1, c2, .inr ⟨b, n, vals, rfl, hfit, h5, h6, h7, h8, h9⟩⟩, Nat.le_refl _, fun _ _ _ => rfl, fun _ _ h => h, fun i hi => .inl ?_⟩
        · have d6 : Nat.ble (k + 0) n = true := ble_t hfit
          unfold aAppend
          simp only [List.getElem?_toArray, List.getElem?_cons_zero, List.getElem?_cons_succ, hu, g1, g2, g4, g5, g6, hs, d1, d2, d3, d4, d5, d6, d7, open_cap, open_lb, Bool.not_true, Bool.or_false, Bool.false_eq_true, if_false, Nat.beq_refl, if_true, hw]
        · obtain ⟨_, _, e⟩ := hi
          cases e; exact ⟨_, _, rfl⟩
      have hw : aWrite σ ⟨b, 0 + k * z, none⟩ new = some (σ.put b ⟨2, E, z, lsplice vals (k * z) new, []⟩) := by
        obtain ⟨n0, nl, rfl⟩ : ∃ n0 nl, new = n0 :: nl := by
          cases new with
          | nil =>
            have : m * z = 0 := hn.symm
            rcases Nat.mul_eq_zero.1 this with h | h <;> omega
          | cons n0 nl => exact ⟨_, _, rfl⟩
        unfold aWrite
        simp only [h7, hasLen_eq, h1, Nat.zero_add]
        rw [ble_t hfz]
        rfl
      refine ⟨.slice (some ⟨b, 0, none⟩) (k + m) (OPENCAP + n), σ.put b ⟨2, E, z, lsplice vals (k * z) new, []⟩, ?_, ⟨hlen, hone, .inr ⟨b, n, _, rfl, hfit, h5, h6, by rw [AS.get_put, if_pos rfl], by rw [lsplice_length]; exact h8, ?_⟩⟩, Nat.le_refl _, fun i hi ho => by rw [AS.get_put, if_neg (fun e => ho (by rw [← e]; exact ⟨_, _, rfl⟩))], fun q g1 g2 => Nat.le_min.2 ⟨g2, Nat.le_trans g1 h5⟩, fun i hi => .inl ?_⟩
      · have d6 : Nat.ble (k + m) n = true := ble_t hfit
        unfold aAppend
        simp only [List.getElem?_toArray, List.getElem?_cons_zero, List.getElem?_cons_succ, hu, g1, g2, g4, g5, g6, hs, d1, d2, d3, d4, d5, d6, d7, open_cap, open_lb, Bool.not_true, Bool.or_false, Bool.false_eq_true, if_false, Nat.beq_refl, if_true, hw]
      · rw [lsplice_eq _ _ _ hfz, ← h9, List.take_append_of_le_length (by simp only [List.length_append, List.length_take]; rw [Nat.min_eq_left hkz, hn, ← Nat.add_mul]; exact Nat.le_refl _), List.take_of_length_le (by simp only [List.length_append, List.length_take]; rw [Nat.min_eq_left hkz, hn, ← Nat.add_mul]; exact Nat.le_refl _)]
      · obtain ⟨_, _, e⟩ := hi
        cases e; exact ⟨_, _, rfl⟩
    · refine ⟨.slice (some ⟨σ.next, 0, none⟩) (k + m) (OPENCAP + (k + m)), (σ.put b Blk.dead).new ⟨2, E, z, vals.take (k * z) ++ new, []⟩, ?_, ⟨hlen, hone, .inr ⟨σ.next, k + m, cs ++ new, rfl, Nat.le_refl _, hlo, Nat.lt_succ_self _, ?_, by rw [← hlen]; exact Nat.le_refl _, ?_⟩⟩, Nat.le_succ _, fun i hi ho => ?_, fun q g1 g2 => Nat.le_min.2 ⟨g2, Nat.le_trans g1 h5⟩, fun i hi => .inr ?_⟩
      · have d6 : Nat.ble (k + m) n = false := ble_f (by omega)
        have d8 : Nat.ble (k * z) (σ.get b).vals.length = true := by rw [h7]; exact ble_t hkz
        have d9 : Nat.beq (σ.get b).elem E = true := by rw [h7]; exact Nat.beq_refl _
        have d10 : (σ.get b).vals.take (k * z) = vals.take (k * z) := by rw [h7]
        unfold aAppend
        simp only [List.getElem?_toArray, List.getElem?_cons_zero, List.getElem?_cons_succ, hu, g1, g2, g4, g5, g6, hs, d1, d2, d3, d4, d5, d6, d7, d8, d9, d10, h1, open_cap, open_lb, Bool.not_true, Bool.or_false, Bool.and_self, Bool.false_eq_true, if_false, Nat.beq_refl, if_true]
      · rw [AS.get_new, h9]; exact if_pos rfl
      · rw [List.take_of_length_le (by rw [hlen]; exact Nat.le_refl _)]
      · rw [AS.get_new, if_neg (by show σ.next ≠ i; omega), AS.get_put, if_neg (fun e => ho (by rw [← e]; exact ⟨_, _, rfl⟩))]
      · obtain ⟨_, _, e⟩ := hi
        cases e; exact Nat.le_refl _

theorem open_slice {b n k : Nat} {E z : Nat} {vals : List Value} (el : El T E z) (hg : σ.get b = ⟨2, E, z, vals, []⟩) {lo hi : Option Value} {y : Value}
    (h : aSliceAt z (some ⟨b, 0, none⟩) k (OPENCAP + n) lo hi none = some y) : aSlice Try.prog σ T (.slice (some ⟨b, 0, none⟩) k (OPENCAP + n)) lo hi none = some y := by
  obtain ⟨hu, ⟨inf, zz, g1, g2, g3, g4, g5, g6⟩, g7⟩ := el
  unfold aSlice
  simp only [hu, g1, g2, open_cap, hg, if_true]
  rw [if_pos (by show (Nat.beq 2 2 && Nat.beq z z) = true; rw [Nat.beq_refl z]; rfl)]
  exact h

theorem Stk.cut (el : El T E z) (h : Stk lo E z σ v k cs) {j : Nat} (hj : j ≤ k) : ∃ x, aSlice Try.prog σ T v none (some (.int .i64 (j : Int))) none = some x ∧ Stk lo E z σ x j (cs.take (j * z)) ∧ (∀ i, Own x i → Own v i) ∧
    ∀ inf : TypeInfo, inf.size = z → aSource Try.prog σ false inf x = some (j, cs.take (j * z)) := by
  obtain ⟨c1, c2, ⟨rfl, rfl⟩ | ⟨b, n, vals, rfl, h4, h5, h6, h7, h8, h9⟩⟩ := h
  · obtain rfl : j = 0 := by omega
    refine ⟨.slice none 0 0, ?_, ⟨by simp, by simp, .inl ⟨rfl, rfl⟩⟩, fun i hi => hi, fun inf hi => by rw [Nat.zero_mul]; rfl⟩
    obtain ⟨hu, ⟨inf, zz, g1, g2, g3, g4, g5, g6⟩, g7⟩ := el
    unfold aSlice
    simp only [hu, g1, open_zero, g2]
    rfl
  · have hjz : j * z ≤ k * z := Nat.mul_le_mul_right z hj
    have hkz : k * z ≤ vals.length := Nat.le_trans (Nat.mul_le_mul_right z h4) h8
    have ht : cs.take (j * z) = vals.take (j * z) := by rw [← h9, List.take_take, Nat.min_eq_left hjz]
    refine ⟨.slice (some ⟨b, 0, none⟩) j (OPENCAP + n), open_slice el h7 ?_, ⟨by rw [List.length_take, c1, Nat.min_eq_left hjz], ?_, .inr ⟨b, n, vals, rfl, by omega, h5, h6, h7, h8, ht.symm⟩⟩, fun i hi => by obtain ⟨_, _, e⟩ := hi; cases e; exact ⟨_, _, rfl⟩, fun inf hi => ?_⟩
    · unfold aSliceAt
      simp only [aboundO, open_lb, abound_le j n (by omega), open_cap, if_true, Nat.beq_refl]
    · rw [List.all_eq_true] at c2 ⊢
      exact fun x hx => c2 x (List.mem_of_mem_take hx)
    · have hc : aCells σ ⟨b, 0, none⟩ (j * z) = some (cs.take (j * z)) := by
        unfold aCells
        simp only [h7, hasLen_eq, Nat.zero_add]
        rw [ble_t (show j * z ≤ vals.length by omega), ht]
        rfl
      unfold aSource
      simp only [Bool.false_eq_true, if_false, hi, aCellsS_none, hc]

theorem StkC.at (h : StkC lo E z σ v k cs) {i : Nat} (hi : i < k) : ∃ b c, v = .slice (some ⟨b, 0, none⟩) k c ∧ b < σ.next ∧ aCells σ ⟨b, i * z, none⟩ z = some ((cs.drop (i * z)).take z) := by
  have e1 : i * z + z ≤ k * z := by
    have := Nat.mul_le_mul_right z (show i + 1 ≤ k by omega)
    rw [Nat.add_mul, Nat.one_mul] at this; exact this
  rcases h with ⟨rfl, c1, c2, b, rfl, h3, h4, h5⟩ | ⟨c1, c2, ⟨rfl, rfl⟩ | ⟨b, n, vals, rfl, h4, h5, h6, h7, h8, h9⟩⟩
  · exact ⟨b, 1, rfl, h4, cells_at h5 rfl (by rw [c1]; omega)⟩
  · omega
  · have hkz : k * z ≤ vals.length := Nat.le_trans (Nat.mul_le_mul_right z h4) h8
    refine ⟨b, _, rfl, h6, ?_⟩
    unfold aCells
    simp only [h7, hasLen_eq]
    rw [ble_t (show i * z + z ≤ vals.length by omega), ← h9, List.drop_take, List.take_take, Nat.min_eq_left (by omega)]
    rfl

theorem Stk.rs {l : List Arc} (h : Stk lo 27 2 σ v l.length (cellsOf l)) : RS 2 RArc σ v l := by
  obtain ⟨_, c, rfl⟩ := h.len
  refine ⟨_, c, rfl, fun hl => ?_⟩
  obtain ⟨b, c2, e, hb, -⟩ := StkC.at (.inr h) (i := 0) (List.length_pos_iff.2 hl)
  cases e
  refine ⟨b, 0, rfl, hb, fun i x hx => ?_⟩
  obtain ⟨h1, h2⟩ := List.getElem?_eq_some_iff.1 hx
  obtain ⟨b', c', e, _, h3⟩ := StkC.at (.inr h) (i := i) h1
  cases e
  rw [cellsOf_at hx] at h3
  exact ⟨_, by rw [Nat.zero_add]; exact h3, rfl⟩

end
end Go.Proofs.Ytbknckiapcafdaa.Nest
