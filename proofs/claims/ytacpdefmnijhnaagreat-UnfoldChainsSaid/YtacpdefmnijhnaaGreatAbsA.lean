/- Definitions of an abstract memory, the relation between it and the model's world, and their plain laws. No program. -/
import Derived.WalkKit
set_option linter.unusedSimpArgs false
set_option linter.unusedVariables false
namespace Go.Proofs.YtacpdefmnijhnaaGreat.Abs

/-! ### Lists as total maps -/

def lget {α : Type} (d : α) : List α → Nat → α
  | [], _ => d
  | a :: _, 0 => a
  | _ :: l, n + 1 => lget d l n

/-! ### Arrays as trees: laid by the recursors themselves, for the kernel's sake -/

inductive D8 where
  | d0 | d1 | d2 | d3 | d4 | d5 | d6 | d7

/-- A place in a tree. -/
inductive P8 where
  | here
  | go (d : D8) (p : P8)

inductive T (α : Type) where
  | e
  | n (v : α) (c0 c1 c2 c3 c4 c5 c6 c7 : T α)

/-- if on a bit. -/
noncomputable def bite {α : Type} (b : Bool) (x y : α) : α := @Bool.rec (fun _ => α) y x b

theorem bite_eq {α : Type} (b : Bool) (x y : α) : bite b x y = if b = true then x else y := by cases b <;> rfl

noncomputable def d8 {α : Type} (d : D8) (x0 x1 x2 x3 x4 x5 x6 x7 : α) : α := @D8.rec (fun _ => α) x0 x1 x2 x3 x4 x5 x6 x7 d

noncomputable def dig (n : Nat) : D8 :=
  bite (Nat.beq n 0) .d0 (bite (Nat.beq n 1) .d1 (bite (Nat.beq n 2) .d2 (bite (Nat.beq n 3) .d3 (bite (Nat.beq n 4) .d4 (bite (Nat.beq n 5) .d5 (bite (Nat.beq n 6) .d6 .d7))))))

noncomputable def pthF (fuel : Nat) : Nat → P8 :=
  @Nat.rec (fun _ => Nat → P8) (fun _ => .here) (fun _ ih i => bite (Nat.beq i 0) .here (.go (dig (Nat.mod (Nat.pred i) 8)) (ih (Nat.div (Nat.pred i) 8)))) fuel

/-- The place of a number. -/
noncomputable def pth (i : Nat) : P8 := pthF (Nat.succ i) i

noncomputable def pget {α : Type} (d : α) (t : T α) : P8 → α :=
  @T.rec α (fun _ => P8 → α) (fun _ => d)
    (fun v _ _ _ _ _ _ _ _ g0 g1 g2 g3 g4 g5 g6 g7 p => @P8.rec (fun _ => α) v (fun dg p' _ => d8 dg (g0 p') (g1 p') (g2 p') (g3 p') (g4 p') (g5 p') (g6 p') (g7 p')) p) t

noncomputable def pone {α : Type} (d : α) (p : P8) (x : α) : T α :=
  @P8.rec (fun _ => T α) (.n x .e .e .e .e .e .e .e .e) (fun dg _ ih => d8 dg (.n d ih .e .e .e .e .e .e .e) (.n d .e ih .e .e .e .e .e .e) (.n d .e .e ih .e .e .e .e .e) (.n d .e .e .e ih .e .e .e .e) (.n d .e .e .e .e ih .e .e .e) (.n d .e .e .e .e .e ih .e .e) (.n d .e .e .e .e .e .e ih .e) (.n d .e .e .e .e .e .e .e ih)) p

noncomputable def pset {α : Type} (d : α) (t : T α) : P8 → α → T α :=
  @T.rec α (fun _ => P8 → α → T α) (fun p x => pone d p x)
    (fun v c0 c1 c2 c3 c4 c5 c6 c7 g0 g1 g2 g3 g4 g5 g6 g7 p x => @P8.rec (fun _ => T α) (.n x c0 c1 c2 c3 c4 c5 c6 c7) (fun dg p' _ => d8 dg (.n v (g0 p' x) c1 c2 c3 c4 c5 c6 c7) (.n v c0 (g1 p' x) c2 c3 c4 c5 c6 c7) (.n v c0 c1 (g2 p' x) c3 c4 c5 c6 c7) (.n v c0 c1 c2 (g3 p' x) c4 c5 c6 c7) (.n v c0 c1 c2 c3 (g4 p' x) c5 c6 c7) (.n v c0 c1 c2 c3 c4 (g5 p' x) c6 c7) (.n v c0 c1 c2 c3 c4 c5 (g6 p' x) c7) (.n v c0 c1 c2 c3 c4 c5 c6 (g7 p' x))) p) t

noncomputable def tget {α : Type} (d : α) (t : T α) (i : Nat) : α := pget d t (pth i)
noncomputable def tset {α : Type} (d : α) (t : T α) (i : Nat) (x : α) : T α := pset d t (pth i) x

section trees
variable {α : Type} {d v x : α} {c0 c1 c2 c3 c4 c5 c6 c7 : T α} {p q : P8} {k j : D8}

theorem pget_e : pget d .e p = d := rfl
theorem pget_here : pget d (.n v c0 c1 c2 c3 c4 c5 c6 c7) .here = v := rfl
theorem pget_go : pget d (.n v c0 c1 c2 c3 c4 c5 c6 c7) (.go k p) = pget d (d8 k c0 c1 c2 c3 c4 c5 c6 c7) p := by cases k <;> rfl
theorem pone_here : pone d .here x = .n x .e .e .e .e .e .e .e .e := rfl
theorem pset_e : pset d .e p x = pone d p x := rfl
theorem pset_here : pset d (.n v c0 c1 c2 c3 c4 c5 c6 c7) .here x = .n x c0 c1 c2 c3 c4 c5 c6 c7 := rfl

theorem pget_pone [DecidableEq P8] : ∀ (p q : P8), pget d (pone d p x) q = if p = q then x else d
  | .here, .here => by rw [pone_here, pget_here, if_pos rfl]
  | .here, .go j q => by
    rw [pone_here, pget_go, if_neg (fun h => nomatch h)]
    cases j <;> rfl
  | .go k p, .here => by
    rw [if_neg (fun h => nomatch h)]
    cases k <;> rfl
  | .go k p, .go j q => by
    have ih := pget_pone p q
    by_cases e : k = j
    · subst e
      have h1 : pget d (pone d (.go k p) x) (.go k q) = pget d (pone d p x) q := by cases k <;> rfl
      rw [h1, ih]
      by_cases e2 : p = q
      · rw [if_pos e2, if_pos (by rw [e2])]
      · rw [if_neg e2, if_neg (fun h => e2 (P8.go.inj h).2)]
    · rw [if_neg (fun h => e (P8.go.inj h).1)]
      cases k <;> cases j <;> first | rfl | exact absurd rfl e

theorem pget_pset [DecidableEq P8] : ∀ (t : T α) (p q : P8), pget d (pset d t p x) q = if p = q then x else pget d t q
  | .e, p, q => by rw [pset_e, pget_pone, pget_e]
  | .n v c0 c1 c2 c3 c4 c5 c6 c7, .here, .here => by rw [pset_here, pget_here, if_pos rfl]
  | .n v c0 c1 c2 c3 c4 c5 c6 c7, .here, .go j q => by rw [pset_here, pget_go, pget_go, if_neg (fun h => nomatch h)]
  | .n v c0 c1 c2 c3 c4 c5 c6 c7, .go k p, .here => by
    rw [if_neg (fun h => nomatch h)]
    cases k <;> rfl
  | .n v c0 c1 c2 c3 c4 c5 c6 c7, .go k p, .go j q => by
    by_cases e : k = j
    · subst e
      have h1 : pget d (pset d (.n v c0 c1 c2 c3 c4 c5 c6 c7) (.go k p) x) (.go k q) = pget d (pset d (d8 k c0 c1 c2 c3 c4 c5 c6 c7) p x) q := by cases k <;> rfl
      have ih : pget d (pset d (d8 k c0 c1 c2 c3 c4 c5 c6 c7) p x) q = if p = q then x else pget d (d8 k c0 c1 c2 c3 c4 c5 c6 c7) q := by
        cases k
        · exact pget_pset c0 p q
        · exact pget_pset c1 p q
        · exact pget_pset c2 p q
        · exact pget_pset c3 p q
        · exact pget_pset c4 p q
        · exact pget_pset c5 p q
        · exact pget_pset c6 p q
        · exact pget_pset c7 p q
      rw [h1, ih, pget_go]
      by_cases e2 : p = q
      · rw [if_pos e2, if_pos (by rw [e2])]
      · rw [if_neg e2, if_neg (fun h => e2 (P8.go.inj h).2)]
    · rw [if_neg (fun h => e (P8.go.inj h).1)]
      cases k <;> cases j <;> first | rfl | exact absurd rfl e

theorem dig_inj {a b : Nat} (ha : a < 8) (hb : b < 8) (h : dig a = dig b) : a = b := by
  have one : ∀ n, n < 8 → dig n = .d0 ∧ n = 0 ∨ dig n = .d1 ∧ n = 1 ∨ dig n = .d2 ∧ n = 2 ∨ dig n = .d3 ∧ n = 3 ∨ dig n = .d4 ∧ n = 4 ∨ dig n = .d5 ∧ n = 5 ∨ dig n = .d6 ∧ n = 6 ∨ dig n = .d7 ∧ n = 7 := by
    intro n hn
    match n, hn with
    | 0, _ => exact .inl ⟨rfl, rfl⟩
    | 1, _ => exact .inr (.inl ⟨rfl, rfl⟩)
    | 2, _ => exact .inr (.inr (.inl ⟨rfl, rfl⟩))
    | 3, _ => exact .inr (.inr (.inr (.inl ⟨rfl, rfl⟩)))
    | 4, _ => exact .inr (.inr (.inr (.inr (.inl ⟨rfl, rfl⟩))))
    | 5, _ => exact .inr (.inr (.inr (.inr (.inr (.inl ⟨rfl, rfl⟩)))))
    | 6, _ => exact .inr (.inr (.inr (.inr (.inr (.inr (.inl ⟨rfl, rfl⟩))))))
    | 7, _ => exact .inr (.inr (.inr (.inr (.inr (.inr (.inr ⟨rfl, rfl⟩))))))
  rcases one a ha with h1 | h1 | h1 | h1 | h1 | h1 | h1 | h1 <;> rcases one b hb with h2 | h2 | h2 | h2 | h2 | h2 | h2 | h2 <;>
    first | (rw [h1.2, h2.2]; done) | (rw [h1.1, h2.1] at h; cases h)

theorem pthF_s (f i : Nat) : pthF (f + 1) i = if i = 0 then .here else .go (dig ((i - 1) % 8)) (pthF f ((i - 1) / 8)) := by
  show bite (Nat.beq i 0) P8.here (.go (dig (Nat.pred i % 8)) (pthF f (Nat.pred i / 8))) = _
  rw [bite_eq]
  simp only [Nat.beq_eq]
  rfl

theorem pthF_inj : ∀ (f g i j : Nat), i < f → j < g → pthF f i = pthF g j → i = j
  | 0, _, _, _, h, _, _ => by omega
  | _ + 1, 0, _, _, _, h, _ => by omega
  | f + 1, g + 1, i, j, hi, hj, h => by
    rw [pthF_s, pthF_s] at h
    by_cases h1 : i = 0
    · rw [if_pos h1] at h
      by_cases h2 : j = 0
      · omega
      · rw [if_neg h2] at h; cases h
    · rw [if_neg h1] at h
      by_cases h2 : j = 0
      · rw [if_pos h2] at h; cases h
      · rw [if_neg h2] at h
        obtain ⟨h3, h4⟩ := P8.go.inj h
        have h3 := dig_inj (Nat.mod_lt _ (by omega)) (Nat.mod_lt _ (by omega)) h3
        have h4 := pthF_inj f g _ _ (by omega) (by omega) h4
        omega

theorem tget_tset (d : α) (t : T α) (i j : Nat) (x : α) : tget d (tset d t i x) j = if i = j then x else tget d t j := by
  unfold tget tset
  haveI : DecidableEq P8 := fun _ _ => Classical.propDecidable _
  rw [pget_pset]
  by_cases e : i = j
  · rw [if_pos e, if_pos (by rw [e])]
  · rw [if_neg e, if_neg (show ¬ pth i = pth j from fun h => e (pthF_inj _ _ _ _ (Nat.lt_succ_self _) (Nat.lt_succ_self _) h))]
end trees

/-! ### Blocks, heap, state -/

/-- kind: 0 dead, 1 cells, all known, 2 cells, a known beginning, 3 map, 4 an iterator over a string, 5 cells that are read alone, some of them known -/
structure Blk where
  kind : Nat
  elem : TypeId
  esz : Nat
  vals : List Value
  ents : List (Value × Value)

def Blk.dead : Blk := ⟨0, 0, 0, [], []⟩

abbrev HeapT : Type := T Blk

noncomputable def hget (h : HeapT) (i : Nat) : Blk := tget Blk.dead h i
noncomputable def hput (h : HeapT) (i : Nat) (b : Blk) : HeapT := tset Blk.dead h i b

theorem hget_hput (h : HeapT) (i j : Nat) (b : Blk) : hget (hput h i b) j = if i = j then b else hget h j := tget_tset _ _ _ _ _

structure AS where
  next : Nat
  low : Nat
  heap : HeapT

noncomputable def AS.get (σ : AS) (i : Nat) : Blk := hget σ.heap i
/-- A new block. -/
noncomputable def AS.new (σ : AS) (b : Blk) : AS := ⟨σ.next + 1, σ.low, hput σ.heap σ.next b⟩
/-- A block is changed. -/
noncomputable def AS.put (σ : AS) (i : Nat) (b : Blk) : AS := ⟨σ.next, Nat.min σ.low i, hput σ.heap i b⟩

theorem AS.get_new (σ : AS) (b : Blk) (j : Nat) : (σ.new b).get j = if σ.next = j then b else σ.get j := hget_hput _ _ _ _
theorem AS.get_put (σ : AS) (i : Nat) (b : Blk) (j : Nat) : (σ.put i b).get j = if i = j then b else σ.get j := hget_hput _ _ _ _

/-! ### Relations of lists -/

def LRel {α β : Type} (R : α → β → Prop) : List α → List β → Prop
  | [], [] => True
  | a :: l, b :: m => R a b ∧ LRel R l m
  | _, _ => False

theorem LRel.length {α β : Type} {R : α → β → Prop} : ∀ {l : List α} {m : List β}, LRel R l m → l.length = m.length
  | [], [], _ => rfl
  | _ :: _, _ :: _, h => by simp [LRel.length h.2]
  | [], _ :: _, h => h.elim
  | _ :: _, [], h => h.elim

theorem LRel.mono {α β : Type} {R S : α → β → Prop} (hrs : ∀ a b, R a b → S a b) : ∀ {l : List α} {m : List β}, LRel R l m → LRel S l m
  | [], [], _ => trivial
  | _ :: _, _ :: _, h => ⟨hrs _ _ h.1, LRel.mono hrs h.2⟩
  | [], _ :: _, h => h.elim
  | _ :: _, [], h => h.elim

theorem LRel.append {α β : Type} {R : α → β → Prop} : ∀ {l : List α} {m : List β} {l' : List α} {m' : List β}, LRel R l m → LRel R l' m' → LRel R (l ++ l') (m ++ m')
  | [], [], _, _, _, h' => h'
  | _ :: _, _ :: _, _, _, h, h' => ⟨h.1, LRel.append h.2 h'⟩
  | [], _ :: _, _, _, h, _ => h.elim
  | _ :: _, [], _, _, h, _ => h.elim

theorem LRel.take {α β : Type} {R : α → β → Prop} : ∀ (n : Nat) {l : List α} {m : List β}, LRel R l m → LRel R (l.take n) (m.take n)
  | 0, _, _, _ => by simp [LRel]
  | _ + 1, [], [], _ => by simp [LRel]
  | n + 1, _ :: _, _ :: _, h => ⟨h.1, LRel.take n h.2⟩
  | _ + 1, [], _ :: _, h => h.elim
  | _ + 1, _ :: _, [], h => h.elim

theorem LRel.drop {α β : Type} {R : α → β → Prop} : ∀ (n : Nat) {l : List α} {m : List β}, LRel R l m → LRel R (l.drop n) (m.drop n)
  | 0, _, _, h => h
  | _ + 1, [], [], _ => by simp [LRel]
  | n + 1, _ :: _, _ :: _, h => LRel.drop n h.2
  | _ + 1, [], _ :: _, h => h.elim
  | _ + 1, _ :: _, [], h => h.elim

theorem LRel.get {α β : Type} {R : α → β → Prop} : ∀ {l : List α} {m : List β} (i : Nat) {a : α}, LRel R l m → l[i]? = some a → ∃ b, m[i]? = some b ∧ R a b
  | [], _, i, a, _, h => by simp at h
  | x :: l, y :: m, 0, a, h, e => by simp at e; subst e; exact ⟨y, by simp, h.1⟩
  | x :: l, y :: m, i + 1, a, h, e => by
    obtain ⟨b, hb, hr⟩ := LRel.get i h.2 (by simpa using e)
    exact ⟨b, by simpa using hb, hr⟩
  | _ :: _, [], _, _, h, _ => h.elim

theorem LRel.getR {α β : Type} {R : α → β → Prop} : ∀ {l : List α} {m : List β} (i : Nat) {b : β}, LRel R l m → m[i]? = some b → ∃ a, l[i]? = some a ∧ R a b
  | _, [], i, a, _, h => by simp at h
  | x :: l, y :: m, 0, a, h, e => by simp at e; subst e; exact ⟨x, by simp, h.1⟩
  | x :: l, y :: m, i + 1, a, h, e => by
    obtain ⟨b, hb, hr⟩ := LRel.getR i h.2 (by simpa using e)
    exact ⟨b, by simpa using hb, hr⟩
  | [], _ :: _, _, _, h, _ => h.elim

theorem LRel.set {α β : Type} {R : α → β → Prop} : ∀ {l : List α} {m : List β} (i : Nat) {a : α} {b : β}, LRel R l m → R a b → LRel R (l.set i a) (m.set i b)
  | [], [], _, _, _, _, _ => by simp [LRel]
  | _ :: _, _ :: _, 0, _, _, h, r => ⟨r, h.2⟩
  | _ :: _, _ :: _, i + 1, _, _, h, r => ⟨h.1, LRel.set i h.2 r⟩
  | [], _ :: _, _, _, _, h, _ => h.elim
  | _ :: _, [], _, _, _, h, _ => h.elim

theorem LRel.map {α β γ δ : Type} {R : γ → δ → Prop} (f : α → γ) (g : β → δ) : ∀ {l : List α} {m : List β}, LRel (fun a b => R (f a) (g b)) l m → LRel R (l.map f) (m.map g)
  | [], [], _ => trivial
  | _ :: _, _ :: _, h => ⟨h.1, LRel.map f g h.2⟩
  | [], _ :: _, h => h.elim
  | _ :: _, [], h => h.elim

theorem LRel.split {α β : Type} {R : α → β → Prop} {l1 l2 : List α} : ∀ {m : List β}, LRel R (l1 ++ l2) m → ∃ m1 m2, m = m1 ++ m2 ∧ LRel R l1 m1 ∧ LRel R l2 m2 := by
  induction l1 with
  | nil => intro m h; exact ⟨[], m, rfl, trivial, h⟩
  | cons a l ih =>
    intro m h
    cases m with
    | nil => exact h.elim
    | cons b m =>
      obtain ⟨m1, m2, rfl, h1, h2⟩ := ih h.2
      exact ⟨b :: m1, m2, rfl, ⟨h.1, h1⟩, h2⟩

theorem LRel.rev {α β : Type} {R : α → β → Prop} {l : List α} {m : List β} (h : LRel R l m) : LRel R l.reverse m.reverse := by
  induction l generalizing m with
  | nil => cases m with
    | nil => simp [LRel]
    | cons _ _ => exact h.elim
  | cons a l ih => cases m with
    | nil => exact h.elim
    | cons b m =>
      simp only [List.reverse_cons]
      exact (ih h.2).append ⟨h.1, trivial⟩

/-! ### Renamings and values -/

/-- Which block of the world an abstract block is; of an open block: how many cells it has, and how many make an element. -/
structure Ren where
  bl : Nat → Option Nat
  sz : Nat → Nat × Nat

def Ren.le (ρ τ : Ren) : Prop := ∀ i b, ρ.bl i = some b → τ.bl i = some b ∧ τ.sz i = ρ.sz i

theorem Ren.le_refl (ρ : Ren) : ρ.le ρ := fun _ _ h => ⟨h, rfl⟩
theorem Ren.le_trans {ρ τ υ : Ren} (h : ρ.le τ) (h' : τ.le υ) : ρ.le υ := fun i b hb =>
  ⟨(h' i b (h i b hb).1).1, ((h' i b (h i b hb).1).2).trans (h i b hb).2⟩

/-- The names below n alone. -/
def Ren.below (ρ : Ren) (n : Nat) : Ren := ⟨fun i => if i < n then ρ.bl i else none, ρ.sz⟩

theorem Ren.below_le (ρ : Ren) (n : Nat) : (ρ.below n).le ρ := fun i b h => by
  simp only [Ren.below] at h
  split at h
  · exact ⟨h, rfl⟩
  · cases h

theorem Ren.below_mono {ρ τ : Ren} {n m : Nat} (h : ρ.le τ) (hn : n ≤ m) : (ρ.below n).le (τ.below m) := fun i b hb => by
  simp only [Ren.below] at hb ⊢
  split at hb
  · rename_i hi; rw [if_pos (by omega)]; exact h i b hb
  · cases hb

def OPENCAP : Nat := 18446744073709551616

def CapRel (s : Nat × Nat) (off c c' : Nat) : Prop :=
  if c < OPENCAP then c' = c else c - OPENCAP ≤ c' ∧ 0 < s.2 ∧ off + c' * s.2 = s.1

/-- Two numbers as one. -/
def enc (x y : Nat) : Nat := (x + y) * (x + y) + y

theorem enc_inj {x y z w : Nat} (h : enc x y = enc z w) : x = z ∧ y = w := by
  unfold enc at h
  have h1 : x + y = z + w := by
    rcases Nat.lt_trichotomy (x + y) (z + w) with hlt | he | hgt
    · have h2 : (x + y + 1) * (x + y + 1) ≤ (z + w) * (z + w) := Nat.mul_le_mul hlt hlt
      have h3 : (x + y + 1) * (x + y + 1) = (x + y) * (x + y) + (x + y) + (x + y + 1) := by rw [Nat.add_mul, Nat.mul_add]; omega
      omega
    · exact he
    · have h2 : (z + w + 1) * (z + w + 1) ≤ (x + y) * (x + y) := Nat.mul_le_mul hgt hgt
      have h3 : (z + w + 1) * (z + w + 1) = (z + w) * (z + w) + (z + w) + (z + w + 1) := by rw [Nat.add_mul, Nat.mul_add]; omega
      omega
  rw [h1] at h
  omega

def spotOf : Nat → Option Nat
  | 0 => none
  | n + 1 => some n

def spotNo : Option Nat → Nat
  | none => 0
  | some n => n + 1

theorem spotOf_no (s : Option Nat) : spotOf (spotNo s) = s := by cases s <;> rfl

/-- A slice of length 0, under a number: one whose address names no block of the memory, or what is left of an open slice that is cut at its known length. -/
def voidLit (a : Addr) : Nat := 2 * enc a.block (enc a.off (spotNo a.spot))
def voidCut (a : Addr) (c l z : Nat) : Nat := 2 * enc a.block (enc a.off (enc c (enc l z))) + 1

def Void (ρ : Ren) (k : Nat) (v' : Value) : Prop :=
  (∃ a : Addr, k = voidLit a ∧ v' = .slice (some a) 0 0) ∨
  (∃ (a : Addr) (c l z b c' : Nat), k = voidCut a c l z ∧ ρ.bl a.block = some b ∧ CapRel (ρ.sz a.block) a.off c c' ∧
    v' = .slice (some ⟨b, if c' = l then a.off else a.off + l * z, none⟩) 0 (c' - l))

theorem voidLit_inj {a b : Addr} (h : voidLit a = voidLit b) : a = b := by
  obtain ⟨h1, h2⟩ := enc_inj (Nat.eq_of_mul_eq_mul_left (by decide) h)
  obtain ⟨h2, h3⟩ := enc_inj h2
  obtain ⟨x, y, s⟩ := a
  obtain ⟨x', y', s'⟩ := b
  have h4 : s = s' := by rw [← spotOf_no s, ← spotOf_no s']; exact congrArg spotOf h3
  simp only at h1 h2
  rw [h1, h2, h4]

theorem CapRel.det {s : Nat × Nat} {o c x y : Nat} (h : CapRel s o c x) (h' : CapRel s o c y) : x = y := by
  unfold CapRel at h h'
  split at h
  · rename_i hc; rw [if_pos hc] at h'; omega
  · rename_i hc
    rw [if_neg hc] at h'
    exact Nat.eq_of_mul_eq_mul_right h.2.1 (by omega)

theorem voidLit_even (a : Addr) : voidLit a % 2 = 0 := by unfold voidLit; omega

theorem voidCut_ge (a : Addr) (c l z : Nat) : voidCut a c l z % 2 = 1 ∧ a.block ≤ voidCut a c l z := by
  unfold voidCut
  refine ⟨by omega, ?_⟩
  have : ∀ x y, x ≤ enc x y := fun x y => by
    unfold enc
    rcases Nat.eq_zero_or_pos x with h | h
    · omega
    · have : (x + y) * 1 ≤ (x + y) * (x + y) := Nat.mul_le_mul_left _ (by omega)
      omega
  have := this a.block (enc a.off (enc c (enc l z)))
  omega

theorem Void.slice {ρ : Ren} {k : Nat} {v' : Value} (h : Void ρ k v') : ∃ a c, v' = .slice (some a) 0 c := by
  rcases h with ⟨a, _, rfl⟩ | ⟨a, c, l, z, b, c', _, _, _, rfl⟩
  · exact ⟨_, _, rfl⟩
  · exact ⟨_, _, rfl⟩

theorem Void.ext {ρ τ : Ren} {k : Nat} {v' : Value} (hle : ρ.le τ) (h : Void ρ k v') : Void τ k v' := by
  rcases h with h | ⟨a, c, l, z, b, c', h1, h2, h3, h4⟩
  · exact .inl h
  · exact .inr ⟨a, c, l, z, b, c', h1, (hle _ _ h2).1, by rw [(hle _ _ h2).2]; exact h3, h4⟩

theorem Void.det {ρ τ : Ren} {k : Nat} {v w : Value} (hle : ρ.le τ) (h : Void ρ k v) (h' : Void τ k w) : v = w := by
  rcases h with ⟨a, rfl, rfl⟩ | ⟨a, c, l, z, b, c', rfl, h2, h3, rfl⟩ <;> rcases h' with ⟨a', e, rfl⟩ | ⟨a', x, m, y, b', x', e, e2, e3, rfl⟩
  · rw [voidLit_inj e]
  · unfold voidLit voidCut at e; omega
  · unfold voidLit voidCut at e; omega
  · obtain ⟨g1, e⟩ := enc_inj (Nat.eq_of_mul_eq_mul_left (show 0 < 2 by decide) (Nat.add_right_cancel e))
    obtain ⟨g2, e⟩ := enc_inj e
    obtain ⟨g3, e⟩ := enc_inj e
    obtain ⟨g4, g5⟩ := enc_inj e
    rw [← g1] at e2 e3
    rw [(hle _ _ h2).1] at e2
    rw [(hle _ _ h2).2, ← g2, ← g3] at e3
    cases e2
    rw [h3.det e3, g2, g4, g5]

/-- A slice of length 0 and capacity 0 whose address is told as it is: the mark is the spot. -/
def litA (a : Addr) : Addr := ⟨a.block, a.off, spotOf (a.spot.getD 0)⟩
def litOf (a : Addr) : Addr := ⟨a.block, a.off, some (spotNo a.spot)⟩
theorem litA_of (a : Addr) : litA (litOf a) = a := by
  obtain ⟨b, o, s⟩ := a
  show (⟨b, o, spotOf (spotNo s)⟩ : Addr) = ⟨b, o, s⟩
  rw [spotOf_no]

def VRelN (ρ : Ren) : Nat → Value → Value → Prop
  | 0, _, _ => False
  | n + 1, v, v' => match v with
    | .pointer (some a) => ∃ b, ρ.bl a.block = some b ∧ a.spot = none ∧ v' = .pointer (some ⟨b, a.off, none⟩)
    | .slice (some a) l c => (∃ b c', ρ.bl a.block = some b ∧ a.spot = none ∧ CapRel (ρ.sz a.block) a.off c c' ∧ v' = .slice (some ⟨b, a.off, none⟩) l c') ∨
        (a.spot ≠ none ∧ l = 0 ∧ c = 0 ∧ v' = .slice (some (litA a)) 0 0)
    | .map (some r) => ∃ b, ρ.bl r = some b ∧ v' = .map (some b)
    | .func fn f c => ∃ f' c', LRel (VRelN ρ n) f.toList f' ∧ LRel (VRelN ρ n) c.toList c' ∧ v' = .func fn f'.toArray c'.toArray
    | .iface t x => ∃ x', VRelN ρ n x x' ∧ v' = .iface t x'
    | .agg cs => ∃ cs', LRel (VRelN ρ n) cs.toList cs' ∧ v' = .agg cs'.toArray
    | .tuple cs => ∃ cs', LRel (VRelN ρ n) cs.toList cs' ∧ v' = .tuple cs'.toArray
    | .chan none => False
    | .chan (some k) => Void ρ k v'
    | v => v' = v

theorem VRelN.succ {ρ : Ren} : ∀ {n : Nat} {v v' : Value}, VRelN ρ n v v' → VRelN ρ (n + 1) v v'
  | 0, _, _, h => h.elim
  | n + 1, v, v', h => by
    have ih : ∀ a b, VRelN ρ n a b → VRelN ρ (n + 1) a b := fun a b => VRelN.succ
    cases v
    case func fn f c =>
      obtain ⟨f', c', hf, hc, e⟩ := h
      exact ⟨f', c', hf.mono ih, hc.mono ih, e⟩
    case iface t x =>
      obtain ⟨x', hx, e⟩ := h
      exact ⟨x', ih _ _ hx, e⟩
    case agg cs =>
      obtain ⟨x', hx, e⟩ := h
      exact ⟨x', hx.mono ih, e⟩
    case tuple cs =>
      obtain ⟨x', hx, e⟩ := h
      exact ⟨x', hx.mono ih, e⟩
    case pointer a => cases a <;> exact h
    case slice a l c => cases a <;> exact h
    case map a => cases a <;> exact h
    case chan a => cases a <;> exact h
    all_goals exact h

theorem VRelN.up {ρ : Ren} {n m : Nat} {v v' : Value} (hnm : n ≤ m) (h : VRelN ρ n v v') : VRelN ρ m v v' := by
  induction hnm with
  | refl => exact h
  | step _ ih => exact ih.succ

theorem VRelN.ext {ρ τ : Ren} (hle : ρ.le τ) : ∀ {n : Nat} {v v' : Value}, VRelN ρ n v v' → VRelN τ n v v'
  | 0, _, _, h => h.elim
  | n + 1, v, v', h => by
    have ih : ∀ a b, VRelN ρ n a b → VRelN τ n a b := fun a b => VRelN.ext hle
    cases v
    case pointer a =>
      cases a with
      | none => exact h
      | some a => obtain ⟨b, hb, hs, e⟩ := h; exact ⟨b, (hle _ _ hb).1, hs, e⟩
    case slice a l c =>
      cases a with
      | none => exact h
      | some a =>
        rcases h with ⟨b, c', hb, hs, hc, e⟩ | h
        · exact .inl ⟨b, c', (hle _ _ hb).1, hs, by rw [(hle _ _ hb).2]; exact hc, e⟩
        · exact .inr h
    case map a =>
      cases a with
      | none => exact h
      | some a => obtain ⟨b, hb, e⟩ := h; exact ⟨b, (hle _ _ hb).1, e⟩
    case chan a =>
      cases a with
      | none => exact h
      | some a => exact Void.ext hle h
    case func fn f c =>
      obtain ⟨f', c', hf, hc, e⟩ := h
      exact ⟨f', c', hf.mono ih, hc.mono ih, e⟩
    case iface t x =>
      obtain ⟨x', hx, e⟩ := h
      exact ⟨x', ih _ _ hx, e⟩
    case agg cs =>
      obtain ⟨x', hx, e⟩ := h
      exact ⟨x', hx.mono ih, e⟩
    case tuple cs =>
      obtain ⟨x', hx, e⟩ := h
      exact ⟨x', hx.mono ih, e⟩
    all_goals exact h

def VRel (ρ : Ren) (v v' : Value) : Prop := ∃ n, VRelN ρ n v v'

theorem VRel.ext {ρ τ : Ren} {v v' : Value} (hle : ρ.le τ) (h : VRel ρ v v') : VRel τ v v' := h.imp fun _ h => h.ext hle

theorem VRel.inv {ρ : Ren} {v v' : Value} (h : VRel ρ v v') : ∃ n, VRelN ρ (n + 1) v v' := by
  obtain ⟨n, h⟩ := h
  cases n with
  | zero => exact h.elim
  | succ n => exact ⟨n, h⟩

/-- A list of related values is related at one depth. -/
theorem LRel.depth {ρ : Ren} : ∀ {l l' : List Value}, LRel (VRel ρ) l l' → ∃ n, LRel (VRelN ρ n) l l'
  | [], [], _ => ⟨0, trivial⟩
  | _ :: _, _ :: _, h => by
    obtain ⟨⟨n, hn⟩, ht⟩ := h
    obtain ⟨m, hm⟩ := LRel.depth ht
    exact ⟨max n m, hn.up (Nat.le_max_left _ _), hm.mono fun _ _ h => h.up (Nat.le_max_right _ _)⟩
  | [], _ :: _, h => h.elim
  | _ :: _, [], h => h.elim

theorem LRel.of_depth {ρ : Ren} {n : Nat} {l l' : List Value} (h : LRel (VRelN ρ n) l l') : LRel (VRel ρ) l l' := h.mono fun _ _ h => ⟨n, h⟩

section shapes
variable {ρ : Ren} {v' : Value}

theorem vrel_bool {b : Bool} : VRel ρ (.bool b) v' ↔ v' = .bool b := ⟨fun h => by obtain ⟨n, h⟩ := h.inv; exact h, fun h => ⟨1, h⟩⟩
theorem vrel_int {k : IntKind} {i : Int} : VRel ρ (.int k i) v' ↔ v' = .int k i := ⟨fun h => by obtain ⟨n, h⟩ := h.inv; exact h, fun h => ⟨1, h⟩⟩
theorem vrel_float {k : FloatKind} {i : Nat} : VRel ρ (.float k i) v' ↔ v' = .float k i := ⟨fun h => by obtain ⟨n, h⟩ := h.inv; exact h, fun h => ⟨1, h⟩⟩
theorem vrel_complex {k : FloatKind} {a b : Nat} : VRel ρ (.complex k a b) v' ↔ v' = .complex k a b := ⟨fun h => by obtain ⟨n, h⟩ := h.inv; exact h, fun h => ⟨1, h⟩⟩
theorem vrel_string {s : ByteArray} : VRel ρ (.string s) v' ↔ v' = .string s := ⟨fun h => by obtain ⟨n, h⟩ := h.inv; exact h, fun h => ⟨1, h⟩⟩
theorem vrel_ptr_none : VRel ρ (.pointer none) v' ↔ v' = .pointer none := ⟨fun h => by obtain ⟨n, h⟩ := h.inv; exact h, fun h => ⟨1, h⟩⟩
theorem vrel_slice_none {l c : Nat} : VRel ρ (.slice none l c) v' ↔ v' = .slice none l c := ⟨fun h => by obtain ⟨n, h⟩ := h.inv; exact h, fun h => ⟨1, h⟩⟩
theorem vrel_map_none : VRel ρ (.map none) v' ↔ v' = .map none := ⟨fun h => by obtain ⟨n, h⟩ := h.inv; exact h, fun h => ⟨1, h⟩⟩
theorem vrel_nilFunc : VRel ρ .nilFunc v' ↔ v' = .nilFunc := ⟨fun h => by obtain ⟨n, h⟩ := h.inv; exact h, fun h => ⟨1, h⟩⟩
theorem vrel_nilIface : VRel ρ .nilIface v' ↔ v' = .nilIface := ⟨fun h => by obtain ⟨n, h⟩ := h.inv; exact h, fun h => ⟨1, h⟩⟩
theorem vrel_chan_none : VRel ρ (.chan none) v' ↔ False := ⟨fun ⟨n, h⟩ => by cases n <;> exact h.elim, False.elim⟩
theorem vrel_void {k : Nat} : VRel ρ (.chan (some k)) v' ↔ Void ρ k v' := ⟨fun h => by obtain ⟨n, h⟩ := h.inv; exact h, fun h => ⟨1, h⟩⟩
theorem vrel_chan {r : Option Nat} (h : VRel ρ (.chan r) v') : ∃ a c, v' = .slice (some a) 0 c := by
  cases r with
  | none => exact (vrel_chan_none.1 h).elim
  | some k => exact (vrel_void.1 h).slice
theorem vrel_ptr {a : Addr} : VRel ρ (.pointer (some a)) v' ↔ ∃ b, ρ.bl a.block = some b ∧ a.spot = none ∧ v' = .pointer (some ⟨b, a.off, none⟩) :=
  ⟨fun h => by obtain ⟨n, h⟩ := h.inv; exact h, fun h => ⟨1, h⟩⟩
theorem vrel_slice {a : Addr} {l c : Nat} : VRel ρ (.slice (some a) l c) v' ↔
    (∃ b c', ρ.bl a.block = some b ∧ a.spot = none ∧ CapRel (ρ.sz a.block) a.off c c' ∧ v' = .slice (some ⟨b, a.off, none⟩) l c') ∨ (a.spot ≠ none ∧ l = 0 ∧ c = 0 ∧ v' = .slice (some (litA a)) 0 0) :=
  ⟨fun h => by obtain ⟨n, h⟩ := h.inv; exact h, fun h => ⟨1, h⟩⟩
theorem vrel_slice_mk {a : Addr} {l c : Nat} (h : ∃ b c', ρ.bl a.block = some b ∧ a.spot = none ∧ CapRel (ρ.sz a.block) a.off c c' ∧ v' = .slice (some ⟨b, a.off, none⟩) l c') : VRel ρ (.slice (some a) l c) v' := vrel_slice.2 (.inl h)
theorem vrel_slice_shape {a : Addr} {l c : Nat} (h : VRel ρ (.slice (some a) l c) v') : ∃ a' c', v' = .slice (some a') l c' ∧ (c < OPENCAP → c' = c) := by
  rcases vrel_slice.1 h with ⟨b, c', _, _, h3, rfl⟩ | ⟨_, rfl, rfl, rfl⟩
  · exact ⟨_, _, rfl, fun hc => by unfold CapRel at h3; rw [if_pos hc] at h3; exact h3⟩
  · exact ⟨_, _, rfl, fun _ => rfl⟩
theorem vrel_map {r : Nat} : VRel ρ (.map (some r)) v' ↔ ∃ b, ρ.bl r = some b ∧ v' = .map (some b) :=
  ⟨fun h => by obtain ⟨n, h⟩ := h.inv; exact h, fun h => ⟨1, h⟩⟩
theorem vrel_iface {t : TypeId} {x : Value} : VRel ρ (.iface t x) v' ↔ ∃ x', VRel ρ x x' ∧ v' = .iface t x' :=
  ⟨fun ⟨n, h⟩ => by
    cases n with
    | zero => exact h.elim
    | succ n => obtain ⟨x', hx, e⟩ := h; exact ⟨x', ⟨n, hx⟩, e⟩, fun ⟨x', ⟨n, hx⟩, e⟩ => ⟨n + 1, x', hx, e⟩⟩
theorem vrel_agg {cs : Array Value} : VRel ρ (.agg cs) v' ↔ ∃ cs', LRel (VRel ρ) cs.toList cs' ∧ v' = .agg cs'.toArray :=
  ⟨fun ⟨n, h⟩ => by
    cases n with
    | zero => exact h.elim
    | succ n => obtain ⟨x', hx, e⟩ := h; exact ⟨x', hx.of_depth, e⟩, fun ⟨x', hx, e⟩ => by obtain ⟨n, hn⟩ := hx.depth; exact ⟨n + 1, x', hn, e⟩⟩
theorem vrel_tuple {cs : Array Value} : VRel ρ (.tuple cs) v' ↔ ∃ cs', LRel (VRel ρ) cs.toList cs' ∧ v' = .tuple cs'.toArray :=
  ⟨fun ⟨n, h⟩ => by
    cases n with
    | zero => exact h.elim
    | succ n => obtain ⟨x', hx, e⟩ := h; exact ⟨x', hx.of_depth, e⟩, fun ⟨x', hx, e⟩ => by obtain ⟨n, hn⟩ := hx.depth; exact ⟨n + 1, x', hn, e⟩⟩
theorem vrel_func {fn : Fn} {f c : Array Value} : VRel ρ (.func fn f c) v' ↔
    ∃ f' c', LRel (VRel ρ) f.toList f' ∧ LRel (VRel ρ) c.toList c' ∧ v' = .func fn f'.toArray c'.toArray :=
  ⟨fun ⟨n, h⟩ => by
    cases n with
    | zero => exact h.elim
    | succ n => obtain ⟨f', c', hf, hc, e⟩ := h; exact ⟨f', c', hf.of_depth, hc.of_depth, e⟩,
   fun ⟨f', c', hf, hc, e⟩ => by
    obtain ⟨n, hn⟩ := hf.depth
    obtain ⟨m, hm⟩ := hc.depth
    exact ⟨max n m + 1, f', c', hn.mono fun _ _ h => h.up (Nat.le_max_left _ _), hm.mono fun _ _ h => h.up (Nat.le_max_right _ _), e⟩⟩

theorem vrel_undef : VRel ρ undef undef := vrel_tuple.2 ⟨[], trivial, rfl⟩
end shapes

theorem VRel.cells {ρ : Ren} {v v' : Value} (h : VRel ρ v v') : LRel (VRel ρ) v.cells.toList v'.cells.toList := by
  have one : ∀ u u', VRel ρ u u' → LRel (VRel ρ) [u] [u'] := fun _ _ h => ⟨h, trivial⟩
  cases v
  case agg cs => obtain ⟨cs', hc, rfl⟩ := vrel_agg.1 h; exact hc
  case pointer a =>
    cases a with
    | none => obtain rfl := vrel_ptr_none.1 h; exact one _ _ h
    | some a => obtain ⟨b, _, _, rfl⟩ := vrel_ptr.1 h; exact one _ _ h
  case slice a l c =>
    cases a with
    | none => obtain rfl := vrel_slice_none.1 h; exact one _ _ h
    | some a => obtain ⟨_, _, rfl, _⟩ := vrel_slice_shape h; exact one _ _ h
  case map a =>
    cases a with
    | none => obtain rfl := vrel_map_none.1 h; exact one _ _ h
    | some a => obtain ⟨b, _, rfl⟩ := vrel_map.1 h; exact one _ _ h
  case func fn f c => obtain ⟨f', c', _, _, rfl⟩ := vrel_func.1 h; exact one _ _ h
  case iface t x => obtain ⟨x', _, rfl⟩ := vrel_iface.1 h; exact one _ _ h
  case tuple cs => obtain ⟨x', _, rfl⟩ := vrel_tuple.1 h; exact one _ _ h
  case chan r => obtain ⟨a, c, rfl⟩ := vrel_chan h; exact one _ _ h
  case bool b => obtain rfl := vrel_bool.1 h; exact one _ _ h
  case int k i => obtain rfl := vrel_int.1 h; exact one _ _ h
  case float k i => obtain rfl := vrel_float.1 h; exact one _ _ h
  case complex k a b => obtain rfl := vrel_complex.1 h; exact one _ _ h
  case string b => obtain rfl := vrel_string.1 h; exact one _ _ h
  case nilFunc => obtain rfl := vrel_nilFunc.1 h; exact one _ _ h
  case nilIface => obtain rfl := vrel_nilIface.1 h; exact one _ _ h

/-- A value without addresses, of one cell. -/
def flat1 : Value → Bool
  | .bool _ | .int _ _ | .float _ _ | .complex _ _ _ | .string _ | .pointer none | .slice none _ _ | .map none | .nilFunc | .nilIface => true
  | _ => false

/-- A value without addresses: of one cell, or a struct, an array, a tuple of such. -/
def flat : Value → Bool
  | .agg cs => cs.toList.all flat1
  | .tuple cs => cs.toList.all flat1
  | .func (.func _) ⟨[]⟩ ⟨[]⟩ => true
  | v => flat1 v

theorem vrel_flat1 {ρ : Ren} {v v' : Value} (h : flat1 v = true) : VRel ρ v v' ↔ v' = v := by
  cases v
  case bool b => exact vrel_bool
  case int k i => exact vrel_int
  case float k i => exact vrel_float
  case complex k a b => exact vrel_complex
  case string b => exact vrel_string
  case nilFunc => exact vrel_nilFunc
  case nilIface => exact vrel_nilIface
  case pointer a => cases a with
    | none => exact vrel_ptr_none
    | some a => simp [flat1] at h
  case slice a l c => cases a with
    | none => exact vrel_slice_none
    | some a => simp [flat1] at h
  case map a => cases a with
    | none => exact vrel_map_none
    | some a => simp [flat1] at h
  all_goals simp [flat1] at h

theorem lrel_flat1 {ρ : Ren} : ∀ {l l' : List Value}, l.all flat1 = true → (LRel (VRel ρ) l l' ↔ l' = l)
  | [], [], _ => by simp [LRel]
  | [], _ :: _, _ => by simp [LRel]
  | _ :: _, [], _ => by simp [LRel]
  | a :: l, b :: m, h => by
    simp only [List.all_cons, Bool.and_eq_true] at h
    simp only [LRel, vrel_flat1 h.1, lrel_flat1 h.2, List.cons.injEq]

theorem vrel_flat {ρ : Ren} {v v' : Value} (h : flat v = true) : VRel ρ v v' ↔ v' = v := by
  by_cases h1 : flat1 v = true
  · exact vrel_flat1 h1
  · cases v <;> try exact absurd h h1
    case agg cs =>
      rw [vrel_agg]
      constructor
      · rintro ⟨cs', hc, rfl⟩
        rw [lrel_flat1 h] at hc
        rw [hc]
      · rintro rfl
        exact ⟨cs.toList, (lrel_flat1 h).2 rfl, by simp⟩
    case tuple cs =>
      rw [vrel_tuple]
      constructor
      · rintro ⟨cs', hc, rfl⟩
        rw [lrel_flat1 h] at hc
        rw [hc]
      · rintro rfl
        exact ⟨cs.toList, (lrel_flat1 h).2 rfl, by simp⟩
    case func fn f c =>
      obtain ⟨f⟩ := f
      obtain ⟨c⟩ := c
      cases fn <;> cases f <;> cases c <;> simp [flat, flat1] at h
      rw [vrel_func]
      constructor
      · rintro ⟨f', c', hf, hc, rfl⟩
        cases f' <;> cases c' <;> first | rfl | exact hf.elim | exact hc.elim
      · rintro rfl
        exact ⟨[], [], trivial, trivial, rfl⟩

end Go.Proofs.YtacpdefmnijhnaaGreat.Abs
