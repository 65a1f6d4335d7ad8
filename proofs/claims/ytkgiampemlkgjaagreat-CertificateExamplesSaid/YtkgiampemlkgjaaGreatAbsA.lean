/- Definitions of an abstract memory, the relation between it and the model's world, and their plain laws. No program. -/
import Derived.WalkKit
set_option linter.unusedSimpArgs false
set_option linter.unusedVariables false
namespace Go.Proofs.YtkgiampemlkgjaaGreat.Abs

/-! ### Lists as total maps -/

def lget {α : Type} (d : α) : List α → Nat → α
  | [], _ => d
  | a :: _, 0 => a
  | _ :: l, n + 1 => lget d l n

/-! ### Arrays as trees: laid by the recursors themselves, for the kernel's sake -/

inductive T (α : Type) where
  | e
  | n (v : α) (l r : T α)

/-- if on a bit. -/
noncomputable def bite {α : Type} (b : Bool) (x y : α) : α := @Bool.rec (fun _ => α) y x b

theorem bite_eq {α : Type} (b : Bool) (x y : α) : bite b x y = if b = true then x else y := by cases b <;> rfl

noncomputable def tget {α : Type} (d : α) (t : T α) : Nat → α :=
  @T.rec α (fun _ => Nat → α) (fun _ => d)
    (fun v _ _ gl gr i => bite (Nat.beq i 0) v (bite (Nat.beq (Nat.mod i 2) 1) (gl (Nat.div i 2)) (gr (Nat.pred (Nat.div i 2))))) t

noncomputable def tone {α : Type} (d : α) (fuel : Nat) : Nat → α → T α :=
  @Nat.rec (fun _ => Nat → α → T α) (fun _ _ => .e)
    (fun _ one i x => bite (Nat.beq i 0) (.n x .e .e) (bite (Nat.beq (Nat.mod i 2) 1) (.n d (one (Nat.div i 2) x) .e) (.n d .e (one (Nat.pred (Nat.div i 2)) x)))) fuel

noncomputable def tset {α : Type} (d : α) (t : T α) : Nat → α → T α :=
  @T.rec α (fun _ => Nat → α → T α) (fun i x => tone d (Nat.succ i) i x)
    (fun v l r pl pr i x => bite (Nat.beq i 0) (.n x l r) (bite (Nat.beq (Nat.mod i 2) 1) (.n v (pl (Nat.div i 2) x) r) (.n v l (pr (Nat.pred (Nat.div i 2)) x)))) t

theorem tget_e {α : Type} (d : α) (i : Nat) : tget d .e i = d := rfl

theorem tget_n {α : Type} (d v : α) (l r : T α) (i : Nat) : tget d (.n v l r) i = if i = 0 then v else if i % 2 = 1 then tget d l (i / 2) else tget d r (i / 2 - 1) := by
  show bite (Nat.beq i 0) v (bite (Nat.beq (i % 2) 1) (tget d l (i / 2)) (tget d r (i / 2 - 1))) = _
  rw [bite_eq, bite_eq]
  simp only [Nat.beq_eq]

theorem tone_s {α : Type} (d : α) (f i : Nat) (x : α) : tone d (f + 1) i x = if i = 0 then .n x .e .e else if i % 2 = 1 then .n d (tone d f (i / 2) x) .e else .n d .e (tone d f (i / 2 - 1) x) := by
  show bite (Nat.beq i 0) (T.n x .e .e) (bite (Nat.beq (i % 2) 1) (T.n d (tone d f (i / 2) x) .e) (T.n d .e (tone d f (i / 2 - 1) x))) = _
  rw [bite_eq, bite_eq]
  simp only [Nat.beq_eq]

theorem tset_e {α : Type} (d : α) (i : Nat) (x : α) : tset d .e i x = tone d (i + 1) i x := rfl

theorem tset_n {α : Type} (d v : α) (l r : T α) (i : Nat) (x : α) : tset d (.n v l r) i x = if i = 0 then .n x l r else if i % 2 = 1 then .n v (tset d l (i / 2) x) r else .n v l (tset d r (i / 2 - 1) x) := by
  show bite (Nat.beq i 0) (T.n x l r) (bite (Nat.beq (i % 2) 1) (T.n v (tset d l (i / 2) x) r) (T.n v l (tset d r (i / 2 - 1) x))) = _
  rw [bite_eq, bite_eq]
  simp only [Nat.beq_eq]

theorem tget_tone {α : Type} (d : α) : ∀ (f i j : Nat) (x : α), i < f → tget d (tone d f i x) j = if i = j then x else d
  | 0, _, _, _, h => by omega
  | f + 1, i, j, x, h => by
    rw [tone_s]
    by_cases h0 : i = 0
    · rw [if_pos h0, tget_n]
      by_cases hj : j = 0
      · rw [if_pos hj, if_pos (by omega)]
      · rw [if_neg hj, if_neg (show ¬ i = j by omega)]
        split <;> rfl
    · rw [if_neg h0]
      by_cases h1 : i % 2 = 1
      · rw [if_pos h1, tget_n]
        by_cases hj : j = 0
        · rw [if_pos hj, if_neg (by omega)]
        · rw [if_neg hj]
          by_cases hj1 : j % 2 = 1
          · rw [if_pos hj1, tget_tone d f _ _ _ (by omega)]
            by_cases e : i = j
            · rw [if_pos e, if_pos (by omega)]
            · rw [if_neg e, if_neg (by omega)]
          · rw [if_neg hj1, tget_e, if_neg (by omega)]
      · rw [if_neg h1, tget_n]
        by_cases hj : j = 0
        · rw [if_pos hj, if_neg (by omega)]
        · rw [if_neg hj]
          by_cases hj1 : j % 2 = 1
          · rw [if_pos hj1, tget_e, if_neg (by omega)]
          · rw [if_neg hj1, tget_tone d f _ _ _ (by omega)]
            by_cases e : i = j
            · rw [if_pos e, if_pos (by omega)]
            · rw [if_neg e, if_neg (by omega)]

theorem tget_tset {α : Type} (d : α) : ∀ (t : T α) (i j : Nat) (x : α), tget d (tset d t i x) j = if i = j then x else tget d t j
  | .e, i, j, x => by rw [tset_e, tget_tone d _ _ _ _ (Nat.lt_succ_self i), tget_e]
  | .n v l r, i, j, x => by
    rw [tset_n]
    by_cases h0 : i = 0
    · rw [if_pos h0, tget_n]
      by_cases hj : j = 0
      · rw [if_pos hj, if_pos (by omega)]
      · rw [if_neg hj, if_neg (show ¬ i = j by omega), tget_n, if_neg hj]
    · rw [if_neg h0]
      by_cases h1 : i % 2 = 1
      · rw [if_pos h1, tget_n, tget_n]
        by_cases hj : j = 0
        · rw [if_pos hj, if_pos hj, if_neg (by omega)]
        · rw [if_neg hj, if_neg hj]
          by_cases hj1 : j % 2 = 1
          · rw [if_pos hj1, if_pos hj1, tget_tset d l]
            by_cases e : i = j
            · rw [if_pos e, if_pos (by omega)]
            · rw [if_neg e, if_neg (by omega)]
          · rw [if_neg hj1, if_neg hj1, if_neg (by omega)]
      · rw [if_neg h1, tget_n, tget_n]
        by_cases hj : j = 0
        · rw [if_pos hj, if_pos hj, if_neg (by omega)]
        · rw [if_neg hj, if_neg hj]
          by_cases hj1 : j % 2 = 1
          · rw [if_pos hj1, if_pos hj1, if_neg (by omega)]
          · rw [if_neg hj1, if_neg hj1, tget_tset d r]
            by_cases e : i = j
            · rw [if_pos e, if_pos (by omega)]
            · rw [if_neg e, if_neg (by omega)]

/-! ### Blocks, heap, state -/

/-- kind: 0 dead, 1 cells, all known, 2 cells, a known beginning, 3 map, 4 an iterator over a string -/
structure Blk where
  kind : Nat
  elem : TypeId
  esz : Nat
  vals : List Value
  ents : List (Value × Value)

def Blk.dead : Blk := ⟨0, 0, 0, [], []⟩

abbrev HeapT : Type := T Blk

noncomputable def hget (h : HeapT) (i : Nat) : Blk := tget Blk.dead h i
noncomputable def hput (h : HeapT) (i : Nat) (b : Blk) : HeapT := tset Blk.dead h i b

theorem hget_hput (h : HeapT) (i j : Nat) (b : Blk) : hget (hput h i b) j = if i = j then b else hget h j := tget_tset _ _ _ _ _

structure AS where
  next : Nat
  low : Nat
  heap : HeapT

noncomputable def AS.get (σ : AS) (i : Nat) : Blk := hget σ.heap i
/-- A new block. -/
noncomputable def AS.new (σ : AS) (b : Blk) : AS := ⟨σ.next + 1, σ.low, hput σ.heap σ.next b⟩
/-- A block is changed. -/
noncomputable def AS.put (σ : AS) (i : Nat) (b : Blk) : AS := ⟨σ.next, Nat.min σ.low i, hput σ.heap i b⟩

theorem AS.get_new (σ : AS) (b : Blk) (j : Nat) : (σ.new b).get j = if σ.next = j then b else σ.get j := hget_hput _ _ _ _
theorem AS.get_put (σ : AS) (i : Nat) (b : Blk) (j : Nat) : (σ.put i b).get j = if i = j then b else σ.get j := hget_hput _ _ _ _

/-! ### Relations of lists -/

def LRel {α β : Type} (R : α → β → Prop) : List α → List β → Prop
  | [], [] => True
  | a :: l, b :: m => R a b ∧ LRel R l m
  | _, _ => False

theorem LRel.length {α β : Type} {R : α → β → Prop} : ∀ {l : List α} {m : List β}, LRel R l m → l.length = m.length
  | [], [], _ => rfl
  | _ :: _, _ :: _, h => by simp [LRel.length h.2]
  | [], _ :: _, h => h.elim
  | _ :: _, [], h => h.elim

theorem LRel.mono {α β : Type} {R S : α → β → Prop} (hrs : ∀ a b, R a b → S a b) : ∀ {l : List α} {m : List β}, LRel R l m → LRel S l m
  | [], [], _ => trivial
  | _ :: _, _ :: _, h => ⟨hrs _ _ h.1, LRel.mono hrs h.2⟩
  | [], _ :: _, h => h.elim
  | _ :: _, [], h => h.elim

theorem LRel.append {α β : Type} {R : α → β → Prop} : ∀ {l : List α} {m : List β} {l' : List α} {m' : List β}, LRel R l m → LRel R l' m' → LRel R (l ++ l') (m ++ m')
  | [], [], _, _, _, h' => h'
  | _ :: _, _ :: _, _, _, h, h' => ⟨h.1, LRel.append h.2 h'⟩
  | [], _ :: _, _, _, h, _ => h.elim
  | _ :: _, [], _, _, h, _ => h.elim

theorem LRel.take {α β : Type} {R : α → β → Prop} : ∀ (n : Nat) {l : List α} {m : List β}, LRel R l m → LRel R (l.take n) (m.take n)
  | 0, _, _, _ => by simp [LRel]
  | _ + 1, [], [], _ => by simp [LRel]
  | n + 1, _ :: _, _ :: _, h => ⟨h.1, LRel.take n h.2⟩
  | _ + 1, [], _ :: _, h => h.elim
  | _ + 1, _ :: _, [], h => h.elim

theorem LRel.drop {α β : Type} {R : α → β → Prop} : ∀ (n : Nat) {l : List α} {m : List β}, LRel R l m → LRel R (l.drop n) (m.drop n)
  | 0, _, _, h => h
  | _ + 1, [], [], _ => by simp [LRel]
  | n + 1, _ :: _, _ :: _, h => LRel.drop n h.2
  | _ + 1, [], _ :: _, h => h.elim
  | _ + 1, _ :: _, [], h => h.elim

theorem LRel.get {α β : Type} {R : α → β → Prop} : ∀ {l : List α} {m : List β} (i : Nat) {a : α}, LRel R l m → l[i]? = some a → ∃ b, m[i]? = some b ∧ R a b
  | [], _, i, a, _, h => by simp at h
  | x :: l, y :: m, 0, a, h, e => by simp at e; subst e; exact ⟨y, by simp, h.1⟩
  | x :: l, y :: m, i + 1, a, h, e => by
    obtain ⟨b, hb, hr⟩ := LRel.get i h.2 (by simpa using e)
    exact ⟨b, by simpa using hb, hr⟩
  | _ :: _, [], _, _, h, _ => h.elim

theorem LRel.getR {α β : Type} {R : α → β → Prop} : ∀ {l : List α} {m : List β} (i : Nat) {b : β}, LRel R l m → m[i]? = some b → ∃ a, l[i]? = some a ∧ R a b
  | _, [], i, a, _, h => by simp at h
  | x :: l, y :: m, 0, a, h, e => by simp at e; subst e; exact ⟨x, by simp, h.1⟩
  | x :: l, y :: m, i + 1, a, h, e => by
    obtain ⟨b, hb, hr⟩ := LRel.getR i h.2 (by simpa using e)
    exact ⟨b, by simpa using hb, hr⟩
  | [], _ :: _, _, _, h, _ => h.elim

theorem LRel.set {α β : Type} {R : α → β → Prop} : ∀ {l : List α} {m : List β} (i : Nat) {a : α} {b : β}, LRel R l m → R a b → LRel R (l.set i a) (m.set i b)
  | [], [], _, _, _, _, _ => by simp [LRel]
  | _ :: _, _ :: _, 0, _, _, h, r => ⟨r, h.2⟩
  | _ :: _, _ :: _, i + 1, _, _, h, r => ⟨h.1, LRel.set i h.2 r⟩
  | [], _ :: _, _, _, _, h, _ => h.elim
  | _ :: _, [], _, _, _, h, _ => h.elim

theorem LRel.map {α β γ δ : Type} {R : γ → δ → Prop} (f : α → γ) (g : β → δ) : ∀ {l : List α} {m : List β}, LRel (fun a b => R (f a) (g b)) l m → LRel R (l.map f) (m.map g)
  | [], [], _ => trivial
  | _ :: _, _ :: _, h => ⟨h.1, LRel.map f g h.2⟩
  | [], _ :: _, h => h.elim
  | _ :: _, [], h => h.elim

theorem LRel.split {α β : Type} {R : α → β → Prop} {l1 l2 : List α} : ∀ {m : List β}, LRel R (l1 ++ l2) m → ∃ m1 m2, m = m1 ++ m2 ∧ LRel R l1 m1 ∧ LRel R l2 m2 := by
  induction l1 with
  | nil => intro m h; exact ⟨[], m, rfl, trivial, h⟩
  | cons a l ih =>
    intro m h
    cases m with
    | nil => exact h.elim
    | cons b m =>
      obtain ⟨m1, m2, rfl, h1, h2⟩ := ih h.2
      exact ⟨b :: m1, m2, rfl, ⟨h.1, h1⟩, h2⟩

theorem LRel.rev {α β : Type} {R : α → β → Prop} {l : List α} {m : List β} (h : LRel R l m) : LRel R l.reverse m.reverse := by
  induction l generalizing m with
  | nil => cases m with
    | nil => simp [LRel]
    | cons _ _ => exact h.elim
  | cons a l ih => cases m with
    | nil => exact h.elim
    | cons b m =>
      simp only [List.reverse_cons]
      exact (ih h.2).append ⟨h.1, trivial⟩

/-! ### Renamings and values -/

/-- Which block of the world an abstract block is; of an open block: how many cells it has, and how many make an element. -/
structure Ren where
  bl : Nat → Option Nat
  sz : Nat → Nat × Nat

def Ren.le (ρ τ : Ren) : Prop := ∀ i b, ρ.bl i = some b → τ.bl i = some b ∧ τ.sz i = ρ.sz i

theorem Ren.le_refl (ρ : Ren) : ρ.le ρ := fun _ _ h => ⟨h, rfl⟩
theorem Ren.le_trans {ρ τ υ : Ren} (h : ρ.le τ) (h' : τ.le υ) : ρ.le υ := fun i b hb =>
  ⟨(h' i b (h i b hb).1).1, ((h' i b (h i b hb).1).2).trans (h i b hb).2⟩

/-- The names below n alone. -/
def Ren.below (ρ : Ren) (n : Nat) : Ren := ⟨fun i => if i < n then ρ.bl i else none, ρ.sz⟩

theorem Ren.below_le (ρ : Ren) (n : Nat) : (ρ.below n).le ρ := fun i b h => by
  simp only [Ren.below] at h
  split at h
  · exact ⟨h, rfl⟩
  · cases h

theorem Ren.below_mono {ρ τ : Ren} {n m : Nat} (h : ρ.le τ) (hn : n ≤ m) : (ρ.below n).le (τ.below m) := fun i b hb => by
  simp only [Ren.below] at hb ⊢
  split at hb
  · rename_i hi; rw [if_pos (by omega)]; exact h i b hb
  · cases hb

def OPENCAP : Nat := 18446744073709551616

def CapRel (s : Nat × Nat) (off c c' : Nat) : Prop :=
  if c < OPENCAP then c' = c else c - OPENCAP ≤ c' ∧ 0 < s.2 ∧ off + c' * s.2 = s.1

def VRelN (ρ : Ren) : Nat → Value → Value → Prop
  | 0, _, _ => False
  | n + 1, v, v' => match v with
    | .pointer (some a) => ∃ b, ρ.bl a.block = some b ∧ a.spot = none ∧ v' = .pointer (some ⟨b, a.off, none⟩)
    | .slice (some a) l c => ∃ b c', ρ.bl a.block = some b ∧ a.spot = none ∧ CapRel (ρ.sz a.block) a.off c c' ∧ v' = .slice (some ⟨b, a.off, none⟩) l c'
    | .map (some r) => ∃ b, ρ.bl r = some b ∧ v' = .map (some b)
    | .func fn f c => ∃ f' c', LRel (VRelN ρ n) f.toList f' ∧ LRel (VRelN ρ n) c.toList c' ∧ v' = .func fn f'.toArray c'.toArray
    | .iface t x => ∃ x', VRelN ρ n x x' ∧ v' = .iface t x'
    | .agg cs => ∃ cs', LRel (VRelN ρ n) cs.toList cs' ∧ v' = .agg cs'.toArray
    | .tuple cs => ∃ cs', LRel (VRelN ρ n) cs.toList cs' ∧ v' = .tuple cs'.toArray
    | .chan _ => False
    | v => v' = v

theorem VRelN.succ {ρ : Ren} : ∀ {n : Nat} {v v' : Value}, VRelN ρ n v v' → VRelN ρ (n + 1) v v'
  | 0, _, _, h => h.elim
  | n + 1, v, v', h => by
    have ih : ∀ a b, VRelN ρ n a b → VRelN ρ (n + 1) a b := fun a b => VRelN.succ
    cases v
    case func fn f c =>
      obtain ⟨f', c', hf, hc, e⟩ := h
      exact ⟨f', c', hf.mono ih, hc.mono ih, e⟩
    case iface t x =>
      obtain ⟨x', hx, e⟩ := h
      exact ⟨x', ih _ _ hx, e⟩
    case agg cs =>
      obtain ⟨x', hx, e⟩ := h
      exact ⟨x', hx.mono ih, e⟩
    case tuple cs =>
      obtain ⟨x', hx, e⟩ := h
      exact ⟨x', hx.mono ih, e⟩
    case pointer a => cases a <;> exact h
    case slice a l c => cases a <;> exact h
    case map a => cases a <;> exact h
    all_goals exact h

theorem VRelN.up {ρ : Ren} {n m : Nat} {v v' : Value} (hnm : n ≤ m) (h : VRelN ρ n v v') : VRelN ρ m v v' := by
  induction hnm with
  | refl => exact h
  | step _ ih => exact ih.succ

theorem VRelN.ext {ρ τ : Ren} (hle : ρ.le τ) : ∀ {n : Nat} {v v' : Value}, VRelN ρ n v v' → VRelN τ n v v'
  | 0, _, _, h => h.elim
  | n + 1, v, v', h => by
    have ih : ∀ a b, VRelN ρ n a b → VRelN τ n a b := fun a b => VRelN.ext hle
    cases v
    case pointer a =>
      cases a with
      | none => exact h
      | some a => obtain ⟨b, hb, hs, e⟩ := h; exact ⟨b, (hle _ _ hb).1, hs, e⟩
    case slice a l c =>
      cases a with
      | none => exact h
      | some a =>
        obtain ⟨b, c', hb, hs, hc, e⟩ := h
        exact ⟨b, c', (hle _ _ hb).1, hs, by rw [(hle _ _ hb).2]; exact hc, e⟩
    case map a =>
      cases a with
      | none => exact h
      | some a => obtain ⟨b, hb, e⟩ := h; exact ⟨b, (hle _ _ hb).1, e⟩
    case func fn f c =>
      obtain ⟨f', c', hf, hc, e⟩ := h
      exact ⟨f', c', hf.mono ih, hc.mono ih, e⟩
    case iface t x =>
      obtain ⟨x', hx, e⟩ := h
      exact ⟨x', ih _ _ hx, e⟩
    case agg cs =>
      obtain ⟨x', hx, e⟩ := h
      exact ⟨x', hx.mono ih, e⟩
    case tuple cs =>
      obtain ⟨x', hx, e⟩ := h
      exact ⟨x', hx.mono ih, e⟩
    all_goals exact h

def VRel (ρ : Ren) (v v' : Value) : Prop := ∃ n, VRelN ρ n v v'

theorem VRel.ext {ρ τ : Ren} {v v' : Value} (hle : ρ.le τ) (h : VRel ρ v v') : VRel τ v v' := h.imp fun _ h => h.ext hle

theorem VRel.inv {ρ : Ren} {v v' : Value} (h : VRel ρ v v') : ∃ n, VRelN ρ (n + 1) v v' := by
  obtain ⟨n, h⟩ := h
  cases n with
  | zero => exact h.elim
  | succ n => exact ⟨n, h⟩

/-- A list of related values is related at one depth. -/
theorem LRel.depth {ρ : Ren} : ∀ {l l' : List Value}, LRel (VRel ρ) l l' → ∃ n, LRel (VRelN ρ n) l l'
  | [], [], _ => ⟨0, trivial⟩
  | _ :: _, _ :: _, h => by
    obtain ⟨⟨n, hn⟩, ht⟩ := h
    obtain ⟨m, hm⟩ := LRel.depth ht
    exact ⟨max n m, hn.up (Nat.le_max_left _ _), hm.mono fun _ _ h => h.up (Nat.le_max_right _ _)⟩
  | [], _ :: _, h => h.elim
  | _ :: _, [], h => h.elim

theorem LRel.of_depth {ρ : Ren} {n : Nat} {l l' : List Value} (h : LRel (VRelN ρ n) l l') : LRel (VRel ρ) l l' := h.mono fun _ _ h => ⟨n, h⟩

section shapes
variable {ρ : Ren} {v' : Value}

theorem vrel_bool {b : Bool} : VRel ρ (.bool b) v' ↔ v' = .bool b := ⟨fun h => by obtain ⟨n, h⟩ := h.inv; exact h, fun h => ⟨1, h⟩⟩
theorem vrel_int {k : IntKind} {i : Int} : VRel ρ (.int k i) v' ↔ v' = .int k i := ⟨fun h => by obtain ⟨n, h⟩ := h.inv; exact h, fun h => ⟨1, h⟩⟩
theorem vrel_float {k : FloatKind} {i : Nat} : VRel ρ (.float k i) v' ↔ v' = .float k i := ⟨fun h => by obtain ⟨n, h⟩ := h.inv; exact h, fun h => ⟨1, h⟩⟩
theorem vrel_complex {k : FloatKind} {a b : Nat} : VRel ρ (.complex k a b) v' ↔ v' = .complex k a b := ⟨fun h => by obtain ⟨n, h⟩ := h.inv; exact h, fun h => ⟨1, h⟩⟩
theorem vrel_string {s : ByteArray} : VRel ρ (.string s) v' ↔ v' = .string s := ⟨fun h => by obtain ⟨n, h⟩ := h.inv; exact h, fun h => ⟨1, h⟩⟩
theorem vrel_ptr_none : VRel ρ (.pointer none) v' ↔ v' = .pointer none := ⟨fun h => by obtain ⟨n, h⟩ := h.inv; exact h, fun h => ⟨1, h⟩⟩
theorem vrel_slice_none {l c : Nat} : VRel ρ (.slice none l c) v' ↔ v' = .slice none l c := ⟨fun h => by obtain ⟨n, h⟩ := h.inv; exact h, fun h => ⟨1, h⟩⟩
theorem vrel_map_none : VRel ρ (.map none) v' ↔ v' = .map none := ⟨fun h => by obtain ⟨n, h⟩ := h.inv; exact h, fun h => ⟨1, h⟩⟩
theorem vrel_nilFunc : VRel ρ .nilFunc v' ↔ v' = .nilFunc := ⟨fun h => by obtain ⟨n, h⟩ := h.inv; exact h, fun h => ⟨1, h⟩⟩
theorem vrel_nilIface : VRel ρ .nilIface v' ↔ v' = .nilIface := ⟨fun h => by obtain ⟨n, h⟩ := h.inv; exact h, fun h => ⟨1, h⟩⟩
theorem vrel_chan {r : Option Nat} : VRel ρ (.chan r) v' ↔ False := ⟨fun ⟨n, h⟩ => by cases n <;> exact h.elim, False.elim⟩
theorem vrel_ptr {a : Addr} : VRel ρ (.pointer (some a)) v' ↔ ∃ b, ρ.bl a.block = some b ∧ a.spot = none ∧ v' = .pointer (some ⟨b, a.off, none⟩) :=
  ⟨fun h => by obtain ⟨n, h⟩ := h.inv; exact h, fun h => ⟨1, h⟩⟩
theorem vrel_slice {a : Addr} {l c : Nat} : VRel ρ (.slice (some a) l c) v' ↔
    ∃ b c', ρ.bl a.block = some b ∧ a.spot = none ∧ CapRel (ρ.sz a.block) a.off c c' ∧ v' = .slice (some ⟨b, a.off, none⟩) l c' :=
  ⟨fun h => by obtain ⟨n, h⟩ := h.inv; exact h, fun h => ⟨1, h⟩⟩
theorem vrel_map {r : Nat} : VRel ρ (.map (some r)) v' ↔ ∃ b, ρ.bl r = some b ∧ v' = .map (some b) :=
  ⟨fun h => by obtain ⟨n, h⟩ := h.inv; exact h, fun h => ⟨1, h⟩⟩
theorem vrel_iface {t : TypeId} {x : Value} : VRel ρ (.iface t x) v' ↔ ∃ x', VRel ρ x x' ∧ v' = .iface t x' :=
  ⟨fun ⟨n, h⟩ => by
    cases n with
    | zero => exact h.elim
    | succ n => obtain ⟨x', hx, e⟩ := h; exact ⟨x', ⟨n, hx⟩, e⟩, fun ⟨x', ⟨n, hx⟩, e⟩ => ⟨n + 1, x', hx, e⟩⟩
theorem vrel_agg {cs : Array Value} : VRel ρ (.agg cs) v' ↔ ∃ cs', LRel (VRel ρ) cs.toList cs' ∧ v' = .agg cs'.toArray :=
  ⟨fun ⟨n, h⟩ => by
    cases n with
    | zero => exact h.elim
    | succ n => obtain ⟨x', hx, e⟩ := h; exact ⟨x', hx.of_depth, e⟩, fun ⟨x', hx, e⟩ => by obtain ⟨n, hn⟩ := hx.depth; exact ⟨n + 1, x', hn, e⟩⟩
theorem vrel_tuple {cs : Array Value} : VRel ρ (.tuple cs) v' ↔ ∃ cs', LRel (VRel ρ) cs.toList cs' ∧ v' = .tuple cs'.toArray :=
  ⟨fun ⟨n, h⟩ => by
    cases n with
    | zero => exact h.elim
    | succ n => obtain ⟨x', hx, e⟩ := h; exact ⟨x', hx.of_depth, e⟩, fun ⟨x', hx, e⟩ => by obtain ⟨n, hn⟩ := hx.depth; exact ⟨n + 1, x', hn, e⟩⟩
theorem vrel_func {fn : Fn} {f c : Array Value} : VRel ρ (.func fn f c) v' ↔
    ∃ f' c', LRel (VRel ρ) f.toList f' ∧ LRel (VRel ρ) c.toList c' ∧ v' = .func fn f'.toArray c'.toArray :=
  ⟨fun ⟨n, h⟩ => by
    cases n with
    | zero => exact h.elim
    | succ n => obtain ⟨f', c', hf, hc, e⟩ := h; exact ⟨f', c', hf.of_depth, hc.of_depth, e⟩,
   fun ⟨f', c', hf, hc, e⟩ => by
    obtain ⟨n, hn⟩ := hf.depth
    obtain ⟨m, hm⟩ := hc.depth
    exact ⟨max n m + 1, f', c', hn.mono fun _ _ h => h.up (Nat.le_max_left _ _), hm.mono fun _ _ h => h.up (Nat.le_max_right _ _), e⟩⟩

theorem vrel_undef : VRel ρ undef undef := vrel_tuple.2 ⟨[], trivial, rfl⟩
end shapes

theorem VRel.cells {ρ : Ren} {v v' : Value} (h : VRel ρ v v') : LRel (VRel ρ) v.cells.toList v'.cells.toList := by
  have one : ∀ u u', VRel ρ u u' → LRel (VRel ρ) [u] [u'] := fun _ _ h => ⟨h, trivial⟩
  cases v
  case agg cs => obtain ⟨cs', hc, rfl⟩ := vrel_agg.1 h; exact hc
  case pointer a =>
    cases a with
    | none => obtain rfl := vrel_ptr_none.1 h; exact one _ _ h
    | some a => obtain ⟨b, _, _, rfl⟩ := vrel_ptr.1 h; exact one _ _ h
  case slice a l c =>
    cases a with
    | none => obtain rfl := vrel_slice_none.1 h; exact one _ _ h
    | some a => obtain ⟨b, c', _, _, _, rfl⟩ := vrel_slice.1 h; exact one _ _ h
  case map a =>
    cases a with
    | none => obtain rfl := vrel_map_none.1 h; exact one _ _ h
    | some a => obtain ⟨b, _, rfl⟩ := vrel_map.1 h; exact one _ _ h
  case func fn f c => obtain ⟨f', c', _, _, rfl⟩ := vrel_func.1 h; exact one _ _ h
  case iface t x => obtain ⟨x', _, rfl⟩ := vrel_iface.1 h; exact one _ _ h
  case tuple cs => obtain ⟨x', _, rfl⟩ := vrel_tuple.1 h; exact one _ _ h
  case chan r => exact (vrel_chan.1 h).elim
  case bool b => obtain rfl := vrel_bool.1 h; exact one _ _ h
  case int k i => obtain rfl := vrel_int.1 h; exact one _ _ h
  case float k i => obtain rfl := vrel_float.1 h; exact one _ _ h
  case complex k a b => obtain rfl := vrel_complex.1 h; exact one _ _ h
  case string b => obtain rfl := vrel_string.1 h; exact one _ _ h
  case nilFunc => obtain rfl := vrel_nilFunc.1 h; exact one _ _ h
  case nilIface => obtain rfl := vrel_nilIface.1 h; exact one _ _ h

/-- A value without addresses, of one cell. -/
def flat1 : Value → Bool
  | .bool _ | .int _ _ | .float _ _ | .complex _ _ _ | .string _ | .pointer none | .slice none _ _ | .map none | .nilFunc | .nilIface => true
  | _ => false

/-- A value without addresses: of one cell, or a struct, an array, a tuple of such. -/
def flat : Value → Bool
  | .agg cs => cs.toList.all flat1
  | .tuple cs => cs.toList.all flat1
  | .func (.func _) ⟨[]⟩ ⟨[]⟩ => true
  | v => flat1 v

theorem vrel_flat1 {ρ : Ren} {v v' : Value} (h : flat1 v = true) : VRel ρ v v' ↔ v' = v := by
  cases v
  case bool b => exact vrel_bool
  case int k i => exact vrel_int
  case float k i => exact vrel_float
  case complex k a b => exact vrel_complex
  case string b => exact vrel_string
  case nilFunc => exact vrel_nilFunc
  case nilIface => exact vrel_nilIface
  case pointer a => cases a with
    | none => exact vrel_ptr_none
    | some a => simp [flat1] at h
  case slice a l c => cases a with
    | none => exact vrel_slice_none
    | some a => simp [flat1] at h
  case map a => cases a with
    | none => exact vrel_map_none
    | some a => simp [flat1] at h
  all_goals simp [flat1] at h

theorem lrel_flat1 {ρ : Ren} : ∀ {l l' : List Value}, l.all flat1 = true → (LRel (VRel ρ) l l' ↔ l' = l)
  | [], [], _ => by simp [LRel]
  | [], _ :: _, _ => by simp [LRel]
  | _ :: _, [], _ => by simp [LRel]
  | a :: l, b :: m, h => by
    simp only [List.all_cons, Bool.and_eq_true] at h
    simp only [LRel, vrel_flat1 h.1, lrel_flat1 h.2, List.cons.injEq]

theorem vrel_flat {ρ : Ren} {v v' : Value} (h : flat v = true) : VRel ρ v v' ↔ v' = v := by
  by_cases h1 : flat1 v = true
  · exact vrel_flat1 h1
  · cases v <;> try exact absurd h h1
    case agg cs =>
      rw [vrel_agg]
      constructor
      · rintro ⟨cs', hc, rfl⟩
        rw [lrel_flat1 h] at hc
        rw [hc]
      · rintro rfl
        exact ⟨cs.toList, (lrel_flat1 h).2 rfl, by simp⟩
    case tuple cs =>
      rw [vrel_tuple]
      constructor
      · rintro ⟨cs', hc, rfl⟩
        rw [lrel_flat1 h] at hc
        rw [hc]
      · rintro rfl
        exact ⟨cs.toList, (lrel_flat1 h).2 rfl, by simp⟩
    case func fn f c =>
      obtain ⟨f⟩ := f
      obtain ⟨c⟩ := c
      cases fn <;> cases f <;> cases c <;> simp [flat, flat1] at h
      rw [vrel_func]
      constructor
      · rintro ⟨f', c', hf, hc, rfl⟩
        cases f' <;> cases c' <;> first | rfl | exact hf.elim | exact hc.elim
      · rintro rfl
        exact ⟨[], [], trivial, trivial, rfl⟩

end Go.Proofs.YtkgiampemlkgjaaGreat.Abs
