/- The relation between the abstract memory and the world; what changes of the one mean for the other. No program text. -/
import Derived.Test.YtacpdefmnijhnaaGreatAbsB
set_option linter.unusedSimpArgs false
set_option linter.unusedVariables false
namespace Go.Proofs.YtacpdefmnijhnaaGreat.Abs

def ERel (ρ : Ren) (e : Value × Value) (m : MapEntry) : Prop := VRel ρ e.1 m.key ∧ VRel ρ e.2 m.val

/-- What a block of the world is to an abstract block. -/
def BRel (ρ : Ren) (i : Nat) (b : Blk) (o : Obj) : Prop :=
  match b.kind with
  | 0 => True
  | 1 => ∃ c fr, o = .cells c b.elem fr ∧ (fr = (0, 0) ∨ c.size ≤ fr.1) ∧ LRel (VRel ρ) b.vals c.toList
  | 2 => ∃ c fr pre post, o = .cells c b.elem fr ∧ (fr = (0, 0) ∨ c.size ≤ fr.1) ∧ c.toList = pre ++ post ∧ LRel (VRel ρ) b.vals pre ∧ ρ.sz i = (c.size, b.esz)
  | 3 => ∃ es clock, o = .map es clock ∧ LRel (ERel ρ) b.ents es.toList ∧ clock = b.esz ∧ b.vals = es.toList.map fun e => Value.int .i64 (e.born : Int)
  | 4 => ∃ s, b.vals = [.string s] ∧ o = .stringIter s b.esz
  | 5 => ∃ c fr, o = .cells c b.elem fr ∧ ∀ (j : Nat) (v : Value), b.vals[j]? = some v → known v = true → ∃ u, c[j]? = some u ∧ VRel ρ v u
  | _ => False

theorem BRel.ext {ρ τ : Ren} {i : Nat} {b : Blk} {o : Obj} (hle : ρ.le τ) (hi : τ.sz i = ρ.sz i) (h : BRel ρ i b o) : BRel τ i b o := by
  have hv : ∀ a c, VRel ρ a c → VRel τ a c := fun _ _ h => h.ext hle
  obtain ⟨kind, elem, esz, vals, ents⟩ := b
  match kind, h with
  | 0, _ => trivial
  | 1, ⟨c, fr, h1, h2, h3⟩ => exact ⟨c, fr, h1, h2, h3.mono hv⟩
  | 2, ⟨c, fr, p, q, h1, h2, h3, h4, h5⟩ => exact ⟨c, fr, p, q, h1, h2, h3, h4.mono hv, by rw [hi]; exact h5⟩
  | 3, ⟨es, cl, h1, h2, h3⟩ => exact ⟨es, cl, h1, h2.mono fun a m h => ⟨hv _ _ h.1, hv _ _ h.2⟩, h3⟩
  | 4, ⟨s, h1, h2⟩ => exact ⟨s, h1, h2⟩
  | 5, ⟨c, fr, h1, h2⟩ => exact ⟨c, fr, h1, fun j v hj hk => (h2 j v hj hk).imp fun u h => ⟨h.1, h.2.ext hle⟩⟩

theorem lrel_fun {R S : Value → Value → Prop} (h : ∀ v a b, R v a → S v b → a = b) : ∀ {l m m' : List Value}, LRel R l m → LRel S l m' → m = m'
  | [], [], [], _, _ => rfl
  | _ :: _, _ :: _, _ :: _, h1, h2 => by rw [h _ _ _ h1.1 h2.1, lrel_fun h h1.2 h2.2]
  | [], _ :: _, _, h1, _ => h1.elim
  | _ :: _, [], _, h1, _ => h1.elim
  | [], [], _ :: _, _, h2 => h2.elim
  | _ :: _, _ :: _, [], _, h2 => h2.elim

theorem VRelN.det {ρ τ : Ren} (hle : ρ.le τ) : ∀ {n m : Nat} {v a b : Value}, VRelN ρ n v a → VRelN τ m v b → a = b
  | 0, _, _, _, _, h, _ => h.elim
  | _ + 1, 0, _, _, _, _, h => h.elim
  | n + 1, m + 1, v, a, b, h1, h2 => by
    have ih : ∀ v a b, VRelN ρ n v a → VRelN τ m v b → a = b := fun _ _ _ h h' => VRelN.det hle h h'
    cases v
    case pointer x =>
      cases x with
      | none => exact Eq.trans h1 (Eq.symm h2)
      | some x =>
        obtain ⟨b1, e1, _, rfl⟩ := h1
        obtain ⟨b2, e2, _, rfl⟩ := h2
        rw [(hle _ _ e1).1] at e2
        cases e2; rfl
    case slice x l c =>
      cases x with
      | none => exact Eq.trans h1 (Eq.symm h2)
      | some x =>
        rcases h1 with ⟨b1, c1, e1, s1, k1, rfl⟩ | ⟨s1, _, _, rfl⟩ <;> rcases h2 with ⟨b2, c2, e2, s2, k2, rfl⟩ | ⟨s2, _, _, rfl⟩
        rotate_left
        · exact absurd s1 s2
        · exact absurd s2 s1
        · rfl
        rw [(hle _ _ e1).1] at e2
        rw [(hle _ _ e1).2] at k2
        cases e2
        rw [k1.det k2]
    case map x =>
      cases x with
      | none => exact Eq.trans h1 (Eq.symm h2)
      | some x =>
        obtain ⟨b1, e1, rfl⟩ := h1
        obtain ⟨b2, e2, rfl⟩ := h2
        rw [(hle _ _ e1).1] at e2
        cases e2; rfl
    case func fn f c =>
      obtain ⟨f1, c1, a1, a2, rfl⟩ := h1
      obtain ⟨f2, c2, b1, b2, rfl⟩ := h2
      rw [lrel_fun ih a1 b1, lrel_fun ih a2 b2]
    case iface t x =>
      obtain ⟨x1, a1, rfl⟩ := h1
      obtain ⟨x2, b1, rfl⟩ := h2
      rw [ih _ _ _ a1 b1]
    case agg cs =>
      obtain ⟨x1, a1, rfl⟩ := h1
      obtain ⟨x2, b1, rfl⟩ := h2
      rw [lrel_fun ih a1 b1]
    case tuple cs =>
      obtain ⟨x1, a1, rfl⟩ := h1
      obtain ⟨x2, b1, rfl⟩ := h2
      rw [lrel_fun ih a1 b1]
    case chan x =>
      cases x with
      | none => exact h1.elim
      | some x => exact Void.det hle h1 h2
    all_goals exact Eq.trans h1 (Eq.symm h2)

theorem VRel.det {ρ τ : Ren} (hle : ρ.le τ) {v a b : Value} (h1 : VRel ρ v a) (h2 : VRel τ v b) : a = b := by
  obtain ⟨n, h1⟩ := h1
  obtain ⟨m, h2⟩ := h2
  exact VRelN.det hle h1 h2

/-- The value's names are known to ρ. -/
def Sc (ρ : Ren) (v : Value) : Prop := ∃ v', VRel ρ v v'

theorem Sc.rel {ρ τ : Ren} (hle : ρ.le τ) {v v' : Value} (h : Sc ρ v) (h' : VRel τ v v') : VRel ρ v v' := by
  obtain ⟨u, hu⟩ := h
  rw [← VRel.det hle hu h']; exact hu

/-- The block's names are known to ρ. -/
def BSc (ρ : Ren) (b : Blk) : Prop := ((b.kind = 1 ∨ b.kind = 2) → ∀ v ∈ b.vals, Sc ρ v) ∧ (b.kind = 3 → ∀ e ∈ b.ents, Sc ρ e.1 ∧ Sc ρ e.2) ∧ (b.kind = 5 → ∀ v ∈ b.vals, known v = true → Sc ρ v)

theorem BSc.ext {ρ τ : Ren} (hle : ρ.le τ) {b : Blk} (h : BSc ρ b) : BSc τ b :=
  ⟨fun hk v hv => (h.1 hk v hv).imp fun _ h => h.ext hle, fun hk e he => ⟨(h.2.1 hk e he).1.imp fun _ h => h.ext hle, (h.2.1 hk e he).2.imp fun _ h => h.ext hle⟩,
    fun hk v hv hkn => (h.2.2 hk v hv hkn).imp fun _ h => h.ext hle⟩

theorem lrel_in {α β : Type} {R S : α → β → Prop} : ∀ {l : List α} {m : List β}, (∀ a ∈ l, ∀ b, R a b → S a b) → LRel R l m → LRel S l m
  | [], [], _, _ => trivial
  | a :: _, _ :: _, h, h' => ⟨h a (by simp) _ h'.1, lrel_in (fun x hx => h x (by simp [hx])) h'.2⟩
  | [], _ :: _, _, h => h.elim
  | _ :: _, [], _, h => h.elim

theorem BRel.back {ρ τ : Ren} {i : Nat} {b : Blk} {o : Obj} (hle : ρ.le τ) (hi : τ.sz i = ρ.sz i) (hs : BSc ρ b) (h : BRel τ i b o) : BRel ρ i b o := by
  obtain ⟨kind, elem, esz, vals, ents⟩ := b
  match kind, hs, h with
  | 0, _, _ => trivial
  | 1, hs, ⟨c, fr, h1, h2, h3⟩ => exact ⟨c, fr, h1, h2, lrel_in (fun a ha c hc => (hs.1 (.inl rfl) a ha).rel hle hc) h3⟩
  | 2, hs, ⟨c, fr, p, q, h1, h2, h3, h4, h5⟩ => exact ⟨c, fr, p, q, h1, h2, h3, lrel_in (fun a ha c hc => (hs.1 (.inr rfl) a ha).rel hle hc) h4, by rw [← hi]; exact h5⟩
  | 3, hs, ⟨es, cl, h1, h2, h3⟩ => exact ⟨es, cl, h1, lrel_in (fun a ha c hc => ⟨(hs.2.1 rfl a ha).1.rel hle hc.1, (hs.2.1 rfl a ha).2.rel hle hc.2⟩) h2, h3⟩
  | 4, hs, ⟨s, h1, h2⟩ => exact ⟨s, h1, h2⟩
  | 5, hs, ⟨c, fr, h1, h2⟩ => exact ⟨c, fr, h1, fun j v hj hk => (h2 j v hj hk).imp fun u h => ⟨h.1, (hs.2.2 rfl v (List.mem_of_getElem? hj) hk).rel hle h.2⟩⟩

theorem lrel_left {α β : Type} {R : α → β → Prop} : ∀ {l : List α} {m : List β}, LRel R l m → ∀ a ∈ l, ∃ b, R a b
  | [], [], _, _, h => by cases h
  | a :: _, b :: _, h, x, hx => by
    rcases List.mem_cons.1 hx with rfl | hx
    · exact ⟨b, h.1⟩
    · exact lrel_left h.2 x hx
  | [], _ :: _, h, _, _ => h.elim
  | _ :: _, [], h, _, _ => h.elim

theorem BRel.sc {ρ : Ren} {i : Nat} {b : Blk} {o : Obj} (h : BRel ρ i b o) : BSc ρ b := by
  obtain ⟨kind, elem, esz, vals, ents⟩ := b
  match kind, h with
  | 0, _ => exact ⟨fun h => h.elim (fun h => nomatch h) (fun h => nomatch h), fun h => (nomatch h), fun h => nomatch h⟩
  | 1, ⟨c, fr, h1, h2, h3⟩ => exact ⟨fun _ v hv => lrel_left h3 v hv, fun h => (nomatch h), fun h => nomatch h⟩
  | 2, ⟨c, fr, p, q, h1, h2, h3, h4, h5⟩ => exact ⟨fun _ v hv => lrel_left h4 v hv, fun h => (nomatch h), fun h => nomatch h⟩
  | 3, ⟨es, cl, h1, h2, _⟩ =>
    refine ⟨fun h => h.elim (fun h => nomatch h) (fun h => nomatch h), fun _ e he => ?_, fun h => nomatch h⟩
    obtain ⟨m, hm⟩ := lrel_left h2 e he
    exact ⟨⟨_, hm.1⟩, ⟨_, hm.2⟩⟩
  | 4, _ => exact ⟨fun h => h.elim (fun h => nomatch h) (fun h => nomatch h), fun h => (nomatch h), fun h => nomatch h⟩
  | 5, ⟨c, fr, h1, h2⟩ =>
    refine ⟨fun h => h.elim (fun h => nomatch h) (fun h => nomatch h), fun h => (nomatch h), fun _ v hv hk => ?_⟩
    obtain ⟨j, hj⟩ := List.mem_iff_getElem?.1 hv
    obtain ⟨u, _, hu⟩ := h2 j v hj hk
    exact ⟨u, hu⟩

/-- Names below G are the package's variables. -/
structure R (G : Nat) (ρ : Ren) (σ : AS) (w : World) : Prop where
  blk : ∀ i b, ρ.bl i = some b → i < σ.next ∧ ∃ o, w.heap[b]? = some o ∧ BRel ρ i (σ.get i) o
  inj : ∀ i j b, ρ.bl i = some b → ρ.bl j = some b → (σ.get i).kind ≠ 0 → (σ.get j).kind ≠ 0 → i = j
  glob : ∀ g, g < G → ρ.bl g = some g
  globN : G ≤ σ.next

structure Sim (G : Nat) (ρ : Ren) (σ : AS) (w : World) (τ : Ren) (σ' : AS) (w' : World) : Prop where
  base : R G ρ σ w
  le : ρ.le τ
  rel : R G τ σ' w'
  frame : ∀ b, b < w.heap.size → (∀ i, ρ.bl i = some b → (σ.get i).kind = 0) → w'.heap[b]? = w.heap[b]?
  hsz : w.heap.size ≤ w'.heap.size
  nxt : σ.next ≤ σ'.next
  newid : ∀ i b, τ.bl i = some b → ρ.bl i = none → σ.next ≤ i
  newblk : ∀ i b, τ.bl i = some b → ρ.bl i = none → w.heap.size ≤ b ∨ ∃ j, ρ.bl j = some b ∧ (σ.get j).kind ≠ 0 ∧ (σ'.get j).kind = 0
  low : σ'.low ≤ σ.low
  keep : ∀ i, i < σ.next → i < σ'.low → σ'.get i = σ.get i
  dead : ∀ i, i < σ.next → (σ.get i).kind = 0 → (σ'.get i).kind = 0
  stay : ∀ i b, ρ.bl i = some b → (σ.get i).kind ≠ 0 → i < σ'.low → w'.heap[b]? = w.heap[b]?
  out : w'.os = w.os ∧ w'.output = w.output

theorem R.lt {G : Nat} {ρ : Ren} {σ : AS} {w : World} (h : R G ρ σ w) {i b : Nat} (hi : ρ.bl i = some b) : b < w.heap.size := by
  obtain ⟨_, o, ho, _⟩ := h.blk i b hi
  rcases Nat.lt_or_ge b w.heap.size with h | h
  · exact h
  · simp [Array.getElem?_eq_none h] at ho

theorem Sim.refl {G : Nat} {ρ : Ren} {σ : AS} {w : World} (h : R G ρ σ w) : Sim G ρ σ w ρ σ w where
  base := h
  le := Ren.le_refl ρ
  rel := h
  frame := fun _ _ _ => rfl
  hsz := Nat.le_refl _
  nxt := Nat.le_refl _
  newid := fun i b h h' => by rw [h] at h'; cases h'
  newblk := fun i b h h' => by rw [h] at h'; cases h'
  low := Nat.le_refl _
  keep := fun _ _ _ => rfl
  dead := fun _ _ h => h
  stay := fun _ _ _ _ _ => rfl
  out := ⟨rfl, rfl⟩

theorem Sim.trans {G : Nat} {ρ τ υ : Ren} {σ σ' σ'' : AS} {w w' w'' : World} (h : Sim G ρ σ w τ σ' w') (k : Sim G τ σ' w' υ σ'' w'') : Sim G ρ σ w υ σ'' w'' where
  base := h.base
  le := Ren.le_trans h.le k.le
  rel := k.rel
  frame b hb hd := by
    rw [k.frame b (Nat.lt_of_lt_of_le hb h.hsz) ?_, h.frame b hb hd]
    intro i hi
    cases hρ : ρ.bl i with
    | some b' =>
      have := (h.le i b' hρ).1
      rw [hi] at this
      cases this
      exact h.dead i (h.base.blk i b hρ).1 (hd i hρ)
    | none =>
      rcases h.newblk i b hi hρ with h1 | ⟨j, hj, hj1, hj2⟩
      · omega
      · exact absurd (hd j hj) hj1
  hsz := Nat.le_trans h.hsz k.hsz
  nxt := Nat.le_trans h.nxt k.nxt
  newid i b hi hn := by
    cases hτ : τ.bl i with
    | none => exact Nat.le_trans h.nxt (k.newid i b hi hτ)
    | some b' => exact h.newid i b' hτ hn
  newblk i b hi hn := by
    cases hτ : τ.bl i with
    | none =>
      rcases k.newblk i b hi hτ with h1 | ⟨j, hj, hj1, hj2⟩
      · exact .inl (Nat.le_trans h.hsz h1)
      · cases hρ : ρ.bl j with
        | none =>
          rcases h.newblk j b hj hρ with h2 | ⟨l, hl, hl1, hl2⟩
          · exact .inl h2
          · refine .inr ⟨l, hl, hl1, k.dead l ?_ hl2⟩
            have := (h.rel.blk l b (h.le l b hl).1).1
            exact this
        | some b' =>
          have := (h.le j b' hρ).1
          rw [hj] at this
          cases this
          refine .inr ⟨j, hρ, fun h0 => hj1 (h.dead j (h.base.blk j b hρ).1 h0), hj2⟩
    | some b' =>
      have := (k.le i b' hτ).1
      rw [hi] at this
      cases this
      rcases h.newblk i b hτ hn with h1 | ⟨j, hj, hj1, hj2⟩
      · exact .inl h1
      · exact .inr ⟨j, hj, hj1, k.dead j (h.rel.blk j b (h.le j b hj).1).1 hj2⟩
  low := Nat.le_trans k.low h.low
  keep i hi hl := by
    rw [k.keep i (Nat.lt_of_lt_of_le hi h.nxt) hl, h.keep i hi (Nat.lt_of_lt_of_le hl k.low)]
  dead i hi h0 := k.dead i (Nat.lt_of_lt_of_le hi h.nxt) (h.dead i hi h0)
  stay i b hi hk hl := by
    rw [k.stay i b (h.le i b hi).1 (by rw [h.keep i (h.base.blk i b hi).1 (Nat.lt_of_lt_of_le hl k.low)]; exact hk) hl, h.stay i b hi hk (Nat.lt_of_lt_of_le hl k.low)]
  out := ⟨k.out.1.trans h.out.1, k.out.2.trans h.out.2⟩

theorem R.of_heap {G : Nat} {ρ : Ren} {σ : AS} {w w' : World} (e : w'.heap = w.heap) (h : R G ρ σ w) : R G ρ σ w' :=
  ⟨fun i b hi => by rw [e]; exact h.blk i b hi, h.inj, h.glob, h.globN⟩

theorem Sim.of_heap {G : Nat} {ρ τ : Ren} {σ σ' : AS} {w w' w'' : World} (e : w''.heap = w'.heap) (eo : w''.os = w'.os ∧ w''.output = w'.output) (h : Sim G ρ σ w τ σ' w') : Sim G ρ σ w τ σ' w'' :=
  { h with rel := h.rel.of_heap e, frame := fun b hb hd => by rw [e]; exact h.frame b hb hd, hsz := by rw [e]; exact h.hsz, stay := fun i b h1 h2 h3 => by rw [e]; exact h.stay i b h1 h2 h3, out := ⟨eo.1.trans h.out.1, eo.2.trans h.out.2⟩ }

theorem Sim.of_heap0 {G : Nat} {ρ τ : Ren} {σ σ' : AS} {w w0 w' : World} (e : w0.heap = w.heap) (eo : w0.os = w.os ∧ w0.output = w.output) (h : Sim G ρ σ w0 τ σ' w') : Sim G ρ σ w τ σ' w' :=
  { h with out := ⟨h.out.1.trans eo.1, h.out.2.trans eo.2⟩, base := h.base.of_heap e.symm, frame := fun b hb hd => by rw [h.frame b (by rw [e]; exact hb) hd, e], hsz := by rw [← e]; exact h.hsz, stay := fun i b h1 h2 h3 => by rw [h.stay i b h1 h2 h3, e],
           newblk := fun i b h1 h2 => by rw [← e]; exact h.newblk i b h1 h2 }

def Ren.add (ρ : Ren) (i b : Nat) (s : Nat × Nat) : Ren := ⟨fun j => if j = i then some b else ρ.bl j, fun j => if j = i then s else ρ.sz j⟩

theorem Ren.le_add {ρ : Ren} {i b : Nat} {s : Nat × Nat} (h : ρ.bl i = none) : ρ.le (ρ.add i b s) := fun j c hj => by
  have hne : j ≠ i := fun e => by rw [e, h] at hj; cases hj
  simp [Ren.add, hne, hj]

theorem R.fresh {G : Nat} {ρ : Ren} {σ : AS} {w : World} (h : R G ρ σ w) : ρ.bl σ.next = none := by
  cases hb : ρ.bl σ.next with
  | none => rfl
  | some b => have := (h.blk _ b hb).1; omega

theorem alloc_get {w : World} {o : Obj} {b : Nat} : (w.alloc o).heap[b]? = if b = w.heap.size then some o else w.heap[b]? := by
  show (w.heap.push o)[b]? = _
  rw [Array.getElem?_push]

theorem Sim.alloc {G : Nat} {ρ : Ren} {σ : AS} {w : World} (h : R G ρ σ w) {o : Obj} {blk : Blk} (s : Nat × Nat)
    (hb : BRel (ρ.add σ.next w.heap.size s) σ.next blk o) : Sim G ρ σ w (ρ.add σ.next w.heap.size s) (σ.new blk) (w.alloc o) where
  base := h
  le := Ren.le_add h.fresh
  rel := by
    have hle : ρ.le (ρ.add σ.next w.heap.size s) := Ren.le_add h.fresh
    refine ⟨?_, ?_, ?_, Nat.le_succ_of_le h.globN⟩
    · intro i b hi
      by_cases e : i = σ.next
      · subst e
        simp [Ren.add] at hi
        subst hi
        exact ⟨Nat.lt_succ_self _, o, by rw [alloc_get, if_pos rfl], by rw [AS.get_new, if_pos rfl]; exact hb⟩
      · simp [Ren.add, e] at hi
        obtain ⟨h1, o', ho', hr⟩ := h.blk i b hi
        refine ⟨Nat.lt_succ_of_lt h1, o', ?_, ?_⟩
        · have := h.lt hi
          rw [alloc_get, if_neg (by omega)]; exact ho'
        · rw [AS.get_new, if_neg (by omega)]
          exact hr.ext hle (by simp [Ren.add, e])
    · intro i j b hi hj ki kj
      by_cases ei : i = σ.next
      · by_cases ej : j = σ.next
        · rw [ei, ej]
        · simp [Ren.add, ei] at hi
          simp [Ren.add, ej] at hj
          have := h.lt hj
          omega
      · by_cases ej : j = σ.next
        · simp [Ren.add, ej] at hj
          simp [Ren.add, ei] at hi
          have := h.lt hi
          omega
        · simp [Ren.add, ei] at hi
          simp [Ren.add, ej] at hj
          rw [AS.get_new, if_neg (by omega)] at ki kj
          exact h.inj i j b hi hj ki kj
    · intro g hg
      have := h.glob g hg
      exact (hle g g this).1
  frame b hb _ := by
    rw [alloc_get, if_neg (by omega)]
  hsz := by simp
  nxt := Nat.le_succ _
  newid i b hi hn := by
    by_cases e : i = σ.next
    · omega
    · simp [Ren.add, e] at hi
      rw [hi] at hn; cases hn
  newblk i b hi hn := by
    by_cases e : i = σ.next
    · subst e; simp [Ren.add] at hi; exact .inl (by omega)
    · simp [Ren.add, e] at hi
      rw [hi] at hn; cases hn
  low := Nat.le_refl _
  keep i hi _ := by rw [AS.get_new, if_neg (by omega)]
  dead i hi h0 := by rw [AS.get_new, if_neg (by omega)]; exact h0
  stay i b hi _ _ := by
    have := h.lt hi
    rw [alloc_get, if_neg (by omega)]
  out := ⟨rfl, rfl⟩

theorem heap_set_get {h : Array Obj} {b c : Nat} {o o' : Obj} (hb : h[b]? = some o) : (h.setIfInBounds b o')[c]? = if b = c then some o' else h[c]? := by
  have hlt : b < h.size := by
    rcases Nat.lt_or_ge b h.size with h' | h'
    · exact h'
    · simp [Array.getElem?_eq_none h'] at hb
  rw [Array.getElem?_setIfInBounds]
  split
  · rename_i e; subst e; simp [hlt]
  · rfl

theorem Sim.put {G : Nat} {ρ : Ren} {σ : AS} {w w' : World} (h : R G ρ σ w) {i b : Nat} {o' : Obj} {blk : Blk} (hi : ρ.bl i = some b) (hk : (σ.get i).kind ≠ 0)
    (hw : w'.heap = w.heap.setIfInBounds b o') (ho : w'.os = w.os ∧ w'.output = w.output) (hb : BRel ρ i blk o') : Sim G ρ σ w ρ (σ.put i blk) w' where
  base := h
  le := Ren.le_refl ρ
  rel := by
    obtain ⟨_, o, ho, _⟩ := h.blk i b hi
    refine ⟨?_, ?_, h.glob, h.globN⟩
    · intro j c hj
      obtain ⟨h1, oj, hoj, hr⟩ := h.blk j c hj
      refine ⟨h1, ?_⟩
      rw [hw, heap_set_get ho, AS.get_put]
      by_cases e : i = j
      · subst e
        rw [hi] at hj; cases hj
        exact ⟨o', by simp, by rw [if_pos rfl]; exact hb⟩
      · rw [if_neg e]
        by_cases ec : b = c
        · subst ec
          have hd : (σ.get j).kind = 0 := by
            by_cases hz : (σ.get j).kind = 0
            · exact hz
            · exact absurd (h.inj i j b hi hj hk hz) e
          refine ⟨o', by simp, ?_⟩
          unfold BRel; rw [hd]; trivial
        · exact ⟨oj, by rw [if_neg ec]; exact hoj, hr⟩
    · intro j l c hj hl kj kl
      have key : ∀ x, ((σ.put i blk).get x).kind ≠ 0 → (σ.get x).kind ≠ 0 := fun x hx => by
        rw [AS.get_put] at hx
        by_cases e : i = x
        · subst e; exact hk
        · rw [if_neg e] at hx; exact hx
      exact h.inj j l c hj hl (key j kj) (key l kl)
  frame c hc hd := by
    obtain ⟨_, o, ho, _⟩ := h.blk i b hi
    rw [hw, heap_set_get ho, if_neg]
    intro e; subst e
    exact hk (hd i hi)
  hsz := by rw [hw]; simp
  nxt := Nat.le_refl _
  newid j c h1 h2 := by rw [h1] at h2; cases h2
  newblk j c h1 h2 := by rw [h1] at h2; cases h2
  low := Nat.min_le_left _ _
  keep j hj hl := by
    rw [AS.get_put, if_neg]
    intro e; subst e
    exact absurd hl (Nat.not_lt.2 (Nat.min_le_right _ _))
  dead j hj h0 := by
    rw [AS.get_put, if_neg, h0]
    intro e; subst e; exact hk h0
  stay j c hj hkj hl := by
    obtain ⟨_, o, ho, _⟩ := h.blk i b hi
    rw [hw, heap_set_get ho, if_neg]
    intro e; subst e
    have hlt : j < i := Nat.lt_of_lt_of_le hl (Nat.min_le_right _ _)
    have := h.inj j i b hj hi hkj hk
    omega
  out := ho

/-- An append in place: a new name for the same block; the old name is dead. -/
theorem Sim.move {G : Nat} {ρ : Ren} {σ : AS} {w w' : World} (h : R G ρ σ w) {i b : Nat} {o' : Obj} {blk : Blk} {s : Nat × Nat} (hi : ρ.bl i = some b)
    (hk : (σ.get i).kind ≠ 0)
    (hw : w'.heap = w.heap.setIfInBounds b o') (hout : w'.os = w.os ∧ w'.output = w.output) (hb : BRel (ρ.add σ.next b s) σ.next blk o') :
    Sim G ρ σ w (ρ.add σ.next b s) ((σ.put i Blk.dead).new blk) w' where
  base := h
  le := Ren.le_add h.fresh
  rel := by
    have hle : ρ.le (ρ.add σ.next b s) := Ren.le_add h.fresh
    obtain ⟨hin, o, ho, _⟩ := h.blk i b hi
    have hget : ∀ j, ((σ.put i Blk.dead).new blk).get j = if σ.next = j then blk else if i = j then Blk.dead else σ.get j := fun j => by
      rw [AS.get_new, AS.get_put]; rfl
    refine ⟨?_, ?_, ?_, Nat.le_succ_of_le h.globN⟩
    · intro j c hj
      rw [hw, heap_set_get ho, hget]
      by_cases e : j = σ.next
      · subst e
        simp [Ren.add] at hj
        subst hj
        exact ⟨Nat.lt_succ_self _, o', by simp, by rw [if_pos rfl]; exact hb⟩
      · simp [Ren.add, e] at hj
        obtain ⟨h1, oj, hoj, hr⟩ := h.blk j c hj
        refine ⟨Nat.lt_succ_of_lt h1, ?_⟩
        rw [if_neg (show ¬ σ.next = j from fun e' => e e'.symm)]
        by_cases ec : b = c
        · subst ec
          refine ⟨o', by simp, ?_⟩
          by_cases e2 : i = j
          · rw [if_pos e2]; exact trivial
          · rw [if_neg e2]
            have hd : (σ.get j).kind = 0 := by
              by_cases hz : (σ.get j).kind = 0
              · exact hz
              · exact absurd (h.inj i j b hi hj hk hz) e2
            unfold BRel; rw [hd]; trivial
        · refine ⟨oj, by rw [if_neg ec]; exact hoj, ?_⟩
          rw [if_neg (fun e2 => by subst e2; rw [hi] at hj; cases hj; exact ec rfl)]
          exact hr.ext hle (by simp [Ren.add, e])
    · intro j l c hj hl kj kl
      rw [hget] at kj kl
      have key : ∀ x, (σ.next ≠ x) → (if σ.next = x then blk else if i = x then Blk.dead else σ.get x).kind ≠ 0 → i ≠ x ∧ (σ.get x).kind ≠ 0 := fun x hx hh => by
        rw [if_neg hx] at hh
        by_cases e : i = x
        · rw [if_pos e] at hh; exact absurd rfl hh
        · rw [if_neg e] at hh; exact ⟨e, hh⟩
      by_cases ej : j = σ.next
      · by_cases el : l = σ.next
        · rw [ej, el]
        · simp [Ren.add, ej] at hj
          simp [Ren.add, el] at hl
          subst hj
          obtain ⟨k1, k2⟩ := key l (fun e => el e.symm) kl
          exact absurd (h.inj i l b hi hl hk k2) k1
      · by_cases el : l = σ.next
        · simp [Ren.add, ej] at hj
          simp [Ren.add, el] at hl
          subst hl
          obtain ⟨k1, k2⟩ := key j (fun e => ej e.symm) kj
          exact absurd (h.inj i j b hi hj hk k2) k1
        · simp [Ren.add, ej] at hj
          simp [Ren.add, el] at hl
          exact h.inj j l c hj hl (key j (fun e => ej e.symm) kj).2 (key l (fun e => el e.symm) kl).2
    · intro g hg
      exact (hle g g (h.glob g hg)).1
  frame c hc hd := by
    obtain ⟨_, o, ho, _⟩ := h.blk i b hi
    rw [hw, heap_set_get ho, if_neg]
    intro e; subst e
    exact hk (hd i hi)
  hsz := by rw [hw]; simp
  nxt := Nat.le_succ _
  newid j c hj hn := by
    by_cases e : j = σ.next
    · omega
    · simp [Ren.add, e] at hj
      rw [hj] at hn; cases hn
  newblk j c hj hn := by
    by_cases e : j = σ.next
    · subst e; simp [Ren.add] at hj; subst hj
      refine .inr ⟨i, hi, hk, ?_⟩
      have := (h.blk i b hi).1
      rw [AS.get_new, if_neg (by show ¬ σ.next = i; omega), AS.get_put, if_pos rfl]; rfl
    · simp [Ren.add, e] at hj
      rw [hj] at hn; cases hn
  low := Nat.min_le_left _ _
  keep j hj hl := by
    rw [AS.get_new, if_neg (by show ¬ σ.next = j; omega), AS.get_put, if_neg]
    intro e; subst e
    exact absurd hl (Nat.not_lt.2 (Nat.min_le_right _ _))
  dead j hj h0 := by
    rw [AS.get_new, if_neg (by show ¬ σ.next = j; omega), AS.get_put]
    split
    · rfl
    · exact h0
  stay j c hj hkj hl := by
    obtain ⟨_, o, ho, _⟩ := h.blk i b hi
    rw [hw, heap_set_get ho, if_neg]
    intro e; subst e
    have hlt : j < i := Nat.lt_of_lt_of_le hl (Nat.min_le_right _ _)
    have := h.inj j i b hj hi hkj hk
    omega
  out := hout

theorem Sim.kill {G : Nat} {ρ : Ren} {σ : AS} {w : World} (h : R G ρ σ w) {i b : Nat} (hi : ρ.bl i = some b) (hk : (σ.get i).kind ≠ 0) : Sim G ρ σ w ρ (σ.put i Blk.dead) w := by
  obtain ⟨_, o, ho, _⟩ := h.blk i b hi
  refine Sim.of_heap (w' := { w with heap := w.heap.setIfInBounds b o }) ?_ ⟨rfl, rfl⟩ (Sim.put h hi hk rfl ⟨rfl, rfl⟩ trivial)
  apply Array.ext_getElem?
  intro c
  rw [heap_set_get ho]
  split
  · rename_i e; subst e; exact ho
  · rfl

/-! ### Cells -/

theorem lover_length {α : Type} : ∀ (l cs : List α), (lover l cs).length = l.length
  | _, [] => by simp [lover]
  | [], _ :: _ => rfl
  | _ :: l, _ :: cs => by simp [lover, lover_length l cs]

theorem lsplice_length {α : Type} : ∀ (l : List α) (n : Nat) (cs : List α), (lsplice l n cs).length = l.length
  | l, 0, cs => by cases l <;> simp [lsplice, lover_length]
  | [], _ + 1, _ => rfl
  | _ :: l, n + 1, cs => by simp [lsplice, lsplice_length l n cs]

theorem lsplice_nil {α : Type} : ∀ (l : List α) (n : Nat), lsplice l n [] = l
  | [], 0 => rfl
  | _ :: _, 0 => rfl
  | [], _ + 1 => rfl
  | a :: l, n + 1 => by simp [lsplice, lsplice_nil l n]

theorem lsplice_cons {α : Type} : ∀ (l : List α) (n : Nat) (c : α) (cs : List α), lsplice l n (c :: cs) = lsplice (l.set n c) (n + 1) cs
  | [], 0, c, cs => by simp [lsplice, lover]
  | a :: l, 0, c, cs => by cases l <;> simp [lsplice, lover]
  | [], n + 1, c, cs => by simp [lsplice]
  | a :: l, n + 1, c, cs => by simp [lsplice, lsplice_cons l n c cs]

theorem LRel.over {α β : Type} {R : α → β → Prop} : ∀ {l : List α} {m : List β} {cs : List α} {ds : List β}, LRel R l m → LRel R cs ds → LRel R (lover l cs) (lover m ds)
  | _, _, [], [], h, _ => by simpa [lover] using h
  | [], [], _ :: _, _ :: _, _, _ => by simp [lover, LRel]
  | _ :: _, _ :: _, _ :: _, _ :: _, h, h' => ⟨h'.1, LRel.over h.2 h'.2⟩
  | _, _, [], _ :: _, _, h => h.elim
  | _, _, _ :: _, [], _, h => h.elim
  | [], _ :: _, _ :: _, _ :: _, h, _ => h.elim
  | _ :: _, [], _ :: _, _ :: _, h, _ => h.elim

theorem LRel.splice {α β : Type} {R : α → β → Prop} : ∀ (n : Nat) {l : List α} {m : List β} {cs : List α} {ds : List β}, LRel R l m → LRel R cs ds →
    LRel R (lsplice l n cs) (lsplice m n ds)
  | 0, l, m, _, _, h, h' => by
    have := h.over h'
    cases l <;> cases m <;> first | exact this | exact h.elim
  | _ + 1, [], [], _, _, _, _ => trivial
  | n + 1, _ :: _, _ :: _, _, _, h, h' => ⟨h.1, LRel.splice n h.2 h'⟩
  | _ + 1, [], _ :: _, _, _, h, _ => h.elim
  | _ + 1, _ :: _, [], _, _, h, _ => h.elim

theorem lover_append {α : Type} : ∀ (p q cs : List α), cs.length ≤ p.length → lover (p ++ q) cs = lover p cs ++ q
  | p, q, [], _ => by simp [lover]
  | [], q, _ :: _, h => by simp at h
  | a :: p, q, c :: cs, h => by simp [lover, lover_append p q cs (by simpa using h)]

theorem lsplice_append {α : Type} : ∀ (p : List α) (n : Nat) (q cs : List α), n + cs.length ≤ p.length → lsplice (p ++ q) n cs = lsplice p n cs ++ q
  | p, 0, q, cs, h => by
    have := lover_append p q cs (by simpa using h)
    have e : ∀ l : List α, lsplice l 0 cs = lover l cs := fun l => by cases l <;> rfl
    rw [e, e, this]
  | [], n + 1, q, cs, h => by simp at h
  | a :: p, n + 1, q, cs, h => by simp [lsplice, lsplice_append p n q cs (by simp at h; omega)]

theorem lover_eq {α : Type} : ∀ (l cs : List α), cs.length ≤ l.length → lover l cs = cs ++ l.drop cs.length
  | l, [], _ => by simp [lover]
  | [], _ :: _, h => by simp at h
  | _ :: l, c :: cs, h => by simp [lover, lover_eq l cs (by simpa using h)]

theorem lsplice_eq {α : Type} : ∀ (l : List α) (n : Nat) (cs : List α), n + cs.length ≤ l.length → lsplice l n cs = l.take n ++ cs ++ l.drop (n + cs.length)
  | l, 0, cs, h => by
    have := lover_eq l cs (by simpa using h)
    cases l <;> simpa [lsplice] using this
  | [], n + 1, cs, h => by simp at h
  | a :: l, n + 1, cs, h => by
    simp only [lsplice, lsplice_eq l n cs (by simp at h; omega)]
    simp [show n + 1 + cs.length = (n + cs.length) + 1 from by omega]

theorem frozen_of {w : World} {b off : Nat} {c : Array Value} {e : TypeId} {fr : Nat × Nat} (h : w.heap[b]? = some (.cells c e fr)) (hf : fr = (0, 0) ∨ c.size ≤ fr.1)
    (ho : off < c.size) : w.frozen? ⟨b, off, none⟩ = false := by
  unfold World.frozen?
  simp only [h]
  obtain ⟨lo, hi⟩ := fr
  rcases hf with hf | hf
  · cases hf; simp
  · simp only at hf; simp; omega

theorem one_oneCell {v : Value} (h : one v = true) : v.oneCell' = true := by cases v <;> first | rfl | exact h

theorem run_storeCells (P : Program) {e : TypeId} {fr : Nat × Nat} {b off : Nat} : ∀ (cs : List Value) (i : Nat) (c : Array Value) (w : World),
    w.heap[b]? = some (.cells c e fr) → (fr = (0, 0) ∨ c.size ≤ fr.1) → off + i + cs.length ≤ c.size → cs.all one = true →
    ∃ w', (storeCells ⟨b, off, none⟩ cs i).run P w = .ok () w' ∧ w'.heap = w.heap.setIfInBounds b (.cells (lsplice c.toList (off + i) cs).toArray e fr) ∧ w'.os = w.os ∧ w'.output = w.output
  | [], i, c, w, hb, hf, hl, ho => by
    refine ⟨w, rfl, ?_, rfl, rfl⟩
    rw [lsplice_nil]
    apply Array.ext_getElem?
    intro j
    rw [heap_set_get hb]
    split
    · rename_i h; subst h; rw [hb]
    · rfl
  | v :: cs, i, c, w, hb, hf, hl, ho => by
    simp only [List.all_cons, Bool.and_eq_true] at ho
    simp only [List.length_cons] at hl
    have hadd : (⟨b, off, none⟩ : Addr).add i = ⟨b, off + i, none⟩ := by
      unfold Addr.add; split
      · rename_i h; subst h; rfl
      · rfl
    have hlt : off + i < c.size := by omega
    have hcell : w.cell? ⟨b, off + i, none⟩ = some c[off + i] := by
      simp [World.cell?, hb, hlt]
    have hfz : w.frozen? ⟨b, off + i, none⟩ = false := frozen_of hb hf hlt
    have hset : (w.setCell ⟨b, off + i, none⟩ v).heap = w.heap.setIfInBounds b (.cells (c.setIfInBounds (off + i) v) e fr) := by
      apply Array.ext_getElem?
      intro j
      rw [heap_set_get hb]
      simp only [World.setCell, Array.getElem?_modify]
      split
      · rename_i h; subst h; simp [hb]
      · rfl
    have hlb : b < w.heap.size := by
      rcases Nat.lt_or_ge b w.heap.size with h' | h'
      · exact h'
      · simp [Array.getElem?_eq_none h'] at hb
    have hl' : off + (i + 1) + cs.length ≤ (c.setIfInBounds (off + i) v).size := by rw [Array.size_setIfInBounds]; omega
    obtain ⟨w', hr, hw', ho'⟩ := run_storeCells P cs (i + 1) (c.setIfInBounds (off + i) v) (w.setCell ⟨b, off + i, none⟩ v)
      (by rw [hset, heap_set_get hb, if_pos rfl]) (by rw [Array.size_setIfInBounds]; exact hf) hl' ho.2
    refine ⟨w', ?_, ?_, ho'⟩
    · simp only [storeCells, hadd]
      rw [Sem.run_bind, run_store P w _ v _ (one_oneCell ho.1), hcell]
      simp only [hfz, Bool.false_eq_true, if_false, Result.andThen_ok]
      exact hr
    · rw [hw', hset]
      apply Array.ext_getElem?
      intro j
      rw [heap_set_get (o := .cells (c.setIfInBounds (off + i) v) e fr) (by rw [heap_set_get hb, if_pos rfl]), heap_set_get hb, heap_set_get hb]
      split
      · rename_i h; subst h
        rw [lsplice_cons, Array.toList_setIfInBounds]
        rfl
      · rfl

end Go.Proofs.YtacpdefmnijhnaaGreat.Abs
