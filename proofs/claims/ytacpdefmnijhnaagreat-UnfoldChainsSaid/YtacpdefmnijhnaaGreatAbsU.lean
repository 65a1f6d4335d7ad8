/- A call that is known by one run over an empty memory: what it makes is laid behind the memory of its caller. No program. -/
import Derived.Test.YtacpdefmnijhnaaGreatAbsM
set_option linter.unusedSimpArgs false
set_option linter.unusedVariables false
namespace Go.Proofs.YtacpdefmnijhnaaGreat.Abs

noncomputable def shL (f : Value → Option Value) : List Value → Option (List Value)
  | [] => some []
  | a :: l => match f a with
    | some b => match shL f l with
      | some m => some (b :: m)
      | none => none
    | none => none

/-- The value, its blocks' numbers greater by d. -/
noncomputable def shV (d : Nat) : Nat → Value → Option Value
  | 0, _ => none
  | n + 1, v => match v with
    | .pointer (some a) => some (.pointer (some ⟨a.block + d, a.off, a.spot⟩))
    | .slice (some a) l c => match a.spot with
      | none => some (.slice (some ⟨a.block + d, a.off, none⟩) l c)
      | some _ => some (.slice (some a) l c)
    | .map (some r) => some (.map (some (r + d)))
    | .func fn f c => match shL (shV d n) f.toList with
      | some f' => match shL (shV d n) c.toList with
        | some c' => some (.func fn f'.toArray c'.toArray)
        | none => none
      | none => none
    | .iface t x => match shV d n x with
      | some y => some (.iface t y)
      | none => none
    | .agg cs => match shL (shV d n) cs.toList with
      | some l => some (.agg l.toArray)
      | none => none
    | .tuple cs => match shL (shV d n) cs.toList with
      | some l => some (.tuple l.toArray)
      | none => none
    | .chan _ => none
    | v => some v

structure Moved (τ τ' : Ren) (d : Nat) : Prop where
  bl : ∀ i b, τ.bl i = some b → τ'.bl (i + d) = some b
  sz : ∀ i, τ'.sz (i + d) = τ.sz i

theorem shL_rel {f : Value → Option Value} {R S : Value → Value → Prop} (h : ∀ a b c, f a = some b → R a c → S b c) : ∀ {l m l' : List Value}, shL f l = some m → LRel R l l' → LRel S m l'
  | [], m, [], h1, _ => by cases h1; trivial
  | a :: l, m, c :: l', h1, h2 => by
    simp only [shL] at h1
    split at h1
    · rename_i b hb
      split at h1
      · rename_i k hk
        cases h1
        exact ⟨h _ _ _ hb h2.1, shL_rel h hk h2.2⟩
      · cases h1
    · cases h1
  | [], _, _ :: _, _, h2 => h2.elim
  | _ :: _, _, [], _, h2 => h2.elim

theorem shV_rel {τ τ' : Ren} {d : Nat} (hm : Moved τ τ' d) : ∀ (n : Nat) {v u v' : Value}, shV d n v = some u → VRel τ v v' → VRel τ' u v'
  | 0, v, u, v', h, _ => by simp [shV] at h
  | n + 1, v, u, v', h, hr => by
    have ih : ∀ a b c, shV d n a = some b → VRel τ a c → VRel τ' b c := fun a b c h h' => shV_rel hm n h h'
    cases v
    case pointer a =>
      cases a with
      | none => simp only [shV] at h; cases h; exact vrel_ptr_none.2 (vrel_ptr_none.1 hr)
      | some a =>
        simp only [shV] at h; cases h
        obtain ⟨b, h1, h2, rfl⟩ := vrel_ptr.1 hr
        exact vrel_ptr.2 ⟨b, hm.bl _ _ h1, h2, rfl⟩
    case slice a l c =>
      cases a with
      | none => simp only [shV] at h; cases h; exact vrel_slice_none.2 (vrel_slice_none.1 hr)
      | some a =>
        simp only [shV] at h
        rcases vrel_slice.1 hr with ⟨b, c', h1, h2, h3, rfl⟩ | ⟨h1, h2, h3, rfl⟩
        · rw [h2] at h
          cases h
          exact vrel_slice.2 (.inl ⟨b, c', hm.bl _ _ h1, rfl, by rw [hm.sz]; exact h3, rfl⟩)
        · split at h
          · rename_i e; exact absurd e h1
          · cases h; exact vrel_slice.2 (.inr ⟨h1, h2, h3, rfl⟩)
    case map a =>
      cases a with
      | none => simp only [shV] at h; cases h; exact vrel_map_none.2 (vrel_map_none.1 hr)
      | some a =>
        simp only [shV] at h; cases h
        obtain ⟨b, h1, rfl⟩ := vrel_map.1 hr
        exact vrel_map.2 ⟨b, hm.bl _ _ h1, rfl⟩
    case func fn f c =>
      simp only [shV] at h
      split at h
      · rename_i f' hf
        split at h
        · rename_i c' hc
          cases h
          obtain ⟨f2, c2, h1, h2, rfl⟩ := vrel_func.1 hr
          exact vrel_func.2 ⟨f2, c2, by simpa using shL_rel ih hf h1, by simpa using shL_rel ih hc h2, rfl⟩
        · cases h
      · cases h
    case iface t x =>
      simp only [shV] at h
      split at h
      · rename_i y hy
        cases h
        obtain ⟨x', h1, rfl⟩ := vrel_iface.1 hr
        exact vrel_iface.2 ⟨x', ih _ _ _ hy h1, rfl⟩
      · cases h
    case agg cs =>
      simp only [shV] at h
      split at h
      · rename_i l hl
        cases h
        obtain ⟨x', h1, rfl⟩ := vrel_agg.1 hr
        exact vrel_agg.2 ⟨x', by simpa using shL_rel ih hl h1, rfl⟩
      · cases h
    case tuple cs =>
      simp only [shV] at h
      split at h
      · rename_i l hl
        cases h
        obtain ⟨x', h1, rfl⟩ := vrel_tuple.1 hr
        exact vrel_tuple.2 ⟨x', by simpa using shL_rel ih hl h1, rfl⟩
      · cases h
    case chan r => simp [shV] at h
    case bool b => simp only [shV] at h; cases h; exact vrel_bool.2 (vrel_bool.1 hr)
    case int k i => simp only [shV] at h; cases h; exact vrel_int.2 (vrel_int.1 hr)
    case float k i => simp only [shV] at h; cases h; exact vrel_float.2 (vrel_float.1 hr)
    case complex k a b => simp only [shV] at h; cases h; exact vrel_complex.2 (vrel_complex.1 hr)
    case string b => simp only [shV] at h; cases h; exact vrel_string.2 (vrel_string.1 hr)
    case nilFunc => simp only [shV] at h; cases h; exact vrel_nilFunc.2 (vrel_nilFunc.1 hr)
    case nilIface => simp only [shV] at h; cases h; exact vrel_nilIface.2 (vrel_nilIface.1 hr)

noncomputable def shB (d : Nat) (b : Blk) : Option Blk :=
  if Nat.beq b.kind 0 then some Blk.dead
  else if isCells b then match shL (shV d 9) b.vals with
    | some vs => some ⟨b.kind, b.elem, b.esz, vs, []⟩
    | none => none
  else none

theorem shB_kind {d : Nat} {b c : Blk} (h : shB d b = some c) : c.kind = b.kind := by
  unfold shB at h
  split at h
  · rename_i hk; cases h; exact (Nat.eq_of_beq_eq_true hk).symm
  · split at h
    · split at h
      · cases h; rfl
      · cases h
    · cases h

theorem shB_rel {τ τ' : Ren} {d i : Nat} (hm : Moved τ τ' d) {b c : Blk} {o : Obj} (h : shB d b = some c) (hr : BRel τ i b o) : BRel τ' (i + d) c o := by
  obtain ⟨kind, elem, esz, vals, ents⟩ := b
  unfold shB at h
  split at h
  · cases h; trivial
  · rename_i h0
    split at h
    · rename_i hc
      split at h
      · rename_i vs hvs
        cases h
        simp only [isCells, Bool.or_eq_true, Nat.beq_eq] at hc
        rcases hc with rfl | rfl
        · obtain ⟨c, fr, h1, h2, h3⟩ := hr
          exact ⟨c, fr, h1, h2, shL_rel (R := VRel τ) (S := VRel τ') (fun a b c h h' => shV_rel hm 9 h h') (show shL (shV d 9) vals = some vs from hvs) h3⟩
        · obtain ⟨c, fr, pre, post, h1, h2, h3, h4, h5⟩ := hr
          exact ⟨c, fr, pre, post, h1, h2, h3, shL_rel (R := VRel τ) (S := VRel τ') (fun a b c h h' => shV_rel hm 9 h h') (show shL (shV d 9) vals = some vs from hvs) h4, by rw [hm.sz]; exact h5⟩
      · cases h
    · cases h

/-- The blocks behind the memory. -/
noncomputable def layB (d : Nat) : List Blk → AS → Option AS
  | [], σ => some σ
  | b :: l, σ => match shB d b with
    | some b' => layB d l (σ.new b')
    | none => none

theorem layB_mono {d : Nat} : ∀ {l : List Blk} {σ σ' : AS}, layB d l σ = some σ' → AMono σ σ'
  | [], σ, σ', h => by cases h; exact AMono.refl _
  | b :: l, σ, σ', h => by
    simp only [layB] at h
    split at h
    · exact (AMono.new _ _).trans (layB_mono h)
    · cases h

theorem layB_at {d : Nat} : ∀ {l : List Blk} {σ σ' : AS}, layB d l σ = some σ' → σ'.next = σ.next + l.length ∧ σ'.low = σ.low ∧ (∀ i, i < σ.next → σ'.get i = σ.get i) ∧
    ∀ i b, l[i]? = some b → ∃ c, shB d b = some c ∧ σ'.get (σ.next + i) = c
  | [], σ, σ', h => by cases h; exact ⟨rfl, rfl, fun _ _ => rfl, fun i b h => by simp at h⟩
  | b :: l, σ, σ', h => by
    simp only [layB] at h
    split at h
    · rename_i c hc
      obtain ⟨h1, h2, h3, h4⟩ := layB_at h
      have en : (σ.new c).next = σ.next + 1 := rfl
      refine ⟨by rw [h1, en, List.length_cons]; omega, h2, fun i hi => ?_, fun i x hx => ?_⟩
      · rw [h3 i (by omega), AS.get_new, if_neg (by omega)]
      · cases i with
        | zero =>
          simp only [List.getElem?_cons_zero, Option.some.injEq] at hx
          subst hx
          exact ⟨c, hc, by rw [Nat.add_zero, h3 _ (by omega), AS.get_new, if_pos rfl]⟩
        | succ i =>
          obtain ⟨y, h5, h6⟩ := h4 i x (by simpa using hx)
          exact ⟨y, h5, by rw [← h6, en]; congr 1; omega⟩
    · cases h

noncomputable def moved (v : Value) (bs : List Blk) (σ : AS) : Option (Value × AS) :=
  match shV σ.next 9 v with
  | some u => match layB σ.next bs σ with
    | some σ' => some (u, σ')
    | none => none
  | none => none

/-- The blocks of a memory, in order. -/
noncomputable def blocks (σ : AS) : Nat → List Blk → List Blk
  | 0, acc => acc
  | n + 1, acc => blocks σ n (σ.get n :: acc)

theorem blocks_at (σ : AS) : ∀ (n : Nat) (acc : List Blk) (i : Nat), (blocks σ n acc)[i]? = if i < n then some (σ.get i) else acc[i - n]?
  | 0, acc, i => by simp [blocks]
  | n + 1, acc, i => by
    rw [blocks, blocks_at σ n]
    by_cases h : i < n
    · rw [if_pos h, if_pos (by omega)]
    · rw [if_neg h]
      by_cases e : i = n
      · subst e; simp
      · rw [if_neg (by omega), show i - n = (i - (n + 1)) + 1 by omega, List.getElem?_cons_succ]

noncomputable def told : Option (Value × AS) → Option (Value × List Blk)
  | some (v, σ) => some (v, blocks σ σ.next [])
  | none => none

/-- One more known call: of a function at arguments without addresses; its answer may have new blocks. -/
noncomputable def Tbl.move (K : Tbl) (f : FuncId) (args : List Value) (v : Value) (bs : List Blk) : Tbl where
  dfr := K.dfr
  ask := fun g as σ => bite (Nat.beq g f && veqL (veq 9) as args) (moved v bs σ) (K.ask g as σ)
  mono := fun g as σ u σ' h => by
    dsimp only at h
    rw [bite_eq] at h
    split at h
    · unfold moved at h
      split at h
      · split at h
        · rename_i hl; cases h; exact layB_mono hl
        · cases h
      · cases h
    · exact K.mono _ _ _ _ _ h

/-- What a run over an empty memory has made is laid behind another memory. -/
theorem lay_sim {G : Nat} {ρ τ : Ren} {σ σ0 σ1 : AS} {w w' : World} {v u v' : Value} {bs : List Blk} (hR : R G ρ σ w) (hs : Sim 0 ⟨fun _ => none, fun _ => (0, 0)⟩ ⟨0, 0, .e⟩ w τ σ0 w') (hv' : VRel τ v v') (hbs : blocks σ0 σ0.next [] = bs) (hu : moved v bs σ = some (u, σ1)) :
    ∃ τ', VRel τ' u v' ∧ Sim G ρ σ w τ' σ1 w' := by
  subst hbs
  have old : ∀ b, b < w.heap.size → w'.heap[b]? = w.heap[b]? := fun b hb => hs.frame b hb fun i hi => (nomatch hi)
  have new : ∀ i b, τ.bl i = some b → w.heap.size ≤ b := fun i b hi => by
    rcases hs.newblk i b hi rfl with h | ⟨j, hj, _⟩
    · exact h
    · exact nomatch hj
  unfold moved at hu
  split at hu
  · rename_i u1 hu1
    split at hu
    · rename_i σ2 hl
      cases hu
      obtain ⟨l1, l2, l3, l4⟩ := layB_at hl
      have lz : (blocks σ0 σ0.next []).length = σ0.next := by
        rcases Nat.lt_trichotomy (blocks σ0 σ0.next []).length σ0.next with hlt | he | hgt
        · have h5 := blocks_at σ0 σ0.next [] (blocks σ0 σ0.next []).length
          rw [if_pos hlt, List.getElem?_eq_none (Nat.le_refl _)] at h5
          cases h5
        · exact he
        · have h5 := blocks_at σ0 σ0.next [] σ0.next
          rw [if_neg (Nat.lt_irrefl _), List.getElem?_eq_getElem hgt] at h5
          cases h5
      have l5 : ∀ i, i < σ0.next → ∃ c, shB σ.next (σ0.get i) = some c ∧ σ1.get (σ.next + i) = c := fun i hi =>
        l4 i _ (by rw [blocks_at, if_pos hi])
      let τ' : Ren := ⟨fun i => if i < σ.next then ρ.bl i else τ.bl (i - σ.next), fun i => if i < σ.next then ρ.sz i else τ.sz (i - σ.next)⟩
      have tb : ∀ i, τ'.bl i = if i < σ.next then ρ.bl i else τ.bl (i - σ.next) := fun _ => rfl
      have ts : ∀ i, τ'.sz i = if i < σ.next then ρ.sz i else τ.sz (i - σ.next) := fun _ => rfl
      have hm : Moved τ τ' σ.next := ⟨fun i b hb => by rw [tb, if_neg (by omega), Nat.add_sub_cancel]; exact hb, fun i => by rw [ts, if_neg (by omega), Nat.add_sub_cancel]⟩
      have hle : ρ.le τ' := fun i b hb => by
        have := (hR.blk i b hb).1
        exact ⟨by rw [tb, if_pos this]; exact hb, by rw [ts, if_pos this]⟩
      refine ⟨τ', shV_rel hm 9 hu1 hv', ?_⟩
      refine { base := hR, le := hle, rel := ⟨?_, ?_, ?_, by rw [l1]; exact Nat.le_trans hR.globN (Nat.le_add_right _ _)⟩, frame := fun b hb _ => old b hb, hsz := hs.hsz, nxt := by rw [l1]; exact Nat.le_add_right _ _, newid := ?_, newblk := ?_, low := by rw [l2]; exact Nat.le_refl _, keep := fun i hi _ => l3 i hi, dead := fun i hi h0 => by rw [l3 i hi]; exact h0, stay := fun i b hi _ _ => old b (hR.lt hi), out := hs.out }
      · intro i b hi
        rw [tb] at hi
        split at hi
        · rename_i hlt
          obtain ⟨h5, o, h6, h7⟩ := hR.blk i b hi
          exact ⟨by rw [l1]; omega, o, by rw [old b (hR.lt hi)]; exact h6, by rw [l3 i hlt]; exact h7.ext hle (by rw [ts, if_pos hlt])⟩
        · rename_i hge
          obtain ⟨h5, o, h6, h7⟩ := hs.rel.blk _ b hi
          obtain ⟨c, h8, h9⟩ := l5 _ h5
          have e : σ.next + (i - σ.next) = i := by omega
          refine ⟨by rw [l1, lz]; omega, o, h6, ?_⟩
          rw [e] at h9
          rw [h9]
          have := shB_rel hm h8 h7
          rwa [show i - σ.next + σ.next = i by omega] at this
      · intro i j b hi hj ki kj
        rw [tb] at hi hj
        split at hi <;> split at hj
        · rename_i h5 h6
          rw [l3 i h5] at ki
          rw [l3 j h6] at kj
          exact hR.inj i j b hi hj ki kj
        · have := hR.lt hi
          have := new _ _ hj
          omega
        · have := hR.lt hj
          have := new _ _ hi
          omega
        · rename_i h5 h6
          obtain ⟨c, h8, h9⟩ := l5 _ (hs.rel.blk _ b hi).1
          obtain ⟨c', h8', h9'⟩ := l5 _ (hs.rel.blk _ b hj).1
          rw [show σ.next + (i - σ.next) = i by omega] at h9
          rw [show σ.next + (j - σ.next) = j by omega] at h9'
          have := hs.rel.inj _ _ b hi hj (by rw [← shB_kind h8, ← h9]; exact ki) (by rw [← shB_kind h8', ← h9']; exact kj)
          omega
      · intro g hg
        rw [tb, if_pos (Nat.lt_of_lt_of_le hg hR.globN)]
        exact hR.glob g hg
      · intro i b hi hn
        rw [tb] at hi
        split at hi
        · rw [hi] at hn; cases hn
        · omega
      · intro i b hi hn
        rw [tb] at hi
        split at hi
        · rw [hi] at hn; cases hn
        · exact .inl (new _ _ hi)
    · cases hu
  · cases hu

theorem KOk.moveOn {P : Program} {K K' : Tbl} (hp : ProgOk P) (hk : KOk P K) (hk' : KOk P K') {fuel f : Nat} {args : List Value} {v : Value} {bs : List Blk} (ha : args.all flat = true) (h : told (aCall P K 0 fuel f args ⟨0, 0, .e⟩) = some (v, bs)) : KOk P (K'.move f args v bs) := by
  intro G g as σ u σ1 ρ w as' hu hR has
  unfold Tbl.move at hu
  dsimp only at hu
  rw [bite_eq] at hu
  split at hu
  · rename_i hc
    simp only [Bool.and_eq_true] at hc
    obtain rfl := Nat.eq_of_beq_eq_true hc.1
    obtain rfl := veqL_eq (veq_eq 9) hc.2
    rw [List.all_eq_true] at ha
    obtain rfl := flats_eq ha has
    obtain ⟨σ0, hrun, rfl⟩ : ∃ σ0, aCall P K 0 fuel g as' ⟨0, 0, .e⟩ = some (v, σ0) ∧ blocks σ0 σ0.next [] = bs := by
      unfold told at h
      split at h
      · rename_i v0 s0 e0; cases h; exact ⟨s0, e0, rfl⟩
      · cases h
    have hR0 : R 0 ⟨fun _ => none, fun _ => (0, 0)⟩ ⟨0, 0, .e⟩ w :=
      ⟨fun i b hi => (nomatch hi), fun i j b hi => (nomatch hi), fun g hg => absurd hg (Nat.not_lt_zero _), Nat.le_refl _⟩
    have hrel : ∀ l : List Value, (∀ x ∈ l, flat x = true) → LRel (VRel ⟨fun _ => none, fun _ => (0, 0)⟩) l l := by
      intro l
      induction l with
      | nil => intro _; trivial
      | cons a l ih => intro h; exact ⟨(vrel_flat (h a (by simp))).2 rfl, ih fun x hx => h x (by simp [hx])⟩
    obtain ⟨h1, h2⟩ := aCall_sound hp hk fuel g as' ⟨0, 0, .e⟩ v σ0 _ w as' hrun hR0 (hrel as' ha)
    refine ⟨h1, h2.mono fun e w' ⟨v', τ, he, hv', hs⟩ => ?_⟩
    obtain ⟨τ', h3, h4⟩ := lay_sim hR hs hv' rfl hu
    exact ⟨v', τ', he, h3, h4⟩
  · exact hk' G g as σ u σ1 ρ w as' hu hR has

theorem KOk.move {P : Program} {K : Tbl} (hp : ProgOk P) (hk : KOk P K) {fuel f : Nat} {args : List Value} {v : Value} {bs : List Blk} (ha : args.all flat = true) (h : told (aCall P K 0 fuel f args ⟨0, 0, .e⟩) = some (v, bs)) : KOk P (K.move f args v bs) := KOk.moveOn hp hk hk ha h

/-! ### Many known calls of one function -/

/-- What it is handed, its answer, the blocks of that. -/
abbrev Memo : Type := List Value × Value × List Blk

noncomputable def memoFind : List Memo → List Value → AS → Option (Value × AS)
  | [], _, _ => none
  | e :: l, as, σ => bite (veqL (veq 9) as e.1) (moved e.2.1 e.2.2 σ) (memoFind l as σ)

noncomputable def memoOr (x y : Option (Value × AS)) : Option (Value × AS) := match x with
  | some z => some z
  | none => y

theorem moved_mono {v u : Value} {bs : List Blk} {σ σ' : AS} (h : moved v bs σ = some (u, σ')) : AMono σ σ' := by
  unfold moved at h
  split at h
  · split at h
    · rename_i hl; cases h; exact layB_mono hl
    · cases h
  · cases h

theorem memoFind_mono : ∀ {l : List Memo} {as : List Value} {σ σ' : AS} {u : Value}, memoFind l as σ = some (u, σ') → AMono σ σ'
  | [], as, σ, σ', u, h => by cases h
  | e :: l, as, σ, σ', u, h => by
    simp only [memoFind, bite_eq] at h
    split at h
    · exact moved_mono h
    · exact memoFind_mono h

noncomputable def Tbl.memo (K : Tbl) (f : FuncId) (l : List Memo) : Tbl where
  dfr := K.dfr
  ask := fun g as σ => bite (Nat.beq g f) (memoOr (memoFind l as σ) (K.ask g as σ)) (K.ask g as σ)
  mono := fun g as σ u σ' h => by
    dsimp only at h
    rw [bite_eq] at h
    split at h
    · unfold memoOr at h
      split at h
      · rename_i hz; cases h; exact memoFind_mono hz
      · exact K.mono _ _ _ _ _ h
    · exact K.mono _ _ _ _ _ h

/-- The known call is right. -/
def Knows (P : Program) (f : Nat) (e : Memo) : Prop := KOk P (K0.move f e.1 e.2.1 e.2.2)

theorem Knows.of {P : Program} {K : Tbl} (hp : ProgOk P) (hk : KOk P K) {fuel f : Nat} {e : Memo} (ha : e.1.all flat = true) (h : told (aCall P K 0 fuel f e.1 ⟨0, 0, .e⟩) = some (e.2.1, e.2.2)) : Knows P f e := KOk.moveOn hp hk (K0_ok P) ha h

theorem KOk.memo {P : Program} {K : Tbl} (hk : KOk P K) {f : Nat} {l : List Memo} (hl : ∀ e ∈ l, Knows P f e) : KOk P (K.memo f l) := by
  intro G g as σ u σ1 ρ w as' hu hR has
  unfold Tbl.memo at hu
  dsimp only at hu
  rw [bite_eq] at hu
  split at hu
  · rename_i hc
    obtain rfl := Nat.eq_of_beq_eq_true hc
    unfold memoOr at hu
    split at hu
    · rename_i z hz
      cases hu
      clear hc
      induction l with
      | nil => cases hz
      | cons e l ih =>
        simp only [memoFind, bite_eq] at hz
        split at hz
        · rename_i he
          refine hl e (by simp) G g as σ u σ1 ρ w as' ?_ hR has
          unfold Tbl.move
          dsimp only
          rw [bite_eq, if_pos (by rw [he, Bool.and_true]; exact Nat.beq_refl g)]
          exact hz
        · exact ih (fun e he => hl e (by simp [he])) hz
    · exact hk G g as σ u σ1 ρ w as' hu hR has
  · exact hk G g as σ u σ1 ρ w as' hu hR has

def KnowsAll (P : Program) (f : Nat) : List Memo → Prop
  | [] => True
  | e :: l => Knows P f e ∧ KnowsAll P f l

theorem KnowsAll.at {P : Program} {f : Nat} : ∀ {l : List Memo}, KnowsAll P f l → ∀ e ∈ l, Knows P f e
  | [], _, e, he => by cases he
  | _ :: _, h, e, he => by
    rcases List.mem_cons.1 he with rfl | he
    · exact h.1
    · exact h.2.at e he

theorem KOk.memoAll {P : Program} {K : Tbl} (hk : KOk P K) {f : Nat} {l : List Memo} (hl : KnowsAll P f l) : KOk P (K.memo f l) := hk.memo hl.at

/-- The memory of these blocks. -/
noncomputable def lay0 : List Blk → AS → AS
  | [], σ => σ
  | b :: l, σ => lay0 l (σ.new b)

theorem lay0_at : ∀ (l : List Blk) (σ : AS), (lay0 l σ).next = σ.next + l.length ∧ (lay0 l σ).low = σ.low ∧ (∀ i, i < σ.next → (lay0 l σ).get i = σ.get i) ∧ ∀ i b, l[i]? = some b → (lay0 l σ).get (σ.next + i) = b
  | [], σ => ⟨rfl, rfl, fun _ _ => rfl, fun i b h => by simp at h⟩
  | b :: l, σ => by
    obtain ⟨h1, h2, h3, h4⟩ := lay0_at l (σ.new b)
    have en : (σ.new b).next = σ.next + 1 := rfl
    refine ⟨by rw [lay0, h1, en, List.length_cons]; omega, h2, fun i hi => ?_, fun i c hc => ?_⟩
    · rw [lay0, h3 i (by omega), AS.get_new, if_neg (by omega)]
    · cases i with
      | zero =>
        simp only [List.getElem?_cons_zero, Option.some.injEq] at hc
        subst hc
        rw [lay0, Nat.add_zero, h3 _ (by omega), AS.get_new, if_pos rfl]
      | succ i =>
        have := h4 i c (by simpa using hc)
        rw [lay0, ← this, en]
        congr 1; omega

theorem lay0_blocks (l : List Blk) : blocks (lay0 l ⟨0, 0, .e⟩) (lay0 l ⟨0, 0, .e⟩).next [] = l := by
  obtain ⟨h1, h2, h3, h4⟩ := lay0_at l ⟨0, 0, .e⟩
  have h1' : (lay0 l ⟨0, 0, .e⟩).next = l.length := by rw [h1]; simp
  apply List.ext_getElem?
  intro i
  rw [blocks_at, h1']
  by_cases hi : i < l.length
  · rw [if_pos hi, List.getElem?_eq_getElem hi]
    congr 1
    have := h4 i _ (List.getElem?_eq_getElem hi)
    simpa using this
  · rw [if_neg hi, List.getElem?_eq_none (Nat.not_lt.1 hi)]
    simp

theorem AMono.lay0 (l : List Blk) (σ : AS) : AMono σ (lay0 l σ) := by
  induction l generalizing σ with
  | nil => exact AMono.refl _
  | cons b l ih => exact (AMono.new _ _).trans (ih _)

end Go.Proofs.YtacpdefmnijhnaaGreat.Abs
