/- A call that is known by one run over a memory in which an old block stands dead: what it makes is laid behind the memory of its caller. No program. -/
import Derived.Test.YtacpdefmnijhnaaGreatConvP
set_option linter.unusedSimpArgs false
set_option linter.unusedVariables false
namespace Go.Proofs.YtacpdefmnijhnaaGreat.Abs

/-- The value, its blocks' numbers by f. -/
noncomputable def rnV (f : Nat → Nat) : Nat → Value → Option Value
  | 0, _ => none
  | n + 1, v => match v with
    | .pointer (some a) => some (.pointer (some ⟨f a.block, a.off, a.spot⟩))
    | .slice (some a) l c => match a.spot with
      | none => some (.slice (some ⟨f a.block, a.off, none⟩) l c)
      | some _ => some (.slice (some a) l c)
    | .map (some r) => some (.map (some (f r)))
    | .func fn g c => match shL (rnV f n) g.toList with
      | some g' => match shL (rnV f n) c.toList with
        | some c' => some (.func fn g'.toArray c'.toArray)
        | none => none
      | none => none
    | .iface t x => match rnV f n x with
      | some y => some (.iface t y)
      | none => none
    | .agg cs => match shL (rnV f n) cs.toList with
      | some l => some (.agg l.toArray)
      | none => none
    | .tuple cs => match shL (rnV f n) cs.toList with
      | some l => some (.tuple l.toArray)
      | none => none
    | .chan _ => none
    | v => some v

structure Named (τ τ' : Ren) (f : Nat → Nat) : Prop where
  bl : ∀ i b, τ.bl i = some b → τ'.bl (f i) = some b
  sz : ∀ i b, τ.bl i = some b → τ'.sz (f i) = τ.sz i

theorem rnV_rel {τ τ' : Ren} {f : Nat → Nat} (hm : Named τ τ' f) : ∀ (n : Nat) {v u v' : Value}, rnV f n v = some u → VRel τ v v' → VRel τ' u v'
  | 0, v, u, v', h, _ => by simp [rnV] at h
  | n + 1, v, u, v', h, hr => by
    have ih : ∀ a b c, rnV f n a = some b → VRel τ a c → VRel τ' b c := fun a b c h h' => rnV_rel hm n h h'
    cases v
    case pointer a =>
      cases a with
      | none => simp only [rnV] at h; cases h; exact vrel_ptr_none.2 (vrel_ptr_none.1 hr)
      | some a =>
        simp only [rnV] at h; cases h
        obtain ⟨b, h1, h2, rfl⟩ := vrel_ptr.1 hr
        exact vrel_ptr.2 ⟨b, hm.bl _ _ h1, h2, rfl⟩
    case slice a l c =>
      cases a with
      | none => simp only [rnV] at h; cases h; exact vrel_slice_none.2 (vrel_slice_none.1 hr)
      | some a =>
        simp only [rnV] at h
        rcases vrel_slice.1 hr with ⟨b, c', h1, h2, h3, rfl⟩ | ⟨h1, h2, h3, rfl⟩
        · rw [h2] at h
          cases h
          exact vrel_slice.2 (.inl ⟨b, c', hm.bl _ _ h1, rfl, by rw [hm.sz _ _ h1]; exact h3, rfl⟩)
        · split at h
          · rename_i e; exact absurd e h1
          · cases h; exact vrel_slice.2 (.inr ⟨h1, h2, h3, rfl⟩)
    case map a =>
      cases a with
      | none => simp only [rnV] at h; cases h; exact vrel_map_none.2 (vrel_map_none.1 hr)
      | some a =>
        simp only [rnV] at h; cases h
        obtain ⟨b, h1, rfl⟩ := vrel_map.1 hr
        exact vrel_map.2 ⟨b, hm.bl _ _ h1, rfl⟩
    case func fn g c =>
      simp only [rnV] at h
      split at h
      · rename_i f' hf
        split at h
        · rename_i c' hc
          cases h
          obtain ⟨f2, c2, h1, h2, rfl⟩ := vrel_func.1 hr
          exact vrel_func.2 ⟨f2, c2, by simpa using shL_rel ih hf h1, by simpa using shL_rel ih hc h2, rfl⟩
        · cases h
      · cases h
    case iface t x =>
      simp only [rnV] at h
      split at h
      · rename_i y hy
        cases h
        obtain ⟨x', h1, rfl⟩ := vrel_iface.1 hr
        exact vrel_iface.2 ⟨x', ih _ _ _ hy h1, rfl⟩
      · cases h
    case agg cs =>
      simp only [rnV] at h
      split at h
      · rename_i l hl
        cases h
        obtain ⟨x', h1, rfl⟩ := vrel_agg.1 hr
        exact vrel_agg.2 ⟨x', by simpa using shL_rel ih hl h1, rfl⟩
      · cases h
    case tuple cs =>
      simp only [rnV] at h
      split at h
      · rename_i l hl
        cases h
        obtain ⟨x', h1, rfl⟩ := vrel_tuple.1 hr
        exact vrel_tuple.2 ⟨x', by simpa using shL_rel ih hl h1, rfl⟩
      · cases h
    case chan r => simp [rnV] at h
    case bool b => simp only [rnV] at h; cases h; exact vrel_bool.2 (vrel_bool.1 hr)
    case int k i => simp only [rnV] at h; cases h; exact vrel_int.2 (vrel_int.1 hr)
    case float k i => simp only [rnV] at h; cases h; exact vrel_float.2 (vrel_float.1 hr)
    case complex k a b => simp only [rnV] at h; cases h; exact vrel_complex.2 (vrel_complex.1 hr)
    case string b => simp only [rnV] at h; cases h; exact vrel_string.2 (vrel_string.1 hr)
    case nilFunc => simp only [rnV] at h; cases h; exact vrel_nilFunc.2 (vrel_nilFunc.1 hr)
    case nilIface => simp only [rnV] at h; cases h; exact vrel_nilIface.2 (vrel_nilIface.1 hr)

noncomputable def rnB (f : Nat → Nat) (b : Blk) : Option Blk :=
  if Nat.beq b.kind 0 then some Blk.dead
  else if isCells b then match shL (rnV f 9) b.vals with
    | some vs => some ⟨b.kind, b.elem, b.esz, vs, []⟩
    | none => none
  else none

theorem rnB_kind {f : Nat → Nat} {b c : Blk} (h : rnB f b = some c) : c.kind = b.kind := by
  unfold rnB at h
  split at h
  · rename_i hk; cases h; exact (Nat.eq_of_beq_eq_true hk).symm
  · split at h
    · split at h
      · cases h; rfl
      · cases h
    · cases h

theorem rnB_rel {τ τ' : Ren} {f : Nat → Nat} {i x : Nat} (hm : Named τ τ' f) (hx : τ.bl i = some x) {b c : Blk} {o : Obj} (h : rnB f b = some c) (hr : BRel τ i b o) : BRel τ' (f i) c o := by
  obtain ⟨kind, elem, esz, vals, ents⟩ := b
  unfold rnB at h
  split at h
  · cases h; trivial
  · rename_i h0
    split at h
    · rename_i hc
      split at h
      · rename_i vs hvs
        cases h
        simp only [isCells, Bool.or_eq_true, Nat.beq_eq] at hc
        rcases hc with rfl | rfl
        · obtain ⟨c, fr, h1, h2, h3⟩ := hr
          exact ⟨c, fr, h1, h2, shL_rel (R := VRel τ) (S := VRel τ') (fun a b c h h' => rnV_rel hm 9 h h') (show shL (rnV f 9) vals = some vs from hvs) h3⟩
        · obtain ⟨c, fr, pre, post, h1, h2, h3, h4, h5⟩ := hr
          exact ⟨c, fr, pre, post, h1, h2, h3, shL_rel (R := VRel τ) (S := VRel τ') (fun a b c h h' => rnV_rel hm 9 h h') (show shL (rnV f 9) vals = some vs from hvs) h4, by rw [hm.sz _ _ hx]; exact h5⟩
      · cases h
    · cases h

/-- The blocks behind the memory. -/
noncomputable def layR (f : Nat → Nat) : List Blk → AS → Option AS
  | [], σ => some σ
  | b :: l, σ => match rnB f b with
    | some b' => layR f l (σ.new b')
    | none => none

theorem layR_mono {f : Nat → Nat} : ∀ {l : List Blk} {σ σ' : AS}, layR f l σ = some σ' → AMono σ σ'
  | [], σ, σ', h => by cases h; exact AMono.refl _
  | b :: l, σ, σ', h => by
    simp only [layR] at h
    split at h
    · exact (AMono.new _ _).trans (layR_mono h)
    · cases h

theorem layR_at {f : Nat → Nat} : ∀ {l : List Blk} {σ σ' : AS}, layR f l σ = some σ' → σ'.next = σ.next + l.length ∧ σ'.low = σ.low ∧ (∀ i, i < σ.next → σ'.get i = σ.get i) ∧
    ∀ i b, l[i]? = some b → ∃ c, rnB f b = some c ∧ σ'.get (σ.next + i) = c
  | [], σ, σ', h => by cases h; exact ⟨rfl, rfl, fun _ _ => rfl, fun i b h => by simp at h⟩
  | b :: l, σ, σ', h => by
    simp only [layR] at h
    split at h
    · rename_i c hc
      obtain ⟨h1, h2, h3, h4⟩ := layR_at h
      have en : (σ.new c).next = σ.next + 1 := rfl
      refine ⟨by rw [h1, en, List.length_cons]; omega, h2, fun i hi => ?_, fun i x hx => ?_⟩
      · rw [h3 i (by omega), AS.get_new, if_neg (by omega)]
      · cases i with
        | zero =>
          simp only [List.getElem?_cons_zero, Option.some.injEq] at hx
          subst hx
          exact ⟨c, hc, by rw [Nat.add_zero, h3 _ (by omega), AS.get_new, if_pos rfl]⟩
        | succ i =>
          obtain ⟨y, h5, h6⟩ := h4 i x (by simpa using hx)
          exact ⟨y, h5, by rw [← h6, en]; congr 1; omega⟩
    · cases h

/-- The names of a run over one old block: that block's, and new ones. -/
def name1 (b base : Nat) : Nat → Nat
  | 0 => b
  | i + 1 => base + i

noncomputable def moved1 (v : Value) (bs : List Blk) (b : Nat) (σ : AS) : Option (Value × AS) :=
  match rnV (name1 b σ.next) 9 v with
  | some u => match layR (name1 b σ.next) bs σ with
    | some σ' => some (u, σ')
    | none => none
  | none => none

theorem moved1_mono {v u : Value} {bs : List Blk} {b : Nat} {σ σ' : AS} (h : moved1 v bs b σ = some (u, σ')) : AMono σ σ' := by
  unfold moved1 at h
  split at h
  · split at h
    · rename_i hl; cases h; exact layR_mono hl
    · cases h
  · cases h

/-- The old block's name alone. -/
def ren1 (ρ : Ren) (b : Nat) : Ren := ⟨fun i => if i = 0 then ρ.bl b else none, fun i => if i = 0 then ρ.sz b else (0, 0)⟩

/-- What a run over one old block, unread, has made is laid behind another memory. -/
theorem lay1_sim {G : Nat} {ρ τ : Ren} {σ σ1 : AS} {w w' : World} {v u v' : Value} {bs : List Blk} {b : Nat} (hR : R G ρ σ w) (hs : Sim 0 (ren1 ρ b) (deadMem 1) w τ (lay0 bs (deadMem 1)) w') (hv' : VRel τ v v') (hu : moved1 v bs b σ = some (u, σ1)) :
    ∃ τ', VRel τ' u v' ∧ Sim G ρ σ w τ' σ1 w' := by
  have r1 : ∀ i x, (ren1 ρ b).bl i = some x → i = 0 ∧ ρ.bl b = some x := fun i x hi => by
    have hi : (if i = 0 then ρ.bl b else none) = some x := hi
    split at hi
    · exact ⟨by assumption, hi⟩
    · cases hi
  have old : ∀ x, x < w.heap.size → w'.heap[x]? = w.heap[x]? := fun x hx => hs.frame x hx fun i hi => rfl
  have new : ∀ i x, τ.bl (i + 1) = some x → w.heap.size ≤ x := fun i x hi => by
    have hn : (ren1 ρ b).bl (i + 1) = none := rfl
    rcases hs.newblk (i + 1) x hi hn with h | ⟨j, hj, hk, _⟩
    · exact h
    · exact absurd rfl hk
  have zero : ∀ x, τ.bl 0 = some x → ρ.bl b = some x ∧ τ.sz 0 = ρ.sz b := fun x hx => by
    cases hb : ρ.bl b with
    | some y =>
      have h1 : (ren1 ρ b).bl 0 = some y := hb
      obtain ⟨h2, h3⟩ := hs.le 0 y h1
      rw [hx] at h2
      cases h2
      exact ⟨rfl, h3⟩
    | none =>
      have h1 : (ren1 ρ b).bl 0 = none := hb
      have := hs.newid 0 x hx h1
      exact absurd this (by decide)
  obtain ⟨z1, z2, z3, z4⟩ := lay0_at bs (deadMem 1)
  have dm : (deadMem 1).next = 1 := rfl
  unfold moved1 at hu
  split at hu
  · rename_i u1 hu1
    split at hu
    · rename_i σ2 hl
      cases hu
      obtain ⟨l1, l2, l3, l4⟩ := layR_at hl
      let τ' : Ren := ⟨fun i => if i < σ.next then ρ.bl i else τ.bl (i - σ.next + 1), fun i => if i < σ.next then ρ.sz i else τ.sz (i - σ.next + 1)⟩
      have tb : ∀ i, τ'.bl i = if i < σ.next then ρ.bl i else τ.bl (i - σ.next + 1) := fun _ => rfl
      have ts : ∀ i, τ'.sz i = if i < σ.next then ρ.sz i else τ.sz (i - σ.next + 1) := fun _ => rfl
      have hm : Named τ τ' (name1 b σ.next) := by
        refine ⟨fun i x hx => ?_, fun i x hx => ?_⟩
        · match i, hx with
          | 0, hx =>
            have h0 := (zero x hx).1
            show τ'.bl b = some x
            rw [tb, if_pos (hR.blk b x h0).1]; exact h0
          | i + 1, hx =>
            show τ'.bl (σ.next + i) = some x
            rw [tb, if_neg (by omega), show σ.next + i - σ.next + 1 = i + 1 by omega]; exact hx
        · match i, hx with
          | 0, hx =>
            have h0 := zero x hx
            show τ'.sz b = τ.sz 0
            rw [ts, if_pos (hR.blk b x h0.1).1]; exact h0.2.symm
          | i + 1, hx =>
            show τ'.sz (σ.next + i) = τ.sz (i + 1)
            rw [ts, if_neg (by omega), show σ.next + i - σ.next + 1 = i + 1 by omega]
      have hle : ρ.le τ' := fun i x hx => by
        have := (hR.blk i x hx).1
        exact ⟨by rw [tb, if_pos this]; exact hx, by rw [ts, if_pos this]⟩
      have l5 : ∀ i x, τ.bl (i + 1) = some x → i < bs.length ∧ ∃ c o, rnB (name1 b σ.next) ((lay0 bs (deadMem 1)).get (i + 1)) = some c ∧ σ1.get (σ.next + i) = c ∧ w'.heap[x]? = some o ∧ BRel τ (i + 1) ((lay0 bs (deadMem 1)).get (i + 1)) o := fun i x hx => by
        obtain ⟨h5, o, h6, h7⟩ := hs.rel.blk _ x hx
        have h8 : i < bs.length := by rw [z1, dm] at h5; omega
        have h9 := z4 i bs[i] (List.getElem?_eq_getElem h8)
        rw [dm, Nat.add_comm 1 i] at h9
        obtain ⟨c, h10, h11⟩ := l4 i _ (List.getElem?_eq_getElem h8)
        exact ⟨h8, c, o, by rw [h9]; exact h10, h11, h6, h7⟩
      refine ⟨τ', rnV_rel hm 9 hu1 hv', ?_⟩
      refine { base := hR, le := hle, rel := ⟨?_, ?_, ?_, by rw [l1]; exact Nat.le_trans hR.globN (Nat.le_add_right _ _)⟩, frame := fun x hx _ => old x hx, hsz := hs.hsz, nxt := by rw [l1]; exact Nat.le_add_right _ _, newid := ?_, newblk := ?_, low := by rw [l2]; exact Nat.le_refl _, keep := fun i hi _ => l3 i hi, dead := fun i hi h0 => by rw [l3 i hi]; exact h0, stay := fun i x hi _ _ => old x (hR.lt hi), out := hs.out }
      · intro i x hi
        rw [tb] at hi
        split at hi
        · rename_i hlt
          obtain ⟨h5, o, h6, h7⟩ := hR.blk i x hi
          exact ⟨by rw [l1]; omega, o, by rw [old x (hR.lt hi)]; exact h6, by rw [l3 i hlt]; exact h7.ext hle (by rw [ts, if_pos hlt])⟩
        · rename_i hge
          obtain ⟨h5, c, o, h6, h7, h8, h9⟩ := l5 _ x hi
          have e : σ.next + (i - σ.next) = i := by omega
          refine ⟨by rw [l1]; omega, o, h8, ?_⟩
          rw [e] at h7
          rw [h7]
          have := rnB_rel hm hi h6 h9
          rwa [show name1 b σ.next (i - σ.next + 1) = i from e] at this
      · intro i j x hi hj ki kj
        rw [tb] at hi hj
        split at hi <;> split at hj
        · rename_i h5 h6
          rw [l3 i h5] at ki
          rw [l3 j h6] at kj
          exact hR.inj i j x hi hj ki kj
        · have := hR.lt hi
          have := new _ _ hj
          omega
        · have := hR.lt hj
          have := new _ _ hi
          omega
        · rename_i h5 h6
          obtain ⟨_, c, _, h8, h9, _⟩ := l5 _ x hi
          obtain ⟨_, c', _, h8', h9', _⟩ := l5 _ x hj
          rw [show σ.next + (i - σ.next) = i by omega] at h9
          rw [show σ.next + (j - σ.next) = j by omega] at h9'
          have := hs.rel.inj _ _ x hi hj (by rw [← rnB_kind h8, ← h9]; exact ki) (by rw [← rnB_kind h8', ← h9']; exact kj)
          omega
      · intro g hg
        rw [tb, if_pos (Nat.lt_of_lt_of_le hg hR.globN)]
        exact hR.glob g hg
      · intro i x hi hn
        rw [tb] at hi
        split at hi
        · rw [hi] at hn; cases hn
        · omega
      · intro i x hi hn
        rw [tb] at hi
        split at hi
        · rw [hi] at hn; cases hn
        · exact .inl (new _ _ hi)
    · cases hu
  · cases hu

/-- The run's answer is this one, but for the numbers of its blocks and for blocks that nobody can reach. -/
noncomputable def sameTold1 (v : Value) (bs : List Blk) : Option (Value × AS) → Bool
  | some (v2, σ2) => match same 1 v v2 (lay0 bs (deadMem 1)) σ2 with
    | some _ => true
    | none => false
  | none => false

/-- Known calls of a function of a number and a slice of one element, which it does not look at. -/
noncomputable def fam1 (n : Nat) (fam : Nat → Value × List Blk) (as : List Value) (σ : AS) : Option (Value × AS) := match as with
  | [.int .i64 k, .slice (some a) l c] => if 0 ≤ k ∧ k.toNat < n ∧ a.off = 0 ∧ a.spot = none ∧ l = 1 ∧ c = 1 then moved1 (fam k.toNat).1 (fam k.toNat).2 a.block σ else none
  | _ => none

noncomputable def Tbl.fam1 (K : Tbl) (f : FuncId) (n : Nat) (fam : Nat → Value × List Blk) : Tbl where
  dfr := K.dfr
  ask := fun g as σ => bite (Nat.beq g f) (Abs.fam1 n fam as σ) (K.ask g as σ)
  mono := fun g as σ u σ' h => by
    dsimp only at h
    rw [bite_eq] at h
    split at h
    · unfold Abs.fam1 at h
      split at h
      · split at h
        · exact moved1_mono h
        · cases h
      · cases h
    · exact K.mono _ _ _ _ _ h

theorem KOk.fam1 {P : Program} {K K' : Tbl} (hp : ProgOk P) (hk : KOk P K) (hk' : KOk P K') {fuel f n : Nat} {fam : Nat → Value × List Blk}
    (h : ∀ k : Nat, k < n → sameTold1 (fam k).1 (fam k).2 (aCall P K 0 fuel f [.int .i64 (k : Int), .slice (some ⟨0, 0, none⟩) 1 1] (deadMem 1)) = true) : KOk P (K'.fam1 f n fam) := by
  intro G g as σ u σ1 ρ w as' hu hR has
  unfold Tbl.fam1 at hu
  dsimp only at hu
  rw [bite_eq] at hu
  split at hu
  · rename_i hg
    obtain rfl := Nat.eq_of_beq_eq_true hg
    unfold Abs.fam1 at hu
    split at hu
    · rename_i kz a l c
      split at hu
      · rename_i hc
        obtain ⟨h0, hn, ho, hsp, rfl, rfl⟩ := hc
        obtain ⟨k, rfl⟩ : ∃ k : Nat, kz = (k : Int) := ⟨kz.toNat, by omega⟩
        rw [Int.toNat_natCast] at hn hu
        obtain ⟨b, off, spot⟩ := a
        dsimp only at ho hsp hu
        subst ho hsp
        match as', has with
        | [x, y], ⟨hx, hy, _⟩ =>
          obtain rfl := vrel_int.1 hx
          obtain ⟨kb, c', h1, hcap, hye⟩ : ∃ kb c', ρ.bl b = some kb ∧ CapRel (ρ.sz b) 0 1 c' ∧ y = .slice (some ⟨kb, 0, none⟩) 1 c' := by
            rcases vrel_slice.1 hy with ⟨kb, c', h1, h2, h3, h4⟩ | ⟨h1, _⟩
            · exact ⟨kb, c', h1, h3, h4⟩
            · exact absurd rfl h1
          have hk := h k hn
          unfold sameTold1 at hk
          split at hk
          · rename_i v2 σ2 hrun
            split at hk
            · rename_i β hsame
              unfold same at hsame
              dsimp only at hsame
              split at hsame
              · rename_i hc2
                rw [Bool.and_eq_true] at hc2
                have hR0 : R 0 (ren1 ρ b) (deadMem 1) w := by
                  refine ⟨fun i x hi => ?_, fun i j x hi hj ki => absurd rfl ki, fun g hg => absurd hg (Nat.not_lt_zero _), Nat.zero_le _⟩
                  have hi : (if i = 0 then ρ.bl b else none) = some x := hi
                  split at hi
                  · rename_i e
                    obtain ⟨_, o, ho, _⟩ := hR.blk b x hi
                    exact ⟨by rw [e]; exact Nat.zero_lt_one, o, ho, trivial⟩
                  · cases hi
                have ha : LRel (VRel (ren1 ρ b)) [.int .i64 (k : Int), .slice (some ⟨0, 0, none⟩) 1 1] [.int .i64 (k : Int), y] := by
                  refine ⟨vrel_int.2 rfl, vrel_slice.2 (.inl ⟨kb, c', ?_, rfl, ?_, hye⟩), trivial⟩
                  · show (if 0 = 0 then ρ.bl b else none) = _
                    rw [if_pos rfl]; exact h1
                  · show CapRel (if 0 = 0 then ρ.sz b else (0, 0)) 0 1 c'
                    rw [if_pos rfl]; exact hcap
                obtain ⟨h5, h6⟩ := aCall_sound hp (by assumption) fuel g _ (deadMem 1) v2 σ2 _ w _ hrun hR0 ha
                refine ⟨h5, h6.mono fun e w' ⟨v', τ, he, hv', hs⟩ => ?_⟩
                obtain ⟨τc, hs2, hb⟩ := hs.alike (σc := lay0 (fam k).2 (deadMem 1)) (AMono.lay0 _ _) hc2.2
                obtain ⟨τ', h7, h8⟩ := lay1_sim hR hs2 (vm_rel hb 9 hc2.1 hv') hu
                exact ⟨v', τ', he, h7, h8⟩
              · cases hsame
            · cases hk
          · cases hk
      · cases hu
    · cases hu
  · exact hk' G g as σ u σ1 ρ w as' hu hR has

end Go.Proofs.YtacpdefmnijhnaaGreat.Abs
