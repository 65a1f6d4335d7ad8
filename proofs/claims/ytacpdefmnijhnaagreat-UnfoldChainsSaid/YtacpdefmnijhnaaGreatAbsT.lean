/- What stays of a memory to which something is added; slices that are read. No program. -/
import Derived.Test.YtacpdefmnijhnaaGreatAbsS
set_option linter.unusedSimpArgs false
set_option linter.unusedVariables false
namespace Go.Proofs.YtacpdefmnijhnaaGreat.Abs

/-- σ' is σ and more. -/
structure Ext (σ σ' : AS) : Prop where
  nxt : σ.next ≤ σ'.next
  get : ∀ i, i < σ.next → σ'.get i = σ.get i
  low : ∀ m, m ≤ σ.low → m ≤ σ.next → m ≤ σ'.low

theorem Ext.refl (σ : AS) : Ext σ σ := ⟨Nat.le_refl _, fun _ _ => rfl, fun _ h _ => h⟩
theorem Ext.trans {σ σ' σ'' : AS} (h : Ext σ σ') (k : Ext σ' σ'') : Ext σ σ'' :=
  ⟨Nat.le_trans h.nxt k.nxt, fun i hi => by rw [k.get i (Nat.lt_of_lt_of_le hi h.nxt), h.get i hi], fun m h1 h2 => k.low m (h.low m h1 h2) (Nat.le_trans h2 h.nxt)⟩
theorem Ext.new (σ : AS) (b : Blk) : Ext σ (σ.new b) :=
  ⟨Nat.le_succ _, fun i hi => by rw [AS.get_new, if_neg (by omega)], fun _ h _ => h⟩
/-- A change of what was made since. -/
theorem Ext.put {σ σ' : AS} (h : Ext σ σ') {i : Nat} (hi : σ.next ≤ i) (b : Blk) : Ext σ (σ'.put i b) :=
  ⟨h.nxt, fun j hj => by rw [AS.get_put, if_neg (by omega), h.get j hj], fun m h1 h2 => Nat.le_min.2 ⟨h.low m h1 h2, Nat.le_trans h2 hi⟩⟩
theorem Ext.reset (σ : AS) : Ext σ σ.reset := ⟨Nat.le_refl _, fun _ _ => rfl, fun _ _ h => h⟩
theorem Ext.merge {σ s1 : AS} (h : Ext σ.reset s1) : Ext σ (σ.merge s1) :=
  ⟨h.nxt, h.get, fun m h1 h2 => Nat.le_min.2 ⟨h1, h.low m h2 h2⟩⟩
theorem Ext.quiet {σ s1 : AS} (h : Ext σ.reset s1) : σ.next ≤ s1.low := h.low _ (Nat.le_refl _) (Nat.le_refl _)
theorem Ext.of_merge {σ s1 : AS} (h : Ext σ.reset s1) : Ext s1 (σ.merge s1) → Ext s1 (σ.merge s1) := id

theorem Ext.lt {σ σ' : AS} (h : Ext σ σ') {i : Nat} (hi : i < σ.next) : i < σ'.next := Nat.lt_of_lt_of_le hi h.nxt

theorem Ext.cells {σ σ' : AS} (h : Ext σ σ') {a : Addr} (ha : a.block < σ.next) (n : Nat) : aCells σ' a n = aCells σ a n := by
  unfold aCells; rw [h.get _ ha]


/-! ### Slices that are read -/

/-- A slice reads as a list; R says what the cells of an element read as. -/
def RS {α : Type} (sz : Nat) (R : AS → List Value → α → Prop) (σ : AS) (v : Value) (l : List α) : Prop :=
  ∃ base cap, v = .slice base l.length cap ∧ (l ≠ [] → ∃ b off, base = some ⟨b, off, none⟩ ∧ b < σ.next ∧
    ∀ (i : Nat) (x : α), l[i]? = some x → ∃ cs, aCells σ ⟨b, off + i * sz, none⟩ sz = some cs ∧ R σ cs x)

/-- R is kept by what adds to the memory. -/
def Keeps {α : Type} (R : AS → List Value → α → Prop) : Prop := ∀ σ σ' cs x, Ext σ σ' → R σ cs x → R σ' cs x

theorem RS.ext {α : Type} {sz : Nat} {R : AS → List Value → α → Prop} (hR : Keeps R) {σ σ' : AS} {v : Value} {l : List α} (he : Ext σ σ') (h : RS sz R σ v l) : RS sz R σ' v l := by
  obtain ⟨base, cap, e, hb⟩ := h
  refine ⟨base, cap, e, fun hl => ?_⟩
  obtain ⟨b, off, e1, e2, e3⟩ := hb hl
  refine ⟨b, off, e1, he.lt e2, fun i x hi => ?_⟩
  obtain ⟨cs, h1, h2⟩ := e3 i x hi
  exact ⟨cs, by rw [he.cells (a := ⟨b, off + i * sz, none⟩) e2]; exact h1, hR _ _ _ _ he h2⟩

theorem RS.at {α : Type} {sz : Nat} {R : AS → List Value → α → Prop} {σ : AS} {b off : Nat} {len cap : Nat} {l : List α} (h : RS sz R σ (.slice (some ⟨b, off, none⟩) len cap) l) (i : Nat) (x : α) (hx : l[i]? = some x) :
    b < σ.next ∧ ∃ cs, aCells σ ⟨b, off + i * sz, none⟩ sz = some cs ∧ R σ cs x := by
  obtain ⟨base, c, e, hb⟩ := h
  cases e
  obtain ⟨b', off', e1, e2, e3⟩ := hb (fun h => by rw [h] at hx; simp at hx)
  cases e1
  exact ⟨e2, e3 i x hx⟩

theorem load1 {P : Program} {σ : AS} {t : TypeId} {a : Addr} {d : TypeDesc} {v : Value} (hd : P.underlying t = some d) (hs : aisAgg d = false) (h : aCells σ a 1 = some [v]) : aLoad P σ t (.pointer (some a)) = some v := by
  unfold aLoad; simp only [hd, hs, h]; rfl
theorem loadN {P : Program} {σ : AS} {t : TypeId} {a : Addr} {d : TypeDesc} {i : TypeInfo} {cs : List Value} (hd : P.underlying t = some d) (hs : aisAgg d = true) (hi : P.info? t = some i) (h : aCells σ a i.size = some cs) : aLoad P σ t (.pointer (some a)) = some (.agg cs.toArray) := by
  unfold aLoad; simp only [hd, hs, hi, h]; rfl

theorem reset_merge (σ s : AS) : (σ.merge s).reset = s.reset := rfl
theorem reset_reset (σ : AS) : σ.reset.reset = σ.reset := rfl
theorem reset_next (σ : AS) : σ.reset.next = σ.next := rfl
theorem reset_low (σ : AS) : σ.reset.low = σ.next := rfl
theorem merge_next (σ s : AS) : (σ.merge s).next = s.next := rfl
theorem new_low (σ : AS) (b : Blk) : (σ.new b).low = σ.low := rfl
theorem new_next (σ : AS) (b : Blk) : (σ.new b).next = σ.next + 1 := rfl
theorem merge_idem (σ : AS) : (σ.merge σ.reset).merge σ.reset = σ.merge σ.reset := by
  show (⟨σ.next, Nat.min (Nat.min σ.low σ.next) σ.next, σ.heap⟩ : AS) = ⟨σ.next, Nat.min σ.low σ.next, σ.heap⟩
  congr 1
  show min (min σ.low σ.next) σ.next = min σ.low σ.next
  omega
theorem ble_self (n : Nat) : Nat.ble n n = true := Nat.ble_eq_true_of_le (Nat.le_refl n)

theorem aIndexAddr_slice {P : Program} {t e : TypeId} {inf : TypeInfo} (hu : P.underlying t = some (.slice e)) (hi : P.info? e = some inf) {b off len cap i sz : Nat} {k : IntKind} (hs : inf.size = sz) (h : i < len) :
    aIndexAddr P t (.slice (some ⟨b, off, none⟩) len cap) (.int k (i : Int)) = some (.pointer (some ⟨b, off + i * sz, none⟩)) := by
  subst hs
  unfold aIndexAddr
  simp only [hu, hi]
  rw [if_pos ((inR_iff _ _).2 ⟨by omega, by omega⟩), Int.toNat_natCast, addr_add' rfl]

theorem aField_ptr {P : Program} {s : TypeId} {fs : Array Field} {f : Nat} {fd : Field} {inf : TypeInfo} (hu : P.underlying s = some (.struct fs)) (hf : fs[f]? = some fd) (hi : P.info? fd.type = some inf) (hs : Nat.beq inf.size 0 = false) {b off : Nat} :
    aField P s f (.pointer (some ⟨b, off, none⟩)) = some (.pointer (some ⟨b, off + fd.offset, none⟩)) := by
  unfold aField
  simp only [hu, hf, hi, hs]
  rw [addr_add' rfl]
  rfl

/-- Cells of a block that is known whole. -/
theorem cells_at {σ : AS} {b e s : Nat} {vals : List Value} {ents : List (Value × Value)} (h : σ.get b = ⟨1, e, s, vals, ents⟩) {off n : Nat} {cs : List Value} (hc : (vals.drop off).take n = cs) (hn : off + n ≤ vals.length) :
    aCells σ ⟨b, off, none⟩ n = some cs := by
  unfold aCells
  simp only [h]
  rw [hasLen_eq, hc, if_pos]
  simp only [Bool.and_eq_true, Nat.ble_eq]
  exact ⟨rfl, hn⟩

/-- A slice of a block that is known whole. -/
theorem RS.of_block {α : Type} {sz : Nat} {R : AS → List Value → α → Prop} {σ : AS} {b e s cap : Nat} {vals : List Value} {ents : List (Value × Value)} {l : List α} (hb : b < σ.next) (h : σ.get b = ⟨1, e, s, vals, ents⟩) (hn : l.length * sz ≤ vals.length)
    (hR : ∀ (i : Nat) (x : α), l[i]? = some x → R σ ((vals.drop (i * sz)).take sz) x) : RS sz R σ (.slice (some ⟨b, 0, none⟩) l.length cap) l := by
  refine ⟨_, cap, rfl, fun _ => ⟨b, 0, rfl, hb, fun i x hx => ⟨_, cells_at h (by rw [Nat.zero_add]) ?_, hR i x hx⟩⟩⟩
  have : i < l.length := (List.getElem?_eq_some_iff.1 hx).1
  have h2 : (i + 1) * sz ≤ l.length * sz := Nat.mul_le_mul_right _ this
  rw [Nat.succ_mul] at h2
  omega

/-- Of two cells, each. -/
theorem cells_two {σ : AS} {b off : Nat} {u v : Value} (h : aCells σ ⟨b, off, none⟩ 2 = some [u, v]) : aCells σ ⟨b, off, none⟩ 1 = some [u] ∧ aCells σ ⟨b, off + 1, none⟩ 1 = some [v] := by
  have key : ∀ (vals : List Value), (vals.drop off).take 2 = [u, v] → (vals.drop off).take 1 = [u] ∧ (vals.drop (off + 1)).take 1 = [v] := fun vals h => by
    have e : vals.drop off = u :: v :: vals.drop (off + 2) := by
      have := List.take_append_drop 2 (vals.drop off)
      rw [h, List.drop_drop] at this
      simpa using this.symm
    refine ⟨by rw [e]; rfl, ?_⟩
    have e2 : vals.drop (off + 1) = (vals.drop off).drop 1 := by rw [List.drop_drop]
    rw [e2, e]; rfl
  have hl : ∀ n, n ≤ 1 → ∀ vals : List Value, Nat.ble (off + 2) vals.length = true → Nat.ble (off + n + 1) vals.length = true := fun n hn vals h => by
    rw [Nat.ble_eq] at h ⊢; omega
  unfold aCells at h ⊢
  simp only [hasLen_eq] at h ⊢
  split at h
  · rename_i hc
    simp only [Bool.and_eq_true] at hc
    obtain ⟨k1, k2⟩ := key _ (Option.some.inj h)
    have l0 := hl 0 (by omega) _ hc.2
    have l1 := hl 1 (by omega) _ hc.2
    simp only [hc.1, k1, k2, Bool.true_and]
    exact ⟨by rw [if_pos (by simpa using l0)], by rw [if_pos (by simpa using l1)]⟩
  · rename_i hc
    split at h
    · rename_i h5
      simp only [Bool.and_eq_true] at h5
      obtain ⟨k1, k2⟩ := key _ (Option.some.inj h)
      have l0 := hl 0 (by omega) _ h5.1.2
      have l1 := hl 1 (by omega) _ h5.1.2
      have hn : isCells (σ.get b) = false := by
        cases hh : isCells (σ.get b) with
        | false => rfl
        | true => rw [hh, h5.1.2] at hc; exact absurd rfl hc
      have h6 := h5.2
      rw [Option.some.inj h] at h6
      simp only [List.all_cons, List.all_nil, Bool.and_true, Bool.and_eq_true] at h6
      simp only [hn, k1, k2, Bool.false_and, Bool.false_eq_true, if_false, h5.1.1, Bool.true_and, List.all_cons, List.all_nil, h6.1, h6.2, Bool.and_true]
      exact ⟨by rw [if_pos (by simpa using l0)], by rw [if_pos (by simpa using l1)]⟩
    · cases h

/-! ### Structs that are compared -/

theorem asPure_bind {α β : Type} (P : Program) (s : Sem α) (f : α → Sem β) : asPure P (s >>= f) = (asPure P s).bind fun a => asPure P (f a) := by
  induction s <;> first | rfl | simp_all [Bind.bind, Sem.bind, asPure]
theorem asPure_pure {α : Type} (P : Program) (a : α) : asPure P (pure a : Sem α) = some a := rfl
theorem asPure_ite {α : Type} (P : Program) (c : Prop) [Decidable c] (s t : Sem α) : asPure P (if c then s else t) = if c then asPure P s else asPure P t := by split <;> rfl
theorem asPure_under {P : Program} {t : TypeId} {d : TypeDesc} (h : P.underlying t = some d) : asPure P (underlying t) = some d := by
  unfold underlying
  rw [asPure_bind]
  show (some P).bind _ = _
  simp only [Option.bind_some, h]
  rfl
theorem asPure_prog (P : Program) : asPure P program = some P := rfl

/-- Fields one after another. -/
noncomputable def eqFieldsO (P : Program) (d : Nat) (xs ys : Array Value) : List Field → Option Bool
  | [] => some true
  | f :: fs => if f.name ≠ "_" then
      (asPure P (part f.type xs f.offset)).bind fun a => (asPure P (part f.type ys f.offset)).bind fun b => (asPure P (Op.equalIn d f.type a b)).bind fun r => if r = true then eqFieldsO P d xs ys fs else some false
    else eqFieldsO P d xs ys fs

theorem asPure_equal_struct {P : Program} {t : TypeId} {fs : Array Field} (d : Nat) (xs ys : Array Value) (ht : P.underlying t = some (.struct fs)) (hp : P.stoodInHeld t = false) :
    asPure P (Op.equalIn (d + 1) t (.agg xs) (.agg ys)) = eqFieldsO P d xs ys fs.toList := by
  simp only [Op.equalIn, asPure_bind, asPure_under ht, Option.bind_some, asPure_prog, hp, Bool.false_eq_true, if_false]
  rw [← Array.forIn_toList]
  generalize fs.toList = l
  clear ht
  induction l with
  | nil => rfl
  | cons f l ih =>
    simp only [List.forIn_cons, eqFieldsO, asPure_bind, asPure_ite]
    split
    · simp only [Option.bind_assoc]
      congr 1; funext a
      congr 1; funext b
      congr 1; funext r
      cases r
      · rfl
      · exact ih
    · exact ih
theorem asPure_equal_int {P : Program} {t : TypeId} {k k' : IntKind} (d : Nat) (a b : Int) (h : P.underlying t = some (.int k')) : asPure P (Op.equalIn (d + 1) t (.int k a) (.int k b)) = some (a == b) := by
  simp only [Op.equalIn, asPure_bind, asPure_under h, Option.bind_some]
  simp only [if_true, asPure_pure]

theorem aBin_struct {P : Program} {t : TypeId} {fs : Array Field} {xs ys : Array Value} {b : Bool} (ht : P.underlying t = some (.struct fs)) (hp : P.stoodInHeld t = false) (hx : flat (.agg xs) = true) (hy : flat (.agg ys) = true)
    (he : eqFieldsO P 9999 xs ys fs.toList = some b) (hg : P.eqGuardType P.depth t = false) (xo yo : Operand) :
    aBin P .eql t xo yo (.agg xs) (.agg ys) = some (.bool b) ∧ aBin P .neq t xo yo (.agg xs) (.agg ys) = some (.bool (!b)) := by
  have e : asPure P (Op.equal t (.agg xs) (.agg ys)) = some b := by
    show asPure P (Op.equalIn (9999 + 1) t (.agg xs) (.agg ys)) = _
    rw [asPure_equal_struct _ _ _ ht hp]; exact he
  have h1 : asPure P (if (!P.eqGuardType P.depth t) = true then (pure () : Sem Unit) else (do if ← Op.eqGuardIn Op.maxDepth t (.agg xs) (.agg ys) then unsupported (.noEntry "binop/eql: two nil values of an interface type with methods, in a part of a struct or an array"))) = some () := by
    rw [hg]; rfl
  have g1 : asPure P (eqGuard .eql t xo yo (.agg xs) (.agg ys)) = some () := h1
  have g2 : asPure P (eqGuard .neq t xo yo (.agg xs) (.agg ys)) = some () := h1
  have b1 : binOp .eql t (.agg xs) (.agg ys) = (Op.equal t (.agg xs) (.agg ys) >>= fun r => pure (.bool r)) := rfl
  have b2 : binOp .neq t (.agg xs) (.agg ys) = (Op.equal t (.agg xs) (.agg ys) >>= fun r => pure (.bool !r)) := rfl
  constructor
  · show aBinSlow P .eql t xo yo (.agg xs) (.agg ys) = _
    unfold aBinSlow
    rw [if_pos (by rw [hx, hy]; rfl), asPure_bind, g1, Option.bind_some, b1, asPure_bind, e]; rfl
  · show aBinSlow P .neq t xo yo (.agg xs) (.agg ys) = _
    unfold aBinSlow
    rw [if_pos (by rw [hx, hy]; rfl), asPure_bind, g2, Option.bind_some, b2, asPure_bind, e]; rfl

end Go.Proofs.YtacpdefmnijhnaaGreat.Abs
