/- append, copy and make. -/
import Derived.Test.YtacpdefmnijhnaaGreatAbsF
set_option linter.unusedSimpArgs false
set_option linter.unusedVariables false
namespace Go.Proofs.YtacpdefmnijhnaaGreat.Abs

theorem growBy_le (n : Nat) : ∀ (r c : Nat), c ≤ 2 * n + 400 → Builtin.growBy n r c ≤ 2 * n + 400
  | 0, c, h => h
  | r + 1, c, h => by
    unfold Builtin.growBy
    split
    · exact h
    · exact growBy_le n r _ (by omega)

theorem nextslicecap_le (n c : Nat) (h : c < n) : Builtin.nextslicecap n c ≤ 4 * n + 4000 := by
  unfold Builtin.nextslicecap
  split
  · omega
  · split
    · omega
    · have := growBy_le n 4 c (by omega); omega

def isInt (d : TypeDesc) : Bool := match d with | .int _ => true | _ => false

section ops
variable {P : Program} {G : Nat} {ρ : Ren} {σ σ' : AS} {w : World} {r : Regs} {a : Act}

/-- What is appended. -/
def Src (P : Program) (w : World) (zeros : Bool) (inf : TypeInfo) (x : Value) (n : Nat) (new : Array Value) : Prop :=
  if zeros then (∃ k z, x = .int k (n : Int) ∧ n ≤ 1000000 ∧ inf.zero = some z ∧ z.cells.size = inf.size ∧ new = Builtin.zeroCells z.cells n)
  else (Builtin.lenOf x).run P w = .ok n w ∧ ∀ w' : World, w'.heap = w.heap → (Builtin.firstCells inf.size n x).run P w' = .ok new w'

theorem wrap_small {n : Nat} (h : n ≤ 1000000) : IntKind.i64.wrap (n : Int) = (n : Int) := by
  simp [IntKind.wrap, IntKind.bits, IntKind.signed, Int.bmod]
  omega

theorem zeroCells_nil {z : Array Value} {n : Nat} (h : n * z.size = 0) : Builtin.zeroCells z n = #[] := by
  unfold Builtin.zeroCells
  rw [h]; simp

theorem run_append_room {at_ : Array TypeId} {ty st xt elem : TypeId} {xd : TypeDesc} {inf : TypeInfo} {base : Option Addr} {sLen sCap n : Nat} {x : Value} {new : Array Value}
    (h0 : at_[0]? = some st) (h1 : at_[1]? = some xt) (hs : P.underlying st = some (.slice elem)) (hx : P.underlying xt = some xd) (hi : P.info? elem = some inf)
    (hsrc : Src P w (isInt xd) inf x n new) (hb : (4 * (sLen + n) + 4000) * inf.bytes ≤ 281474976710656) (hroom : sLen + n ≤ sCap) :
    (Builtin.append_ at_ ty #[.slice base sLen sCap, x]).run P w =
      (match base with
        | some a => ((storeCells (a.add (sLen * inf.size)) new.toList).run P w).andThen fun _ w' => .ok (.slice base (sLen + n) sCap) w'
        | none => .ok (.slice none (sLen + n) sCap) w) := by
  unfold Builtin.append_
  simp only [h0, h1, List.getElem?_toArray, List.getElem?_cons_zero, List.getElem?_cons_succ]
  rw [Sem.run_bind, run_underlying' hs, Result.andThen_ok]
  simp only []
  rw [Sem.run_bind, run_sizeOf' hi, Result.andThen_ok, Sem.run_bind, run_underlying' hx, Result.andThen_ok, Sem.run_bind, Sem.run_pure, Result.andThen_ok, Sem.run_ite]
  cases hzz : isInt xd with
  | false =>
    unfold Src at hsrc
    rw [hzz] at hsrc
    simp only [Bool.false_eq_true, if_false] at hsrc
    obtain ⟨hl, hf⟩ := hsrc
    have hf := hf w rfl
    cases xd
    case int k => cases hzz
    all_goals
      dsimp only
      rw [if_neg Bool.false_ne_true, Sem.run_bind, hl, Result.andThen_ok, Sem.run_ite, if_pos hroom, Bool.not_false, if_pos rfl, Sem.run_bind, hf, Result.andThen_ok]
      cases base with
      | none => rfl
      | some b => simp only [Sem.run_bind]; rfl
  | true =>
    unfold Src at hsrc
    rw [hzz] at hsrc
    simp only [if_true] at hsrc
    obtain ⟨k, z, rfl, hn, hzv, hzs, rfl⟩ := hsrc
    have hw := wrap_small hn
    have hbb : ¬ ((n : Int) * (inf.bytes : Int) > 2 ^ 48) := by
      have : n * inf.bytes ≤ (4 * (sLen + n) + 4000) * inf.bytes := Nat.mul_le_mul_right _ (by omega)
      have h2 : ((n * inf.bytes : Nat) : Int) ≤ 281474976710656 := by omega
      rw [Int.natCast_mul] at h2; omega
    have hneg : ¬ ((n : Int) < 0) := by omega
    have hasi : (asInt (.int k (n : Int))).run P w = .ok (n : Int) w := rfl
    cases xd
    case int kk =>
      dsimp only
      rw [if_pos rfl, Sem.run_bind, hasi, Result.andThen_ok, Sem.run_ite, hw, if_neg hneg, Sem.run_bind, run_typeInfo' hi, Result.andThen_ok, Sem.run_ite, if_neg hbb, Sem.run_bind, Sem.run_pure, Result.andThen_ok,
        Int.toNat_natCast, Sem.run_ite, if_pos hroom, Bool.not_true, if_neg (by decide), Sem.run_bind, Sem.run_ite]
      have hnew : (if n * inf.size = 0 then (pure #[] : Sem (Array Value)).run P w else (do let __do_lift ← zeroValue elem; pure (Builtin.zeroCells __do_lift.cells n) : Sem (Array Value)).run P w)
          = .ok (Builtin.zeroCells z.cells n) w := by
        by_cases hns : n * inf.size = 0
        · rw [if_pos hns, zeroCells_nil (z := z.cells) (n := n) (by rw [hzs]; exact hns)]; rfl
        · rw [if_neg hns, Sem.run_bind, run_zeroValue' hi hzv]; rfl
      rw [hnew, Result.andThen_ok]
      cases base with
      | none => rfl
      | some b => simp only [Sem.run_bind]; rfl
    all_goals cases hzz

/-- The new capacity, as the tape gives it. -/
def newCapOf (w : World) (need sCap : Nat) (elem : TypeId) : Nat := (Question.appendCap need sCap elem).cut (w.tape w.drawn (Question.appendCap need sCap elem))

theorem newCapOf_le (w : World) (need sCap : Nat) (elem : TypeId) : need ≤ newCapOf w need sCap elem := by
  unfold newCapOf Question.cut
  simp only
  exact Nat.le_add_right _ _

theorem i64max : IntKind.i64.max = 9223372036854775807 := by decide

theorem run_append_grow {at_ : Array TypeId} {ty st xt elem : TypeId} {xd : TypeDesc} {inf : TypeInfo} {base : Option Addr} {sLen sCap n : Nat} {x z : Value} {old new : Array Value}
    (h0 : at_[0]? = some st) (h1 : at_[1]? = some xt) (hs : P.underlying st = some (.slice elem)) (hx : P.underlying xt = some xd) (hi : P.info? elem = some inf)
    (hz : inf.zero = some z) (hsz : 0 < inf.size) (hsrc : Src P w (isInt xd) inf x n new) (hb : (4 * (sLen + n) + 4000) * inf.bytes ≤ 281474976710656) (hsmall : sLen + n ≤ 1000000000000)
    (hroom : ¬ sLen + n ≤ sCap) (hold : ∀ w' : World, w'.heap = w.heap → (Builtin.firstCells inf.size sLen (.slice base sLen sCap)).run P w' = .ok old w') :
    (Builtin.append_ at_ ty #[.slice base sLen sCap, x]).run P w =
      .ok (.slice (some ⟨w.heap.size, 0, none⟩) (sLen + n) (newCapOf w (sLen + n) sCap elem))
        (w.drew.alloc (.cells (old ++ new ++ Builtin.zeroCells z.cells (newCapOf w (sLen + n) sCap elem - (sLen + n))) elem)) := by
  have hmax : ∀ q : Prop, ¬ (((sLen + n : Nat) : Int) > IntKind.i64.max ∧ q) := fun q h => by have := h.1; rw [i64max] at this; omega
  have hnext : ¬ (Builtin.nextslicecap (sLen + n) sCap * inf.bytes > 2 ^ 48) := by
    have h1 := nextslicecap_le (sLen + n) sCap (by omega)
    have h2 : Builtin.nextslicecap (sLen + n) sCap * inf.bytes ≤ (4 * (sLen + n) + 4000) * inf.bytes := Nat.mul_le_mul_right _ h1
    omega
  have hforced : (Question.appendCap (sLen + n) sCap elem).forced = false := rfl
  unfold Builtin.append_
  simp only [h0, h1, List.getElem?_toArray, List.getElem?_cons_zero, List.getElem?_cons_succ]
  rw [Sem.run_bind, run_underlying' hs, Result.andThen_ok]
  simp only []
  rw [Sem.run_bind, run_sizeOf' hi, Result.andThen_ok, Sem.run_bind, run_underlying' hx, Result.andThen_ok, Sem.run_bind, Sem.run_pure, Result.andThen_ok, Sem.run_ite]
  cases hzz : isInt xd with
  | false =>
    unfold Src at hsrc
    rw [hzz] at hsrc
    simp only [Bool.false_eq_true, if_false] at hsrc
    obtain ⟨hl, hf⟩ := hsrc
    have hf := hf w.drew rfl
    have hold := hold w.drew rfl
    cases xd
    case int k => cases hzz
    all_goals
      dsimp only
      rw [if_neg Bool.false_ne_true, Sem.run_bind, hl, Result.andThen_ok, Sem.run_ite, if_neg hroom, Sem.run_bind, run_typeInfo' hi, Result.andThen_ok, Sem.run_ite, if_neg (hmax _),
        Sem.run_bind, run_typeInfo' hi, Result.andThen_ok, Sem.run_ite, if_neg hnext, Sem.run_bind, run_choose, hforced, if_neg Bool.false_ne_true, Result.andThen_ok, World.drew_eq,
        Sem.run_bind, run_typeInfo' hi, Result.andThen_ok, Sem.run_bind, run_askRoom, Result.andThen_ok, Sem.run_bind, hold, Result.andThen_ok, Bool.not_false, if_pos rfl, Sem.run_bind, hf, Result.andThen_ok,
        Sem.run_bind, run_zeroValue' hi hz, Result.andThen_ok]
      rfl
  | true =>
    unfold Src at hsrc
    rw [hzz] at hsrc
    simp only [if_true] at hsrc
    obtain ⟨k, z', rfl, hn, hzv, hzs, rfl⟩ := hsrc
    obtain rfl : z = z' := by rw [hz] at hzv; cases hzv; rfl
    have hw := wrap_small hn
    have hbb : ¬ ((n : Int) * (inf.bytes : Int) > 2 ^ 48) := by
      have : n * inf.bytes ≤ (4 * (sLen + n) + 4000) * inf.bytes := Nat.mul_le_mul_right _ (by omega)
      have h2 : ((n * inf.bytes : Nat) : Int) ≤ 281474976710656 := by omega
      rw [Int.natCast_mul] at h2; omega
    have hneg : ¬ ((n : Int) < 0) := by omega
    have hasi : (asInt (.int k (n : Int))).run P w = .ok (n : Int) w := rfl
    have hold := hold w.drew rfl
    cases xd
    case int kk =>
      dsimp only
      rw [if_pos rfl, Sem.run_bind, hasi, Result.andThen_ok, Sem.run_ite, hw, if_neg hneg, Sem.run_bind, run_typeInfo' hi, Result.andThen_ok, Sem.run_ite, if_neg hbb, Sem.run_bind, Sem.run_pure, Result.andThen_ok,
        Int.toNat_natCast, Sem.run_ite, if_neg hroom, Sem.run_bind, run_typeInfo' hi, Result.andThen_ok, Sem.run_ite, if_neg (hmax _),
        Sem.run_bind, run_typeInfo' hi, Result.andThen_ok, Sem.run_ite, if_neg hnext, Sem.run_bind, run_choose, hforced, if_neg Bool.false_ne_true, Result.andThen_ok, World.drew_eq,
        Sem.run_bind, run_typeInfo' hi, Result.andThen_ok, Sem.run_bind, run_askRoom, Result.andThen_ok, Sem.run_bind, hold, Result.andThen_ok, Bool.not_true, if_neg Bool.false_ne_true, Sem.run_bind, Sem.run_ite]
      have hnew : (if n * inf.size = 0 then (pure #[] : Sem (Array Value)).run P w.drew else (do let __do_lift ← zeroValue elem; pure (Builtin.zeroCells __do_lift.cells n) : Sem (Array Value)).run P w.drew)
          = .ok (Builtin.zeroCells z.cells n) w.drew := by
        by_cases hns : n * inf.size = 0
        · rw [if_pos hns, zeroCells_nil (z := z.cells) (n := n) (by rw [hzs]; exact hns)]; rfl
        · rw [if_neg hns, Sem.run_bind, run_zeroValue' hi hzv]; rfl
      rw [hnew, Result.andThen_ok, Sem.run_bind, run_zeroValue' hi hz, Result.andThen_ok]
      rfl
    all_goals cases hzz

theorem zeroCells_size (z : Array Value) (n : Nat) : (Builtin.zeroCells z n).size = n * z.size := by
  simp [Builtin.zeroCells]

theorem lrel_self {l : List Value} (h : ∀ x ∈ l, VRel ρ x x) : LRel (VRel ρ) l l := by
  induction l with
  | nil => trivial
  | cons a l ih => exact ⟨h a (by simp), ih fun x hx => h x (by simp [hx])⟩

theorem lrel_mem {l : List Value} (h : LRel (VRel ρ) l l) : ∀ x ∈ l, VRel ρ x x := by
  induction l with
  | nil => intro x hx; cases hx
  | cons a l ih =>
    intro x hx
    rcases List.mem_cons.1 hx with rfl | hx
    · exact h.1
    · exact ih h.2 x hx

theorem modCells_rel {z : Array Value} {n : Nat} (hz : LRel (VRel ρ) z.toList z.toList) (h0 : n ≠ 0 → 0 < z.size) :
    LRel (VRel ρ) ((Array.range n).map (z[· % z.size]!)).toList ((Array.range n).map (z[· % z.size]!)).toList := by
  refine lrel_self fun x hx => ?_
  simp only [Array.toList_map, List.mem_map, Array.toList_range, List.mem_range] at hx
  obtain ⟨i, hi, rfl⟩ := hx
  have hlt : i % z.size < z.size := Nat.mod_lt _ (h0 (by omega))
  rw [getElem!_pos z (i % z.size) hlt]
  exact lrel_mem hz _ (by simp)

theorem flat_self {z : Value} (h : flat z = true) : LRel (VRel ρ) z.cells.toList z.cells.toList := ((vrel_flat h).2 rfl).cells

theorem zeroCells_rel {z : Value} {n : Nat} (h : flat z = true) : LRel (VRel ρ) (Builtin.zeroCells z.cells n).toList (Builtin.zeroCells z.cells n).toList := by
  by_cases h0 : n * z.cells.size = 0
  · rw [zeroCells_nil h0]; trivial
  · exact modCells_rel (flat_self h) fun _ => by
      rcases Nat.eq_zero_or_pos z.cells.size with e | e
      · rw [e] at h0; simp at h0
      · exact e

theorem lenOf_run {x x' : Value} {n : Nat} (h : match x with | .slice _ m _ => n = m | .string s => n = s.size | _ => False) (hx : VRel ρ x x') : (Builtin.lenOf x').run P w = .ok n w := by
  cases x <;> first | exact h.elim | skip
  case slice b m c =>
    cases b with
    | none => obtain rfl := vrel_slice_none.1 hx; subst h; rfl
    | some y => obtain ⟨_, _, rfl, _⟩ := vrel_slice_shape hx; subst h; rfl
  case string s => obtain rfl := vrel_string.1 hx; subst h; rfl

theorem bytes_rel (l : List UInt8) : LRel (VRel ρ) (l.map fun b => Value.int .u8 b.toNat) (l.map fun b => Value.int .u8 b.toNat) :=
  lrel_self fun x hx => by
    obtain ⟨b, _, rfl⟩ := List.mem_map.1 hx
    exact vrel_int.2 rfl

theorem aSource_sound {zeros : Bool} {inf : TypeInfo} {x x' : Value} {n : Nat} {new : List Value} (h : aSource P σ zeros inf x = some (n, new)) (hR : R G ρ σ w) (hx : VRel ρ x x')
    (hz : ∀ z, inf.zero = some z → z.cells.size = inf.size) : ∃ new' : Array Value, Src P w zeros inf x' n new' ∧ LRel (VRel ρ) new new'.toList := by
  unfold aSource at h
  split at h
  · rename_i hzz
    split at h
    · rename_i k m z hzv
      obtain rfl := vrel_int.1 hx
      split at h
      · rename_i hc
        cases h
        refine ⟨_, ?_, zeroCells_rel hc.2.2⟩
        unfold Src
        rw [if_pos hzz]
        exact ⟨k, z, by rw [Int.toNat_of_nonneg hc.1], by omega, hzv, hz z hzv, rfl⟩
      · cases h
    · cases h
  · rename_i hzz
    unfold Src
    simp only [if_neg hzz]
    split at h
    · rename_i m c
      obtain rfl := vrel_slice_none.1 hx
      cases h
      exact ⟨#[], ⟨rfl, fun _ _ => rfl⟩, trivial⟩
    · rename_i y m c
      rcases vrel_slice.1 hx with ⟨b, c', hb, hs, hc, rfl⟩ | ⟨hs, rfl, rfl, rfl⟩
      rotate_left
      · split at h
        · rename_i cs hcs
          cases h
          obtain ⟨-, rfl⟩ := aCellsS_lit hs hcs
          refine ⟨#[], ⟨rfl, fun w' hw' => ?_⟩, trivial⟩
          have := run_loadCells_list (P := P) w' (litA y) [] fun j v hj => by simp at hj
          simp only [Builtin.firstCells, Nat.zero_mul]
          exact this
        · cases h
      rw [aCellsS_eq hs] at h
      split at h
      · rename_i cs hcs
        cases h
        obtain ⟨ds, h1, h2, h3⟩ := aCells_sound hcs hR hb
        refine ⟨ds.toArray, ⟨rfl, fun w' hw' => ?_⟩, h1⟩
        have := run_loadCells_list (P := P) w' ⟨b, y.off, none⟩ ds fun j v hj => by
          rw [addr_add]
          have := h3 j v hj
          unfold World.cell? at this ⊢
          rw [hw']; exact this
        simp only [Builtin.firstCells]
        rw [← h2]; exact this
      · cases h
    · obtain ⟨a, c, rfl⟩ := vrel_chan hx
      cases h
      refine ⟨#[], ⟨rfl, fun w' hw' => ?_⟩, trivial⟩
      have := run_loadCells_list (P := P) w' a [] fun j v hj => by simp at hj
      simp only [Builtin.firstCells, Nat.zero_mul]
      exact this
    · rename_i s
      obtain rfl := vrel_string.1 hx
      split at h
      · rename_i h1
        have h1 := Nat.eq_of_beq_eq_true h1
        cases h
        refine ⟨(s.extract 0 s.size).data.map fun b => .int .u8 b.toNat, ⟨rfl, fun _ _ => rfl⟩, ?_⟩
        have : (s.extract 0 s.size).data = s.data := by simp
        rw [this, Array.toList_map]
        exact bytes_rel _
      · cases h
    · cases h

theorem firstCells_sound {size n c : Nat} {base : Option Addr} {old : List Value} {s' : Value} (h : aFirst σ size n base = some old) (hR : R G ρ σ w) (hs : VRel ρ (.slice base n c) s') :
    ∃ old' : Array Value, LRel (VRel ρ) old old'.toList ∧ ∀ w' : World, w'.heap = w.heap → (Builtin.firstCells size n s').run P w' = .ok old' w' := by
  cases base with
  | none =>
    obtain rfl := vrel_slice_none.1 hs
    cases h
    exact ⟨#[], trivial, fun _ _ => rfl⟩
  | some y =>
    have h : aCellsS σ y (n * size) = some old := h
    rcases vrel_slice.1 hs with ⟨b, c', hb, hsp, hc, rfl⟩ | ⟨hsp, rfl, rfl, rfl⟩
    rotate_left
    · obtain ⟨-, rfl⟩ := aCellsS_lit hsp h
      refine ⟨#[], trivial, fun w' hw' => ?_⟩
      have := run_loadCells_list (P := P) w' (litA y) [] fun j v hj => by simp at hj
      simp only [Builtin.firstCells, Nat.zero_mul]
      exact this
    rw [aCellsS_eq hsp] at h
    obtain ⟨ds, h1, h2, h3⟩ := aCells_sound h hR hb
    refine ⟨ds.toArray, h1, fun w' hw' => ?_⟩
    have := run_loadCells_list (P := P) w' ⟨b, y.off, none⟩ ds fun j v hj => by
      rw [addr_add]
      have := h3 j v hj
      unfold World.cell? at this ⊢
      rw [hw']; exact this
    simp only [Builtin.firstCells]
    rw [← h2]; exact this

/-- The world after an append that grows: a new block. -/
theorem grow_sound {elem : TypeId} {inf : TypeInfo} {z : Value} {sLen n nc : Nat} {old new : List Value} {old' new' : Array Value} (hR : R G ρ σ w) (hzs : z.cells.size = inf.size) (hsz : 0 < inf.size)
    (ho : LRel (VRel ρ) old old'.toList) (hn : LRel (VRel ρ) new new'.toList) (hol : old.length = sLen * inf.size) (hnl : new.length = n * inf.size) (hnc : sLen + n ≤ nc) :
    ∃ τ, Sim G ρ σ w τ (σ.new ⟨2, elem, inf.size, old ++ new, []⟩) (w.drew.alloc (.cells (old' ++ new' ++ Builtin.zeroCells z.cells (nc - (sLen + n))) elem)) ∧
      VRel τ (.slice (some ⟨σ.next, 0, none⟩) (sLen + n) (OPENCAP + (sLen + n))) (.slice (some ⟨w.heap.size, 0, none⟩) (sLen + n) nc) := by
  have hsize : (old' ++ new' ++ Builtin.zeroCells z.cells (nc - (sLen + n))).size = nc * inf.size := by
    rw [Array.size_append, Array.size_append, zeroCells_size, ← Array.length_toList (xs := old'), ← Array.length_toList (xs := new'), ← ho.length, ← hn.length, hol, hnl, hzs, ← Nat.add_mul, ← Nat.add_mul]
    congr 1; omega
  refine ⟨ρ.add σ.next w.heap.size (nc * inf.size, inf.size), ?_, ?_⟩
  · refine Sim.of_heap0 (w := w) (w0 := w.drew) rfl ⟨rfl, rfl⟩ (Sim.alloc (w := w.drew) (R.of_heap (w := w) (w' := w.drew) rfl hR) (nc * inf.size, inf.size) ?_)
    have hle : ρ.le (ρ.add σ.next w.drew.heap.size (nc * inf.size, inf.size)) := Ren.le_add hR.fresh
    refine ⟨_, (0, 0), old'.toList ++ new'.toList, (Builtin.zeroCells z.cells (nc - (sLen + n))).toList, rfl, .inl rfl, by simp, ?_, ?_⟩
    · exact (ho.append hn).mono fun _ _ h => h.ext hle
    · rw [hsize]; simp [Ren.add]
  · refine vrel_slice_mk ⟨_, nc, by simp [Ren.add], rfl, ?_, rfl⟩
    unfold CapRel
    rw [if_neg (by omega)]
    refine ⟨by omega, ?_, ?_⟩
    · simp [Ren.add, hsz]
    · simp [Ren.add]

theorem aAppend_sound {at_ : Array TypeId} {ty : TypeId} {s s' x x' v : Value} (h : aAppend P σ at_ s x = some (v, σ')) (hR : R G ρ σ w) (hs : VRel ρ s s') (hx : VRel ρ x x') :
    ∃ v' τ w', (Builtin.append_ at_ ty #[s', x']).run P w = .ok v' w' ∧ VRel τ v v' ∧ Sim G ρ σ w τ σ' w' := by
  unfold aAppend at h
  split at h
  · rename_i st xt base sLen sCap h0 h1
    split at h
    · rename_i elem xd hst hxt
      split at h
      · rename_i inf hi
        split at h
        · rename_i z hz
          split at h
          · cases h
          · rename_i hchk
            simp only [Bool.or_eq_true, not_or, Bool.not_eq_true', Bool.not_eq_false, Nat.beq_eq] at hchk
            obtain ⟨⟨hc1, hc2⟩, hc3⟩ := hchk
            have hsz : 0 < inf.size := by
              rcases Nat.eq_zero_or_pos inf.size with e | e
              · rw [e] at hc1; simp at hc1
              · exact e
            have hzs : z.cells.size = inf.size := hc2
            split at h
            · rename_i n new hsrc
              obtain ⟨new', hS, hnr⟩ := aSource_sound (P := P) (zeros := isInt xd) hsrc hR hx (fun z' hz' => by rw [hz] at hz'; cases hz'; exact hzs)
              dsimp only at h
              split at h
              · cases h
              · rename_i hchk
                simp only [Bool.or_eq_true, not_or, Bool.not_eq_true', Bool.not_eq_false, Nat.beq_eq, Nat.ble_eq] at hchk
                obtain ⟨⟨hb, hsmall⟩, hnl⟩ := hchk
                split at h
                · -- an open capacity
                  rename_i hop
                  have hop : OPENCAP ≤ sCap := by simpa [isOpen, Nat.ble_eq] using hop
                  have hlb : capLB sCap = sCap - OPENCAP := by unfold capLB; rw [if_neg (by simp [Nat.blt_eq]; omega)]
                  split at h
                  · rename_i y
                    rcases vrel_slice.1 hs with ⟨b, c', hbl, hsp, hcr, rfl⟩ | ⟨_, _, hc0, _⟩
                    rotate_left
                    · rw [hc0] at hop; exact absurd hop (by decide)
                    split at h
                    · cases h
                    · rename_i hk
                      simp only [Bool.not_eq_true', Bool.not_eq_false, Bool.and_eq_true, Nat.beq_eq] at hk
                      obtain ⟨hk2, hesz⟩ := hk
                      unfold CapRel at hcr
                      rw [if_neg (by omega)] at hcr
                      obtain ⟨hcr1, hcr2, hcr3⟩ := hcr
                      have hcr' : CapRel (ρ.sz y.block) y.off sCap c' := by
                        unfold CapRel; rw [if_neg (by omega)]; exact ⟨hcr1, hcr2, hcr3⟩
                      split at h
                      · rename_i hneed
                        have hneed : sLen + n ≤ capLB sCap := by simpa [Nat.ble_eq] using hneed
                        split at h
                        · rename_i σ1 hw
                          cases h
                          obtain ⟨w', hrun, hsim⟩ := aWrite_sound (P := P) hw hR hbl hnr
                          refine ⟨.slice (some ⟨b, y.off, none⟩) (sLen + n) c', ρ, w', ?_, vrel_slice_mk ⟨b, c', hbl, hsp, hcr', rfl⟩, hsim⟩
                          rw [run_append_room h0 h1 hst hxt hi hS hb (by omega)]
                          simp only [addr_add, hrun, Result.andThen_ok]
                        · cases h
                      · split at h
                        · rename_i hneed hcond
                          simp only [Bool.and_eq_true, Nat.beq_eq, Nat.ble_eq] at hcond
                          obtain ⟨⟨⟨hoff, hfr⟩, hel⟩, hone⟩ := hcond
                          have hkz : (σ.get y.block).kind ≠ 0 := by omega
                          obtain ⟨c, fr, pre, post, hwb, hfro, hcl, hpr, _, hszi⟩ := cells_of hR hbl (isCells_iff.2 (.inr hk2))
                          have hszi := hszi hk2
                          have hcsz : c.size = c' * inf.size := by
                            rw [hszi] at hcr3; simp only at hcr3; rw [hoff, hesz] at hcr3; omega
                          by_cases hroom : sLen + n ≤ c'
                          · cases h
                            have hlen : 0 + sLen * inf.size + new'.toList.length ≤ c.size := by
                              rw [← hnr.length, hnl, hcsz, Nat.zero_add, ← Nat.add_mul]
                              exact Nat.mul_le_mul_right _ hroom
                            obtain ⟨w', hrun, hheap, hout⟩ := run_storeCells P (e := (σ.get y.block).elem) (b := b) (off := sLen * inf.size) new'.toList 0 c w hwb hfro (by omega) (all_oneR hnr hone)
                            refine ⟨.slice (some ⟨b, y.off, none⟩) (sLen + n) c', ρ.add σ.next b (ρ.sz y.block), w', ?_, ?_, ?_⟩
                            · rw [run_append_room h0 h1 hst hxt hi hS hb hroom]
                              simp only [addr_add, hoff, Nat.zero_add, hrun, Result.andThen_ok]
                            · rw [hoff]
                              refine vrel_slice_mk ⟨b, c', by simp [Ren.add], rfl, ?_, rfl⟩
                              unfold CapRel
                              rw [if_neg (by omega)]
                              refine ⟨by omega, by simpa [Ren.add] using hcr2, ?_⟩
                              rw [hoff] at hcr3
                              simpa [Ren.add] using hcr3
                            · refine Sim.move hR hbl hkz hheap hout ?_
                              have hsp2 : lsplice c.toList (sLen * inf.size + 0) new'.toList = (pre.take (sLen * inf.size) ++ new'.toList) ++ c.toList.drop (sLen * inf.size + new'.toList.length) := by
                                rw [Nat.add_zero, lsplice_eq _ _ _ (by simp; simp at hlen; omega), hcl, List.take_append_of_le_length (by rw [← hpr.length]; exact hfr)]
                              refine ⟨_, fr, _, _, by rw [hel], ?_, hsp2, ?_, ?_⟩
                              · rcases hfro with hf | hf
                                · exact .inl hf
                                · refine .inr ?_
                                  simp only [List.size_toArray, lsplice_length, Array.length_toList]; exact hf
                              · exact ((hpr.take _).append hnr).mono fun _ _ h => h.ext (Ren.le_add hR.fresh)
                              · simp [Ren.add, hszi, lsplice_length, hesz]
                          · cases h
                            have hold : aFirst σ inf.size sLen (some y) = some ((σ.get y.block).vals.take (sLen * inf.size)) := by
                              simp only [aFirst, aCellsS_eq hsp, aCells, hasLen_eq, isCells_iff.2 (.inr hk2), hoff, Nat.zero_add, Bool.true_and, Nat.ble_eq, hfr, if_true, List.drop_zero]
                            obtain ⟨old', hor, hofn⟩ := firstCells_sound (P := P) hold hR hs
                            have hgr := run_append_grow (ty := ty) h0 h1 hst hxt hi hz hsz hS hb hsmall hroom hofn
                            have hk := Sim.kill hR hbl hkz
                            obtain ⟨τ, hsim, hv⟩ := grow_sound (elem := elem) (nc := newCapOf w (sLen + n) c' elem) hk.rel hzs hsz hor hnr (by rw [List.length_take, Nat.min_eq_left hfr]) hnl (newCapOf_le _ _ _ _)
                            exact ⟨_, τ, _, hgr, hv, hk.trans hsim⟩
                        · cases h
                  · cases h
                · -- an exact capacity
                  rename_i hop
                  have hop : sCap < OPENCAP := by simpa [isOpen, Nat.ble_eq] using hop
                  split at h
                  · rename_i hneed
                    have hneed : sLen + n ≤ sCap := by simpa [Nat.ble_eq] using hneed
                    split at h
                    · rename_i y
                      rcases vrel_slice.1 hs with ⟨b, c', hbl, hsp, hcr, rfl⟩ | ⟨hsp, rfl, rfl, rfl⟩
                      rotate_left
                      · split at h
                        · rename_i σ1 hw
                          cases h
                          obtain ⟨hnil, rfl⟩ := aWriteS_lit (by exact hsp) hw
                          have hn0 : n = 0 := by omega
                          subst hn0
                          have hnew0 : new'.toList = [] := by
                            rw [hnil] at hnr
                            cases hq : new'.toList with
                            | nil => rfl
                            | cons a l => rw [hq] at hnr; exact hnr.elim
                          refine ⟨.slice (some (litA y)) (0 + 0) 0, ρ, w, ?_, vrel_slice.2 (.inr ⟨hsp, rfl, rfl, rfl⟩), Sim.refl hR⟩
                          rw [run_append_room h0 h1 hst hxt hi hS hb (by omega)]
                          simp only [hnew0]
                          rfl
                        · cases h
                      have hcc : c' = sCap := by unfold CapRel at hcr; rw [if_pos hop] at hcr; exact hcr
                      rw [aWriteS_eq (by exact hsp)] at h
                      split at h
                      · rename_i σ1 hw
                        cases h
                        obtain ⟨w', hrun, hsim⟩ := aWrite_sound (P := P) hw hR hbl hnr
                        refine ⟨.slice (some ⟨b, y.off, none⟩) (sLen + n) c', ρ, w', ?_, vrel_slice_mk ⟨b, c', hbl, hsp, hcr, rfl⟩, hsim⟩
                        rw [run_append_room h0 h1 hst hxt hi hS hb (by omega)]
                        simp only [addr_add, hrun, Result.andThen_ok]
                      · cases h
                    · obtain rfl := vrel_slice_none.1 hs
                      split at h
                      · cases h
                        refine ⟨.slice none (sLen + n) sCap, ρ, w, ?_, vrel_slice_none.2 rfl, Sim.refl hR⟩
                        rw [run_append_room h0 h1 hst hxt hi hS hb hneed]
                      · cases h
                  · rename_i hneed
                    have hneed : ¬ sLen + n ≤ sCap := by simpa [Nat.ble_eq] using hneed
                    split at h
                    · rename_i old hold
                      split at h
                      · rename_i hol
                        have hol : old.length = sLen * inf.size := Nat.eq_of_beq_eq_true hol
                        cases h
                        obtain ⟨old', hor, hofn⟩ := firstCells_sound (P := P) hold hR hs
                        have hcap : ∃ base' , s' = .slice base' sLen sCap := by
                          cases base with
                          | none => exact ⟨_, vrel_slice_none.1 hs⟩
                          | some y =>
                            obtain ⟨a', c', rfl, hcc⟩ := vrel_slice_shape hs
                            exact ⟨_, by rw [hcc hop]⟩
                        obtain ⟨base', rfl⟩ := hcap
                        have hgr := run_append_grow (ty := ty) h0 h1 hst hxt hi hz hsz hS hb hsmall hneed hofn
                        obtain ⟨τ, hsim, hv⟩ := grow_sound (elem := elem) (nc := newCapOf w (sLen + n) sCap elem) hR hzs hsz hor hnr hol hnl (newCapOf_le _ _ _ _)
                        exact ⟨_, τ, _, hgr, hv, hsim⟩
                      · cases h
                    · cases h
            · cases h
        · cases h
      · cases h
    · cases h
  · cases h

end ops
end Go.Proofs.YtacpdefmnijhnaaGreat.Abs
