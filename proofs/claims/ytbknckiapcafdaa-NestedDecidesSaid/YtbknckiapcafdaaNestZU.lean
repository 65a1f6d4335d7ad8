/- Distances (38): what is told is whether any is known. -/
import Derived.Test.YtbknckiapcafdaaNestZX
import Derived.Test.YtbknckiapcafdaaNestZKA
set_option linter.unusedSimpArgs false
set_option linter.unusedVariables false
namespace Go.Proofs.Ytbknckiapcafdaa.Nest
open Abs Abs2

theorem info33 : ∃ inf, Try.prog.info? 33 = some inf ∧ inf.size = 1 ∧ inf.bytes = 24 ∧ inf.zero = some (.slice none 0 0) :=
  ⟨(Try.prog.info? 33).get!, by kernel_rfl, by kernel_rfl, by kernel_rfl, by kernel_rfl⟩
theorem make85 {σ : AS} {N : Nat} (h : N ≤ 1000000) : aMakeSlice Try.prog σ 85 (.int .i64 (N : Int)) (.int .i64 (N : Int)) = some (.slice (some ⟨σ.next, 0, none⟩) N N, σ.new ⟨1, 33, 0, List.replicate N (.slice none 0 0), []⟩) := by
  obtain ⟨inf, h1, h2, h3, h4⟩ := info33
  unfold aMakeSlice
  simp only [Try.underlying85, h1, h2, h3, h4]
  rw [if_pos ⟨by omega, by omega, by omega, by omega, rfl, by decide⟩]
  have e : ((Array.range ((N : Int).toNat * 1)).map fun i => (Value.slice none 0 0).cells[i % (Value.slice none 0 0).cells.size]!).toList = List.replicate N (.slice none 0 0) := by
    rw [Nat.mul_one]
    exact map_range_const (fun v : Value => v) (.slice none 0 0) (fun i => (Value.slice none 0 0).cells[i % (Value.slice none 0 0).cells.size]!) (fun i => by
      have : i % (Value.slice none 0 0).cells.size = 0 := Nat.mod_one i
      rw [this]; rfl) N
  rw [e]
  rfl
theorem idx85g {b off len cap i : Nat} (h : i < len) : aIndexAddr Try.prog 85 (.slice (some ⟨b, off, none⟩) len cap) (.int .i64 (i : Int)) = some (.pointer (some ⟨b, off + i * 1, none⟩)) :=
  aIndexAddr_slice (inf := (Try.prog.info? 33).get!) Try.underlying85 (by kernel_rfl) (by kernel_rfl) h
theorem idx85 {b len cap i : Nat} (h : i < len) : aIndexAddr Try.prog 85 (.slice (some ⟨b, 0, none⟩) len cap) (.int .i64 (i : Int)) = some (.pointer (some ⟨b, i, none⟩)) := by
  have e1 := idx85g (b := b) (off := 0) (cap := cap) h
  rw [Nat.mul_one, Nat.zero_add] at e1
  exact e1

theorem Stk.low {lo lo' E z k : Nat} {σ : AS} {v : Value} {cs : List Value} (h : Stk lo E z σ v k cs) (hl : lo' ≤ lo) : Stk lo' E z σ v k cs := by
  obtain ⟨c1, c2, h | ⟨b, n, vals, h3, h4, h5, h6⟩⟩ := h
  · exact ⟨c1, c2, .inl h⟩
  · exact ⟨c1, c2, .inr ⟨b, n, vals, h3, h4, Nat.le_trans hl h5, h6⟩⟩

/-- Lists of integers in a list. -/
structure DR (σ0 σ : AS) (n K rb : Nat) (vs : List Value) : Prop where
  ext : Ext σ0 σ
  lo : σ0.next ≤ rb
  lt : rb < σ.next
  get : σ.get rb = ⟨1, 33, 0, vs, []⟩
  len : vs.length = n
  row : ∀ (i : Nat) v, vs[i]? = some v → ∃ l, OL σ0.next σ v l ∧ l.length ≤ K ∧ ∀ x ∈ l, 0 ≤ x ∧ x < (n : Int)
  sep : ∀ (i j : Nat) v w b, vs[i]? = some v → vs[j]? = some w → Own v b → Own w b → i = j

section
variable {σ0 σ σ' s : AS} {n K rb : Nat} {vs : List Value}
theorem DR.keep (h : DR σ0 σ n K rb vs) (e : Ext σ0 σ') (hn : σ.next ≤ σ'.next) (hr : σ'.get rb = σ.get rb) (hg : ∀ (i b : Nat) v, vs[i]? = some v → Own v b → σ'.get b = σ.get b) : DR σ0 σ' n K rb vs :=
  ⟨e, h.lo, Nat.lt_of_lt_of_le h.lt hn, hr.trans h.get, h.len, fun i v hv => by
    obtain ⟨l, h1, h2⟩ := h.row i v hv
    exact ⟨l, h1.keep hn fun b ho _ => hg i b v hv ho, h2⟩, h.sep⟩
theorem DR.go (h : DR σ0 σ n K rb vs) (e : Ext σ σ') : DR σ0 σ' n K rb vs :=
  h.keep (h.ext.trans e) e.nxt (e.get _ h.lt) fun i b v hv ho => by
    obtain ⟨l, h1, -⟩ := h.row i v hv
    exact e.get b (h1.own ho).2.1
theorem DR.up {K' : Nat} (h : DR σ0 σ n K rb vs) (hK : K ≤ K') : DR σ0 σ n K' rb vs :=
  ⟨h.ext, h.lo, h.lt, h.get, h.len, fun i v hv => by obtain ⟨l, h1, h2, h3⟩ := h.row i v hv; exact ⟨l, h1, by omega, h3⟩, h.sep⟩
theorem DR.ld (h : DR σ0 σ n K rb vs) {i : Nat} {v : Value} (hv : vs[i]? = some v) : aLoad Try.prog σ 33 (.pointer (some ⟨rb, i, none⟩)) = some v := by
  obtain ⟨g1, g2⟩ := List.getElem?_eq_some_iff.1 hv
  exact load1 Try.underlying33 rfl (cells_at h.get (by rw [List.drop_eq_getElem_cons g1, g2]; rfl) (by omega))
theorem DR.st (h : DR σ0 σ n K rb vs) {i : Nat} (hi : i < n) (hg : σ'.get rb = σ.get rb) {a : Option Addr} {m c : Nat} : aStore Try.prog σ' 33 (.slice a m c) (.pointer (some ⟨rb, i, none⟩)) = some (σ'.put rb ⟨1, 33, 0, vs.set i (.slice a m c), []⟩) := by
  obtain ⟨inf, hi2, hs, -⟩ := info33
  have hz : Nat.beq (Value.slice a m c).cells.size 1 = true := rfl
  have hc : (Value.slice a m c).cells.toList = [.slice a m c] := rfl
  have hlen := h.len
  unfold aStore
  simp only [hi2, hs, hz, if_true, hc]
  unfold aWrite
  simp only [hg.trans h.get, hasLen_eq, List.length_cons, List.length_nil, Nat.zero_add]
  rw [ble_t (show i + 1 ≤ vs.length by omega), lsplice_cons, lsplice_nil]
  rfl
/-- A row grows. -/
theorem DR.push (h : DR σ0 σ n K rb vs) {T : Nat} {u v' : Value} {l' : List Int} {K' : Nat} (hu : vs[T]? = some u) (hE : Ext σ0 s) (hn : σ.next ≤ s.next) (hg : ∀ i, i < σ.next → ¬ Own u i → s.get i = σ.get i) (hO : OL σ0.next s v' l')
    (hw : ∀ i, Own v' i → Own u i ∨ σ.next ≤ i) (hl : l'.length ≤ K') (hx : ∀ x ∈ l', 0 ≤ x ∧ x < (n : Int)) (hK : K ≤ K') : DR σ0 (s.put rb ⟨1, 33, 0, vs.set T v', []⟩) n K' rb (vs.set T v') := by
  have hTl := (List.getElem?_eq_some_iff.1 hu).1
  have kown : ∀ (i : Nat) v b, vs[i]? = some v → Own v b → b < σ.next ∧ (σ.get b).kind = 2 := fun i v b hv ho => by
    obtain ⟨l, h1, -⟩ := h.row i v hv
    exact ⟨(h1.own ho).2.1, (h1.own ho).2.2.1⟩
  have hrb : ∀ b, b < σ.next → (σ.get b).kind = 2 → b ≠ rb := fun b _ hk e => by rw [e, h.get] at hk; cases hk
  have hrbu : s.get rb = σ.get rb := hg rb h.lt fun ho => hrb rb h.lt (kown T u rb hu ho).2 rfl
  have hne : ∀ b, b ≠ rb → ∀ B, (s.put rb B).get b = s.get b := fun b hb B => by rw [AS.get_put, if_neg (fun e => hb e.symm)]
  have hvb : ∀ b, Own v' b → b ≠ rb := fun b ho e => by
    have h1 := (hO.own ho).2.2.1
    rw [e, hrbu, h.get] at h1
    cases h1
  refine ⟨hE.put h.lo _, h.lo, Nat.lt_of_lt_of_le h.lt hn, by rw [AS.get_put, if_pos rfl], by rw [List.length_set]; exact h.len, fun i v hv => ?_, fun i j v w b hv hw2 hob hob2 => ?_⟩
  · by_cases e : T = i
    · subst e
      rw [List.getElem?_set_self hTl] at hv
      cases hv
      exact ⟨l', hO.keep (Nat.le_refl _) fun b ho _ => hne b (hvb b ho) _, hl, hx⟩
    · rw [List.getElem?_set_ne e] at hv
      obtain ⟨l, h1, h2, h3⟩ := h.row i v hv
      refine ⟨l, h1.keep hn fun b ho hb => ?_, by omega, h3⟩
      rw [hne b (hrb b hb (kown i v b hv ho).2)]
      exact hg b hb fun ho2 => e (h.sep T i u v b hu hv ho2 ho)
  · have hlt : ∀ (k : Nat) x, T ≠ k → (vs.set T v')[k]? = some x → Own x b → Own v' b → False := fun k x hk hx ho1 ho2 => by
      rw [List.getElem?_set_ne hk] at hx
      rcases hw b ho2 with h1 | h1
      · exact hk (h.sep T k u x b hu hx h1 ho1)
      · have := (kown k x b hx ho1).1; omega
    by_cases e1 : T = i
    · by_cases e2 : T = j
      · omega
      · subst e1
        rw [List.getElem?_set_self hTl] at hv
        cases hv
        exact absurd (hlt j w e2 hw2 hob2 hob) id
    · by_cases e2 : T = j
      · subst e2
        rw [List.getElem?_set_self hTl] at hw2
        cases hw2
        exact absurd (hlt i v e1 hv hob hob2) id
      · rw [List.getElem?_set_ne e1] at hv
        rw [List.getElem?_set_ne e2] at hw2
        exact h.sep i j v w b hv hw2 hob hob2
end

/-- The search back: distances d, the queue q. -/
structure DQ (σ0 σ : AS) (n K rb : Nat) (vs : List Value) (db : Nat) (d : List Int) (qv : Value) (q : List Int) : Prop where
  rows : DR σ0 σ n K rb vs
  dd : IB σ0.next σ db d
  qq : OL σ0.next σ qv q
  qs : ∀ (i : Nat) v b, vs[i]? = some v → Own v b → ¬ Own qv b
  len : d.length = n
  rng : ∀ x ∈ q, 0 ≤ x ∧ x < (n : Int) ∧ ∃ y, d[x.toNat]? = some y ∧ 0 ≤ y
  cnt : q.length = d.countP fun y => decide (0 ≤ y)
  bnd : ∀ y ∈ d, y ≤ (q.length : Int)

section
variable {σ0 σ σ' : AS} {n K rb db : Nat} {vs : List Value} {d q : List Int} {qv : Value}
theorem DQ.qle (h : DQ σ0 σ n K rb vs db d qv q) : q.length ≤ n := by rw [h.cnt, ← h.len]; exact List.countP_le_length
theorem countP_neg : ∀ {l : List Int} {i : Nat} {y x : Int}, l[i]? = some y → y < 0 → 0 ≤ x → (l.set i x).countP (fun y => decide (0 ≤ y)) = l.countP (fun y => decide (0 ≤ y)) + 1
  | [], i, y, x, h, _, _ => by simp at h
  | a :: l, 0, y, x, h, hy, hx => by
    simp at h; subst h
    simp [List.countP_cons, hx]; omega
  | a :: l, i + 1, y, x, h, hy, hx => by
    have := countP_neg (l := l) (i := i) (by simpa using h) hy hx
    simp only [List.set_cons_succ, List.countP_cons, this]
    omega
theorem DQ.add (h : DQ σ0 σ n K rb vs db d qv q) {s : Nat} {y x : Int} (hs : d[s]? = some y) (hy : y < 0) (hx : 0 ≤ x) (hx1 : x ≤ (q.length : Int) + 1) (hn : n ≤ 1000) :
    ∃ B, aStore Try.prog σ 3 (.int .i64 x) (.pointer (some ⟨db, s, none⟩)) = some (σ.put db B) ∧
    ∃ v' s1, aAppend Try.prog ((σ.put db B).new ⟨1, 3, 0, [.int .i64 (s : Int)], []⟩) #[33, 33] qv (.slice (some ⟨(σ.put db B).next, 0, none⟩) 1 1) = some (v', s1) ∧ DQ σ0 s1 n K rb vs db (d.set s x) v' (q ++ [(s : Int)]) := by
  obtain ⟨hsl, hsd⟩ := List.getElem?_eq_some_iff.1 hs
  have hql := h.qle
  refine ⟨_, h.dd.st hsl x, ?_⟩
  generalize hB : (⟨1, 3, 0, (d.set s x).map vInt, []⟩ : Blk) = B
  have kd : (σ.get db).kind = 1 := by rw [h.dd.get]
  have ne : ∀ j, (σ.get j).kind = 2 → (σ.put db B).get j = σ.get j := fun j hj => by
    rw [AS.get_put, if_neg]
    rintro rfl
    omega
  have E1 : Ext σ0 (σ.put db B) := h.rows.ext.put h.dd.lo B
  have hrdb : rb ≠ db := fun e => by
    have h1 := h.rows.get
    rw [e, h.dd.get] at h1
    cases congrArg Blk.elem h1
  have R1 : DR σ0 (σ.put db B) n K rb vs := h.rows.keep E1 (Nat.le_refl _) (by rw [AS.get_put, if_neg (fun e => hrdb e.symm)]) fun i b v hv ho => by
    obtain ⟨l, h1, -⟩ := h.rows.row i v hv
    exact ne b (h1.own ho).2.2.1
  have D1 : IB σ0.next (σ.put db B) db (d.set s x) := ⟨h.dd.lo, h.dd.lt, by rw [AS.get_put, if_pos rfl, ← hB]⟩
  have Q1 : OL σ0.next (σ.put db B) qv q := h.qq.keep (Nat.le_refl _) fun b ho _ => ne b (h.qq.own ho).2.2.1
  generalize σ.put db B = σ2 at R1 D1 Q1 E1
  have en := Ext.new σ2 ⟨1, 3, 0, [.int .i64 (s : Int)], []⟩
  have hb : (σ2.new ⟨1, 3, 0, [.int .i64 (s : Int)], []⟩).get σ2.next = ⟨1, 3, 0, [.int .i64 (s : Int)], []⟩ := by rw [AS.get_new, if_pos rfl]
  have R2 := R1.go en
  have D2 := D1.keep en.nxt (en.get _ D1.lt)
  have Q2 := Q1.ext en
  have E2 := E1.trans en
  generalize σ2.new ⟨1, 3, 0, [.int .i64 (s : Int)], []⟩ = σ3 at R2 D2 Q2 E2 hb
  obtain ⟨v', s1, g1, g2, g3, g4, g5, g6⟩ := Stk.push el3 Q2 E2.nxt (src33 hb) rfl rfl (by omega)
  have kown : ∀ (i : Nat) v b, vs[i]? = some v → Own v b → b < σ3.next := fun i v b hv ho => by
    obtain ⟨l, h1, -⟩ := R2.row i v hv
    exact (h1.own ho).2.1
  have k1 : ∀ b, b < σ3.next → (σ3.get b).kind = 1 → s1.get b = σ3.get b := fun b hb hk => g4 b hb fun ho => by have := (Q2.own ho).2.2.1; omega
  refine ⟨v', s1, g1, R2.keep ⟨Nat.le_trans E2.nxt g3, fun i hi => ?_, fun m h1 h2 => g5 m h2 (E2.low m h1 h2)⟩ g3 (k1 rb R2.lt (by rw [R2.get])) fun i b v hv ho => g4 b (kown i v b hv ho) (h.qs i v b hv ho), D2.keep g3 (k1 db D2.lt (by rw [D2.get])), ?_, fun i v b hv ho ho2 => ?_, by rw [List.length_set]; exact h.len, fun z hz => ?_, ?_, fun z hz => ?_⟩
  · rw [g4 i (Nat.lt_of_lt_of_le hi E2.nxt) (fun ho => by have := (Q2.own ho).1; omega)]
    exact E2.get i hi
  · unfold OL
    rw [List.length_append, List.map_append]
    exact g2
  · rcases g6 b ho2 with h1 | h1
    · exact h.qs i v b hv ho h1
    · have := kown i v b hv ho; omega
  · have hlen := h.len
    rcases List.mem_append.1 hz with hz | hz
    · obtain ⟨h1, h2, y2, h3, h4⟩ := h.rng z hz
      refine ⟨h1, h2, y2, ?_, h4⟩
      rw [List.getElem?_set_ne, h3]
      intro e
      rw [← e, hs] at h3
      cases h3
      omega
    · rw [List.mem_singleton.1 hz]
      refine ⟨by omega, by omega, x, ?_, hx⟩
      rw [show ((s : Nat) : Int).toNat = s from rfl, List.getElem?_set_self hsl]
  · rw [List.length_append, countP_neg hs hy hx, h.cnt]; rfl
  · rw [List.length_append]
    rcases List.mem_or_eq_of_mem_set hz with hz | rfl
    · have := h.bnd z hz
      simp; omega
    · simp; omega
end

set_option maxHeartbeats 64000000 in
theorem distances_c {σ : AS} {tb lb0 cap m : Nat} {L : Lts} {lo : Nat} {gv : Value} {bs : List Bool} (hG : Gen tb lb0 σ L m) (hm : m ≤ 1000) (hpos : 0 < L.length) (hn : L.length ≤ 12) (hg : BL lo σ gv bs) (hbl : bs.length = L.length) :
    C Try.prog Kn 0 38 [.agg #[.slice (some ⟨lb0, 0, none⟩) L.length cap], gv] σ fun v σ' => ∃ d, IL σ.next σ' v d ∧ Ext σ σ' ∧ d.length = L.length ∧ ((∃ (s : Nat), ∃ x, d[s]? = some x ∧ 0 ≤ x) ↔ ∃ s : Nat, bs[s]? = some true) := by
  refine C_of (kn (by decide)) Try.func38 rfl (Nat.le_of_ble_eq_true rfl) ?_
  show W _ _ _ 109 _ _ _ _
  unfold Try.f38
  dsimp only
  repeat apply W_assoc
  apply W_reg
  · intro callf
    simp +decide only [aOps, rinit, aWanted, ↓bite_eq, ↓reduceIte, aStep_eq, aStepOld, aOp, opBox, aRow, aev, ann, aPut, rget_rput, Nat.zero_add]
    rfl
  have E0 := Ext.new σ ⟨1, 30, 0, (Value.agg #[.slice (some ⟨lb0, 0, none⟩) L.length cap]).cells.toList, []⟩
  have BX : BoxAt (σ.new ⟨1, 30, 0, (Value.agg #[.slice (some ⟨lb0, 0, none⟩) L.length cap]).cells.toList, []⟩) σ.next (.slice (some ⟨lb0, 0, none⟩) L.length cap) := ⟨Nat.lt_succ_self _, by rw [AS.get_new, if_pos rfl]; rfl⟩
  generalize hb1 : σ.next = b1 at BX
  generalize σ.new ⟨1, 30, 0, (Value.agg #[.slice (some ⟨lb0, 0, none⟩) L.length cap]).cells.toList, []⟩ = σ1 at E0 BX
  have G1 := hG.ext E0
  have g1 := hg.ext E0
  have e1 := Ext.new σ1 ⟨1, 33, 0, List.replicate L.length (.slice none 0 0), []⟩
  generalize hrb : σ1.next = rb
  have R1 : DR σ1 (σ1.new ⟨1, 33, 0, List.replicate L.length (.slice none 0 0), []⟩) L.length 0 rb (List.replicate L.length (.slice none 0 0)) := by
    have hat : ∀ (i : Nat) (v : Value), (List.replicate L.length (Value.slice none 0 0))[i]? = some v → v = .slice none 0 0 := fun i v h => by
      rw [List.getElem?_replicate] at h
      split at h
      · cases h; rfl
      · cases h
    refine ⟨e1, by omega, by rw [← hrb]; exact Nat.lt_succ_self _, by rw [AS.get_new, if_pos hrb], by simp, fun i v h => ?_, fun i j v w b h _ ho _ => ?_⟩
    · rw [hat i v h]; exact ⟨[], OL.nil, Nat.le_refl _, fun x hx => (nomatch hx)⟩
    · rw [hat i v h] at ho; obtain ⟨_, _, e⟩ := ho; cases e
  repeat apply W_assoc
  apply W_reg
  · intro callf
    simp +decide only [aOps, aWanted, ↓bite_eq, ↓reduceIte, aStep_eq, aStepOld, aOp, opCall, opFieldAddr, opLoad, aev, aevs, ann, aPut, rget_rput, aBuiltin, aLen, List.getElem?_toArray, List.getElem?_cons_zero, fldL, BX.out, Try.underlying28, goInt, opMakeSlice, make85 (show L.length ≤ 1000000 by omega), hrb]
    rfl
  generalize σ1.new ⟨1, 33, 0, List.replicate L.length (.slice none 0 0), []⟩ = σ2 at e1 R1
  have BX2 := BX.ext e1
  repeat apply W_assoc
  apply W_reg
  · intro callf
    simp +decide only [aOps, aWanted, ↓bite_eq, ↓reduceIte, aStep_eq, aStepOld, aOp, opCall, opFieldAddr, opLoad, aev, aevs, ann, aPut, rget_rput, aBuiltin, aLen, List.getElem?_toArray, List.getElem?_cons_zero, fldL, BX2.out, Try.underlying28, goInt]
    rfl
  repeat apply W_assoc
  refine W_forM (fun (i : Nat) r s => i ≤ L.length ∧ (∃ vs, DR σ1 s L.length (1000 * i) rb vs) ∧ rget r 1 = gv ∧ rget r 2 = .pointer (some ⟨b1, 0, none⟩) ∧ rget r 5 = .slice (some ⟨rb, 0, none⟩) L.length L.length ∧ rget r 22 = .int .i64 (L.length : Int) ∧ rget r 23 = .int .i64 (i : Int))
    (fun i => L.length - i) (fun r s => (∃ vs, DR σ1 s L.length 12000 rb vs) ∧ rget r 1 = gv ∧ rget r 2 = .pointer (some ⟨b1, 0, none⟩) ∧ rget r 5 = .slice (some ⟨rb, 0, none⟩) L.length L.length) ?_ ?_ 0 ?_
  rotate_left 2
  · refine ⟨Nat.zero_le _, ⟨_, R1⟩, ?_, ?_, ?_, ?_, ?_⟩ <;> simp +decide only [rget_rput, if_true, if_false] <;> first | exact True.intro | rfl
  rotate_left
  · clear R1 e1 BX2
    rintro r σ3 ⟨⟨vs, R3⟩, h1, h2, h5⟩
    have BX3 := (BX.ext R3.ext).ext (Ext.new σ3 ⟨1, 3, 0, [.int .i64 (-1)], []⟩)
    repeat apply W_assoc
    apply W_regL
    apply Ls_pre 4
    · intro callf
      simp +decide only [List.take, aOps, aWanted, ↓bite_eq, ↓reduceIte, aStep_eq, aStepOld, aOp, opCall, opFieldAddr, opLoad, opBuildSlice, aev, aevs, aparts, ann, aPut, rget_rput, aBuiltin, aLen, List.getElem?_toArray, List.getElem?_cons_zero, slice33a, h2, fldL, BX3.out, Try.underlying28, goInt]
      rfl
    dsimp only [List.drop]
    refine Ls_fn (vs := [.slice (some ⟨σ3.next, 0, none⟩) 1 1, .int .i64 (L.length : Int)]) (by simp +decide only [aevs, aev, rget_rput, if_true, if_false]) (by decide) (C.mono (repeat_c (σ := σ3.new ⟨1, 3, 0, [.int .i64 (-1)], []⟩) (xb := σ3.next) (Nat.lt_succ_self _) (by rw [AS.get_new, if_pos rfl]) hpos hn) ?_)
    rintro v σ' ⟨hI, e2⟩
    obtain ⟨db, rfl, db1, db2, dbg⟩ := hI
    apply Ls_all
    · intro callf
      simp +decide only [aOps, aWanted, ↓bite_eq, ↓reduceIte, aStep_eq, aStepOld, aOp, aev, ann, aPut, rget_rput]
      rfl
    rw [List.length_replicate]
    have db0 : σ1.next ≤ db := Nat.le_trans (Nat.le_trans R3.ext.nxt (Ext.new σ3 _).nxt) db1
    have R4 := R3.go ((Ext.new σ3 _).trans e2)
    generalize σ' = σ4 at db2 dbg R4
    clear R3 BX3 e2 db1
    have Q4 : DQ σ1 σ4 L.length 12000 rb vs db (List.replicate L.length (-1)) (.slice none 0 0) [] := by
      refine ⟨R4, ⟨db0, db2, dbg⟩, OL.nil, fun i v b _ _ ⟨_, _, e⟩ => (nomatch e), by simp, fun x hx => (nomatch hx), ?_, fun y hy => ?_⟩
      · rw [List.countP_replicate]; rfl
      · rw [List.eq_of_mem_replicate hy]; decide
    clear R4 dbg db2 db0
    obtain ⟨gb, hgv, -⟩ := id g1
    rw [hbl] at hgv
    repeat apply W_assoc
    apply W_reg
    · intro callf
      simp +decide only [aOps, aWanted, ↓bite_eq, ↓reduceIte, aStep_eq, aStepOld, aOp, aev, ann, aPut]
      rfl
    repeat apply W_assoc
    apply W_reg
    · intro callf
      simp +decide only [aOps, aWanted, ↓bite_eq, ↓reduceIte, aStep_eq, aStepOld, aOp, opCall, aev, aevs, ann, aPut, rget_rput, aBuiltin, aLen, List.getElem?_toArray, List.getElem?_cons_zero, h1, hgv, Try.underlying43, goInt]
      rfl
    repeat apply W_assoc
    refine W_forM (fun (i : Nat) r s => i ≤ L.length ∧ (∃ d qv q, DQ σ1 s L.length 12000 rb vs db d qv q ∧ rget r 10 = qv ∧ (∀ j, i ≤ j → j < L.length → d[j]? = some (-1)) ∧ ((∃ (s : Nat), ∃ x, d[s]? = some x ∧ 0 ≤ x) ↔ ∃ s : Nat, s < i ∧ bs[s]? = some true)) ∧ rget r 5 = .slice (some ⟨rb, 0, none⟩) L.length L.length ∧ rget r 9 = .slice (some ⟨db, 0, none⟩) L.length L.length ∧ rget r 53 = .slice (some ⟨gb, 0, none⟩) L.length L.length ∧ rget r 54 = .int .i64 (L.length : Int) ∧ rget r 55 = .int .i64 (i : Int))
      (fun i => L.length - i) (fun r s => (∃ d qv q, DQ σ1 s L.length 12000 rb vs db d qv q ∧ rget r 10 = qv ∧ ((∃ (s : Nat), ∃ x, d[s]? = some x ∧ 0 ≤ x) ↔ ∃ s : Nat, bs[s]? = some true)) ∧ rget r 5 = .slice (some ⟨rb, 0, none⟩) L.length L.length ∧ rget r 9 = .slice (some ⟨db, 0, none⟩) L.length L.length) ?_ ?_ 0 ?_
    rotate_left 2
    · refine ⟨Nat.zero_le _, ⟨_, _, _, Q4, ?_, fun j _ hj => by rw [List.getElem?_replicate, if_pos hj], ?_⟩, ?_, ?_, ?_, ?_, ?_⟩
      rotate_left
      · constructor
        · rintro ⟨s, x, h, h0⟩
          rw [List.getElem?_replicate] at h
          split at h
          · cases h; omega
          · cases h
        · rintro ⟨s, h, -⟩; omega
      all_goals simp +decide only [rget_rput, if_true, if_false, h5]
      all_goals first | exact True.intro | rfl
    rotate_left
    · clear Q4 h1 h2 h5
      rintro r σ5 ⟨⟨d, qv, q, Q5, h10, hiff⟩, h5, h9⟩
      repeat apply W_assoc
      apply W_reg
      · intro callf
        simp +decide only [aOps, aWanted, ↓bite_eq, ↓reduceIte, aStep_eq, aStepOld, aOp, aev, ann, aPut]
        rfl
      repeat apply W_assoc
      refine W_forM (fun (k : Nat) r s => (∃ d qv q, DQ σ1 s L.length 12000 rb vs db d qv q ∧ rget r 10 = qv ∧ k ≤ q.length ∧ ((∃ (s : Nat), ∃ x, d[s]? = some x ∧ 0 ≤ x) ↔ ∃ s : Nat, bs[s]? = some true)) ∧ rget r 5 = .slice (some ⟨rb, 0, none⟩) L.length L.length ∧ rget r 9 = .slice (some ⟨db, 0, none⟩) L.length L.length ∧ rget r 13 = .int .i64 (k : Int))
        (fun k => L.length - k) (fun r s => (∃ d qv q, DQ σ1 s L.length 12000 rb vs db d qv q ∧ ((∃ (s : Nat), ∃ x, d[s]? = some x ∧ 0 ≤ x) ↔ ∃ s : Nat, bs[s]? = some true)) ∧ rget r 9 = .slice (some ⟨db, 0, none⟩) L.length L.length) ?_ ?_ 0 ?_
      rotate_left 2
      · refine ⟨⟨_, _, _, Q5, ?_, Nat.zero_le _, hiff⟩, ?_, ?_, ?_⟩ <;> simp +decide only [rget_rput, if_true, if_false, h10, h5, h9] <;> first | exact True.intro | rfl
      rotate_left
      · clear Q5 h10 hiff h5 h9
        rintro r σ6 ⟨⟨d, qv, q, Q6, hiff⟩, h9⟩
        repeat apply W_assoc
        apply W_reg
        · intro callf
          simp +decide only [aOps, aWanted, ↓bite_eq, ↓reduceIte, aStep_eq, aStepOld, aOp, aev, ann, aPut, rget_rput, h9]
          rfl
        refine W_ret ⟨Nat.le_refl _, [.slice (some ⟨db, 0, none⟩) L.length L.length], ?_, d, ⟨db, by rw [Q6.len]; rfl, by have := Q6.dd.lo; have := E0.nxt; omega, Q6.dd.lt, Q6.dd.get⟩, E0.trans Q6.rows.ext, Q6.len, hiff⟩
        simp +decide only [aResults, rget_rput, if_true, if_false]
      clear Q5 h10 hiff h5 h9
      rintro k r σ6 ⟨⟨d, qv, q, Q6, h10, hk, hiff⟩, h5, h9, h13⟩
      obtain ⟨qa, qc, hqv⟩ := Stk.len Q6.qq
      have hql := Q6.qle
      by_cases hlt : k < q.length
      rotate_left
      · have d1 : decide ((k : Int) < (q.length : Int)) = false := decide_eq_false (by omega)
        repeat apply W_assoc
        apply W_reg
        · intro callf
          simp +decide only [aOps, aWanted, ↓bite_eq, ↓reduceIte, aStep_eq, aStepOld, aOp, opBin, opCall, aev, aevs, ann, aPut, rget_rput, aBuiltin, aLen, List.getElem?_toArray, List.getElem?_cons_zero, h10, hqv, h13, d1, Try.underlying33, goInt, aBin, aInts, aInt_eq]
          rfl
        repeat apply W_assoc
        refine W_if (b := false) ?_ ?_ ?_
        · simp +decide only [aev, rget_rput, if_true, if_false]
        · intro h; cases h
        intro _
        refine W_exitq ⟨fun h => (nomatch h), fun _ => ⟨⟨d, qv, q, Q6, hiff⟩, ?_⟩, fun h1 h2 => absurd rfl h2⟩ <;> simp +decide only [rget_rput, if_false, h9]
      have d1 : decide ((k : Int) < (q.length : Int)) = true := decide_eq_true (by omega)
      repeat apply W_assoc
      apply W_reg
      · intro callf
        simp +decide only [aOps, aWanted, ↓bite_eq, ↓reduceIte, aStep_eq, aStepOld, aOp, opBin, opCall, aev, aevs, ann, aPut, rget_rput, aBuiltin, aLen, List.getElem?_toArray, List.getElem?_cons_zero, h10, hqv, h13, d1, Try.underlying33, goInt, aBin, aInts, aInt_eq]
        rfl
      repeat apply W_assoc
      refine W_if (b := true) ?_ ?_ ?_
      · simp +decide only [aev, rget_rput, if_true, if_false]
      rotate_left
      · intro h; cases h
      intro _
      apply W_skipq
      refine W_blk ?_
      obtain ⟨uu, hu⟩ : ∃ u, q[k]? = some u := ⟨q[k], by simp [hlt]⟩
      obtain ⟨hu0, hu1, -⟩ := Q6.rng uu (List.mem_of_getElem? hu)
      obtain ⟨U, rfl⟩ : ∃ U : Nat, uu = (U : Int) := ⟨uu.toNat, by omega⟩
      have hUN : U < L.length := by omega
      obtain ⟨v, hv⟩ : ∃ v, vs[U]? = some v := ⟨vs[U]'(by rw [Q6.rows.len]; exact hUN), by simp [show U < vs.length by rw [Q6.rows.len]; exact hUN]⟩
      obtain ⟨l, hO, hll, -⟩ := Q6.rows.row U v hv
      obtain ⟨va, vc, hvv⟩ := Stk.len hO
      generalize l.length = nr at hll hvv
      clear hO
      have hqne : q ≠ [] := fun e => by rw [e] at hlt; simp at hlt
      obtain ⟨qb, qc2, hqv2, -, -, -, -, hqx, hqld, -⟩ := Q6.qq.at hqne
      have lu := hqld k _ hu σ6 rfl
      unfold vInt at lu
      repeat apply W_assoc
      apply W_reg
      · intro callf
        simp +decide only [aOps, aWanted, ↓bite_eq, ↓reduceIte, aStep_eq, aStepOld, aOp, opCall, opIndexAddr, opLoad, aev, aevs, ann, aPut, rget_rput, aBuiltin, aLen, List.getElem?_toArray, List.getElem?_cons_zero, h5, h10, h13, hqx k hlt, lu, idx85 hUN, Q6.rows.ld hv, hvv, Try.underlying33, goInt]
        rfl
      refine W_tail ?_
      repeat apply W_assoc
      refine W_for (fun (j : Nat) r s => j ≤ nr ∧ (∃ d qv q, DQ σ1 s L.length 12000 rb vs db d qv q ∧ rget r 10 = qv ∧ q[k]? = some (U : Int) ∧ ((∃ (s : Nat), ∃ x, d[s]? = some x ∧ 0 ≤ x) ↔ ∃ s : Nat, bs[s]? = some true)) ∧ rget r 5 = .slice (some ⟨rb, 0, none⟩) L.length L.length ∧ rget r 9 = .slice (some ⟨db, 0, none⟩) L.length L.length ∧ rget r 13 = .int .i64 (k : Int) ∧ rget r 81 = v ∧ rget r 82 = .int .i64 (nr : Int) ∧ rget r 83 = .int .i64 (j : Int))
        (fun j => nr - j) ?_ 0 ?_
      rotate_left
      · refine ⟨Nat.zero_le _, ⟨_, _, _, Q6, ?_, hu, hiff⟩, ?_, ?_, ?_, ?_, ?_, ?_⟩ <;> simp +decide only [rget_rput, if_true, if_false, h10, h5, h9, h13, hvv] <;> first | exact True.intro | rfl
      clear Q6 h10 hiff h5 h9 h13 hqv hql lu hqx hqld hqv2 hqne hu hu0 hu1 d1 hlt hk
      rintro j r σ7 ⟨hj, ⟨d, qv, q, Q7, h10, hu, hiff⟩, h5, h9, h13, h81, h82, h83⟩
      have hlt := (List.getElem?_eq_some_iff.1 hu).1
      by_cases hjl : j < nr
      rotate_left
      · have d2 : decide ((j : Int) < (nr : Int)) = false := decide_eq_false (by omega)
        repeat apply W_assoc
        apply W_reg
        · intro callf
          simp +decide only [aOps, aWanted, ↓bite_eq, ↓reduceIte, aStep_eq, aStepOld, aOp, opBin, aev, ann, aPut, h82, h83, d2, aBin, aInts, aInt_eq]
          rfl
        repeat apply W_assoc
        refine W_if (b := false) ?_ ?_ ?_
        · simp +decide only [aev, rget_rput, if_true]
        · intro h; cases h
        intro _
        refine W_exitq ⟨fun h => (nomatch h), fun _ => ?_, fun h1 h2 => absurd rfl h2⟩
        refine W_skip ⟨fun _ => ?_, fun h => absurd rfl h⟩
        refine W_tail ?_
        have hql := Q7.qle
        have w2 : IntKind.i64.wrap ((k : Int) + 1) = ((k + 1 : Nat) : Int) := by rw [wrap64_id _ (by omega) (by omega)]; omega
        repeat apply W_assoc
        apply W_reg
        · intro callf
          simp +decide only [aOps, aWanted, ↓bite_eq, ↓reduceIte, aStep_eq, aStepOld, aOp, opBin, aev, ann, aPut, rget_rput, h13, w2, aBin, aInts, aInt_eq]
          rfl
        refine W_skip ⟨fun _ => ⟨k + 1, ?_, ?_⟩, fun h => (nomatch h), fun h => absurd rfl h⟩
        · show L.length - (k + 1) < L.length - k
          omega
        · refine ⟨⟨d, qv, q, Q7, ?_, hlt, hiff⟩, ?_, ?_, ?_⟩ <;> simp +decide only [rget_rput, if_true, if_false, h10, h5, h9]
      have d2 : decide ((j : Int) < (nr : Int)) = true := decide_eq_true (by omega)
      repeat apply W_assoc
      apply W_reg
      · intro callf
        simp +decide only [aOps, aWanted, ↓bite_eq, ↓reduceIte, aStep_eq, aStepOld, aOp, opBin, aev, ann, aPut, h82, h83, d2, aBin, aInts, aInt_eq]
        rfl
      repeat apply W_assoc
      refine W_if (b := true) ?_ ?_ ?_
      · simp +decide only [aev, rget_rput, if_true]
      rotate_left
      · intro h; cases h
      intro _
      apply W_skipq
      refine W_blk ?_
      obtain ⟨l, hO, -, hlr⟩ := Q7.rows.row U v hv
      obtain ⟨va2, vc2, hvv2⟩ := Stk.len hO
      have hnr : l.length = nr := by rw [hvv] at hvv2; cases hvv2; rfl
      have hlne : l ≠ [] := fun e => by rw [e] at hnr; simp at hnr; omega
      obtain ⟨lb, lc, -, -, -, -, -, hlx, hlld, -⟩ := hO.at hlne
      obtain ⟨ss, hs⟩ : ∃ x, l[j]? = some x := ⟨l[j]'(by omega), by simp [show j < l.length by omega]⟩
      obtain ⟨hs0, hs1⟩ := hlr ss (List.mem_of_getElem? hs)
      obtain ⟨S, rfl⟩ : ∃ S : Nat, ss = (S : Int) := ⟨ss.toNat, by omega⟩
      have hSN : S < L.length := by omega
      have ls := hlld j _ hs σ7 rfl
      unfold vInt at ls
      repeat apply W_assoc
      apply W_reg
      · intro callf
        simp +decide only [aOps, aWanted, ↓bite_eq, ↓reduceIte, aStep_eq, aStepOld, aOp, opIndexAddr, opLoad, aev, ann, aPut, rget_rput, h81, h83, hlx j (by omega), ls]
        rfl
      obtain ⟨y, hy⟩ : ∃ y, d[S]? = some y := ⟨d[S]'(by rw [Q7.len]; exact hSN), by simp [show S < d.length by rw [Q7.len]; exact hSN]⟩
      have ly := Q7.dd.ld hy
      have w3 : IntKind.i64.wrap ((j : Int) + 1) = ((j + 1 : Nat) : Int) := by rw [wrap64_id _ (by omega) (by omega)]; omega
      repeat apply W_assoc
      apply W_reg
      · intro callf
        simp +decide only [aOps, aWanted, ↓bite_eq, ↓reduceIte, aStep_eq, aStepOld, aOp, opBin, opIndexAddr, opLoad, aev, ann, aPut, rget_rput, h9, idxB hSN, ly, aBin, aInts, aInt_eq]
        rfl
      refine W_tail ?_
      by_cases hneg : y < 0
      · have d3 : decide (y < 0) = true := decide_eq_true hneg
        repeat apply W_assoc
        refine W_if (b := true) ?_ ?_ ?_
        · simp +decide only [aev, rget_rput, if_true, if_false, d3]
        rotate_left
        · intro h; cases h
        intro _
        have hqne : q ≠ [] := fun e => by rw [e] at hlt; simp at hlt
        obtain ⟨qb, qc2, hqv2, -, -, -, -, hqx, hqld, -⟩ := Q7.qq.at hqne
        have lu := hqld k _ hu σ7 rfl
        unfold vInt at lu
        obtain ⟨-, -, y2, hy2, hy20⟩ := Q7.rng _ (List.mem_of_getElem? hu)
        rw [show ((U : Nat) : Int).toNat = U from rfl] at hy2
        have hy21 := Q7.bnd y2 (List.mem_of_getElem? hy2)
        have hql := Q7.qle
        have ly2 := Q7.dd.ld hy2
        have w4 : IntKind.i64.wrap (y2 + 1) = y2 + 1 := wrap64_id _ (by omega) (by omega)
        obtain ⟨B, st7, v8, s8, ha8, Q8⟩ := Q7.add hy hneg (x := y2 + 1) (by omega) (by omega) (by omega)
        repeat apply W_assoc
        apply W_reg
        · intro callf
          simp +decide only [aOps, aWanted, ↓bite_eq, ↓reduceIte, aStep_eq, aStepOld, aOp, opBin, opIndexAddr, opLoad, opStore, aev, ann, unn, aPut, rget_rput, h9, h10, h13, hqx k hlt, lu, idxB hUN, ly2, w4, idxB hSN, st7, aBin, aInts, aInt_eq]
          rfl
        generalize σ7.put db B = σ8 at st7 ha8
        repeat apply W_assoc
        apply W_reg
        · intro callf
          simp +decide only [aOps, aWanted, ↓bite_eq, ↓reduceIte, aStep_eq, aStepOld, aOp, opCall, opBuildSlice, aev, aevs, aparts, ann, aPut, rget_rput, aBuiltin, h10, slice33a, ha8]
          rfl
        refine W_skip ⟨fun _ => ?_, fun h => absurd rfl h⟩
        refine W_tail ?_
        repeat apply W_assoc
        apply W_reg
        · intro callf
          simp +decide only [aOps, aWanted, ↓bite_eq, ↓reduceIte, aStep_eq, aStepOld, aOp, opBin, aev, ann, aPut, rget_rput, h83, w3, aBin, aInts, aInt_eq]
          rfl
        refine W_skip ⟨fun _ => ⟨j + 1, ?_, ?_⟩, fun h => (nomatch h), fun h => absurd rfl h⟩
        · show nr - (j + 1) < nr - j
          omega
        · refine ⟨by omega, ⟨_, _, _, Q8, ?_, by rw [List.getElem?_append_left hlt]; exact hu, ?_⟩, ?_, ?_, ?_, ?_, ?_, ?_⟩
          rotate_left
          · rw [← hiff]
            constructor
            · intro _; exact ⟨U, y2, hy2, hy20⟩
            · intro _; exact ⟨S, y2 + 1, by rw [List.getElem?_set_self (List.getElem?_eq_some_iff.1 hy).1], by omega⟩
          all_goals simp +decide only [rget_rput, if_true, if_false, h5, h9, h13, h81, h82]
      have d3 : decide (y < 0) = false := decide_eq_false hneg
      repeat apply W_assoc
      refine W_if (b := false) ?_ ?_ ?_
      · simp +decide only [aev, rget_rput, if_true, if_false, d3]
      · intro h; cases h
      intro _
      repeat first | apply W_skipq | apply W_assoc
      refine W_skip ⟨fun _ => ?_, fun h => absurd rfl h⟩
      refine W_tail ?_
      repeat apply W_assoc
      apply W_reg
      · intro callf
        simp +decide only [aOps, aWanted, ↓bite_eq, ↓reduceIte, aStep_eq, aStepOld, aOp, opBin, aev, ann, aPut, rget_rput, h83, w3, aBin, aInts, aInt_eq]
        rfl
      refine W_skip ⟨fun _ => ⟨j + 1, ?_, ?_⟩, fun h => (nomatch h), fun h => absurd rfl h⟩
      · show nr - (j + 1) < nr - j
        omega
      · refine ⟨by omega, ⟨_, _, _, Q7, ?_, hu, hiff⟩, ?_, ?_, ?_, ?_, ?_, ?_⟩
        all_goals simp +decide only [rget_rput, if_true, if_false, h5, h9, h10, h13, h81, h82]
    clear Q4 h1 h2 h5
    rintro i r σ5 ⟨hi, ⟨d, qv, q, Q5, h10, hrest, hiff⟩, h5, h9, h53, h54, h55⟩
    by_cases hlt : i < L.length
    rotate_left
    · have d1 : decide ((i : Int) < (L.length : Int)) = false := decide_eq_false (by omega)
      repeat apply W_assoc
      apply W_reg
      · intro callf
        simp +decide only [aOps, aWanted, ↓bite_eq, ↓reduceIte, aStep_eq, aStepOld, aOp, opBin, aev, ann, aPut, h54, h55, d1, aBin, aInts, aInt_eq]
        rfl
      repeat apply W_assoc
      refine W_if (b := false) ?_ ?_ ?_
      · simp +decide only [aev, rget_rput, if_true]
      · intro h; cases h
      intro _
      refine W_exitq ⟨fun h => (nomatch h), fun _ => ⟨⟨d, qv, q, Q5, ?_, hiff.trans ⟨fun ⟨s, _, h⟩ => ⟨s, h⟩, fun ⟨s, h⟩ => ⟨s, by have := (List.getElem?_eq_some_iff.1 h).1; omega, h⟩⟩⟩, ?_, ?_⟩, fun h1 h2 => absurd rfl h2⟩ <;> simp +decide only [rget_rput, if_false, h10, h5, h9]
    have d1 : decide ((i : Int) < (L.length : Int)) = true := decide_eq_true (by omega)
    repeat apply W_assoc
    apply W_reg
    · intro callf
      simp +decide only [aOps, aWanted, ↓bite_eq, ↓reduceIte, aStep_eq, aStepOld, aOp, opBin, aev, ann, aPut, h54, h55, d1, aBin, aInts, aInt_eq]
      rfl
    repeat apply W_assoc
    refine W_if (b := true) ?_ ?_ ?_
    · simp +decide only [aev, rget_rput, if_true]
    rotate_left
    · intro h; cases h
    intro _
    apply W_skipq
    refine W_blk ?_
    have w3 : IntKind.i64.wrap ((i : Int) + 1) = ((i + 1 : Nat) : Int) := by rw [wrap64_id _ (by omega) (by omega)]; omega
    obtain ⟨gb2, hgv2, -, -, -, hgx, hgl, -⟩ := (g1.ext Q5.rows.ext).at (i := i) (by omega)
    obtain rfl : gb = gb2 := by rw [hgv, hbl] at hgv2; cases hgv2; rfl
    rw [hgv] at hgx
    have hgl := hgl σ5 (Ext.refl _)
    repeat apply W_assoc
    apply W_reg
    · intro callf
      simp +decide only [aOps, aWanted, ↓bite_eq, ↓reduceIte, aStep_eq, aStepOld, aOp, opIndexAddr, opLoad, aev, ann, aPut, rget_rput, h53, h55, hgx, hgl]
      rfl
    repeat apply W_assoc
    apply W_reg
    · intro callf
      simp +decide only [aOps, aWanted, ↓bite_eq, ↓reduceIte, aStep_eq, aStepOld, aOp, aev, ann, aPut, rget_rput]
      rfl
    refine W_tail ?_
    have hbi : ∃ b, bs[i]? = some b := ⟨bs[i]'(by omega), by simp [show i < bs.length by omega]⟩
    obtain ⟨bb, hbi⟩ := hbi
    have hgd : bs.getD i true = bb := by rw [List.getD_eq_getElem?_getD, hbi]; rfl
    cases bb with
    | true =>
      repeat apply W_assoc
      refine W_if (b := true) ?_ ?_ ?_
      · simp +decide only [aev, rget_rput, if_true, if_false, hgd]
      rotate_left
      · intro h; cases h
      intro _
      obtain ⟨B, st7, v8, s8, ha8, Q8⟩ := Q5.add (hrest i (Nat.le_refl _) hlt) (by decide) (x := 0) (by decide) (by omega) (by omega)
      repeat apply W_assoc
      apply W_reg
      · intro callf
        simp +decide only [aOps, aWanted, ↓bite_eq, ↓reduceIte, aStep_eq, aStepOld, aOp, opIndexAddr, opStore, aev, ann, unn, aPut, rget_rput, h9, idxB hlt, st7]
        rfl
      generalize σ5.put db B = σ8 at st7 ha8
      repeat apply W_assoc
      apply W_reg
      · intro callf
        simp +decide only [aOps, aWanted, ↓bite_eq, ↓reduceIte, aStep_eq, aStepOld, aOp, opCall, opBuildSlice, aev, aevs, aparts, ann, aPut, rget_rput, aBuiltin, h10, slice33a, ha8]
        rfl
      refine W_skip ⟨fun _ => ?_, fun h => absurd rfl h⟩
      refine W_tail ?_
      repeat apply W_assoc
      apply W_reg
      · intro callf
        simp +decide only [aOps, aWanted, ↓bite_eq, ↓reduceIte, aStep_eq, aStepOld, aOp, opBin, aev, ann, aPut, rget_rput, h55, w3, aBin, aInts, aInt_eq]
        rfl
      refine W_skip ⟨fun _ => ⟨i + 1, ?_, ?_⟩, fun h => (nomatch h), fun h => absurd rfl h⟩
      · show L.length - (i + 1) < L.length - i
        omega
      · refine ⟨by omega, ⟨_, _, _, Q8, ?_, fun j hj hjl => by rw [List.getElem?_set_ne (by omega)]; exact hrest j (by omega) hjl, ?_⟩, ?_, ?_, ?_, ?_, ?_⟩
        rotate_left
        · constructor
          · intro _; exact ⟨i, by omega, hbi⟩
          · intro _; exact ⟨i, 0, by rw [List.getElem?_set_self (by rw [Q5.len]; exact hlt)], by decide⟩
        all_goals simp +decide only [rget_rput, if_true, if_false, h5, h9, h53, h54]
    | false =>
      repeat apply W_assoc
      refine W_if (b := false) ?_ ?_ ?_
      · simp +decide only [aev, rget_rput, if_true, if_false, hgd]
      · intro h; cases h
      intro _
      repeat first | apply W_skipq | apply W_assoc
      refine W_skip ⟨fun _ => ?_, fun h => absurd rfl h⟩
      refine W_tail ?_
      repeat apply W_assoc
      apply W_reg
      · intro callf
        simp +decide only [aOps, aWanted, ↓bite_eq, ↓reduceIte, aStep_eq, aStepOld, aOp, opBin, aev, ann, aPut, rget_rput, h55, w3, aBin, aInts, aInt_eq]
        rfl
      refine W_skip ⟨fun _ => ⟨i + 1, ?_, ?_⟩, fun h => (nomatch h), fun h => absurd rfl h⟩
      · show L.length - (i + 1) < L.length - i
        omega
      · refine ⟨by omega, ⟨_, _, _, Q5, ?_, fun j hj hjl => hrest j (by omega) hjl, ?_⟩, ?_, ?_, ?_, ?_, ?_⟩
        rotate_left
        · rw [hiff]
          constructor
          · rintro ⟨s, h, h2⟩; exact ⟨s, by omega, h2⟩
          · rintro ⟨s, h, h2⟩
            by_cases e : s = i
            · subst e; rw [hbi] at h2; cases h2
            · exact ⟨s, by omega, h2⟩
        all_goals simp +decide only [rget_rput, if_true, if_false, h5, h9, h10, h53, h54]
  clear R1 e1 BX2
  rintro i r σ3 ⟨hi, ⟨vs, R3⟩, h1, h2, h5, h22, h23⟩
  by_cases hlt : i < L.length
  rotate_left
  · have d1 : decide ((i : Int) < (L.length : Int)) = false := decide_eq_false (by omega)
    repeat apply W_assoc
    apply W_reg
    · intro callf
      simp +decide only [aOps, aWanted, ↓bite_eq, ↓reduceIte, aStep_eq, aStepOld, aOp, opBin, aev, ann, aPut, h22, h23, d1, aBin, aInts, aInt_eq]
      rfl
    repeat apply W_assoc
    refine W_if (b := false) ?_ ?_ ?_
    · simp +decide only [aev, rget_rput, if_true]
    · intro h; cases h
    intro _
    refine W_exitq ⟨fun h => (nomatch h), fun _ => ⟨⟨vs, R3.up (by omega)⟩, ?_, ?_, ?_⟩, fun h1 h2 => absurd rfl h2⟩ <;> simp +decide only [rget_rput, if_false, h1, h2, h5]
  have d1 : decide ((i : Int) < (L.length : Int)) = true := decide_eq_true (by omega)
  repeat apply W_assoc
  apply W_reg
  · intro callf
    simp +decide only [aOps, aWanted, ↓bite_eq, ↓reduceIte, aStep_eq, aStepOld, aOp, opBin, aev, ann, aPut, h22, h23, d1, aBin, aInts, aInt_eq]
    rfl
  repeat apply W_assoc
  refine W_if (b := true) ?_ ?_ ?_
  · simp +decide only [aev, rget_rput, if_true]
  rotate_left
  · intro h; cases h
  intro _
  apply W_skipq
  refine W_blk ?_
  repeat apply W_assoc
  apply W_reg
  · intro callf
    simp +decide only [aOps, aWanted, ↓bite_eq, ↓reduceIte, aStep_eq, aStepOld, aOp, aev, ann, aPut, rget_rput, h23]
    rfl
  repeat apply W_assoc
  apply W_regL
  apply Ls_pre 2
  · intro callf
    simp +decide only [List.take, aOps, aWanted, ↓bite_eq, ↓reduceIte, aStep_eq, aStepOld, aOp, opLoad, aev, ann, aPut, rget_rput, h2, (BX.ext R3.ext).load]
    rfl
  dsimp only [List.drop]
  refine Ls_fn (vs := [.agg #[.slice (some ⟨lb0, 0, none⟩) L.length cap], .int .i64 (i : Int), .bool true]) (by simp +decide only [aevs, aev, rget_rput, if_true, if_false]) (by decide) (C.mono (tau_c G1 R3.ext hm hlt) ?_)
  rintro v σ' ⟨e4, ⟨ta, tc, rfl⟩, hrs⟩
  apply Ls_all
  · intro callf
    simp +decide only [aOps, aWanted, ↓bite_eq, ↓reduceIte, aStep_eq, aStepOld, aOp, opCall, aev, aevs, ann, aPut, rget_rput, aBuiltin, aLen, List.getElem?_toArray, List.getElem?_cons_zero, Try.underlying22, goInt]
    rfl
  have R4 := R3.go e4
  have hrowm : (L.getD i []) ∈ L := by rw [List.getD_eq_getElem?_getD, List.getElem?_eq_getElem hlt]; exact List.getElem_mem hlt
  have htl : (tauRow L i).length ≤ 1000 := Nat.le_trans tau_len (Nat.le_trans (hG.row _ hrowm).1 hm)
  generalize σ' = σ4 at R4
  clear R3 e4
  refine W_tail ?_
  repeat apply W_assoc
  refine W_for (fun (j : Nat) r s => j ≤ (tauRow L i).length ∧ (∃ vs, DR σ1 s L.length (1000 * i + j) rb vs) ∧ rget r 1 = gv ∧ rget r 2 = .pointer (some ⟨b1, 0, none⟩) ∧ rget r 5 = .slice (some ⟨rb, 0, none⟩) L.length L.length ∧ rget r 6 = .int .i64 (i : Int) ∧ rget r 22 = .int .i64 (L.length : Int) ∧ rget r 23 = .int .i64 (i : Int) ∧ rget r 28 = .slice ta (tauRow L i).length tc ∧ rget r 29 = .int .i64 ((tauRow L i).length : Int) ∧ rget r 30 = .int .i64 (j : Int))
    (fun j => (tauRow L i).length - j) ?_ 0 ?_
  rotate_left
  · refine ⟨Nat.zero_le _, ⟨_, R4⟩, ?_, ?_, ?_, ?_, ?_, ?_, ?_, ?_, ?_⟩ <;> simp +decide only [rget_rput, if_true, if_false, h1, h2, h5, h22, h23] <;> first | exact True.intro | rfl
  clear h1 h2 h5 h22 h23 R4
  rintro j r σ5 ⟨hj, ⟨vs, R5⟩, h1, h2, h5, h6, h22, h23, h28, h29, h30⟩
  by_cases hjl : j < (tauRow L i).length
  rotate_left
  · have d2 : decide ((j : Int) < ((tauRow L i).length : Int)) = false := decide_eq_false (by omega)
    repeat apply W_assoc
    apply W_reg
    · intro callf
      simp +decide only [aOps, aWanted, ↓bite_eq, ↓reduceIte, aStep_eq, aStepOld, aOp, opBin, aev, ann, aPut, h29, h30, d2, aBin, aInts, aInt_eq]
      rfl
    repeat apply W_assoc
    refine W_if (b := false) ?_ ?_ ?_
    · simp +decide only [aev, rget_rput, if_true]
    · intro h; cases h
    intro _
    refine W_exitq ⟨fun h => (nomatch h), fun _ => ?_, fun h1 h2 => absurd rfl h2⟩
    refine W_skip ⟨fun _ => ?_, fun h => absurd rfl h⟩
    refine W_tail ?_
    have w2 : IntKind.i64.wrap ((i : Int) + 1) = ((i + 1 : Nat) : Int) := by rw [wrap64_id _ (by omega) (by omega)]; omega
    repeat apply W_assoc
    apply W_reg
    · intro callf
      simp +decide only [aOps, aWanted, ↓bite_eq, ↓reduceIte, aStep_eq, aStepOld, aOp, opBin, aev, ann, aPut, rget_rput, h23, w2, aBin, aInts, aInt_eq]
      rfl
    refine W_skip ⟨fun _ => ⟨i + 1, ?_, ?_⟩, fun h => (nomatch h), fun h => absurd rfl h⟩
    · show L.length - (i + 1) < L.length - i
      omega
    · refine ⟨by omega, ⟨vs, R5.up (by omega)⟩, ?_, ?_, ?_, ?_, ?_⟩ <;> simp +decide only [rget_rput, if_true, if_false, h1, h2, h5, h22]
  have d2 : decide ((j : Int) < ((tauRow L i).length : Int)) = true := decide_eq_true (by omega)
  repeat apply W_assoc
  apply W_reg
  · intro callf
    simp +decide only [aOps, aWanted, ↓bite_eq, ↓reduceIte, aStep_eq, aStepOld, aOp, opBin, aev, ann, aPut, h29, h30, d2, aBin, aInts, aInt_eq]
    rfl
  repeat apply W_assoc
  refine W_if (b := true) ?_ ?_ ?_
  · simp +decide only [aev, rget_rput, if_true]
  rotate_left
  · intro h; cases h
  intro _
  apply W_skipq
  refine W_blk ?_
  obtain ⟨a, ha⟩ : ∃ a, (tauRow L i)[j]? = some a := ⟨(tauRow L i)[j], by simp [hjl]⟩
  obtain ⟨hat0, hat1⟩ := (hG.row _ hrowm).2 a (tau_mem (List.mem_of_getElem? ha)).1
  obtain ⟨T, hT⟩ : ∃ T : Nat, a.2 = (T : Int) := ⟨a.2.toNat, by omega⟩
  have hTN : T < L.length := by omega
  obtain ⟨-, ab, aoff, rfl, -, hat⟩ := arcOf (hrs σ5 R5.ext) ha
  repeat apply W_assoc
  apply W_reg
  · intro callf
    simp +decide only [aOps, aWanted, ↓bite_eq, ↓reduceIte, aStep_eq, aStepOld, aOp, opIndexAddr, opLoad, opStore, aev, ann, unn, aPut, rget_rput, h28, h30, idx22 hjl, (hat _ (Ext.refl _)).1, alloc27, store27]
    rfl
  have AY := decl_at σ5 a
  have ed := decl_ext σ5 a
  have R6 := R5.go ed
  have hnb : σ5.next ≤ σ5.next := Nat.le_refl _
  have hown : ∀ (k : Nat) v b, vs[k]? = some v → Own v b → b < σ5.next := fun k v b hv ho => by
    obtain ⟨l, h9, -⟩ := R5.row k v hv
    exact (h9.own ho).2.1
  generalize hab : σ5.next = nb at AY hown hnb
  generalize decl σ5 a = σ6 at AY ed R6
  have hvsl : T < vs.length := by rw [R6.len]; exact hTN
  obtain ⟨u, hu⟩ : ∃ u, vs[T]? = some u := ⟨vs[T], by simp [hvsl]⟩
  have w3 : IntKind.i64.wrap ((j : Int) + 1) = ((j + 1 : Nat) : Int) := by rw [wrap64_id _ (by omega) (by omega)]; omega
  obtain ⟨l0, hO0, hl0, hlr0⟩ := R6.row T u hu
  refine W_tail ?_
  obtain ⟨hc1, hc2, ⟨rfl, h0⟩ | ⟨ub, nn, vals, rfl, hrest⟩⟩ := id hO0
  · clear hO0 hl0 hlr0 h0 hc1 hc2
    repeat apply W_assoc
    refine W_drw [] [] (by kernel_rfl) (by kernel_rfl) ?_
    have AQ := AY.ext (Ext.reset σ6)
    have RQ := (R6.go (Ext.reset σ6)).ld hu
    apply Lg_pre 9
    · intro callf
      simp +decide only [List.take, aQ, memb, List.any_nil, Bool.true_or, Bool.and_true, reset_merge, reset_reset, reset_next, reset_low, merge_next, merge_idem, ble_self, aWanted, ↓bite_eq, ↓reduceIte, aStep_eq, aStepOld, aOp, opIndexAddr, opFieldAddr, opLoad, aev, ann, aPut, rget_rput, Nat.zero_add, Bool.not_false, h5, fld1, AQ.to, hT, idx85 hTN, RQ, h6]
      rfl
    dsimp only [List.drop, List.take, List.length]
    have e7 : Ext σ6 (σ6.merge σ6.reset) := (Ext.refl _).merge
    generalize σ6.merge σ6.reset = σ7 at e7
    apply Lg_pre 1
    · intro callf
      simp +decide only [List.take, aQ, memb, List.any_nil, Bool.true_or, Bool.and_true, reset_next, reset_low, new_low, ble_self, aWanted, ↓bite_eq, ↓reduceIte, aStep_eq, aStepOld, aOp, opBuildSlice, aev, aparts, aPut, rget_rput, Nat.zero_add, Bool.not_false, slice33a]
      rfl
    dsimp only [List.drop, List.take, List.length]
    have e8 : Ext σ7 (σ7.merge (σ7.reset.new ⟨1, 3, 0, [.int .i64 (i : Int)], []⟩)) := Ext.merge (Ext.new _ _)
    have hB : (σ7.merge (σ7.reset.new ⟨1, 3, 0, [.int .i64 (i : Int)], []⟩)).get σ7.next = ⟨1, 3, 0, [.int .i64 (i : Int)], []⟩ := by
      rw [get_merge]
      exact (AS.get_new σ7.reset _ σ7.reset.next).trans (if_pos rfl)
    generalize hn8 : σ7.next = n8 at hB
    generalize σ7.merge (σ7.reset.new ⟨1, 3, 0, [.int .i64 (i : Int)], []⟩) = σ8 at e8 hB
    have e8 := e7.trans e8
    have R8 := R6.go e8
    obtain ⟨v9, s9, ha9, g2, g3, g4, g5, g6⟩ := Stk.push (lo := σ8.reset.next) el3 (OL.nil (lo := σ8.reset.next) (σ := σ8.reset)) (Nat.le_refl _) (src33 (σ := σ8.reset) hB) rfl rfl (by decide)
    have hq9 : σ8.next ≤ s9.low := g5 _ (Nat.le_refl _) (Nat.le_refl _)
    refine Lg_qop (v := v9) (s1 := s9) (by intro callf; simp +decide only [↓reduceIte, aStep_eq, aStepOld, aOp, opCall, aev, aevs, rget_rput, aBuiltin, ha9]) (by decide) hq9 ?_
    have hO9 : OL σ1.next (σ8.merge s9) v9 (([] : List Int) ++ [(i : Int)]) := by
      unfold OL
      rw [List.length_append, List.map_append]
      exact (Stk.low (Stk.keep g2 (Nat.le_refl _) fun _ _ _ => rfl) (R8.ext.nxt))
    have hE9 : Ext σ1 (σ8.merge s9) := ⟨Nat.le_trans R8.ext.nxt g3, fun k hk => by
      rw [get_merge, g4 k (Nat.lt_of_lt_of_le hk R8.ext.nxt) (fun ho => by obtain ⟨_, _, e⟩ := ho; cases e)]
      exact R8.ext.get k hk, fun q h1 h2 => Nat.le_min.2 ⟨R8.ext.low q h1 h2, g5 q (Nat.le_trans h2 R8.ext.nxt) (Nat.le_trans h2 R8.ext.nxt)⟩⟩
    have g3 : σ8.next ≤ (σ8.merge s9).next := g3
    have g4 : ∀ k, k < σ8.next → ¬ Own _ k → (σ8.merge s9).get k = σ8.get k := g4
    obtain ⟨va, vc, rfl⟩ := Stk.len hO9
    generalize σ8.merge s9 = σ9 at hO9 hE9 g3 g4
    apply Lg_pre 1
    · intro callf
      simp +decide only [List.take, aQ, memb, List.any_nil, Bool.true_or, Bool.and_true, reset_low, ble_self, aWanted, ↓bite_eq, ↓reduceIte, aStep_eq, aStepOld, aOp, opIndexAddr, aev, ann, aPut, rget_rput, Nat.zero_add, Bool.not_false, idx85 hTN]
      rfl
    dsimp only [List.drop, List.take, List.length]
    have e10 : Ext σ9 (σ9.merge σ9.reset) := (Ext.refl _).merge
    generalize σ9.merge σ9.reset = σ10 at e10
    have hrb9 : σ10.reset.get rb = σ8.get rb := by
      show σ10.get rb = _
      rw [e10.get rb (Nat.lt_of_lt_of_le R8.lt g3)]
      exact g4 rb R8.lt fun ho => by obtain ⟨_, _, e⟩ := ho; cases e
    have st9 := R8.st hTN hrb9 (a := va) (m := (([] : List Int) ++ [(i : Int)]).length) (c := vc)
    have R11 := (R8.push (s := σ10) (K' := 1000 * i + (j + 1)) hu (hE9.trans e10) (Nat.le_trans g3 e10.nxt) (fun k hk ho => by rw [e10.get k (Nat.lt_of_lt_of_le hk g3)]; exact g4 k hk ho) (hO9.ext e10) (fun k ho => g6 k ho) (by rw [List.length_append]; simp; omega) (fun x hx => by
      rcases List.mem_append.1 hx with hx | hx
      · exact absurd hx (by simp)
      · rw [List.mem_singleton.1 hx]; omega) (by omega))
    refine Lg_st (v := undef) (s1 := σ10.reset.put rb ⟨1, 33, 0, vs.set T (.slice va (([] : List Int) ++ [(i : Int)]).length vc), []⟩) (by intro callf; simp +decide only [↓reduceIte, aStep_eq, aStepOld, aOp, opStore, aev, unn, rget_rput, st9]) (by kernel_rfl) ?_
    have R12 : DR σ1 (σ10.merge (σ10.reset.put rb ⟨1, 33, 0, vs.set T (.slice va (([] : List Int) ++ [(i : Int)]).length vc), []⟩)) L.length (1000 * i + (j + 1)) rb (vs.set T (.slice va (([] : List Int) ++ [(i : Int)]).length vc)) :=
      R11.keep ⟨R11.ext.nxt, fun k hk => R11.ext.get k hk, fun q h1 h2 => Nat.le_min.2 ⟨(hE9.trans e10).low q h1 h2, Nat.le_min.2 ⟨Nat.le_trans h2 (hE9.trans e10).nxt, Nat.le_trans h2 R11.lo⟩⟩⟩ (Nat.le_refl _) rfl fun _ _ _ _ _ => rfl
    generalize σ10.merge (σ10.reset.put rb ⟨1, 33, 0, vs.set T (.slice va (([] : List Int) ++ [(i : Int)]).length vc), []⟩) = σ11 at R12
    show W _ _ _ 109 _ _ _ _
    refine W_skip ⟨fun _ => ?_, fun h => absurd rfl h⟩
    refine W_tail ?_
    repeat apply W_assoc
    apply W_reg
    · intro callf
      simp +decide only [aOps, aWanted, ↓bite_eq, ↓reduceIte, aStep_eq, aStepOld, aOp, opBin, aev, ann, aPut, rget_rput, h30, w3, aBin, aInts, aInt_eq]
      rfl
    refine W_skip ⟨fun _ => ⟨j + 1, ?_, ?_⟩, fun h => (nomatch h), fun h => absurd rfl h⟩
    · show (tauRow L i).length - (j + 1) < (tauRow L i).length - j
      omega
    · refine ⟨by omega, ⟨_, R12⟩, ?_, ?_, ?_, ?_, ?_, ?_, ?_, ?_⟩ <;> simp +decide only [rget_rput, if_true, if_false, h1, h2, h5, h6, h22, h23, h28, h29]
  have hub : ub < σ6.next := (hO0.own ⟨_, _, rfl⟩).2.1
  have hnu : nb ≠ ub := fun e => by have := hown T _ ub hu ⟨_, _, rfl⟩; omega
  repeat apply W_assoc
  refine W_drwZ [10] [ub] (by simpa using hub) (by kernel_rfl) (by kernel_rfl) ?_
  apply Lz_pre 2 (by kernel_rfl)
  · intro callf
    simp +decide only [List.take, aQ, memb, List.any_nil, Bool.true_or, Bool.and_true, reset_merge, reset_reset, reset_next, reset_low, merge_next, merge_idem, ble_self, aWanted, ↓bite_eq, ↓reduceIte, aStep_eq, aStepOld, aOp, opFieldAddr, aev, ann, aPut, rget_rput, Nat.zero_add, Bool.not_false, fld1]
    rfl
  dsimp only [List.drop, List.take, List.length]
  have ea : Ext σ6 (σ6.merge σ6.reset) := (Ext.refl _).merge
  generalize σ6.merge σ6.reset = σa at ea
  refine Lz_load (b := nb) (off := 1) (v := .int .i64 (T : Int)) (by simp +decide only [aev, rget_rput, if_true, if_false]) (by rw [← hT]; exact ((AY.ext ea).ext (Ext.reset σa)).to) (by simpa using hnu) (by decide) ?_
  have eb : Ext σa (σa.merge σa.reset) := (Ext.refl _).merge
  generalize σa.merge σa.reset = σb at eb
  have eb := ea.trans eb
  have AQ := (AY.ext eb).ext (Ext.reset σb)
  have RQ := ((R6.go eb).go (Ext.reset σb)).ld hu
  apply Lz_pre 6 (by kernel_rfl)
  · intro callf
    simp +decide only [List.take, aQ, memb, List.any_nil, Bool.true_or, Bool.and_true, reset_merge, reset_reset, reset_next, reset_low, merge_next, merge_idem, ble_self, aWanted, ↓bite_eq, ↓reduceIte, aStep_eq, aStepOld, aOp, opIndexAddr, opFieldAddr, opLoad, aev, ann, aPut, rget_rput, Nat.zero_add, Bool.not_false, h5, fld1, AQ.to, hT, idx85 hTN, RQ, h6]
    rfl
  dsimp only [List.drop, List.take, List.length]
  have e7 : Ext σb (σb.merge σb.reset) := (Ext.refl _).merge
  generalize σb.merge σb.reset = σ7 at e7
  have e7 := eb.trans e7
  apply Lz_pre 1 (by kernel_rfl)
  · intro callf
    simp +decide only [List.take, aQ, memb, List.any_nil, Bool.true_or, Bool.and_true, reset_next, reset_low, new_low, ble_self, aWanted, ↓bite_eq, ↓reduceIte, aStep_eq, aStepOld, aOp, opBuildSlice, aev, aparts, aPut, rget_rput, Nat.zero_add, Bool.not_false, slice33a]
    rfl
  dsimp only [List.drop, List.take, List.length]
  have e8 : Ext σ7 (σ7.merge (σ7.reset.new ⟨1, 3, 0, [.int .i64 (i : Int)], []⟩)) := Ext.merge (Ext.new _ _)
  have hB : (σ7.merge (σ7.reset.new ⟨1, 3, 0, [.int .i64 (i : Int)], []⟩)).get σ7.next = ⟨1, 3, 0, [.int .i64 (i : Int)], []⟩ := by
    rw [get_merge]
    exact (AS.get_new σ7.reset _ σ7.reset.next).trans (if_pos rfl)
  generalize hn8 : σ7.next = n8 at hB
  generalize σ7.merge (σ7.reset.new ⟨1, 3, 0, [.int .i64 (i : Int)], []⟩) = σ8 at e8 hB
  have e8 := e7.trans e8
  have R8 := R6.go e8
  obtain ⟨l, hO, hll, hlr⟩ := R8.row T _ hu
  obtain ⟨v9, s9, ha9, g2, g3, g4, g5, g6⟩ := Stk.push el3 (hO.ext (Ext.reset σ8)) R8.ext.nxt (src33 (σ := σ8.reset) hB) rfl rfl (by omega)
  refine Lz_wr (v := v9) (s1 := s9) (x := ub) (by intro callf; simp +decide only [↓reduceIte, aStep_eq, aStepOld, aOp, opCall, aev, aevs, rget_rput, aBuiltin, ha9]) (by decide) (by kernel_rfl) (by simp +decide only [fpOf, aevs, aev, rget_rput, if_true, if_false, List.flatMap_cons, fpV]; rfl) (by simp) (by kernel_rfl) ?_
  have hO9 : OL σ1.next (σ8.merge s9) v9 (l ++ [(i : Int)]) := by
    unfold OL
    rw [List.length_append, List.map_append]
    exact (Stk.low (Stk.keep g2 (Nat.le_refl _) fun _ _ _ => rfl) (Nat.le_refl _))
  have hE9 : Ext σ1 (σ8.merge s9) := ⟨Nat.le_trans R8.ext.nxt g3, fun k hk => by
    rw [get_merge, g4 k (Nat.lt_of_lt_of_le hk R8.ext.nxt) (fun ho => by have := (hO.own ho).1; omega)]
    exact R8.ext.get k hk, fun q h1 h2 => Nat.le_min.2 ⟨R8.ext.low q h1 h2, g5 q (h2) (Nat.le_trans h2 R8.ext.nxt)⟩⟩
  have g3 : σ8.next ≤ (σ8.merge s9).next := g3
  have g4 : ∀ k, k < σ8.next → ¬ Own _ k → (σ8.merge s9).get k = σ8.get k := g4
  obtain ⟨va, vc, rfl⟩ := Stk.len hO9
  generalize σ8.merge s9 = σ9 at hO9 hE9 g3 g4
  apply Lz_pre 1 (by kernel_rfl)
  · intro callf
    simp +decide only [List.take, aQ, memb, List.any_nil, Bool.true_or, Bool.and_true, reset_low, ble_self, aWanted, ↓bite_eq, ↓reduceIte, aStep_eq, aStepOld, aOp, opIndexAddr, aev, ann, aPut, rget_rput, Nat.zero_add, Bool.not_false, idx85 hTN]
    rfl
  dsimp only [List.drop, List.take, List.length]
  have e10 : Ext σ9 (σ9.merge σ9.reset) := (Ext.refl _).merge
  generalize σ9.merge σ9.reset = σ10 at e10
  have hrb9 : σ10.reset.get rb = σ8.get rb := by
    show σ10.get rb = _
    rw [e10.get rb (Nat.lt_of_lt_of_le R8.lt g3)]
    exact g4 rb R8.lt fun ho => by have h9 := (hO.own ho).2.2.1; rw [R8.get] at h9; cases h9
  have st9 := R8.st hTN hrb9 (a := va) (m := (l ++ [(i : Int)]).length) (c := vc)
  have R11 := (R8.push (s := σ10) (K' := 1000 * i + (j + 1)) hu (hE9.trans e10) (Nat.le_trans g3 e10.nxt) (fun k hk ho => by rw [e10.get k (Nat.lt_of_lt_of_le hk g3)]; exact g4 k hk ho) (hO9.ext e10) (fun k ho => g6 k ho) (by rw [List.length_append]; simp; omega) (fun x hx => by
    rcases List.mem_append.1 hx with hx | hx
    · exact hlr x hx
    · rw [List.mem_singleton.1 hx]; omega) (by omega))
  refine Lz_st (v := undef) (s1 := σ10.reset.put rb ⟨1, 33, 0, vs.set T (.slice va (l ++ [(i : Int)]).length vc), []⟩) (by intro callf; simp +decide only [↓reduceIte, aStep_eq, aStepOld, aOp, opStore, aev, unn, rget_rput, st9]) (by kernel_rfl) (by kernel_rfl) ?_
  have R12 : DR σ1 (σ10.merge (σ10.reset.put rb ⟨1, 33, 0, vs.set T (.slice va (l ++ [(i : Int)]).length vc), []⟩)) L.length (1000 * i + (j + 1)) rb (vs.set T (.slice va (l ++ [(i : Int)]).length vc)) :=
    R11.keep ⟨R11.ext.nxt, fun k hk => R11.ext.get k hk, fun q h1 h2 => Nat.le_min.2 ⟨(hE9.trans e10).low q h1 h2, Nat.le_min.2 ⟨Nat.le_trans h2 (hE9.trans e10).nxt, Nat.le_trans h2 R11.lo⟩⟩⟩ (Nat.le_refl _) rfl fun _ _ _ _ _ => rfl
  generalize σ10.merge (σ10.reset.put rb ⟨1, 33, 0, vs.set T (.slice va (l ++ [(i : Int)]).length vc), []⟩) = σ11 at R12
  show W _ _ _ 109 _ _ _ _
  refine W_skip ⟨fun _ => ?_, fun h => absurd rfl h⟩
  refine W_tail ?_
  repeat apply W_assoc
  apply W_reg
  · intro callf
    simp +decide only [aOps, aWanted, ↓bite_eq, ↓reduceIte, aStep_eq, aStepOld, aOp, opBin, aev, ann, aPut, rget_rput, h30, w3, aBin, aInts, aInt_eq]
    rfl
  refine W_skip ⟨fun _ => ⟨j + 1, ?_, ?_⟩, fun h => (nomatch h), fun h => absurd rfl h⟩
  · show (tauRow L i).length - (j + 1) < (tauRow L i).length - j
    omega
  · refine ⟨by omega, ⟨_, R12⟩, ?_, ?_, ?_, ?_, ?_, ?_, ?_, ?_⟩ <;> simp +decide only [rget_rput, if_true, if_false, h1, h2, h5, h6, h22, h23, h28, h29]

end Go.Proofs.Ytbknckiapcafdaa.Nest
