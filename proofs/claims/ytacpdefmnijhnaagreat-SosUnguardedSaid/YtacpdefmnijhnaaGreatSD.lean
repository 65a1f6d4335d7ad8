/- A core is generated. -/
import Derived.Test.YtacpdefmnijhnaaGreatSC
set_option linter.unusedSimpArgs false
set_option linter.unusedVariables false
namespace Go.Proofs.YtacpdefmnijhnaaGreat.U
open Abs
theorem elIn : El Tryz.prog 30 80 4 := ⟨Tryz.underlying30, ⟨(Tryz.prog.info? 80).get!, (((Tryz.prog.info? 80).get!).zero).get!, by kernel_rfl, by kernel_rfl, Nat.le_of_ble_eq_true (by kernel_rfl), by kernel_rfl, by kernel_rfl, by kernel_rfl⟩, by decide⟩
theorem elV : El Tryz.prog 32 25 1 := ⟨Tryz.underlying32, ⟨(Tryz.prog.info? 25).get!, (((Tryz.prog.info? 25).get!).zero).get!, by kernel_rfl, by kernel_rfl, Nat.le_of_ble_eq_true (by kernel_rfl), by kernel_rfl, by kernel_rfl, by kernel_rfl⟩, by decide⟩
theorem elF : El Tryz.prog 29 47 6 := ⟨Tryz.underlying29, ⟨(Tryz.prog.info? 47).get!, (((Tryz.prog.info? 47).get!).zero).get!, by kernel_rfl, by kernel_rfl, Nat.le_of_ble_eq_true (by kernel_rfl), by kernel_rfl, by kernel_rfl, by kernel_rfl⟩, by decide⟩

/-- A list that grew one by one: its block holds it and no more. -/
def StkX (lo E z : Nat) (σ : AS) (v : Value) (k : Nat) (cs : List Value) : Prop :=
  cs.length = k * z ∧ cs.all one = true ∧ ((v = .slice none 0 0 ∧ k = 0) ∨ ∃ b, v = .slice (some ⟨b, 0, none⟩) k (OPENCAP + k) ∧ lo ≤ b ∧ b < σ.next ∧ σ.get b = ⟨2, E, z, cs, []⟩)
section
variable {P : Program} {lo T E E' z k : Nat} {σ σ' : AS} {v : Value} {cs new : List Value} {b : Nat}
theorem StkX.stk (h : StkX lo E z σ v k cs) : Stk lo E z σ v k cs := by
  obtain ⟨h1, h2, h3 | ⟨b, rfl, h4, h5, h6⟩⟩ := h
  · exact ⟨h1, h2, .inl h3⟩
  · exact ⟨h1, h2, .inr ⟨b, k, cs, rfl, Nat.le_refl _, h4, h5, h6, by omega, by rw [List.take_of_length_le (by omega)]⟩⟩
theorem StkX.len (h : StkX lo E z σ v k cs) : ∃ a c, v = .slice a k c := Stk.len h.stk
theorem StkX.own (h : StkX lo E z σ v k cs) {i : Nat} (ho : Own v i) : lo ≤ i ∧ i < σ.next ∧ (σ.get i).kind = 2 ∧ (σ.get i).elem = E := Stk.own h.stk ho
theorem StkX.keep (h : StkX lo E z σ v k cs) (hn : σ.next ≤ σ'.next) (hg : ∀ i, Own v i → i < σ.next → σ'.get i = σ.get i) : StkX lo E z σ' v k cs := by
  obtain ⟨h1, h2, h3 | ⟨b, rfl, h4, h5, h6⟩⟩ := h
  · exact ⟨h1, h2, .inl h3⟩
  · exact ⟨h1, h2, .inr ⟨b, rfl, h4, Nat.lt_of_lt_of_le h5 hn, (hg b ⟨_, _, rfl⟩ h5).trans h6⟩⟩
theorem StkX.push1 (el : El P T E z) (h : StkX lo E z σ v k cs) (hlo : lo ≤ σ.next) (hb : σ.get b = ⟨1, E', 0, new, []⟩) (hn : new.length = z) (h1 : new.all one = true) (hk : k + 1 ≤ 1000000) :
    ∃ v' s, aAppend P σ #[T, T] v (.slice (some ⟨b, 0, none⟩) 1 1) = some (v', s) ∧ StkX lo E z s v' (k + 1) (cs ++ new) ∧ σ.next ≤ s.next ∧ (∀ i, i < σ.next → ¬ Own v i → s.get i = σ.get i) ∧ (∀ q, q ≤ lo → q ≤ σ.low → q ≤ s.low) := by
  have hs0 := src1 (P := P) hb hn
  obtain ⟨hu, ⟨inf, zz, g1, g2, g3, g4, g5, g6⟩, g7⟩ := el
  have hs := hs0 inf g2
  obtain ⟨c1, c2, hv⟩ := h
  have d1 : Nat.beq z 0 = false := beq_f (by omega)
  have d2 : Nat.beq z z = true := Nat.beq_refl _
  have d3 : Nat.ble ((4 * (k + 1) + 4000) * inf.bytes) 281474976710656 = true := ble_t (Nat.le_trans (Nat.mul_le_mul (show 4 * (k + 1) + 4000 ≤ 4004000 by omega) g3) (by decide))
  have d4 : Nat.ble (k + 1) 1000000000000 = true := ble_t (by omega)
  have d5 : Nat.beq new.length (1 * z) = true := by rw [hn, Nat.one_mul]; exact Nat.beq_refl _
  have hlen : (cs ++ new).length = (k + 1) * z := by rw [List.length_append, c1, hn, Nat.add_mul, Nat.one_mul]
  have hone : (cs ++ new).all one = true := by rw [List.all_append, c2, h1]; rfl
  rcases hv with ⟨rfl, rfl⟩ | ⟨b2, rfl, h5, h6, h7⟩
  · have hcs : cs = [] := List.length_eq_zero_iff.1 (by rw [c1, Nat.zero_mul])
    subst hcs
    refine ⟨.slice (some ⟨σ.next, 0, none⟩) (0 + 1) (OPENCAP + (0 + 1)), σ.new ⟨2, E, z, [] ++ new, []⟩, ?_, ⟨hlen, hone, .inr ⟨σ.next, rfl, hlo, Nat.lt_succ_self _, by rw [AS.get_new, if_pos rfl]⟩⟩, Nat.le_succ _, fun i hi _ => by rw [AS.get_new, if_neg (by omega)], fun _ _ h => h⟩
    have d6 : Nat.ble (0 + 1) 0 = false := rfl
    unfold aAppend
    simp only [List.getElem?_toArray, List.getElem?_cons_zero, List.getElem?_cons_succ, hu, g1, g2, g4, g5, g6, hs, d1, d2, d3, d4, d5, d6, open_zero, aFirst, Bool.not_true, Bool.or_false, Bool.false_eq_true, if_false, Nat.beq_refl, if_true, List.length_nil, Nat.zero_mul]
  · have d7 : (Nat.beq (σ.get b2).kind 2 && Nat.beq (σ.get b2).esz z) = true := by rw [h7]; show (Nat.beq 2 2 && Nat.beq z z) = true; rw [d2]; rfl
    refine ⟨.slice (some ⟨σ.next, 0, none⟩) (k + 1) (OPENCAP + (k + 1)), (σ.put b2 Blk.dead).new ⟨2, E, z, cs.take (k * z) ++ new, []⟩, ?_, ⟨hlen, hone, .inr ⟨σ.next, rfl, hlo, Nat.lt_succ_self _, ?_⟩⟩, Nat.le_succ _, fun i hi ho => ?_, fun q q1 q2 => Nat.le_min.2 ⟨q2, Nat.le_trans q1 h5⟩⟩
    · have d6 : Nat.ble (k + 1) k = false := ble_f (by omega)
      have d8 : Nat.ble (k * z) (σ.get b2).vals.length = true := by rw [h7]; exact ble_t (by rw [← c1]; exact Nat.le_refl _)
      have d9 : Nat.beq (σ.get b2).elem E = true := by rw [h7]; exact Nat.beq_refl _
      have d10 : (σ.get b2).vals.take (k * z) = cs.take (k * z) := by rw [h7]
      unfold aAppend
      simp only [List.getElem?_toArray, List.getElem?_cons_zero, List.getElem?_cons_succ, hu, g1, g2, g4, g5, g6, hs, d1, d2, d3, d4, d5, d6, d7, d8, d9, d10, h1, open_cap, open_lb, Bool.not_true, Bool.or_false, Bool.and_true, Bool.and_self, Bool.false_eq_true, if_false, Nat.beq_refl, if_true]
    · rw [AS.get_new, List.take_of_length_le (by omega)]; exact if_pos rfl
    · rw [AS.get_new, if_neg (by show σ.next ≠ i; omega), AS.get_put, if_neg (fun e => ho (by rw [← e]; exact ⟨_, _, rfl⟩))]
end

theorem allocK {σ : AS} : opAlloc Tryz.prog σ 34 = some (.pointer (some ⟨σ.next, 0, none⟩), σ.new ⟨1, 34, 0, [.slice none 0 0, .slice none 0 0, .slice none 0 0, .slice none 0 0], []⟩) := by kernel_rfl
theorem fldK0 {b : Nat} : aField Tryz.prog 34 0 (.pointer (some ⟨b, 0, none⟩)) = some (.pointer (some ⟨b, 0, none⟩)) := by kernel_rfl
theorem fldK1 {b : Nat} : aField Tryz.prog 34 1 (.pointer (some ⟨b, 0, none⟩)) = some (.pointer (some ⟨b, 1, none⟩)) := by kernel_rfl
theorem fldK3 {b : Nat} : aField Tryz.prog 34 3 (.pointer (some ⟨b, 0, none⟩)) = some (.pointer (some ⟨b, 3, none⟩)) := by kernel_rfl
def names : List Value := [.string ⟨#[97]⟩, .string ⟨#[98]⟩, .string ⟨#[99]⟩, .string ⟨#[100]⟩]
theorem sliceS4 {σ : AS} : aBuildSlice Tryz.prog σ 78 4 [(0, .string ⟨#[97]⟩), (1, .string ⟨#[98]⟩), (2, .string ⟨#[99]⟩), (3, .string ⟨#[100]⟩)] = some (.slice (some ⟨σ.next, 0, none⟩) 4 4, σ.new ⟨1, 9, 0, names, []⟩) := by kernel_rfl
theorem idxS {b len cap i : Nat} (h : i < len) : aIndexAddr Tryz.prog 78 (.slice (some ⟨b, 0, none⟩) len cap) (.int .i64 (i : Int)) = some (.pointer (some ⟨b, i, none⟩)) := by
  rw [aIndexAddr_slice (inf := (Tryz.prog.info? 9).get!) (sz := 1) Tryz.underlying78 (by kernel_rfl) (by kernel_rfl) h, Nat.mul_one, Nat.zero_add]
theorem buildIn {s : ByteArray} : aBuild Tryz.prog 80 [(0, .string s), (1, .int .i64 (-1))] = some (.agg #[.string s, .int .i64 (-1), .slice none 0 0, .slice none 0 0]) := by kernel_rfl
theorem sliceIn1 {σ : AS} {s : ByteArray} : aBuildSlice Tryz.prog σ 30 1 [(0, .agg #[.string s, .int .i64 (-1), .slice none 0 0, .slice none 0 0])] = some (.slice (some ⟨σ.next, 0, none⟩) 1 1, σ.new ⟨1, 80, 0, [.string s, .int .i64 (-1), .slice none 0 0, .slice none 0 0], []⟩) := by kernel_rfl
theorem sliceV1 {σ : AS} {s : ByteArray} : aBuildSlice Tryz.prog σ 32 1 [(0, .string s)] = some (.slice (some ⟨σ.next, 0, none⟩) 1 1, σ.new ⟨1, 25, 0, [.string s], []⟩) := by kernel_rfl
/-- The cells of a function with a body. -/
def fcells (v : Value) : List Value := [.string ⟨#[]⟩, .int .i64 0, .bool true, .int .i64 0, .int .i64 0, v]
theorem buildF {p : Option Addr} {n c : Nat} : aBuild Tryz.prog 47 [(2, .bool true), (4, .slice p n c)] = some (.agg (fcells (.slice p n c)).toArray) := by kernel_rfl
theorem sliceF1 {σ : AS} {p : Option Addr} {n c : Nat} : aBuildSlice Tryz.prog σ 29 1 [(0, .agg (fcells (.slice p n c)).toArray)] = some (.slice (some ⟨σ.next, 0, none⟩) 1 1, σ.new ⟨1, 47, 0, fcells (.slice p n c), []⟩) := by kernel_rfl
/-- A slice is stored in a cell of a block. -/
theorem storeS {T : TypeId} (ht : ∃ inf, Tryz.prog.info? T = some inf ∧ inf.size = 1) {σ : AS} {b i E : Nat} {vals : List Value} {v : Value} {p : Option Addr} {n c : Nat} (hv : v = .slice p n c) (h : σ.get b = ⟨1, E, 0, vals, []⟩) (hi : i < vals.length) :
    aStore Tryz.prog σ T v (.pointer (some ⟨b, i, none⟩)) = some (σ.put b ⟨1, E, 0, vals.set i v, []⟩) := by
  subst hv
  obtain ⟨inf, hi2, hs⟩ := ht
  have hz : Nat.beq (Value.slice p n c).cells.size 1 = true := rfl
  have hc : (Value.slice p n c).cells.toList = [.slice p n c] := rfl
  have ho : one (Value.slice p n c) = true := rfl
  unfold aStore
  simp only [hi2, hs, hz, if_true, hc]
  unfold aWrite
  simp only [h, hasLen_eq, List.length_cons, List.length_nil, Nat.zero_add, List.all_cons, List.all_nil, ho]
  rw [ble_t (show i + 1 ≤ vals.length by omega), lsplice_cons, lsplice_nil]
  rfl
theorem cellAt {σ : AS} {b i E : Nat} {T : TypeId} {d : TypeDesc} (hd : Tryz.prog.underlying T = some d) (hs : aisAgg d = false) {vals : List Value} {v : Value} (h : σ.get b = ⟨1, E, 0, vals, []⟩) (hi : vals[i]? = some v) : aLoad Tryz.prog σ T (.pointer (some ⟨b, i, none⟩)) = some v := by
  obtain ⟨h1, h2⟩ := List.getElem?_eq_some_iff.1 hi
  exact load1 hd hs (cells_at h (by rw [List.drop_eq_getElem_cons h1, h2]; rfl) (by omega))

/-- A core under way: j functions, i names, k events. -/
structure Co (σ0 : AS) (tb bk bo bn : Nat) (lv : Value) (ints : List Int) (σ : AS) (fv nv ev : Value) (fcs ncs ecs : List Value) (j i k : Nat) : Prop where
  tape0 : Tape tb σ0 lv ints
  own : ∃ pos : Nat, σ.get tb = ⟨1, 77, 0, [lv, .int .i64 (pos : Int)], []⟩
  ext : ExtX [tb] σ0 σ
  box : σ.get bk = ⟨1, 34, 0, [fv, nv, .slice none 0 0, ev], []⟩
  res : σ.get bo = ⟨1, 34, 0, [.slice none 0 0, .slice none 0 0, .slice none 0 0, .slice none 0 0], []⟩
  str : σ.get bn = ⟨1, 9, 0, names, []⟩
  fs : StkX σ0.next 47 6 σ fv j fcs
  ns : StkX σ0.next 80 4 σ nv i ncs
  es : StkX σ0.next 25 1 σ ev k ecs
  bkl : σ0.next ≤ bk ∧ bk < σ.next
  bol : σ0.next ≤ bo ∧ bo < σ.next
  bnl : σ0.next ≤ bn ∧ bn < σ.next
  ne1 : bk ≠ bo
  ne2 : bk ≠ bn

section
variable {σ0 σ : AS} {tb bk bo bn : Nat} {lv : Value} {ints : List Int} {fv nv ev : Value} {fcs ncs ecs : List Value} {j i k : Nat}
theorem Co.tape (h : Co σ0 tb bk bo bn lv ints σ fv nv ev fcs ncs ecs j i k) : Tape tb σ lv ints := by
  obtain ⟨p, hp⟩ := h.own
  exact h.tape0.keep h.ext hp
theorem Co.tapeX {σ' : AS} (h : Co σ0 tb bk bo bn lv ints σ fv nv ev fcs ncs ecs j i k) (e : ExtX [tb] σ σ') (t : ∃ pos : Nat, σ'.get tb = ⟨1, 77, 0, [lv, .int .i64 (pos : Int)], []⟩) : Co σ0 tb bk bo bn lv ints σ' fv nv ev fcs ncs ecs j i k := by
  have ht := h.tape0.lt
  have g : ∀ i, i < σ.next → σ0.next ≤ i → σ'.get i = σ.get i := fun i h1 h2 => e.get i h1 (by simp; omega)
  have hb := h.bkl
  have hbo := h.bol
  have hbn := h.bnl
  have hn := e.nxt
  exact { h with own := t, ext := h.ext.trans e, box := (g bk hb.2 hb.1).trans h.box, res := (g bo hbo.2 hbo.1).trans h.res, str := (g bn hbn.2 hbn.1).trans h.str, fs := h.fs.keep hn fun i ho hi => g i hi (h.fs.own ho).1, ns := h.ns.keep hn fun i ho hi => g i hi (h.ns.own ho).1, es := h.es.keep hn fun i ho hi => g i hi (h.es.own ho).1, bkl := by omega, bol := by omega, bnl := by omega }
theorem Co.to {σ' : AS} (h : Co σ0 tb bk bo bn lv ints σ fv nv ev fcs ncs ecs j i k) (e : Ext σ σ') : Co σ0 tb bk bo bn lv ints σ' fv nv ev fcs ncs ecs j i k :=
  h.tapeX (ExtX.of e) (by
    obtain ⟨p, hp⟩ := h.own
    exact ⟨p, (e.get tb h.tape.lt).trans hp⟩)
theorem Co.pushN (h : Co σ0 tb bk bo bn lv ints σ fv nv ev fcs ncs ecs j i k) {b E' : Nat} {new : List Value} (hb : σ.get b = ⟨1, E', 0, new, []⟩) (hl : new.length = 4) (h1 : new.all one = true) (hk : i + 1 ≤ 1000000) :
    ∃ x' s, aAppend Tryz.prog σ #[30, 30] nv (.slice (some ⟨b, 0, none⟩) 1 1) = some (x', s) ∧ (∃ p n c, x' = .slice p n c) ∧ (∀ i, i < σ.next → (σ.get i).kind ≠ 2 → s.get i = σ.get i) ∧ ExtX [tb] σ0 s ∧
      ∀ τ : AS, τ.next = s.next → (∀ i, i ≠ bk → τ.get i = s.get i) → τ.get bk = ⟨1, 34, 0, [fv, x', .slice none 0 0, ev], []⟩ → ExtX [tb] σ0 τ → Co σ0 tb bk bo bn lv ints τ fv x' ev fcs (ncs ++ new) ecs j (i + 1) k := by
  have hlo : σ0.next ≤ σ.next := h.ext.nxt
  have ht := h.tape0.lt
  obtain ⟨x', s, g1, g2, g3, g4, g5⟩ := StkX.push1 elIn h.ns hlo hb hl h1 hk
  have nk : ∀ i, i < σ.next → (σ.get i).kind ≠ 2 → s.get i = σ.get i := fun i hi hk => g4 i hi fun ho => hk (h.ns.own ho).2.2.1
  have ne : ∀ i, i < σ.next → (σ.get i).elem ≠ 80 → s.get i = σ.get i := fun i hi hk => g4 i hi fun ho => hk (h.ns.own ho).2.2.2
  have e0 : ExtX [tb] σ0 s := ⟨Nat.le_trans hlo g3, fun i hi hx => (g4 i (Nat.lt_of_lt_of_le hi hlo) fun ho => by have := (h.ns.own ho).1; omega).trans (h.ext.get i hi hx), fun m q1 q2 q3 => g5 m q2 (h.ext.low m q1 q2 q3)⟩
  obtain ⟨ua, uc, hu⟩ := StkX.len g2
  refine ⟨x', s, g1, ⟨_, _, _, hu⟩, nk, e0, fun τ hn p hb2 he => ?_⟩
  have hbk := h.bkl
  have hbo := h.bol
  have hbn := h.bnl
  have kb : ∀ {i : Nat}, (σ.get i).kind = 2 → i ≠ bk := fun {i} hk e => by rw [e, h.box] at hk; cases hk
  refine { h with own := ?_, ext := he, box := hb2, res := (p bo h.ne1.symm).trans ((nk bo hbo.2 (by rw [h.res]; decide)).trans h.res), str := (p bn h.ne2.symm).trans ((nk bn hbn.2 (by rw [h.str]; exact (by decide : (1 : Nat) ≠ 2))).trans h.str), ns := ?_, fs := h.fs.keep (by rw [hn]; exact g3) fun i ho hi => (p i (kb (h.fs.own ho).2.2.1)).trans (ne i hi (by rw [(h.fs.own ho).2.2.2]; decide)), es := h.es.keep (by rw [hn]; exact g3) fun i ho hi => (p i (kb (h.es.own ho).2.2.1)).trans (ne i hi (by rw [(h.es.own ho).2.2.2]; decide)), bkl := by omega, bol := by omega, bnl := by omega }
  · obtain ⟨q, hq⟩ := h.own
    have hk1 : (σ.get tb).kind ≠ 2 := by rw [hq]; exact (by decide : (1 : Nat) ≠ 2)
    exact ⟨q, (p tb (by omega)).trans ((nk tb (by omega) hk1).trans hq)⟩
  · refine g2.keep (by rw [hn]; exact Nat.le_refl _) fun i ho hi => p i fun e => ?_
    have h3 := (g2.own ho).2.2.1
    rw [e, nk bk hbk.2 (by rw [h.box]; exact (by decide : (1 : Nat) ≠ 2)), h.box] at h3
    cases h3
theorem Co.pushE (h : Co σ0 tb bk bo bn lv ints σ fv nv ev fcs ncs ecs j i k) {b E' : Nat} {new : List Value} (hb : σ.get b = ⟨1, E', 0, new, []⟩) (hl : new.length = 1) (h1 : new.all one = true) (hk : k + 1 ≤ 1000000) :
    ∃ x' s, aAppend Tryz.prog σ #[32, 32] ev (.slice (some ⟨b, 0, none⟩) 1 1) = some (x', s) ∧ (∃ p n c, x' = .slice p n c) ∧ (∀ i, i < σ.next → (σ.get i).kind ≠ 2 → s.get i = σ.get i) ∧ ExtX [tb] σ0 s ∧
      ∀ τ : AS, τ.next = s.next → (∀ i, i ≠ bk → τ.get i = s.get i) → τ.get bk = ⟨1, 34, 0, [fv, nv, .slice none 0 0, x'], []⟩ → ExtX [tb] σ0 τ → Co σ0 tb bk bo bn lv ints τ fv nv x' fcs ncs (ecs ++ new) j i (k + 1) := by
  have hlo : σ0.next ≤ σ.next := h.ext.nxt
  have ht := h.tape0.lt
  obtain ⟨x', s, g1, g2, g3, g4, g5⟩ := StkX.push1 elV h.es hlo hb hl h1 hk
  have nk : ∀ i, i < σ.next → (σ.get i).kind ≠ 2 → s.get i = σ.get i := fun i hi hk => g4 i hi fun ho => hk (h.es.own ho).2.2.1
  have ne : ∀ i, i < σ.next → (σ.get i).elem ≠ 25 → s.get i = σ.get i := fun i hi hk => g4 i hi fun ho => hk (h.es.own ho).2.2.2
  have e0 : ExtX [tb] σ0 s := ⟨Nat.le_trans hlo g3, fun i hi hx => (g4 i (Nat.lt_of_lt_of_le hi hlo) fun ho => by have := (h.es.own ho).1; omega).trans (h.ext.get i hi hx), fun m q1 q2 q3 => g5 m q2 (h.ext.low m q1 q2 q3)⟩
  obtain ⟨ua, uc, hu⟩ := StkX.len g2
  refine ⟨x', s, g1, ⟨_, _, _, hu⟩, nk, e0, fun τ hn p hb2 he => ?_⟩
  have hbk := h.bkl
  have hbo := h.bol
  have hbn := h.bnl
  have kb : ∀ {i : Nat}, (σ.get i).kind = 2 → i ≠ bk := fun {i} hk e => by rw [e, h.box] at hk; cases hk
  refine { h with own := ?_, ext := he, box := hb2, res := (p bo h.ne1.symm).trans ((nk bo hbo.2 (by rw [h.res]; decide)).trans h.res), str := (p bn h.ne2.symm).trans ((nk bn hbn.2 (by rw [h.str]; exact (by decide : (1 : Nat) ≠ 2))).trans h.str), es := ?_, fs := h.fs.keep (by rw [hn]; exact g3) fun i ho hi => (p i (kb (h.fs.own ho).2.2.1)).trans (ne i hi (by rw [(h.fs.own ho).2.2.2]; decide)), ns := h.ns.keep (by rw [hn]; exact g3) fun i ho hi => (p i (kb (h.ns.own ho).2.2.1)).trans (ne i hi (by rw [(h.ns.own ho).2.2.2]; decide)), bkl := by omega, bol := by omega, bnl := by omega }
  · obtain ⟨q, hq⟩ := h.own
    have hk1 : (σ.get tb).kind ≠ 2 := by rw [hq]; exact (by decide : (1 : Nat) ≠ 2)
    exact ⟨q, (p tb (by omega)).trans ((nk tb (by omega) hk1).trans hq)⟩
  · refine g2.keep (by rw [hn]; exact Nat.le_refl _) fun i ho hi => p i fun e => ?_
    have h3 := (g2.own ho).2.2.1
    rw [e, nk bk hbk.2 (by rw [h.box]; exact (by decide : (1 : Nat) ≠ 2)), h.box] at h3
    cases h3
theorem Co.pushF (h : Co σ0 tb bk bo bn lv ints σ fv nv ev fcs ncs ecs j i k) {b E' : Nat} {new : List Value} (hb : σ.get b = ⟨1, E', 0, new, []⟩) (hl : new.length = 6) (h1 : new.all one = true) (hk : j + 1 ≤ 1000000) :
    ∃ x' s, aAppend Tryz.prog σ #[29, 29] fv (.slice (some ⟨b, 0, none⟩) 1 1) = some (x', s) ∧ (∃ p n c, x' = .slice p n c) ∧ (∀ i, i < σ.next → (σ.get i).kind ≠ 2 → s.get i = σ.get i) ∧ ExtX [tb] σ0 s ∧
      ∀ τ : AS, τ.next = s.next → (∀ i, i ≠ bk → τ.get i = s.get i) → τ.get bk = ⟨1, 34, 0, [x', nv, .slice none 0 0, ev], []⟩ → ExtX [tb] σ0 τ → Co σ0 tb bk bo bn lv ints τ x' nv ev (fcs ++ new) ncs ecs (j + 1) i k := by
  have hlo : σ0.next ≤ σ.next := h.ext.nxt
  have ht := h.tape0.lt
  obtain ⟨x', s, g1, g2, g3, g4, g5⟩ := StkX.push1 elF h.fs hlo hb hl h1 hk
  have nk : ∀ i, i < σ.next → (σ.get i).kind ≠ 2 → s.get i = σ.get i := fun i hi hk => g4 i hi fun ho => hk (h.fs.own ho).2.2.1
  have ne : ∀ i, i < σ.next → (σ.get i).elem ≠ 47 → s.get i = σ.get i := fun i hi hk => g4 i hi fun ho => hk (h.fs.own ho).2.2.2
  have e0 : ExtX [tb] σ0 s := ⟨Nat.le_trans hlo g3, fun i hi hx => (g4 i (Nat.lt_of_lt_of_le hi hlo) fun ho => by have := (h.fs.own ho).1; omega).trans (h.ext.get i hi hx), fun m q1 q2 q3 => g5 m q2 (h.ext.low m q1 q2 q3)⟩
  obtain ⟨ua, uc, hu⟩ := StkX.len g2
  refine ⟨x', s, g1, ⟨_, _, _, hu⟩, nk, e0, fun τ hn p hb2 he => ?_⟩
  have hbk := h.bkl
  have hbo := h.bol
  have hbn := h.bnl
  have kb : ∀ {i : Nat}, (σ.get i).kind = 2 → i ≠ bk := fun {i} hk e => by rw [e, h.box] at hk; cases hk
  refine { h with own := ?_, ext := he, box := hb2, res := (p bo h.ne1.symm).trans ((nk bo hbo.2 (by rw [h.res]; decide)).trans h.res), str := (p bn h.ne2.symm).trans ((nk bn hbn.2 (by rw [h.str]; exact (by decide : (1 : Nat) ≠ 2))).trans h.str), fs := ?_, ns := h.ns.keep (by rw [hn]; exact g3) fun i ho hi => (p i (kb (h.ns.own ho).2.2.1)).trans (ne i hi (by rw [(h.ns.own ho).2.2.2]; decide)), es := h.es.keep (by rw [hn]; exact g3) fun i ho hi => (p i (kb (h.es.own ho).2.2.1)).trans (ne i hi (by rw [(h.es.own ho).2.2.2]; decide)), bkl := by omega, bol := by omega, bnl := by omega }
  · obtain ⟨q, hq⟩ := h.own
    have hk1 : (σ.get tb).kind ≠ 2 := by rw [hq]; exact (by decide : (1 : Nat) ≠ 2)
    exact ⟨q, (p tb (by omega)).trans ((nk tb (by omega) hk1).trans hq)⟩
  · refine g2.keep (by rw [hn]; exact Nat.le_refl _) fun i ho hi => p i fun e => ?_
    have h3 := (g2.own ho).2.2.1
    rw [e, nk bk hbk.2 (by rw [h.box]; exact (by decide : (1 : Nat) ≠ 2)), h.box] at h3
    cases h3
end

end Go.Proofs.YtacpdefmnijhnaaGreat.U
