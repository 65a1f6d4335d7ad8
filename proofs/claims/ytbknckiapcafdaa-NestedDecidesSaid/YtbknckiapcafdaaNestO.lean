/- A chain that is generated (function 11), given the contracts of Insert (28) and LTS (15). -/
import Derived.Test.YtbknckiapcafdaaNestN
set_option linter.unusedSimpArgs false
set_option linter.unusedVariables false
namespace Go.Proofs.Ytbknckiapcafdaa.Nest
open Abs Abs2

/-- What is asked of a generated system. -/
def GenC (f : FuncId) (c m : Nat) (A : Lts → Prop) : Prop := ∀ {σ : AS} {tb k : Nat} {n : Int}, Tape tb σ k → k ≤ 2 ^ 60 → 1 ≤ n → n ≤ 100 → C Try.prog Kn 0 f [.pointer (some ⟨tb, 0, none⟩), .int .i64 n] σ fun v σ' =>
  ∃ lb L cap, v = .agg #[.slice (some ⟨lb, 0, none⟩) L.length cap] ∧ σ.next ≤ lb ∧ Tape tb σ' (k + c) ∧ ExtX [tb] σ σ' ∧ Gen tb lb σ' L m ∧ 1 ≤ L.length ∧ L.length ≤ 100 ∧ A L ∧ (L.length : Int) ≤ n

/-- Rows that rise, events in range. -/
def GoodL (L : Lts) : Prop := ∀ l ∈ L, asc l = true ∧ ∀ a ∈ l, 0 ≤ a.1 ∧ a.1 ≤ 1025
/-- The first states up to i lead to the next. -/
def ChainTo (L : Lts) (i : Nat) : Prop := ∀ s, s < i → ∃ row, L[s]? = some row ∧ ∃ a ∈ row, a.2 = ((s + 1 : Nat) : Int)
def ChainL (L : Lts) : Prop := GoodL L ∧ ChainTo L (L.length - 1)
theorem GoodL.set {L : Lts} {i : Nat} {l l' : List Arc} {a : Arc} (h : GoodL L) (hl : l ∈ L) (h1 : ∀ x ∈ l', x = a ∨ x ∈ l) (h2 : asc l = true → asc l' = true) (h3 : 0 ≤ a.1 ∧ a.1 ≤ 1025) : GoodL (L.set i l') := fun r hr => by
  rcases List.mem_or_eq_of_mem_set hr with hr | rfl
  · exact h r hr
  · exact ⟨h2 (h l hl).1, fun x hx => by rcases h1 x hx with rfl | h4
                                         · exact h3
                                         · exact (h l hl).2 x h4⟩
theorem ChainTo.set {L : Lts} {i : Nat} {l' : List Arc} {a : Arc} (h : ChainTo L i) (hi : i < L.length) (ha : a ∈ l') (h2 : a.2 = ((i + 1 : Nat) : Int)) : ChainTo (L.set i l') (i + 1) := fun s hs => by
  by_cases e : i = s
  · subst e; exact ⟨l', List.getElem?_set_self hi, a, ha, h2⟩
  · obtain ⟨row, h3, h4⟩ := h s (by omega)
    exact ⟨row, by rw [List.getElem?_set_ne e]; exact h3, h4⟩

structure BoxAt (σ : AS) (b : Nat) (s : Value) : Prop where
  lt : b < σ.next
  get : σ.get b = ⟨1, 30, 0, [s], []⟩
theorem BoxAt.ext {σ σ' : AS} {b : Nat} {s : Value} (h : BoxAt σ b s) (e : Ext σ σ') : BoxAt σ' b s := ⟨e.lt h.lt, (e.get b h.lt).trans h.get⟩
theorem BoxAt.extX {X : List Nat} {σ σ' : AS} {b : Nat} {s : Value} (h : BoxAt σ b s) (e : ExtX X σ σ') (hx : b ∉ X) : BoxAt σ' b s := ⟨e.lt h.lt, (e.get b h.lt hx).trans h.get⟩
theorem BoxAt.load {σ : AS} {b : Nat} {s : Value} (h : BoxAt σ b s) : aLoad Try.prog σ 30 (.pointer (some ⟨b, 0, none⟩)) = some (.agg #[s]) :=
  loadN Try.underlying30 rfl (i := (Try.prog.info? 30).get!) (by kernel_rfl) (by rw [show ((Try.prog.info? 30).get!).size = 1 by kernel_rfl]; exact cells_at h.get rfl (Nat.le_refl _))
theorem BoxAt.out {σ : AS} {b : Nat} {s : Value} (h : BoxAt σ b s) : aLoad Try.prog σ 28 (.pointer (some ⟨b, 0, none⟩)) = some s := load1 Try.underlying28 rfl (cells_at h.get rfl (Nat.le_refl _))
theorem BoxAt.reset {σ : AS} {b : Nat} {s : Value} (h : BoxAt σ b s) : BoxAt σ.reset b s := h.ext (Ext.reset _)

theorem GRow.sv {X : List Nat} {σ : AS} {v : Value} {l : List Arc} (h : GRow (hid X σ) v l) : (vsc σ.next 9 v && veq 9 v v) = true := by
  rcases h with ⟨rfl, rfl⟩ | ⟨_, b, rfl, h2, _⟩
  · exact sv_nil
  · rw [hid_next] at h2; exact sv_slice h2
theorem GRow.same {X : List Nat} {σ σ' : AS} {v : Value} {l : List Arc} (h : GRow (hid X σ) v l) (hn : σ'.next = σ.next) (hg : ∀ i, σ'.get i = σ.get i) : GRow (hid X σ') v l := by
  refine h.imp_right fun ⟨h0, b, h1, h2, h3⟩ => ⟨h0, b, h1, by rw [hid_next] at h2 ⊢; omega, ?_⟩
  by_cases hb : b ∈ X
  · rw [hid_in _ hb] at h3 ⊢; exact h3
  · rw [hid_out _ hb] at h3 ⊢; rw [hg]; exact h3
theorem Tape.same {tb k : Nat} {σ σ' : AS} (h : Tape tb σ k) (hn : σ'.next = σ.next) (hg : ∀ i, σ'.get i = σ.get i) : Tape tb σ' k := by
  obtain ⟨h1, lv, ints, pos, h2, ⟨base, cap, e, hb⟩, h4⟩ := h
  refine ⟨by omega, lv, ints, pos, by rw [hg]; exact h2, ⟨base, cap, e, fun hl => ?_⟩, h4⟩
  obtain ⟨b, off, e1, e2, e3⟩ := hb hl
  refine ⟨b, off, e1, by rw [hid_next] at e2 ⊢; omega, fun i x hx => ?_⟩
  obtain ⟨cs, h5, h6⟩ := e3 i x hx
  refine ⟨cs, ?_, h6⟩
  have : (hid [tb] σ').get b = (hid [tb] σ).get b := by
    by_cases hb : b ∈ [tb]
    · rw [hid_in _ hb, hid_in _ hb]
    · rw [hid_out _ hb, hid_out _ hb, hg]
  unfold aCells at h5 ⊢
  rw [this]; exact h5
theorem Gen.same {tb lb m : Nat} {σ σ' : AS} {L : Lts} (h : Gen tb lb σ L m) (hn : σ'.next = σ.next) (hg : ∀ i, σ'.get i = σ.get i) : Gen tb lb σ' L m := by
  obtain ⟨h1, h2, ⟨rows, h3, h4, h5⟩, h6⟩ := h
  exact ⟨by omega, h2, ⟨rows, by rw [hg]; exact h3, h4, fun i v l hv hl => (h5 i v l hv hl).same hn hg⟩, h6⟩

theorem GRow.box {X : List Nat} {σ : AS} {v s : Value} {l : List Arc} {c : Nat} {B : Blk} (h : GRow (hid X σ) v l) (hb : BoxAt σ c s) (hX : c ∉ X) : GRow (hid X (σ.put c B)) v l := by
  refine h.imp_right fun ⟨h0, b, h1, h2, h3⟩ => ⟨h0, b, h1, by rw [hid_next] at h2 ⊢; exact h2, ?_⟩
  have hne : c ≠ b := by
    rintro rfl
    rw [hid_out _ hX, hb.get] at h3
    have := congrArg Blk.kind h3
    simp [outB] at this
  by_cases hx : b ∈ X
  · rw [hid_in _ hx] at h3 ⊢; exact h3
  · rw [hid_out _ hx] at h3 ⊢; rw [AS.get_put, if_neg hne]; exact h3
theorem Gen.box {tb lb m c : Nat} {σ : AS} {L : Lts} {s : Value} {B : Blk} (h : Gen tb lb σ L m) (hb : BoxAt σ c s) (h1 : c ≠ tb) (h2 : c ≠ lb) : Gen tb lb (σ.put c B) L m := by
  obtain ⟨g1, g2, ⟨rows, g3, g4, g5⟩, g6⟩ := h
  exact ⟨g1, g2, ⟨rows, by rw [AS.get_put, if_neg h2]; exact g3, g4, fun i v l hv hl => (g5 i v l hv hl).box hb (by simp; exact ⟨h1, h2⟩)⟩, g6⟩
theorem cells_mem {σ : AS} {a : Addr} {n : Nat} {cs : List Value} (h : aCells σ a n = some cs) : ∀ x ∈ cs, x ∈ (σ.get a.block).vals := by
  unfold aCells at h
  intro x hx
  split at h
  · cases h; exact List.mem_of_mem_drop (List.mem_of_mem_take hx)
  · split at h
    · cases h; exact List.mem_of_mem_drop (List.mem_of_mem_take hx)
    · cases h
theorem Tape.put {tb k c : Nat} {σ : AS} {B : Blk} (h : Tape tb σ k) (h1 : c ≠ tb) (hv : ∀ x, Value.int .i64 x ∉ (σ.get c).vals) : Tape tb (σ.put c B) k := by
  obtain ⟨g1, lv, ints, pos, g2, ⟨base, cap, e, g⟩, g4⟩ := h
  refine ⟨g1, lv, ints, pos, by rw [AS.get_put, if_neg h1]; exact g2, ⟨base, cap, e, fun hl => ?_⟩, g4⟩
  obtain ⟨b, off, e1, e2, e3⟩ := g hl
  refine ⟨b, off, e1, by rw [hid_next] at e2 ⊢; exact e2, fun i x hx => ?_⟩
  obtain ⟨cs, h5, h6⟩ := e3 i x hx
  refine ⟨cs, ?_, h6⟩
  obtain ⟨hbt, h7⟩ := hid_cells h5
  have hne : c ≠ b := by
    rintro rfl
    unfold RInt at h6
    exact hv x (cells_mem h7 _ (by rw [h6]; exact List.mem_cons_self))
  have hq : (hid [tb] (σ.put c B)).get b = σ.get b := by rw [hid_out _ hbt, AS.get_put, if_neg hne]
  unfold aCells at h7 ⊢
  rw [hq]; exact h7
theorem Tape.box {tb k c : Nat} {σ : AS} {s : Value} {B : Blk} (h : Tape tb σ k) (hb : BoxAt σ c s) (h1 : c ≠ tb) (hs : ∀ x, s ≠ .int .i64 x) : Tape tb (σ.put c B) k :=
  h.put h1 fun x hx => by
    rw [hb.get] at hx
    exact hs x (List.mem_singleton.1 hx).symm
theorem Gen.ints {tb lb m : Nat} {σ : AS} {L : Lts} (h : Gen tb lb σ L m) (x : Int) : Value.int .i64 x ∉ (σ.get lb).vals := by
  obtain ⟨_, _, ⟨rows, g3, g4, g5⟩, _⟩ := h
  rw [g3]
  intro hx
  obtain ⟨i, hi⟩ := List.mem_iff_getElem?.1 hx
  have hlt := (List.getElem?_eq_some_iff.1 hi).1
  obtain ⟨b, c, e⟩ := (g5 i _ (L[i]'(by simp at hlt; omega)) hi (by simp)).slice
  cases e

theorem alloc30 {σ : AS} : opAlloc Try.prog σ 30 = some (.pointer (some ⟨σ.next, 0, none⟩), σ.new ⟨1, 30, 0, [.slice none 0 0], []⟩) := by kernel_rfl
theorem store30 {σ : AS} {b : Nat} {x : Value} {p : Option Addr} {n c : Nat} (h : σ.get b = ⟨1, 30, 0, [x], []⟩) :
    aStore Try.prog σ 30 (.agg #[.slice p n c]) (.pointer (some ⟨b, 0, none⟩)) = some (σ.put b ⟨1, 30, 0, [.slice p n c], []⟩) := by
  obtain ⟨inf, hi2, hs⟩ : ∃ inf, Try.prog.info? 30 = some inf ∧ inf.size = 1 := ⟨(Try.prog.info? 30).get!, by kernel_rfl, by kernel_rfl⟩
  have hz : Nat.beq (Value.agg #[.slice p n c]).cells.size 1 = true := rfl
  have hc : (Value.agg #[.slice p n c]).cells.toList = [.slice p n c] := rfl
  unfold aStore
  simp only [hi2, hs, hz, if_true, hc]
  unfold aWrite
  simp only [h, hasLen_eq, List.length_cons, List.length_nil, Nat.zero_add]
  rfl
theorem idx28g {b off len cap i : Nat} (h : i < len) : aIndexAddr Try.prog 28 (.slice (some ⟨b, off, none⟩) len cap) (.int .i64 (i : Int)) = some (.pointer (some ⟨b, off + i, none⟩)) := by
  have := idx28 (b := b) (off := off) (cap := cap) h
  rwa [Nat.mul_one] at this

set_option maxHeartbeats 8000000 in
theorem chain (ins : InsertC) (lts : GenC 15 1000 400 GoodL) : GenC 11 2000 600 ChainL := by
  intro σ tb k n hT hk hn1 hn2
  refine C_of (kn (by decide)) Try.func11 rfl (Nat.le_of_ble_eq_true rfl) ?_
  show W _ _ _ 34 _ _ _ _
  unfold Try.f11
  dsimp only
  repeat apply W_assoc
  apply W_reg
  · intro callf
    simp +decide only [aOps, rinit, aWanted, ↓bite_eq, ↓reduceIte, aStep_eq, aStepOld, aOp, aPut, Nat.zero_add, alloc30]
    rfl
  have E0 : Ext σ (σ.new ⟨1, 30, 0, [.slice none 0 0], []⟩) := Ext.new _ _
  have BR : BoxAt (σ.new ⟨1, 30, 0, [.slice none 0 0], []⟩) σ.next (.slice none 0 0) := ⟨Nat.lt_succ_self _, by rw [AS.get_new, if_pos rfl]⟩
  have T0 := hT.ext E0
  have htb : tb < σ.next := hT.lt
  generalize σ.new ⟨1, 30, 0, [.slice none 0 0], []⟩ = σ1 at E0 BR T0
  repeat apply W_assoc
  apply W_regL
  apply Ls_pre 2
  · intro callf
    simp +decide only [List.take, aOps, aWanted, ↓bite_eq, ↓reduceIte, aStep_eq, aStepOld, aOp, aev, ann, aPut, rget_rput]
    rfl
  dsimp only [List.drop]
  refine Ls_fn (vs := [.pointer (some ⟨tb, 0, none⟩), .int .i64 n]) (by simp +decide only [aevs, aev, rget_rput, if_true, if_false]) (by decide) (C.mono (lts T0 hk hn1 hn2) ?_)
  rintro v σ' ⟨lb, L0, cap, rfl, hlb, TP, EX, GN, hL1, hL2, hGd, hLn⟩
  have hlb2 : σ.next < lb := Nat.lt_of_lt_of_le BR.lt hlb
  have BR := BR.extX EX (by simp; omega)
  generalize hb5 : σ'.next = b5
  have hl5 : lb < b5 := hb5 ▸ GN.lt
  apply Ls_all
  · intro callf
    simp +decide only [aOps, aWanted, ↓bite_eq, ↓reduceIte, aStep_eq, aStepOld, aOp, opStore, aev, unn, aPut, rget_rput, alloc30, hb5, store30 (σ := σ'.new ⟨1, 30, 0, [.slice none 0 0], []⟩) (b := b5) (x := .slice none 0 0) (by rw [AS.get_new, if_pos hb5])]
    rfl
  have e1 : Ext σ' ((σ'.new ⟨1, 30, 0, [.slice none 0 0], []⟩).put b5 ⟨1, 30, 0, [.slice (some ⟨lb, 0, none⟩) L0.length cap], []⟩) := Ext.put (Ext.new _ _) (by omega) _
  have BX : BoxAt ((σ'.new ⟨1, 30, 0, [.slice none 0 0], []⟩).put b5 ⟨1, 30, 0, [.slice (some ⟨lb, 0, none⟩) L0.length cap], []⟩) b5 (.slice (some ⟨lb, 0, none⟩) L0.length cap) := ⟨by rw [← hb5]; exact Nat.lt_succ_self _, by rw [AS.get_put, if_pos rfl]⟩
  have BR := BR.ext e1
  have TP := TP.ext e1
  have GN := GN.ext e1
  have EX := EX.trans (ExtX.of e1)
  have hlt0 := e1.nxt
  generalize (σ'.new ⟨1, 30, 0, [.slice none 0 0], []⟩).put b5 ⟨1, 30, 0, [.slice (some ⟨lb, 0, none⟩) L0.length cap], []⟩ = σ2 at e1 BX BR TP GN EX hlt0
  repeat apply W_assoc
  apply W_reg
  · intro callf
    simp +decide only [aOps, aWanted, ↓bite_eq, ↓reduceIte, aStep_eq, aStepOld, aOp, aev, ann, aPut]
    rfl
  repeat apply W_assoc
  refine W_for (fun (x : Nat × Lts) r σ' => x.1 ≤ 100 ∧ x.2.length = L0.length ∧ rget r 0 = .pointer (some ⟨tb, 0, none⟩) ∧ rget r 4 = .pointer (some ⟨σ.next, 0, none⟩) ∧ rget r 5 = .pointer (some ⟨b5, 0, none⟩) ∧ rget r 6 = .int .i64 (x.1 : Int) ∧
      Tape tb σ' (k + 1000 + x.1) ∧ Gen tb lb σ' x.2 (400 + x.1) ∧ BoxAt σ' b5 (.slice (some ⟨lb, 0, none⟩) L0.length cap) ∧ BoxAt σ' σ.next (.slice none 0 0) ∧ ExtX [tb, lb] σ2 σ' ∧ GoodL x.2 ∧ ChainTo x.2 x.1)
    (fun x => 100 - x.1) ?_ (0, L0) ?_
  rotate_left
  · simp +decide only [rget_rput, if_true, if_false]
    refine ⟨?_, ?_, ?_, ?_, ?_, ?_, TP, GN, BX, BR, ExtX.refl _ _, hGd, fun s hs => absurd hs (Nat.not_lt_zero s)⟩ <;> first | trivial | rfl
  rintro ⟨i, L⟩ r σ3 ⟨hi, hL, h0, h4, h5, h6, TP, GN, BX, BR, EY, hGd, hCh⟩
  dsimp only at hi hL h6 TP GN hGd hCh
  have w1 : IntKind.i64.wrap ((i : Int) + 1) = ((i + 1 : Nat) : Int) := by rw [wrap64_id _ (by omega) (by omega)]; omega
  repeat apply W_assoc
  apply W_reg
  · intro callf
    simp +decide only [aOps, aWanted, ↓bite_eq, ↓reduceIte, aStep_eq, aStepOld, aOp, opBin, opCall, opFieldAddr, opLoad, aev, aevs, ann, aPut, rget_rput, aBuiltin, aLen, List.getElem?_toArray, List.getElem?_cons_zero, h5, h6, w1, fldL, BX.out, Try.underlying28, goInt, aBin, aInts, aInt_eq]
    rfl
  repeat apply W_assoc
  refine W_if (b := decide (((i + 1 : Nat) : Int) < (L0.length : Int))) ?_ ?_ ?_
  · simp +decide only [aev, rget_rput, if_true, if_false]
  rotate_left
  · intro hb
    refine W_exitq ⟨fun h => (nomatch h), fun _ => ?_, fun h1 h2 => absurd rfl h2⟩
    repeat apply W_assoc
    apply W_reg
    · intro callf
      simp +decide only [aOps, aWanted, ↓bite_eq, ↓reduceIte, aStep_eq, aStepOld, aOp, opLoad, opStore, aev, ann, unn, aPut, rget_rput, h4, h5, BX.load, store30 BR.get]
      rfl
    have EZ : ExtX [tb, lb, σ.next] σ1 (σ3.put σ.next ⟨1, 30, 0, [.slice (some ⟨lb, 0, none⟩) L0.length cap], []⟩) :=
      ((EX.sub (by simp)).trans (EY.sub (by simp))).put (by simp) _
    have EF : ExtX [tb] σ (σ3.put σ.next ⟨1, 30, 0, [.slice (some ⟨lb, 0, none⟩) L0.length cap], []⟩) := (ExtX.of E0).drop (lb := lb) EZ (by simp; omega)
    have GF := (GN.box (B := ⟨1, 30, 0, [.slice (some ⟨lb, 0, none⟩) L0.length cap], []⟩) BR (by omega) (by omega)).up (m' := 600) (by omega)
    have TF := (TP.box (B := ⟨1, 30, 0, [.slice (some ⟨lb, 0, none⟩) L0.length cap], []⟩) BR (by omega) (by intro x h; cases h)).up (k' := k + 2000) (by omega)
    have BF : BoxAt (σ3.put σ.next ⟨1, 30, 0, [.slice (some ⟨lb, 0, none⟩) L0.length cap], []⟩) σ.next (.slice (some ⟨lb, 0, none⟩) L0.length cap) := ⟨BR.lt, by rw [AS.get_put, if_pos rfl]⟩
    generalize σ3.put σ.next ⟨1, 30, 0, [.slice (some ⟨lb, 0, none⟩) L0.length cap], []⟩ = σF at EF GF TF BF
    refine W_ret ⟨Nat.le_refl _, [.agg #[.slice (some ⟨lb, 0, none⟩) L0.length cap]], ?_, ?_⟩
    · simp +decide only [aResults, rget_rput, if_false, h4, BF.load]
    · exact ⟨lb, L, cap, by rw [hL]; rfl, by omega, TF, EF, GF, by omega, by omega, ⟨hGd, fun s hs => hCh s (by have := of_decide_eq_false hb; omega)⟩, by rw [hL]; exact hLn⟩
  intro hb
  have hb : i + 1 < L0.length := by
    have := of_decide_eq_true hb
    omega
  apply W_skipq
  refine W_blk ?_
  refine W_tail ?_
  obtain ⟨v, l, hl, hlm, hg, hld⟩ := GN.at (i := i) (by omega)
  obtain ⟨vb, vc, hv⟩ := hg.slice
  have hE : ExtX [tb] σ3 σ3 := ExtX.refl _ _
  repeat apply W_assoc
  refine W_drw [1, 4, 7] [b5, lb] (by kernel_rfl) (by kernel_rfl) ?_
  apply Lg_pre 1
  · intro callf
    simp +decide only [List.take, aQ, memb, List.any_nil, List.any_cons, Bool.or_false, Bool.true_and, reset_low, ble_self, aWanted, ↓bite_eq, ↓reduceIte, aStep_eq, aStepOld, aOp, opFieldAddr, aev, ann, aPut, rget_rput, h5, fldL]
    rfl
  dsimp only [List.drop, List.take, List.length]
  have e0 : Ext σ3 (σ3.merge σ3.reset) := (Ext.refl _).merge
  have TP := TP.ext e0
  have GN := GN.ext e0
  have BX := BX.ext e0
  have BR := BR.ext e0
  have hE := hE.trans (ExtX.of e0)
  generalize σ3.merge σ3.reset = σ4 at e0 TP GN BX BR hE
  refine Lg_load (b := b5) (off := 0) (v := .slice (some ⟨lb, 0, none⟩) L0.length cap) (by simp +decide only [aev, rget_rput, if_true, if_false]) BX.reset.out (sv_slice GN.lt) BX.lt (by simp [memb]) (by decide) ?_
  have e0 : Ext σ4 (σ4.merge σ4.reset) := (Ext.refl _).merge
  have TP := TP.ext e0
  have GN := GN.ext e0
  have BX := BX.ext e0
  have BR := BR.ext e0
  have hE := hE.trans (ExtX.of e0)
  generalize σ4.merge σ4.reset = σ5 at e0 TP GN BX BR hE
  apply Lg_pre 2
  · intro callf
    simp +decide only [List.take, aQ, memb, List.any_nil, List.any_cons, Bool.or_false, Bool.true_and, reset_merge, reset_reset, reset_next, reset_low, merge_next, merge_idem, ble_self, aWanted, ↓bite_eq, ↓reduceIte, aStep_eq, aStepOld, aOp, opFieldAddr, aev, ann, aPut, rget_rput, Nat.zero_add, h5, h6, fldL]
    rfl
  dsimp only [List.drop, List.take, List.length]
  have e0 : Ext σ5 (σ5.merge σ5.reset) := (Ext.refl _).merge
  have TP := TP.ext e0
  have GN := GN.ext e0
  have BX := BX.ext e0
  have BR := BR.ext e0
  have hE := hE.trans (ExtX.of e0)
  generalize σ5.merge σ5.reset = σ6 at e0 TP GN BX BR hE
  refine Lg_load (b := b5) (off := 0) (v := .slice (some ⟨lb, 0, none⟩) L0.length cap) (by simp +decide only [aev, rget_rput, if_true, if_false]) BX.reset.out (sv_slice GN.lt) BX.lt (by simp [memb]) (by decide) ?_
  have e0 : Ext σ6 (σ6.merge σ6.reset) := (Ext.refl _).merge
  have TP := TP.ext e0
  have GN := GN.ext e0
  have BX := BX.ext e0
  have BR := BR.ext e0
  have hE := hE.trans (ExtX.of e0)
  generalize σ6.merge σ6.reset = σ7 at e0 TP GN BX BR hE
  apply Lg_pre 2
  · intro callf
    simp +decide only [List.take, aQ, memb, List.any_nil, List.any_cons, Bool.or_false, Bool.true_and, reset_merge, reset_reset, reset_next, reset_low, merge_next, merge_idem, ble_self, aWanted, ↓bite_eq, ↓reduceIte, aStep_eq, aStepOld, aOp, opIndexAddr, aev, ann, aPut, rget_rput, Nat.zero_add, h6, idx28g (show i < L0.length by omega), Nat.zero_add]
    rfl
  dsimp only [List.drop, List.take, List.length]
  have e0 : Ext σ7 (σ7.merge σ7.reset) := (Ext.refl _).merge
  have TP := TP.ext e0
  have GN := GN.ext e0
  have BX := BX.ext e0
  have BR := BR.ext e0
  have hE := hE.trans (ExtX.of e0)
  generalize σ7.merge σ7.reset = σ8 at e0 TP GN BX BR hE
  have hlm' : l ∈ L := hlm
  have HG := hg.ext (hE.sub (Y := [tb, lb]) (by simp)).hid
  refine Lg_load (b := lb) (off := i) (v := v) (by simp +decide only [aev, rget_rput, if_true, if_false]) (hld _ (hE.trans (ExtX.of (Ext.reset _)))) HG.sv GN.lt (by simp [memb]) (by decide) ?_
  have e0 : Ext σ8 (σ8.merge σ8.reset) := (Ext.refl _).merge
  have TP := TP.ext e0
  have GN := GN.ext e0
  have BX := BX.ext e0
  have BR := BR.ext e0
  have hE := hE.trans (ExtX.of e0)
  generalize σ8.merge σ8.reset = σ9 at e0 TP GN BX BR hE
  apply Lg_pre 1
  · intro callf
    simp +decide only [List.take, aQ, memb, List.any_nil, List.any_cons, Bool.or_false, Bool.true_and, reset_low, ble_self, aWanted, ↓bite_eq, ↓reduceIte, aStep_eq, aStepOld, aOp, aev, ann, aPut, rget_rput, Nat.zero_add, h0]
    rfl
  dsimp only [List.drop, List.take, List.length]
  have e0 : Ext σ9 (σ9.merge σ9.reset) := (Ext.refl _).merge
  have TP := TP.ext e0
  have GN := GN.ext e0
  have BX := BX.ext e0
  have BR := BR.ext e0
  have hE := hE.trans (ExtX.of e0)
  generalize σ9.merge σ9.reset = σ10 at e0 TP GN BX BR hE
  refine Lg_bar (vs := [.pointer (some ⟨tb, 0, none⟩)]) (by simp +decide only [aevs, aev, rget_rput, if_true, if_false]) (by decide) (by kernel_rfl) (by kernel_rfl) (C.mono (event (TP.ext (Ext.reset _)) (by omega)) ?_)
  rintro v2 s1 ⟨⟨ev, rfl, hev⟩, T1, E1⟩
  refine ⟨fun x hx hlt => E1.get x hlt (by simp at hx ⊢; rcases hx with rfl | rfl <;> omega), ?_⟩
  have T1 : Tape tb (σ10.merge s1) (k + 1000 + i + 1) := T1.same rfl fun _ => rfl
  have E1 : ExtX [tb] σ10 (σ10.merge s1) := E1.merge
  have GN := GN.extX E1
  have BX := BX.extX E1 (by simp; omega)
  have BR := BR.extX E1 (by simp; omega)
  have hE := hE.trans E1
  clear TP
  have TP := T1
  generalize σ10.merge s1 = σ11 at TP GN BX BR hE
  apply Lg_pre 3
  · intro callf
    simp +decide only [List.take, aQ, memb, List.any_nil, List.any_cons, Bool.or_false, Bool.true_and, reset_merge, reset_reset, reset_next, reset_low, merge_next, merge_idem, ble_self, aWanted, ↓bite_eq, ↓reduceIte, aStep_eq, aStepOld, aOp, opBin, opBuild, aev, aparts, ann, aPut, rget_rput, Nat.zero_add, h6, build27, w1, aBin, aInts, aInt_eq]
    rfl
  dsimp only [List.drop, List.take, List.length]
  have e0 : Ext σ11 (σ11.merge σ11.reset) := (Ext.refl _).merge
  have TP := TP.ext e0
  have GN := GN.ext e0
  have BX := BX.ext e0
  have BR := BR.ext e0
  have hE := hE.trans (ExtX.of e0)
  generalize σ11.merge σ11.reset = σ12 at e0 TP GN BX BR hE
  have hlm' : l ∈ L := hlm
  have HG := hg.ext (hE.sub (Y := [tb, lb]) (by simp)).hid
  refine Lg_fn (vs := [v, vArc (ev, ((i + 1 : Nat) : Int))]) (by simp +decide only [aevs, aev, rget_rput, if_true, if_false]) (by decide) (by kernel_rfl) (C.mono (ins (X := [tb, lb]) (HG.ext (Ext.hid (Ext.reset _))) (by have := (GN.row l hlm').1; omega) (by simp; exact ⟨TP.lt, GN.lt⟩)) ?_)
  rintro v' s2 ⟨E2, l', hg2, hl2, ha2, hal, hac⟩
  refine ⟨E2.quiet, ?_⟩
  have E2 : Ext σ12 (σ12.merge s2) := E2.merge
  have hg2 : GRow (hid [tb, lb] (σ12.merge s2)) v' l' := hg2.same rfl fun _ => rfl
  have TP := TP.ext E2
  have GN := GN.ext E2
  have BX := BX.ext E2
  have BR := BR.ext E2
  have hE := hE.trans (ExtX.of E2)
  generalize σ12.merge s2 = σ13 at TP GN BX BR hE hg2
  apply Lg_pre 1
  · intro callf
    simp +decide only [List.take, aQ, memb, List.any_nil, List.any_cons, Bool.or_false, Bool.true_and, reset_low, ble_self, aWanted, ↓bite_eq, ↓reduceIte, aStep_eq, aStepOld, aOp, opIndexAddr, aev, ann, aPut, rget_rput, Nat.zero_add, idx28g (show i < L0.length by omega), Nat.zero_add]
    rfl
  dsimp only [List.drop, List.take, List.length]
  have e0 : Ext σ13 (σ13.merge σ13.reset) := (Ext.refl _).merge
  have TP := TP.ext e0
  have GN := GN.ext e0
  have BX := BX.ext e0
  have BR := BR.ext e0
  have hE := hE.trans (ExtX.of e0)
  have hg2 := hg2.ext (Ext.hid e0)
  generalize σ13.merge σ13.reset = σ14 at e0 TP GN BX BR hE hg2
  have hmx : ∀ x ∈ l', 0 ≤ x.2 ∧ x.2 < (L.length : Int) := fun x hx => by
    rcases ha2 x hx with rfl | h9
    · exact ⟨by show (0 : Int) ≤ ((i + 1 : Nat) : Int); omega, by show ((i + 1 : Nat) : Int) < _; omega⟩
    · exact (GN.row l hlm').2 x h9
  have hll := (GN.row l hlm').1
  obtain ⟨rows, hr1, hr2, hr3, hr4⟩ := ((GN.ext (Ext.reset σ14)).up (m' := 400 + (i + 1)) (by omega)).set (i := i) (hg2.ext (Ext.hid (Ext.reset _))) (by omega) hmx
  obtain ⟨vb2, vc2, hv2⟩ := hg2.slice
  refine Lg_store (b := lb) (off := i) (v := v') (by simp +decide only [aev, rget_rput, if_true, if_false]) (by simp +decide only [aev, rget_rput, if_true, if_false]) (store22 hv2 hr1 (by omega)) (fun y hy => by rw [AS.get_put, if_neg (fun e => hy e.symm)]; rfl) (by kernel_rfl) (by kernel_rfl) (by kernel_rfl) ?_
  have EM : ExtX [tb, lb] σ14 (σ14.merge (σ14.reset.put lb ⟨1, 22, 0, rows.set i v', []⟩)) := hr4.merge
  have TP : Tape tb (σ14.merge (σ14.reset.put lb ⟨1, 22, 0, rows.set i v', []⟩)) (k + 1000 + i + 1) := ((TP.ext (Ext.reset σ14)).put (B := ⟨1, 22, 0, rows.set i v', []⟩) GN.ne (GN.ext (Ext.reset σ14)).ints).same rfl fun _ => rfl
  have GN : Gen tb lb (σ14.merge (σ14.reset.put lb ⟨1, 22, 0, rows.set i v', []⟩)) (L.set i l') (400 + (i + 1)) := hr3.same rfl fun _ => rfl
  have BX := BX.extX EM (by simp; omega)
  have BR := BR.extX EM (by simp; omega)
  have EY := EY.trans ((hE.sub (by simp)).trans EM)
  generalize σ14.merge (σ14.reset.put lb ⟨1, 22, 0, rows.set i v', []⟩) = σ15 at TP GN BX BR EY
  show W _ _ _ 34 _ _ _ _
  refine W_skip ⟨fun _ => ?_, fun h => absurd rfl h⟩
  refine W_tail ?_
  repeat apply W_assoc
  apply W_reg
  · intro callf
    simp +decide only [aOps, aWanted, ↓bite_eq, ↓reduceIte, aStep_eq, aStepOld, aOp, opBin, aev, ann, aPut, rget_rput, h6, w1, aBin, aInts, aInt_eq]
    rfl
  refine W_skip ⟨fun _ => ⟨(i + 1, L.set i l'), ?_, ?_⟩, fun h => (nomatch h), fun h => absurd rfl h⟩
  · show 100 - (i + 1) < 100 - i
    omega
  · refine ⟨by show i + 1 ≤ 100; omega, by show (L.set i l').length = _; rw [List.length_set]; exact hL, ?_, ?_, ?_, ?_, TP, GN, BX, BR, EY, hGd.set hlm' ha2 hac hev, hCh.set (by omega) hal rfl⟩
    all_goals simp +decide only [rget_rput, if_true, if_false, h0, h4, h5]

end Go.Proofs.Ytbknckiapcafdaa.Nest
