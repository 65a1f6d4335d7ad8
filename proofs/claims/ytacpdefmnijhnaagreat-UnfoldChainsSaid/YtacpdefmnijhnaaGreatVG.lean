/- Law 18: known calls of the checker of cores at a chain. -/
import Derived.Test.YtacpdefmnijhnaaGreatVF
set_option linter.unusedSimpArgs false
set_option linter.unusedVariables false
namespace Go.Proofs.YtacpdefmnijhnaaGreat.U18
open Abs U

/-! ### checker.function -/

noncomputable def ask302 (xs : List Value) (σ : AS) : Option Value := match xs with
  | [.agg cs, .int .i64 (.ofNat j)] => (match cs.toList with
    | [.slice (some a) len cap, .slice p1 l1 c1, .slice p2 l2 c2, .slice p3 l3 c3, .slice p4 l4 c4] =>
      if Nat.beq a.off 0 && a.spot.isNone && Nat.blt j len && Nat.blt a.block σ.next then (match aCells σ ⟨a.block, j * 6, none⟩ 6 with
        | some [.string s, .int .i64 x, .bool pr, .int .i64 pl, .int .i64 pc, .slice q l c] => some (.tuple #[.agg #[.string s, .int .i64 x, .bool pr, .int .i64 pl, .int .i64 pc, .slice q l c], .bool true])
        | _ => none)
      else none
    | _ => none)
  | _ => none

theorem ask302_some {xs : List Value} {σ : AS} {v : Value} (h : ask302 xs σ = some v) : ∃ b len cap j p1 l1 c1 p2 l2 c2 p3 l3 c3 p4 l4 c4 s x pr pl pc q l c,
    xs = [.agg #[.slice (some ⟨b, 0, none⟩) len cap, .slice p1 l1 c1, .slice p2 l2 c2, .slice p3 l3 c3, .slice p4 l4 c4], .int .i64 ((j : Nat) : Int)] ∧ j < len ∧ b < σ.next ∧
    aCells σ ⟨b, j * 6, none⟩ 6 = some [.string s, .int .i64 x, .bool pr, .int .i64 pl, .int .i64 pc, .slice q l c] ∧ v = .tuple #[.agg #[.string s, .int .i64 x, .bool pr, .int .i64 pl, .int .i64 pc, .slice q l c], .bool true] := by
  unfold ask302 at h
  split at h
  · rename_i cs j
    split at h
    · rename_i a len cap p1 l1 c1 p2 l2 c2 p3 l3 c3 p4 l4 c4 hcs
      split at h
      · rename_i hc
        simp only [Bool.and_eq_true, Nat.beq_eq, Nat.blt_eq, Option.isNone_iff_eq_none] at hc
        obtain ⟨⟨⟨h1, h2⟩, h3⟩, h4⟩ := hc
        obtain ⟨b, off, spot⟩ := a
        dsimp only at h1 h2 h4 h
        subst h1 h2
        split at h
        · rename_i s x pr pl pc q l c hcl
          cases h
          exact ⟨b, len, cap, j, p1, l1, c1, p2, l2, c2, p3, l3, c3, p4, l4, c4, s, x, pr, pl, pc, q, l, c, by
            have e : cs = #[.slice (some ⟨b, 0, none⟩) len cap, .slice p1 l1 c1, .slice p2 l2 c2, .slice p3 l3 c3, .slice p4 l4 c4] := by
              cases cs; simp at hcs; rw [hcs]
            rw [e]; rfl, h3, h4, hcl, rfl⟩
        · cases h
      · cases h
    · cases h
  · cases h

noncomputable def KE : Tbl := KD.addC 302 ask302
theorem KE_ok : KOk Tryz.prog KE := by
  refine KOk.addC progOk KD_ok KD_ok (fun xs σ v h => ?_) (fun xs σ v G ρ w xs' h hR hx => ?_)
  · obtain ⟨b, len, cap, j, p1, l1, c1, p2, l2, c2, p3, l3, c3, p4, l4, c4, s, x, pr, pl, pc, q, l, c, rfl, h1, h2, h3, rfl⟩ := ask302_some h
    exact function_c (σ := σ.reset) h1 h2 h3
  · obtain ⟨b, len, cap, j, p1, l1, c1, p2, l2, c2, p3, l3, c3, p4, l4, c4, s, x, pr, pl, pc, q, l, c, rfl, h1, h2, h3, rfl⟩ := ask302_some h
    match xs', hx with
    | [y, z], ⟨hy, _⟩ =>
      obtain ⟨ys, hys, rfl⟩ := vrel_agg.1 hy
      match ys, hys with
      | y0 :: _, ⟨hy0, _⟩ =>
        obtain ⟨k, hk⟩ : ∃ k, ρ.bl b = some k := by
          rcases vrel_slice.1 hy0 with ⟨k, c', h1, _⟩ | ⟨h1, _⟩
          · exact ⟨k, h1⟩
          · exact absurd rfl h1
        obtain ⟨u, hu⟩ := hR.cellsSc (a := ⟨b, j * 6, none⟩) hk h3
        exact ⟨_, vrel_tuple.2 ⟨[u, .bool true], ⟨hu, vrel_bool.2 rfl, trivial⟩, rfl⟩⟩

/-! ### Known memories -/

noncomputable def memo0 (bs : List Blk) : AS := (lay0 bs ⟨0, 0, .e⟩).reset

/-- A block that holds nothing but six cells from place j * 6 on. -/
def cellsAt (j : Nat) (cs : List Value) : List Value := List.replicate (j * 6) (.chan none) ++ cs

theorem cellsAt_look {j n : Nat} {cs : List Value} {v : Value} (h : (cellsAt j cs)[n]? = some v) (hk : known v = true) : ∃ m, n = j * 6 + m ∧ cs[m]? = some v := by
  unfold cellsAt at h
  rcases Nat.lt_or_ge n (j * 6) with hlt | hge
  · rw [List.getElem?_append_left (by simpa using hlt), List.getElem?_replicate, if_pos hlt] at h
    cases h
    cases hk
  · rw [List.getElem?_append_right (by simpa using hge), List.length_replicate] at h
    exact ⟨n - j * 6, by omega, h⟩

/-! ### checker.expr -/

def placeB (op ar : Int) : Blk := ⟨1, 190, 0, [.int .i64 op, .int .i64 ar, .int .i64 0, .int .i64 0, .int .i64 1, .slice none 0 0], []⟩
def funcsP (j nm : Nat) : Blk := ⟨5, 47, 0, cellsAt j (fcl (sl1 nm)), []⟩
def exprArgs (L : Nat) : List Value := [.agg #[.slice (some ⟨0, 0, none⟩) L (OPENCAP + L), slo 2 4, .slice none 0 0, slo 3 4, sl1 4], .pointer (some ⟨1, 0, none⟩), .int .i64 0]
noncomputable def exprM (j : Nat) (op ar : Int) : AS := memo0 [funcsP j 5, placeB op ar, Blk.dead, Blk.dead, Blk.dead, Blk.dead]
theorem expr_proc (d : Nat) : allBelow (fun j => okM 6 (aCall Tryz.prog KE 0 300 145 (exprArgs (d + (j + 1))) (exprM j 7 (j : Int))) (.bool true)) 40 = true := by kernel_rfl
theorem expr_stop0 : okM 6 (aCall Tryz.prog KE 0 300 145 (exprArgs 1) (exprM 0 54 1)) (.bool true) = true := by kernel_rfl
theorem expr_stop1 (d : Nat) : okM 6 (aCall Tryz.prog KE 0 300 145 (exprArgs (d + 2)) (exprM 1 54 1)) (.bool true) = true := by kernel_rfl

/-- The pairs of names of the run. -/
def exprP (bf pb bn be b4 b5 : Nat) : Pairs := [(0, bf), (1, pb), (2, bn), (3, be), (4, b4), (5, b5)]
theorem exprP_at {bf pb bn be b4 b5 i j : Nat} (h : passoc (exprP bf pb bn be b4 b5) i = some j) : (i = 0 ∧ j = bf) ∨ (i = 1 ∧ j = pb) ∨ (i = 2 ∧ j = bn) ∨ (i = 3 ∧ j = be) ∨ (i = 4 ∧ j = b4) ∨ (i = 5 ∧ j = b5) := by
  unfold exprP at h
  simp only [passoc, bite_eq, Nat.beq_eq] at h
  repeat' split at h
  all_goals first
    | (cases h; omega)
    | cases h

theorem exprM_get (j : Nat) (op ar : Int) : (exprM j op ar).get 0 = funcsP j 5 ∧ (exprM j op ar).get 1 = placeB op ar ∧ ∀ i, 2 ≤ i → i < 6 → (exprM j op ar).get i = Blk.dead := by
  have h := (lay0_at [funcsP j 5, placeB op ar, Blk.dead, Blk.dead, Blk.dead, Blk.dead] ⟨0, 0, .e⟩).2.2.2
  have z : (⟨0, 0, .e⟩ : AS).next = 0 := rfl
  rw [z] at h
  refine ⟨h 0 _ rfl, h 1 _ rfl, fun i h1 h2 => ?_⟩
  match i, h1, h2 with
  | 2, _, _ => exact h 2 _ rfl
  | 3, _, _ => exact h 3 _ rfl
  | 4, _, _ => exact h 4 _ rfl
  | 5, _, _ => exact h 5 _ rfl

theorem expr_conv {σ : AS} {bf bn be k : Nat} {bl : Nat → Nat} {op ar : Nat → Int} (h : Chn σ bf bn be k bl op ar) {pb j b4 : Nat} {o a : Int} (hj : j ≤ k) (hp : σ.get pb = placeB o a) :
    ConvR 6 σ.reset σ.reset (exprP bf pb bn be b4 (bl j)) (exprM j o a) := by
  obtain ⟨g0, g1, g2⟩ := exprM_get j o a
  refine ⟨fun i x hi => ?_, fun i x hi hm => ?_, fun i l x hi hl ki kl => ?_, fun i x hi => ?_⟩
  · show i < 6
    rcases exprP_at hi with h | h | h | h | h | h <;> omega
  · rcases exprP_at hi with h | h | h | h | h | h <;> omega
  · have alive : ∀ i, i < 6 → ((exprM j o a).get i).kind ≠ 0 → i = 0 ∨ i = 1 := fun i hi hk => by
      rcases Nat.lt_or_ge i 2 with h2 | h2
      · omega
      · rw [g2 i h2 hi] at hk; exact absurd rfl hk
    have hne : bf ≠ pb := fun e => by
      have h1 := h.fs
      rw [e, hp] at h1
      have h2 : (190 : Nat) = 47 := congrArg Blk.elem h1
      exact absurd h2 (by decide)
    have hi' := alive i (by rcases exprP_at hi with h | h | h | h | h | h <;> omega) ki
    have hl' := alive l (by rcases exprP_at hl with h | h | h | h | h | h <;> omega) kl
    rcases exprP_at hi with h | h | h | h | h | h <;> rcases exprP_at hl with h' | h' | h' | h' | h' | h' <;> omega
  · rcases exprP_at hi with h' | h' | h' | h' | h' | h'
    · obtain ⟨rfl, rfl⟩ := h'
      right
      show Part _ _ (σ.get x)
      rw [g0, h.fs]
      refine ⟨rfl, .inr rfl, rfl, fun n v hv hk => ?_⟩
      obtain ⟨m, rfl, hm⟩ := cellsAt_look hv hk
      have hc := fcs_at (bl := bl) hj
      have hlt : m < 6 := (List.getElem?_eq_some_iff.1 hm).1
      have hu : (fcs k bl)[j * 6 + m]? = (fcl (sl1 (bl j)))[m]? := by
        rw [← hc, List.getElem?_take_of_lt hlt, List.getElem?_drop]
      show ∃ u, (fcs k bl)[j * 6 + m]? = some u ∧ _
      rw [hu]
      match m, hlt, hm with
      | 0, _, hm => exact ⟨_, rfl, by cases hm; rfl⟩
      | 1, _, hm => exact ⟨_, rfl, by cases hm; rfl⟩
      | 2, _, hm => exact ⟨_, rfl, by cases hm; rfl⟩
      | 3, _, hm => exact ⟨_, rfl, by cases hm; rfl⟩
      | 4, _, hm => exact ⟨_, rfl, by cases hm; rfl⟩
      | 5, _, hm => exact ⟨_, rfl, by cases hm; simp [sl1, vm, bto, bite_eq, onB, exprP, passoc]⟩
    · obtain ⟨rfl, rfl⟩ := h'
      left
      show bm 0 _ _ (σ.get x) = true ∧ _
      rw [g1, hp]
      refine ⟨?_, fun hk => by rcases hk with hk | hk <;> cases hk⟩
      simp [bm, placeB, veqL, vm, vmE, flat1, veq]
      rfl
    all_goals
      obtain ⟨rfl, rfl⟩ := h'
      left
      rw [g2 _ (by decide) (by decide)]
      exact ⟨rfl, fun hk => absurd hk (by decide)⟩

/-- A node that the checker takes as an expression of a chain of k + 1 functions. -/
def good (k : Nat) (o a : Int) : Prop := (o = 7 ∧ 0 ≤ a ∧ a ≤ (k : Int)) ∨ (o = 54 ∧ a = 1)
def okExpr (_ : Unit) (xs : List Value) (σ : AS) : Prop := ∃ bf bn be k bl op ar n pb, Chn σ bf bn be k bl op ar ∧ n ≤ k ∧ pb < σ.next ∧ good k (op n) (ar n) ∧ σ.get pb = placeB (op n) (ar n) ∧
  xs = [.agg #[slo bf (k + 1), slo bn 4, .slice none 0 0, slo be 4, sl1 (bl n)], .pointer (some ⟨pb, 0, none⟩), .int .i64 0]

theorem expr_known : ∀ i xs σ G ρ w xs', okExpr i xs σ → R G ρ σ w → LRel (VRel ρ) xs xs' → CallsAt Tryz.prog 145 xs' w (.bool true) := by
  rintro i xs σ G ρ w xs' ⟨bf, bn, be, k, bl, op, ar, n, pb, h, hn, hpb, hg, hp, rfl⟩ hR hx
  have hk := h.hk
  have args : ∀ b5, veqL (vm 0 (exprP bf pb bn be (bl n) b5) 9) (exprArgs (k + 1)) [.agg #[slo bf (k + 1), slo bn 4, .slice none 0 0, slo be 4, sl1 (bl n)], .pointer (some ⟨pb, 0, none⟩), .int .i64 0] = true := fun b5 => by
    simp [exprArgs, slo, sl1, veqL, vm, bto, bite_eq, onB, exprP, passoc, flat1, veq]
  rcases hg with ⟨h1, h2, h3⟩ | ⟨h1, h2⟩
  · obtain ⟨j, hj⟩ : ∃ j : Nat, ar n = (j : Int) := ⟨(ar n).toNat, by omega⟩
    have hjk : j ≤ k := by omega
    rw [h1, hj] at hp
    have run := allBelow_at (expr_proc (k - j)) (i := j) (by omega)
    rw [show k - j + (j + 1) = k + 1 by omega] at run
    exact callsAt_of_run progOk KE_ok run rfl (expr_conv (b4 := bl n) h hjk hp) (args _) hR hx
  · rw [h1, h2] at hp
    by_cases hk0 : k = 0
    · have run := expr_stop0
      refine callsAt_of_run progOk KE_ok run rfl (expr_conv (b4 := bl n) h (Nat.zero_le _) hp) ?_ hR hx
      have := args (bl 0)
      rw [hk0] at this ⊢
      exact this
    · have run := expr_stop1 (k - 1)
      rw [show k - 1 + 2 = k + 1 by omega] at run
      exact callsAt_of_run progOk KE_ok run rfl (expr_conv (b4 := bl n) h (j := 1) (by omega) hp) (args _) hR hx

end Go.Proofs.YtacpdefmnijhnaaGreat.U18
