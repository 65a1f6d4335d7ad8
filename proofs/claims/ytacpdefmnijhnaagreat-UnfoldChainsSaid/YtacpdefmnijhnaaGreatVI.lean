/- Law 18: the table of known calls, and what it answers. -/
import Derived.Test.YtacpdefmnijhnaaGreatVH
import Derived.Test.YtacpdefmnijhnaaGreatVW
set_option linter.unusedSimpArgs false
set_option linter.unusedVariables false
namespace Go.Proofs.YtacpdefmnijhnaaGreat.U18
open Abs U

section
variable {K : Tbl} {f g n : Nat} {xs : List Value} {σ : AS}
theorem memoF_not {ix : List Value → Nat} {e : Nat → Memo} (h : Nat.beq g f = false) : (K.memoF f n ix e).ask g xs σ = K.ask g xs σ := by
  show bite (Nat.beq g f) _ _ = _
  rw [h]; rfl
theorem memo_not {l : List Memo} (h : Nat.beq g f = false) : (K.memo f l).ask g xs σ = K.ask g xs σ := by
  show bite (Nat.beq g f) _ _ = _
  rw [h]; rfl
theorem fam1_not {e : Nat → Value × List Blk} (h : Nat.beq g f = false) : (K.fam1 f n e).ask g xs σ = K.ask g xs σ := by
  show bite (Nat.beq g f) _ _ = _
  rw [h]; rfl
theorem addC_not {a : List Value → AS → Option Value} (h : Nat.beq g f = false) : (K.addC f a).ask g xs σ = K.ask g xs σ := by
  show bite (Nat.beq g f) _ _ = _
  rw [h]; rfl
theorem memoF_at {ix : List Value → Nat} {e : Nat → Memo} {y : Value × AS} (h1 : ix xs < n) (h2 : veqL (veq 9) xs (e (ix xs)).1 = true) (h3 : moved (e (ix xs)).2.1 (e (ix xs)).2.2 σ = some y) : (K.memoF f n ix e).ask f xs σ = some y := by
  show bite (Nat.beq f f) (memoOr (famFind n ix e xs σ) _) _ = _
  rw [Nat.beq_refl]
  show memoOr (famFind n ix e xs σ) _ = _
  unfold famFind
  rw [h2, show Nat.blt (ix xs) n = true from by rw [Nat.blt_eq]; exact h1, h3]
  rfl
theorem memo_at {e : Memo} {y : Value × AS} (h2 : veqL (veq 9) xs e.1 = true) (h3 : moved e.2.1 e.2.2 σ = some y) : (K.memo f [e]).ask f xs σ = some y := by
  show bite (Nat.beq f f) (memoOr (memoFind [e] xs σ) _) _ = _
  rw [Nat.beq_refl]
  show memoOr (memoFind [e] xs σ) _ = _
  unfold memoFind
  rw [h2, h3]
  rfl
theorem memo_miss {e : Memo} (h2 : veqL (veq 9) xs e.1 = false) : (K.memo f [e]).ask g xs σ = K.ask g xs σ := by
  show bite (Nat.beq g f) (memoOr (memoFind [e] xs σ) _) _ = _
  rw [bite_eq]
  split
  · unfold memoFind
    rw [h2]
    rfl
  · rfl
end

noncomputable def s31 : Memo := ([.string stopS], .bool true, [])
noncomputable def s20 : Memo := ([.string stopS], .int .i64 1, [])
noncomputable def s45 : Memo := ([.string stopS], .tuple #[.int .i64 0, .slice none 0 0, .bool false], [])
noncomputable def s8 : Memo := ([.int .i64 0, .slice none 0 0], .string (cs 0), [])
noncomputable def s10 : Memo := ([.int .i64 1, .slice none 0 0], .string stopS, [])
noncomputable def s9 : Memo := ([], .bool true, [])
noncomputable def T0 : Tbl := ((((((((KD.memo 31 [s31]).memo 20 [s20]).memo 45 [s45]).memo 8 [s8]).memo 10 [s10]).memo 9 [s9]).memoF 31 33 ixS eB).memoF 20 33 ixS e20).memoF 45 33 ixS e45
theorem T0_ok : KOk Tryz.prog T0 := KOk.memoF (KOk.memoF (KOk.memoF (KOk.memoAll (l := [s9]) (KOk.memoAll (l := [s10]) (KOk.memoAll (l := [s8]) (KOk.memoAll (l := [s45]) (KOk.memoAll (l := [s20]) (KOk.memoAll (l := [s31]) KD_ok ⟨stop31, trivial⟩) ⟨stop20, trivial⟩) ⟨stop45, trivial⟩) ⟨head0, trivial⟩) ⟨stop0, trivial⟩) ⟨awake_knows, trivial⟩) f31) f20) f45

theorem chain_all (k : Nat) (h : k < 40) : chk k = true := by
  by_cases h1 : k < 28
  · exact chain0 k (Nat.zero_le _) h1
  · exact chain28 k (by omega) h

/-- The table without Eval. -/
noncomputable def K1 : Tbl := (((T0.fam1 7 40 fam).addC 89 ask89).addP 145 okExpr (fun _ => .bool true)).addP 142 okDsc (fun _ => .bool true)
theorem K1_ok : KOk Tryz.prog K1 := by
  refine KOk.addP (KOk.addP (KOk.addC progOk KD_ok (KOk.fam1 (fuel := 3000) progOk KDot_ok T0_ok fun k h => chain_all k h) (fun xs σ v h => ?_) (fun xs σ v G ρ w xs' h hR hx => ?_)) (fun _ => rfl) expr_known) (fun _ => rfl) dsc_known
  · unfold ask89 at h
    split at h
    · cases h
      exact C_run cf_run ⟨rfl, Ext.refl _⟩
    · cases h
  · unfold ask89 at h
    split at h
    · cases h
      exact ⟨.bool false, vrel_bool.2 rfl⟩
    · cases h

/-- Functions that the table does not know. -/
theorem k1_none {g : Nat} {xs : List Value} {σ : AS} (h : ([31, 20, 45, 8, 10, 9, 7, 89, 145, 142] : List Nat).all (fun f => !Nat.beq g f) = true) : K1.ask g xs σ = none := by
  simp only [List.all_cons, List.all_nil, Bool.and_true, Bool.and_eq_true, Bool.not_eq_true'] at h
  obtain ⟨a0, a1, a2, a3, a4, a5, a6, a7, a8, a9⟩ := h
  have ne : ∀ {f : Nat}, Nat.beq g f = false → g ≠ f := fun h e => by rw [e, Nat.beq_refl] at h; cases h
  show (Tbl.addP _ _ _ _).ask g xs σ = _
  rw [Tbl.addP_not (ne a9), Tbl.addP_not (ne a8), addC_not a7, fam1_not a6]
  unfold T0
  rw [memoF_not a2, memoF_not a1, memoF_not a0, memo_not a5, memo_not a4, memo_not a3, memo_not a2, memo_not a1, memo_not a0]
  rfl

theorem ixS_cs {i : Nat} (h : i < 33) : ixS [.string (cs i)] = i := by
  show (UInt8.ofNat i).toNat = i
  simp
  omega
theorem veq_self (xs : List Value) (h : xs.all (fun v => veq 9 v v) = true) : veqL (veq 9) xs xs = true := by
  induction xs with
  | nil => rfl
  | cons x l ih =>
    simp only [List.all_cons, Bool.and_eq_true] at h
    simp only [veqL, h.1, ih h.2, Bool.and_true]
theorem veq_str (s : ByteArray) : veqL (veq 9) [.string s] [.string s] = true := by simp [veqL, veq]

section
variable {σ : AS} {i : Nat}
theorem k1_31 (h : i < 33) : K1.ask 31 [.string (cs i)] σ = some (.bool true, σ) := by
  show (Tbl.addP _ _ _ _).ask _ _ σ = _
  rw [Tbl.addP_not (by decide), Tbl.addP_not (by decide), addC_not rfl, fam1_not rfl]
  unfold T0
  rw [memoF_not rfl, memoF_not rfl]
  exact memoF_at (by rw [ixS_cs h]; exact h) (by rw [ixS_cs h]; exact veq_str _) (by rw [ixS_cs h]; rfl)
theorem k1_20 (h : i < 33) : K1.ask 20 [.string (cs i)] σ = some (.int .i64 5, σ) := by
  show (Tbl.addP _ _ _ _).ask _ _ σ = _
  rw [Tbl.addP_not (by decide), Tbl.addP_not (by decide), addC_not rfl, fam1_not rfl]
  unfold T0
  rw [memoF_not rfl]
  exact memoF_at (by rw [ixS_cs h]; exact h) (by rw [ixS_cs h]; exact veq_str _) (by rw [ixS_cs h]; rfl)
theorem k1_45 (h : i < 33) : K1.ask 45 [.string (cs i)] σ = some (.tuple #[.int .i64 (i : Int), .slice (some ⟨σ.next, 0, none⟩) 0 0, .bool true], σ.new ⟨1, 25, 0, [], []⟩) := by
  show (Tbl.addP _ _ _ _).ask _ _ σ = _
  rw [Tbl.addP_not (by decide), Tbl.addP_not (by decide), addC_not rfl, fam1_not rfl]
  unfold T0
  refine memoF_at (by rw [ixS_cs h]; exact h) (by rw [ixS_cs h]; exact veq_str _) ?_
  rw [ixS_cs h]
  unfold moved
  simp [e45, shV, shL, layB, shB, isCells, Nat.zero_add]
theorem ix_stop : ixS [.string stopS] = 99 := rfl
theorem famMiss {K : Tbl} {f n : Nat} {e : Nat → Memo} {xs : List Value} (h : ixS xs = 99) (hn : n < 99) {g : Nat} : (K.memoF f n ixS e).ask g xs σ = K.ask g xs σ := by
  show bite (Nat.beq g f) (memoOr (famFind n ixS e xs σ) _) _ = _
  rw [bite_eq]
  split
  · unfold famFind
    rw [h, show Nat.blt 99 n = false from by
      cases hb : Nat.blt 99 n with
      | false => rfl
      | true => rw [Nat.blt_eq] at hb; omega]
    rfl
  · rfl
theorem k1_31s : K1.ask 31 [.string stopS] σ = some (.bool true, σ) := by
  show (Tbl.addP _ _ _ _).ask _ _ σ = _
  rw [Tbl.addP_not (by decide), Tbl.addP_not (by decide), addC_not rfl, fam1_not rfl]
  unfold T0
  rw [memoF_not rfl, memoF_not rfl, famMiss rfl (by decide), memo_not rfl, memo_not rfl, memo_not rfl, memo_not rfl, memo_not rfl]
  exact memo_at (veq_str _) rfl
theorem k1_20s : K1.ask 20 [.string stopS] σ = some (.int .i64 1, σ) := by
  show (Tbl.addP _ _ _ _).ask _ _ σ = _
  rw [Tbl.addP_not (by decide), Tbl.addP_not (by decide), addC_not rfl, fam1_not rfl]
  unfold T0
  rw [memoF_not rfl, famMiss rfl (by decide), memoF_not rfl, memo_not rfl, memo_not rfl, memo_not rfl, memo_not rfl]
  exact memo_at (veq_str _) rfl
theorem k1_45s : K1.ask 45 [.string stopS] σ = some (.tuple #[.int .i64 0, .slice none 0 0, .bool false], σ) := by
  show (Tbl.addP _ _ _ _).ask _ _ σ = _
  rw [Tbl.addP_not (by decide), Tbl.addP_not (by decide), addC_not rfl, fam1_not rfl]
  unfold T0
  rw [famMiss rfl (by decide), memoF_not rfl, memoF_not rfl, memo_not rfl, memo_not rfl, memo_not rfl]
  exact memo_at (veq_str _) rfl
theorem k1_8 : K1.ask 8 [.int .i64 0, .slice none 0 0] σ = some (.string (cs 0), σ) := by
  show (Tbl.addP _ _ _ _).ask _ _ σ = _
  rw [Tbl.addP_not (by decide), Tbl.addP_not (by decide), addC_not rfl, fam1_not rfl]
  unfold T0
  rw [memoF_not rfl, memoF_not rfl, memoF_not rfl, memo_not rfl, memo_not rfl]
  exact memo_at rfl rfl
theorem k1_10 : K1.ask 10 [.int .i64 1, .slice none 0 0] σ = some (.string stopS, σ) := by
  show (Tbl.addP _ _ _ _).ask _ _ σ = _
  rw [Tbl.addP_not (by decide), Tbl.addP_not (by decide), addC_not rfl, fam1_not rfl]
  unfold T0
  rw [memoF_not rfl, memoF_not rfl, memoF_not rfl, memo_not rfl]
  exact memo_at rfl rfl
theorem k1_9 : K1.ask 9 [] σ = some (.bool true, σ) := by
  show (Tbl.addP _ _ _ _).ask _ _ σ = _
  rw [Tbl.addP_not (by decide), Tbl.addP_not (by decide), addC_not rfl, fam1_not rfl]
  unfold T0
  rw [memoF_not rfl, memoF_not rfl, memoF_not rfl]
  exact memo_at rfl rfl
theorem k1_89 {p : Option Addr} {c f : Nat} {x y : Array Value} : K1.ask 89 [.slice p 0 c, .func (.func f) x y] σ = some (.bool false, σ) := by
  show (Tbl.addP _ _ _ _).ask _ _ σ = _
  rw [Tbl.addP_not (by decide), Tbl.addP_not (by decide)]
  rfl
theorem k1_145 {xs : List Value} (h : okExpr () xs σ) : K1.ask 145 xs σ = some (.bool true, σ) := by
  show (Tbl.addP _ _ _ _).ask _ _ σ = _
  rw [Tbl.addP_not (by decide)]
  exact Tbl.addP_at h fun _ _ => rfl
theorem k1_142 {xs : List Value} (h : okDsc () xs σ) : K1.ask 142 xs σ = some (.bool true, σ) := by
  show (Tbl.addP _ _ _ _).ask _ _ σ = _
  exact Tbl.addP_at h fun _ _ => rfl
theorem k1_7 {k b : Nat} (hk : k < 40) (hb : b < σ.next) {op ar : Int} (hc : σ.get b = codeB op ar) : ∃ σ', K1.ask 7 [.int .i64 (k : Int), sl1 b] σ = some (coreV σ.next (σ.next + 1) (σ.next + 2) k, σ') ∧ Ext σ σ' ∧ σ'.low = σ.low ∧
    Chn σ' σ.next (σ.next + 1) (σ.next + 2) k (blN b σ.next k) (fun i => if i = k then op else 7) (fun i => if i = k then ar else ((i + 1 : Nat) : Int)) := by
  obtain ⟨σ', h1, h2, h3, h4⟩ := chain_moved hk hb hc
  refine ⟨σ', ?_, h2, h3, h4⟩
  show (Tbl.addP _ _ _ _).ask _ _ σ = _
  rw [Tbl.addP_not (by decide), Tbl.addP_not (by decide), addC_not rfl]
  show Abs.fam1 40 fam [.int .i64 (k : Int), sl1 b] σ = _
  unfold Abs.fam1 sl1
  dsimp only
  rw [if_pos ⟨by omega, by rw [Int.toNat_natCast]; exact hk, rfl, rfl, rfl, rfl⟩, Int.toNat_natCast]
  exact h1
end

end Go.Proofs.YtacpdefmnijhnaaGreat.U18
