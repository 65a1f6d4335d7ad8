/- Law 18: Eval at a function of a chain is a known call; the table with it. -/
import Derived.Test.YtacpdefmnijhnaaGreatVM
import Derived.Test.YtacpdefmnijhnaaGreatVLA
import Derived.Test.YtacpdefmnijhnaaGreatVLB
import Derived.Test.YtacpdefmnijhnaaGreatVLC
import Derived.Test.YtacpdefmnijhnaaGreatVLD
set_option linter.unusedSimpArgs false
set_option linter.unusedVariables false
namespace Go.Proofs.YtacpdefmnijhnaaGreat.U18
open Abs U

theorem to_all (d i : Nat) (h : i < 32) : evTo d i = true := by
  rcases Nat.lt_or_ge i 14 with h1 | h1
  · exact toAll0 d i (Nat.zero_le _) h1
  · rcases Nat.lt_or_ge i 21 with h2 | h2
    · exact toAll14 d i h1 h2
    · rcases Nat.lt_or_ge i 27 with h3 | h3
      · exact toAll21 d i h2 h3
      · exact toAll27 d i h3 h
theorem st_all (d i : Nat) (h : i < 32) : evRun i (d + (i + 1)) 54 1 stopS = true := by
  rcases Nat.lt_or_ge i 16 with h1 | h1
  · exact allBelow_at (f := fun i => evRun i (d + (i + 1)) 54 1 stopS) (n := 16) (stA d) h1
  · have := allBelow_at (f := fun i => evRun (16 + i) (d + (16 + i + 1)) 54 1 stopS) (n := 16) (stB d) (i := i - 16) (by omega)
    rw [show 16 + (i - 16) = i by omega] at this
    exact this

theorem ev_run {e : Option Nat} {k i : Nat} {o a : Int} (hi : i ≤ k) (h : i < 32) (he : match e with
  | none => o = 54 ∧ a = 1
  | some j => o = 7 ∧ a = ((j : Nat) : Int) ∧ j ≤ i + 1) : evRun i (k + 1) o a (strE e) = true := by
  cases e with
  | none =>
    obtain ⟨rfl, rfl⟩ := he
    have := st_all (k - i) i h
    rw [show k - i + (i + 1) = k + 1 by omega] at this
    exact this
  | some j =>
    obtain ⟨rfl, rfl, hj⟩ := he
    have := allBelow_at (f := fun j => evRun i (k - i + (i + 1)) 7 (j : Int) (cs j)) (n := i + 2) (to_all (k - i) i h) (i := j) (by omega)
    rw [show k - i + (i + 1) = k + 1 by omega] at this
    exact this

theorem ev_known : ∀ e xs σ G ρ w xs', okEv e xs σ → R G ρ σ w → LRel (VRel ρ) xs xs' → CallsAt Tryz.prog 46 xs' w (vEv e) := by
  rintro e xs σ G ρ w xs' ⟨bf, bn, be, k, bl, op, ar, i, pa, h, hg, hi, h32, rfl, he⟩ hR hx
  have hb : Tryz.f46.body = some bdyE := by kernel_rfl
  refine ⟨callFunc_run progOk Tryz.func46 hb _ _, ?_⟩
  refine (calls_of_M (n := 90) (σ := σ.reset) Tryz.func46 hb rfl hR.reset hx (Nat.le_of_ble_eq_true rfl)
    (Post := fun v' w' => v' = vEv e ∧ (∀ b, b < w.heap.size → w'.heap[b]? = w.heap[b]?) ∧ w.heap.size ≤ w'.heap.size ∧ w'.os = w.os ∧ w'.output = w.output) ?_).mono fun y w' ⟨v', he', hv', hp⟩ => ⟨by rw [he', hv'], hp⟩
  rw [bdyE_eq]
  refine (ahead2 progOk K1_ok (ρ0 := ρ) (σ0 := σ.reset) (w0 := w) (B := fun r s => r = regsF bf bn be pa σ.next (σ.next + 1) i (k + 1) ∧ Ext σ.reset s ∧ s.get σ.next = coreB bf bn be (k + 1) ∧ s.get (σ.next + 1) = intB i ∧ σ.next + 2 ≤ s.next) ?_).mono fun τ r s w1 ⟨h1, h2, h3, h4⟩ => by
    subst h1 h2 h3 h4
    exact ⟨Sim.refl hR.reset, ev_pre (σ := σ.reset) ⟨h.fs, h.ns, h.es, h.bs, h.lf, h.ln, h.le, h.lb, h.hk⟩ hg hi⟩
  refine M.change (S2 := fun τ r s w1 => R 0 τ s w1 ∧ r = regsF 0 1 2 4 5 6 i (k + 1) ∧ s = evalM i (k + 1) (op i) (ar i) ∧ ∀ τ2 s2 w2, Sim 0 τ s w1 τ2 s2 w2 → 5 ≤ s2.low → (∀ b, b < w.heap.size → w2.heap[b]? = w.heap[b]?) ∧ w.heap.size ≤ w2.heap.size ∧ w2.os = w.os ∧ w2.output = w.output) ?_ ?_
  · rintro τ r s w1 ⟨hsim, rfl, e1, g4, g5, n1⟩
    have hr : ∀ {σ' : AS}, Chn σ' bf bn be k bl op ar → Chn σ'.reset bf bn be k bl op ar := fun h => ⟨h.fs, h.ns, h.es, h.bs, h.lf, h.ln, h.le, h.lb, h.hk⟩
    obtain ⟨τc, k1, k2, k3⟩ := hsim.convR (e1.low _ (Nat.le_refl _) (Nat.le_refl _)) (ev_conv (σ := σ.reset) (pa := pa) (hr h) hi e1 g4 g5)
    exact ⟨τc, _, _, ⟨k1, rfl, rfl, k3⟩, fun tmps ht => RegOk.rel (ev_regs (σ := σ.reset) (bl := bl)) k2 ht⟩
  · refine M.run progOk KF_ok fun τ r s w1 ⟨k1, k2, k3, k4⟩ => ⟨k1, ?_⟩
    subst k2 k3
    have hrun := ev_run hi h32 he
    unfold evRun evOk at hrun
    split at hrun
    · rename_i x r2 s2 e2
      simp only [Bool.and_eq_true, Nat.beq_eq, Nat.ble_eq] at hrun
      obtain ⟨⟨⟨⟨rfl, v1⟩, v2⟩, v3⟩, hl⟩ := hrun
      have v1 := veq_eq 9 _ _ v1
      have v2 := veq_eq 9 _ _ v2
      have v3 := veq_eq 9 _ _ v3
      refine ⟨3000, 1, r2, s2, e2, fun τ' w' hs => ⟨Nat.le_refl _, hs.rel, [.string (strE e), .int .i64 1, .int .i64 0], ?_, fun v' hv' => ⟨?_, k4 τ' s2 w' hs hl⟩⟩⟩
      · show aResults Tryz.prog s2 r2 [.tmp 8, .tmp 9, .tmp 10] = _
        simp only [aResults, v1, v2, v3]
      · exact (vrel_flat (by rfl)).1 hv'
    · cases hrun

theorem fcl_inj {b b' : Nat} (h : fcl (sl1 b) = fcl (sl1 b')) : b = b' := by
  unfold fcl sl1 at h
  injection h with _ h
  injection h with _ h
  injection h with _ h
  injection h with _ h
  injection h with _ h
  injection h with h _
  injection h with h _ _
  injection h with h
  injection h

theorem okEv_one {e e' : Option Nat} {xs : List Value} {σ : AS} (h : okEv e xs σ) (h' : okEv e' xs σ) : vEv e' = vEv e := by
  obtain ⟨bf, bn, be, k, bl, op, ar, i, pa, h1, h2, h3, h4, rfl, h5⟩ := h
  obtain ⟨bf', bn', be', k', bl', op', ar', i', pa', g1, g2, g3, g4, e0, g5⟩ := h'
  unfold coreV slo at e0
  injection e0 with e1 e2
  injection e2 with e2 _
  injection e2 with _ e2
  injection e1 with e1
  injection e1 with e1
  injection e1 with e1 _
  injection e1 with e1 e3 _
  injection e1 with e1
  injection e1 with e1
  have ei : i = i' := by omega
  have ek : k = k' := by omega
  subst ei ek e1
  have hf : fcs k bl = fcs k bl' := by
    have := h1.fs.symm.trans g1.fs
    injection this
  have hb : bl i = bl' i := by
    have a1 := fcs_at (bl := bl) h3
    have a2 := fcs_at (bl := bl') h3
    rw [hf, a2] at a1
    exact (fcl_inj a1).symm
  have hc : codeB (op i) (ar i) = codeB (op' i) (ar' i) := by
    rw [← h1.bs i h3, ← g1.bs i h3, hb]
  unfold codeB at hc
  injection hc with _ _ _ hc _
  injection hc with c1 hc
  injection hc with c2 _
  injection c1 with _ c1
  injection c2 with _ c2
  cases e with
  | none => cases e' with
    | none => rfl
    | some j => exfalso; have := h5.1; have := g5.1; omega
  | some j => cases e' with
    | none => exfalso; have := h5.1; have := g5.1; omega
    | some j' =>
      have := h5.2.1
      have := g5.2.1
      have : j = j' := by omega
      rw [this]

/-- The table with Eval. -/
noncomputable def K2 : Tbl := K1.addP 46 okEv vEv
theorem K2_ok : KOk Tryz.prog K2 := KOk.addP K1_ok (fun e => by cases e <;> rfl) ev_known
theorem k2_46 {e : Option Nat} {xs : List Value} {σ : AS} (h : okEv e xs σ) : K2.ask 46 xs σ = some (vEv e, σ) := Tbl.addP_at h fun _ h' => okEv_one h h'
theorem k2_of {g : Nat} {xs : List Value} {σ : AS} {y : Option (Value × AS)} (hg : g ≠ 46) (h : K1.ask g xs σ = y) : K2.ask g xs σ = y := (Tbl.addP_not hg).trans h
end Go.Proofs.YtacpdefmnijhnaaGreat.U18
