/- Regions whose order is open, to the end; code; calls. -/
import Derived.Test.YtbknckiapcafdaaAbsK
import Derived.LoopN
import Derived.Scope
set_option linter.unusedSimpArgs false
set_option linter.unusedVariables false
namespace Go.Proofs.Ytbknckiapcafdaa.Abs

theorem countP_lt {α : Type} {p q : α → Bool} : ∀ {l : List α} {x : α}, (∀ y ∈ l, q y = true → p y = true) → x ∈ l → p x = true → q x = false → l.countP q < l.countP p
  | [], x, _, hx, _, _ => by cases hx
  | a :: l, x, h, hx, hp, hq => by
    rw [List.countP_cons, List.countP_cons]
    have mono : l.countP q ≤ l.countP p := List.countP_mono_left fun y hy => h y (by simp [hy])
    rcases List.mem_cons.1 hx with rfl | hx
    · rw [if_pos hp, if_neg (by rw [hq]; simp)]; omega
    · have ih := countP_lt (fun y hy => h y (by simp [hy])) hx hp hq
      by_cases ha : q a = true
      · rw [if_pos ha, if_pos (h a (by simp) ha)]; omega
      · rw [if_neg ha]; split <;> omega

section draw
variable {P : Program} {G : Nat} {callf : FuncId → List Value → AS → Option (Value × AS)} {n : Nat} {ops : Array Oper}
variable {ρ : Ren} {w0 : World} {rS : Nat → Regs} {sS : Nat → AS} {vS : Nat → Value} {Q : Exit → Act → World → Prop}

def Dn (listed : Array Bool) (k : Nat) : Prop := listed.getD k false = true

theorem Dn_set {listed : Array Bool} {k : Nat} (hk : k < listed.size) : Dn (listed.setIfInBounds k true) = fun x => Dn listed x ∨ x = k := by
  funext x
  unfold Dn
  apply propext
  simp only [Array.getD_eq_getD_getElem?, Array.getElem?_setIfInBounds]
  by_cases e : k = x
  · subst e; simp [hk]
  · simp [e, fun h => e (Eq.symm h)]
    intro h; exact absurd h.symm e

theorem DInv.finish (T : Run P G callf n ops rS sS vS) {D : Nat → Prop} {m : Nat} {π : Ren} {a : Act} {w : World} (I : DInv G n ops ρ w0 rS sS vS D m π a w) (hall : ∀ k, k < ops.size → D k)
    (hQ : ∀ τ a' w', RegsRel τ (rS ops.size) a'.tmps → a'.tmps.size = n → a'.defers = [] → Sim G ρ (sS 0) w0 τ (sS ops.size) w' → Q .normal a' w') : Q .normal a w := by
  have I := I.lift T I.mle (Nat.le_refl _) fun j h1 h2 => (T.blind h2 (I.above j h1 (hall j h2))).1
  refine hQ π a w (fun t => ?_) I.size I.defers I.sim
  by_cases h : ∃ (j : Nat) (o' : Oper), ops.toList[j]? = some o' ∧ o'.dst = some t
  · obtain ⟨j, o', hj, hd⟩ := h
    have hlt : j < ops.size := by have := (List.getElem?_eq_some_iff.1 hj).1; simpa using this
    rw [T.reg_writer hj hd hlt (Nat.le_refl _)]
    exact (I.done j o' t hj (hall j hlt) hd).ext (Ren.below_le π _)
  · have h' : ∀ (j : Nat) (o' : Oper), ops.toList[j]? = some o' → o'.dst ≠ some t := fun j o' hj hd => h ⟨j, o', hj, hd⟩
    rw [T.reg_rest (fun j o' _ => h' j o') (Nat.le_refl _)]
    exact (I.rest t fun j o' hj _ => h' j o' hj).ext (Ren.below_le π _)

theorem least {p : Nat → Prop} : ∀ {n : Nat}, (∃ k, k < n ∧ ¬ p k) → ∃ k, k < n ∧ ¬ p k ∧ ∀ j, j < k → p j
  | 0, ⟨k, hk, _⟩ => by omega
  | n + 1, ⟨k, hk, hp⟩ => by
    by_cases h : ∃ k, k < n ∧ ¬ p k
    · obtain ⟨x, h1, h2, h3⟩ := least h
      exact ⟨x, by omega, h2, h3⟩
    · refine ⟨k, hk, hp, fun j hj => ?_⟩
      by_cases hj' : p j
      · exact hj'
      · exact absurd ⟨j, by omega, hj'⟩ h

theorem draw_any (hc : CallSound P G callf) (hcm : CallMono callf) (T : Run P G callf n ops rS sS vS)
    (hQ : ∀ τ a' w', RegsRel τ (rS ops.size) a'.tmps → a'.tmps.size = n → a'.defers = [] → Sim G ρ (sS 0) w0 τ (sS ops.size) w' → Q .normal a' w') :
    ∀ (fuel : Nat) (listed : Array Bool) (m : Nat) (π : Ren) (a : Act) (w : World), listed.size = ops.size → (List.range ops.size).countP (fun k => !listed.getD k false) ≤ fuel →
      DInv G n ops ρ w0 rS sS vS (Dn listed) m π a w → wpAny P .any ops Q fuel listed a w := by
  have done_of_ready : ∀ listed : Array Bool, listed.size = ops.size → Region.ready .any ops listed = [] → ∀ k, k < ops.size → Dn listed k := by
    intro listed hsz hr k hk
    by_cases h : ∃ k, k < ops.size ∧ ¬ Dn listed k
    · exfalso
      obtain ⟨x, h1, h2, h3⟩ := least h
      obtain ⟨o, ho⟩ := op_at h1
      have hmem : x ∈ Region.ready .any ops listed := by
        rw [mem_ready]
        refine ⟨?_, o, by simpa using ho, fun e he hb => ?_⟩
        · have hx : x < listed.size := by omega
          unfold Dn at h2
          simp only [Array.getD_eq_getD_getElem?, Array.getElem?_eq_getElem hx, Option.getD_some] at h2 ⊢
          simpa using h2
        · exact h3 e.on (T.st.back x o ho e.on (bindsOn_mem.2 ⟨e, he, hb, rfl⟩))
      rw [hr] at hmem; cases hmem
    · by_cases hd : Dn listed k
      · exact hd
      · exact absurd ⟨k, hk, hd⟩ h
  intro fuel
  induction fuel with
  | zero =>
    intro listed m π a w hsz hcnt I
    have hall : ∀ k, k < ops.size → Dn listed k := fun k hk => by
      have h0 : (List.range ops.size).countP (fun k => !listed.getD k false) = 0 := Nat.le_zero.1 hcnt
      rw [List.countP_eq_zero] at h0
      have := h0 k (List.mem_range.2 hk)
      unfold Dn; simpa using this
    refine ⟨?_, I.finish T hall hQ⟩
    cases hr : Region.ready .any ops listed with
    | nil => rfl
    | cons x l =>
      exfalso
      have hx : x ∈ Region.ready .any ops listed := by rw [hr]; simp
      rw [mem_ready] at hx
      obtain ⟨h1, o, ho, _⟩ := hx
      have hlt : x < ops.size := (Array.getElem?_eq_some_iff.1 ho).1
      have h2 := hall x hlt
      unfold Dn at h2
      have hxl : x < listed.size := by omega
      simp only [Array.getD_eq_getD_getElem?, Array.getElem?_eq_getElem hxl, Option.getD_some] at h1 h2
      rw [h1] at h2; cases h2
  | succ fuel ih =>
    intro listed m π a w hsz hcnt I
    refine ⟨fun hr => I.finish T (done_of_ready listed hsz hr) hQ, fun k hk => ?_⟩
    rw [mem_ready] at hk
    obtain ⟨h1, o, ho', hr⟩ := hk
    have hlt : k < ops.size := (Array.getElem?_eq_some_iff.1 ho').1
    have hkl : k < listed.size := by omega
    have ho : ops.toList[k]? = some o := by simpa using ho'
    have hnd : ¬ Dn listed k := by
      unfold Dn
      simp only [Array.getD_eq_getD_getElem?, Array.getElem?_eq_getElem hkl, Option.getD_some] at h1 ⊢
      rw [h1]; simp
    have hready : ∀ e ∈ bindsOn o, Dn listed e := fun e he => by
      obtain ⟨x, hx1, hx2, rfl⟩ := bindsOn_mem.1 he
      exact hr x hx1 hx2
    have hcnt' : (List.range ops.size).countP (fun j => !(listed.setIfInBounds k true).getD j false) ≤ fuel := by
      have : (List.range ops.size).countP (fun j => !(listed.setIfInBounds k true).getD j false) < (List.range ops.size).countP (fun j => !listed.getD j false) := by
        refine countP_lt (x := k) (fun j _ hj => ?_) (List.mem_range.2 hlt) (by unfold Dn at hnd; simpa using hnd) ?_
        · have h2 : ¬ Dn (listed.setIfInBounds k true) j := by unfold Dn; simpa using hj
          rw [Dn_set hkl] at h2
          have h3 : ¬ Dn listed j := fun h => h2 (.inl h)
          unfold Dn at h3; simpa using h3
        · have h2 : Dn (listed.setIfInBounds k true) k := by rw [Dn_set hkl]; exact .inr rfl
          unfold Dn at h2; simp only [h2, Bool.not_true]
      omega
    have A := T.at_ k o ho
    have hdst : ∀ d, o.dst = some d → d < n := fun d hd => by
      have hp := A.put
      rw [hd] at hp
      simp only [aPut] at hp
      split at hp
      · rename_i h; simpa [Nat.blt_eq] using h
      · cases hp
    -- go on with what the step leaves
    have go : ∀ m' π' a' w', DInv G n ops ρ w0 rS sS vS (fun x => Dn listed x ∨ x = k) m' π' a' w' → wpAny P .any ops Q fuel (listed.setIfInBounds k true) a' w' := fun m' π' a' w' I' =>
      ih _ m' π' a' w' (by simpa using hsz) hcnt' (by rw [Dn_set hkl]; exact I')
    have hks := Nat.le_of_lt hlt
    -- the registers
    have hwt : aWanted ops (rS k) o = Region.wanted o (yielded ops a.tmps) := aWanted_eq (ρ := π.below (sS k).next) fun j b t hg hd => by
      refine I.reg T ho hnd hready ?_
      unfold Oper.looksAt
      rw [hg]
      simp [hd]
    have hopsR : ∀ {υ : Ren}, (π.below (sS k).next).le υ → (∀ g, g < G → υ.bl g = some g) → OpRel G υ (rS k) a o.op.operands := fun {υ} hle hgl x hx v hv => by
      cases x with
      | tmp t =>
        cases hv
        refine (I.reg T ho hnd hready ?_).ext hle
        unfold Oper.looksAt
        rw [List.mem_append]
        exact .inl (List.mem_filterMap.2 ⟨.tmp t, hx, rfl⟩)
      | const c =>
        simp only [aev] at hv
        split at hv
        · rename_i hf; cases hv; exact (vrel_flat hf).2 rfl
        · cases hv
      | global g =>
        simp only [aev] at hv
        split at hv
        · rename_i hg; cases hv; exact vrel_ptr.2 ⟨g, hgl g hg, rfl, rfl⟩
        · cases hv
      | func f => cases hv; exact vrel_func.2 ⟨[], [], trivial, trivial, rfl⟩
    unfold wpOp
    rw [ho']
    simp only []
    rw [← hwt]
    have hglob : ∀ g, g < G → (π.below (sS k).next).bl g = some g := fun g hg =>
      below_iff.2 ⟨Nat.lt_of_lt_of_le hg (Nat.le_trans I.sim.base.globN (T.next_le (Nat.zero_le _) hks)), I.sim.rel.glob g hg⟩
    by_cases hblk : blindAt ops k = true
    · -- it looks at registers alone
      have hbo : opBlind o.op = true := by
        unfold blindAt at hblk
        rw [ho'] at hblk; exact hblk
      obtain ⟨_, hnx⟩ := T.blind hlt hblk
      cases hw : aWanted ops (rS k) o with
      | true =>
        rw [if_pos rfl]
        obtain ⟨s1, hs1, hs2, hs3⟩ := A.yes hw
        obtain ⟨_, v', h2, h3⟩ := blind_sound (π := π.below (sS k).next) hbo hs1 (hopsR (Ren.le_refl _) hglob) w
        refine .inl ?_
        unfold Oper.wp
        rw [h2, Oper.upon_value]
        exact go m π _ w (I.stepR T ho hblk hready h3 hnx hdst)
      | false =>
        rw [if_neg (by simp)]
        exact go m π _ w (I.stepR T ho hblk hready (by rw [(A.no hw).1]; exact vrel_undef) hnx hdst)
    by_cases hbk : Bn sS k
    · -- nothing that lay before is changed
      have hbetween : ∀ j, k ≤ j → j < m → Bn sS j := fun j h2 h3 => by
        by_cases e : j = k
        · rw [e]; exact hbk
        · by_cases hd : Dn listed j
          · rcases T.bn_or hcm (k := j) (by have := I.mle; omega) with hb | hb
            · exact hb
            · exfalso
              have := bar_spec hb hlt (fun e2 => e e2.symm) hblk
              rw [if_pos (by omega)] at this
              obtain ⟨oj, hoj⟩ := op_at (ops := ops) (k := j) (by have := I.mle; omega)
              exact hnd (I.pred hoj (I.closed j oj hoj hd) this)
          · exact I.below j h3 hd
      have hI : ∃ m', k < m' ∧ DInv G n ops ρ w0 rS sS vS (Dn listed) m' π a w ∧ ∀ j, k ≤ j → j < m' → Bn sS j := by
        rcases Nat.lt_or_ge k m with h | h
        · exact ⟨m, h, I, hbetween⟩
        · refine ⟨k + 1, Nat.lt_succ_self _, I.lift T (by omega) hlt fun j h2 h3 => ?_, fun j h2 h3 => ?_⟩
          · by_cases e : j = k
            · rw [e]; exact hbk
            · rcases T.bn_or hcm (k := j) (by omega) with hb | hb
              · exact hb
              · have := bar_spec hb hlt (fun e2 => e e2.symm) hblk
                rw [if_neg (by omega)] at this
                exact (T.blind (by omega) (I.above j h2 (I.pred ho hready this))).1
          · have : j = k := by omega
            rw [this]; exact hbk
      obtain ⟨m', hkm, I', hbn⟩ := hI
      have hRk : R G (π.below (sS k).next) (sS k) w := by
        refine I'.sim.rel.below (Nat.le_trans I'.sim.base.globN (T.next_le (Nat.zero_le _) hks)) (fun x hx => T.keeps (Nat.le_of_lt hkm) I'.mle hbn x hx) ?_
        exact I'.known k (Nat.le_of_lt hkm) hbn
      have hRr : R G (π.below (sS k).next) (sS k).reset w := ⟨hRk.blk, hRk.inj, hRk.glob, hRk.globN⟩
      cases hw : aWanted ops (rS k) o with
      | true =>
        rw [if_pos rfl]
        obtain ⟨s1, hs1, hs2, hs3⟩ := A.yes hw
        refine .inl (aStep_wp hc hs1 hRr (hopsR (Ren.le_refl _) hglob) fun v' τ w' hv hsim => ?_)
        obtain ⟨π', I2⟩ := I'.stepB T ho hkm hnd hready hbn hsim hv (by rw [hs3]; rfl) (fun x => by rw [hs3]; rfl) hdst
        exact go m' π' _ w' I2
      | false =>
        rw [if_neg (by simp)]
        obtain ⟨e1, e2⟩ := A.no hw
        obtain ⟨π', I2⟩ := I'.stepB T ho hkm hnd hready hbn (Sim.refl hRr) (v' := undef) (by rw [e1]; exact vrel_undef) (by rw [e2]; rfl) (fun x => by rw [e2]; rfl) hdst
        exact go m' π' _ w I2
    · -- it changes what lay before it: it stands alone
      have hbar := (T.bn_or hcm hlt).resolve_left hbk
      have hall : ∀ j, j < k → Dn listed j ∨ (blindAt ops j = true ∧ Bn sS j ∧ (sS (j + 1)).next = (sS j).next) := fun j hj => by
        by_cases hbj : blindAt ops j = true
        · exact .inr ⟨hbj, T.blind (by omega) hbj⟩
        · have := bar_spec hbar (j := j) (by omega) (by omega) hbj
          rw [if_pos hj] at this
          exact .inl (I.pred ho hready this)
      have hmk : m ≤ k := by
        rcases Nat.lt_or_ge k m with h | h
        · exact absurd (I.below k h hnd) hbk
        · exact h
      have I := I.lift T hmk hks fun j h1 h2 => by
        rcases hall j h2 with h | h
        · exact (T.blind (by omega) (I.above j h1 h)).1
        · exact h.2.1
      have hRk := I.sim.rel
      have hRr : R G π (sS k).reset w := ⟨hRk.blk, hRk.inj, hRk.glob, hRk.globN⟩
      cases hw : aWanted ops (rS k) o with
      | true =>
        rw [if_pos rfl]
        obtain ⟨s1, hs1, hs2, hs3⟩ := A.yes hw
        refine .inl (aStep_wp hc hs1 hRr (hopsR (Ren.below_le π _) hRk.glob) fun v' τ w' hv hsim => ?_)
        exact go (k + 1) τ _ w' (I.stepN T ho hall hready hbk hsim hv (by rw [hs3]; rfl) (fun x => by rw [hs3]; rfl) hdst)
      | false =>
        exfalso
        exact hbk fun x _ => by rw [(A.no hw).2]

/-- A region whose order is open. -/
theorem aDraw_wp (hm : P.follows .mixedOrders = true) (hc : CallSound P G callf) (hcm : CallMono callf) {id : Nat} {r r' : Regs} {σ σ' : AS} {w : World} {a : Act} (h : aDraw P G callf n ops r σ = some (r', σ'))
    (hR : R G ρ σ w) (hr : RegsRel ρ r a.tmps) (hn : a.tmps.size = n) (hd : a.defers = [])
    (hQ : ∀ τ a' w', RegsRel τ r' a'.tmps → a'.tmps.size = n → a'.defers = [] → Sim G ρ σ w τ σ' w' → Q .normal a' w') : (Code.region id ops true).wp P Q a w := by
  unfold aDraw at h
  split at h
  · rename_i hst
    obtain ⟨rS, sS, vS, e1, e2, e3, e4, hat⟩ := aDrawGo_trace _ _ _ _ h (fun i => by simp)
    have T : Run P G callf n ops rS sS vS := Run.of hcm (Static.of hst) fun k o ho => hat k o (Nat.zero_le _) ho
    simp only [Nat.zero_add, Array.length_toList] at e3 e4
    have hR' : R G ρ σ ({ w with drawn := w.drawn + 1 } : World) := R.of_heap (w := w) rfl hR
    refine wp_region_any hm (draw_any (ρ := ρ) (w0 := { w with drawn := w.drawn + 1 }) hc hcm T ?_ ops.size _ 0 ρ a _ (by simp) ?_ ?_)
    · intro τ a' w' h1 h2 h3 h4
      rw [e2, e4] at h4
      rw [e3] at h1
      exact hQ τ a' w' h1 h2 h3 (Sim.of_heap0 (w := w) (w0 := { w with drawn := w.drawn + 1 }) rfl ⟨rfl, rfl⟩ h4)
    · refine Nat.le_trans List.countP_le_length (by simp)
    · have hnone : ∀ k, ¬ Dn (Array.replicate ops.size false) k := fun k h => by
        unfold Dn at h
        simp only [Array.getD_eq_getD_getElem?, Array.getElem?_replicate] at h
        split at h <;> simp at h
      exact {
        mle := Nat.zero_le _
        closed := fun k o ho hd => absurd hd (hnone k)
        above := fun k _ hd => absurd hd (hnone k)
        below := fun k hk => by omega
        sim := by rw [e2]; exact Sim.refl hR'
        gap := fun i b hi k hk => by omega
        size := hn
        defers := hd
        rest := fun t _ => by
          rw [e1, e2]
          exact (hr t).ext (le_below fun i b hi => (hR.blk i b hi).1)
        done := fun k o t ho hd => absurd hd (hnone k)
        known := fun k hk _ i b hi => by
          obtain rfl : k = 0 := by omega
          obtain ⟨h1, h2⟩ := below_iff.1 hi
          rw [e2]
          obtain ⟨_, o', _, h5⟩ := hR.blk i b h2
          exact h5.sc.ext (by rw [e2] at *; exact le_below fun i b hi => (hR.blk i b hi).1) }
  · cases h

theorem aDrawGo_mono (hcm : CallMono callf) {pb : List Nat} {N : Nat} : ∀ (l : List Oper) (k : Nat) (r : Regs) (σ : AS) {r' : Regs} {σ' : AS}, aDrawGo P G callf n ops pb N l k r σ = some (r', σ') → AMono σ σ'
  | [], k, r, σ, r', σ', h => by cases h; exact AMono.refl _
  | o :: l, k, r, σ, r', σ', h => by
    simp only [aDrawGo] at h
    split at h
    · split at h
      · rename_i v s1 hst
        split at h
        · split at h
          · exact (merge_mono (aStep_mono hcm hst)).trans (aDrawGo_mono hcm l _ _ _ h)
          · cases h
        · cases h
      · cases h
    · split at h
      · exact aDrawGo_mono hcm l _ _ _ h
      · cases h

theorem aDraw_mono (hcm : CallMono callf) {r r' : Regs} {σ σ' : AS} (h : aDraw P G callf n ops r σ = some (r', σ')) : AMono σ σ' := by
  unfold aDraw at h
  split at h
  · exact aDrawGo_mono hcm _ _ _ _ h
  · cases h

end draw
end Go.Proofs.Ytbknckiapcafdaa.Abs
