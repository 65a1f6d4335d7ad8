/- Rules for walking code in the evaluator, fuel apart. No program. -/
import Derived.Test.YtacpdefmnijhnaaGreatAbsM
set_option linter.unusedSimpArgs false
set_option linter.unusedVariables false
namespace Go.Proofs.YtacpdefmnijhnaaGreat.Abs

/-! ### More fuel answers the same -/

def CLe (f g : FuncId → List Value → AS → Option (Value × AS)) : Prop := ∀ fn args σ x, f fn args σ = some x → g fn args σ = some x

section more
variable {P : Program} {K : Tbl} {G n : Nat} {f g : FuncId → List Value → AS → Option (Value × AS)} {ops : Array Oper} {pb sj : List Nat} {N : Nat}

theorem aStep_more (h : CLe f g) {r : Regs} {σ : AS} {o : Op} {x : Value × AS} (hx : aStep P G f r σ o = some x) : aStep P G g r σ o = some x := by
  rw [aStep_eq] at hx ⊢
  cases o
  case call c =>
    obtain ⟨callee, args, ts⟩ := c
    cases callee with
    | value y =>
      simp only [aStepOld, opEnter] at hx ⊢
      split at hx
      · split at hx
        · rename_i hvs
          try simp only [hvs]
          exact h _ _ _ _ hx
        · cases hx
      · cases hx
    | builtin b => exact hx
    | invoke y m => exact hx
  all_goals exact hx

theorem aOps_more (h : CLe f g) : ∀ (l : List Oper) (r : Regs) (σ : AS) {x : Regs × AS}, aOps P G f n ops l r σ = some x → aOps P G g n ops l r σ = some x
  | [], r, σ, x, hx => hx
  | o :: l, r, σ, x, hx => by
    simp only [aOps, bite_eq] at hx ⊢
    split at hx
    · rename_i hw
      rw [if_pos hw]
      split at hx
      · rename_i v σ1 hs
        rw [aStep_more h hs]
        dsimp only
        split at hx
        · rename_i r1 hp
          try rw [hp]
          exact aOps_more h l r1 σ1 hx
        · cases hx
      · cases hx
    · rename_i hw
      rw [if_neg hw]
      split at hx
      · rename_i r1 hp
        try rw [hp]
        exact aOps_more h l r1 σ hx
      · cases hx

theorem still_call {r : Regs} {σ : AS} {o : Op} (ho : opStill o = true) : aStep P G f r σ o = aStep P G g r σ o := by
  cases o <;> first | rfl | cases ho

theorem steadyOne_call {L : List Ent} {σ : AS} {j : Nat} : steadyOne P G f ops pb N sj L σ j = steadyOne P G g ops pb N sj L σ j := by
  unfold steadyOne
  split
  · rename_i e o _ _
    cases ho : opStill o.op with
    | false => rfl
    | true =>
      have : ∀ r s, aStep P G f r s o.op = aStep P G g r s o.op := fun r s => still_call ho
      simp only [this]
  · rfl

theorem drawOk_call {L : List Ent} {σ : AS} : drawOk P G f ops pb N sj L σ = drawOk P G g ops pb N sj L σ := by
  unfold drawOk
  congr 1
  refine List.all_congr rfl fun j => steadyOne_call

theorem aDrawGo_more (h : CLe f g) : ∀ (l : List Oper) (r : Regs) (σ : AS) (acc : List Ent) {x : Regs × AS}, aDrawGo P G f n ops pb N sj l r σ acc = some x → aDrawGo P G g n ops pb N sj l r σ acc = some x
  | [], r, σ, acc, x, hx => by
    simp only [aDrawGo] at hx ⊢
    rw [drawOk_call (g := f)]; exact hx
  | o :: l, r, σ, acc, x, hx => by
    simp only [aDrawGo, bite_eq] at hx ⊢
    split at hx
    · rename_i hw
      rw [if_pos hw]
      split at hx
      · rename_i v σ1 hs
        rw [aStep_more h hs]
        dsimp only
        split at hx
        · rename_i r1 hp
          try rw [hp]
          exact aDrawGo_more h l r1 _ _ hx
        · cases hx
      · cases hx
    · rename_i hw
      rw [if_neg hw]
      split at hx
      · rename_i r1 hp
        try rw [hp]
        exact aDrawGo_more h l r1 _ _ hx
      · cases hx

theorem aDraw_more (h : CLe f g) {r : Regs} {σ : AS} {x : Regs × AS} (hx : aDraw P G f n ops r σ = some x) : aDraw P G g n ops r σ = some x := by
  unfold aDraw at hx ⊢
  split at hx
  · rename_i hs
    rw [if_pos hs]
    exact aDrawGo_more h _ _ _ _ hx
  · cases hx

def CodeLe (a b : CodeF) : Prop := ∀ n c r σ x, a n c r σ = some x → b n c r σ = some x

theorem callRun_more {a b : CodeF} (h : CodeLe a b) : CLe (aCallRun P a) (aCallRun P b) := by
  intro fn args σ x hx
  unfold aCallRun at hx ⊢
  split at hx
  · split at hx
    · split at hx
      · rename_i hl
        split at hx
        · rename_i y r' σ' hc
          have hc' := h _ _ _ _ _ hc
          simp only [*, if_true]
        · cases hx
      · cases hx
    · cases hx
  · cases hx

theorem callPlain_more {a b : CodeF} (h : CodeLe a b) : CLe (aCallPlain P K a) (aCallPlain P K b) := by
  intro fn args σ x hx
  unfold aCallPlain at hx ⊢
  split at hx
  · exact hx
  · exact callRun_more h _ _ _ _ hx

theorem dOps_more (h : CLe f g) : ∀ (l : List Oper) (r : Regs) (σ : AS) (ds : List ADef) {x : Regs × AS × List ADef}, dOps P G f n ops l r σ ds = some x → dOps P G g n ops l r σ ds = some x
  | [], r, σ, ds, x, hx => hx
  | o :: l, r, σ, ds, x, hx => by
    unfold dOps at hx ⊢
    split at hx
    · rename_i hw
      rw [if_pos hw]
      split at hx
      · rename_i c hop
        split at hx
        · rename_i d hpush
          split at hx
          · rename_i r1 hput
            exact dOps_more h l _ _ _ hx
          · cases hx
        · cases hx
      · rename_i hno
        split at hx
        · rename_i v σ1 hs
          split at hx
          · rename_i r1 hput
            have hs' := aStep_more h hs
            rw [hs']
            dsimp only
            try rw [hput]
            exact dOps_more h l _ _ _ hx
          · cases hx
        · cases hx
    · rename_i hw
      rw [if_neg hw]
      split at hx
      · rename_i r1 hput
        exact dOps_more h l _ _ _ hx
      · cases hx

theorem dCode_more {a b : CodeF} (h : CLe f g) (hk : CodeLe a b) : ∀ (k n : Nat) (c : Code) (r : Regs) (σ : AS) (ds : List ADef) {x : Nat × Regs × AS × List ADef}, dCode P G f a k n c r σ ds = some x → dCode P G g b k n c r σ ds = some x
  | 0, n, c, r, σ, ds, x, hx => by cases hx
  | k + 1, n, c, r, σ, ds, x, hx => by
    unfold dCode at hx ⊢
    split at hx
    · rename_i hd
      rw [if_pos hd]
      split at hx
      · split at hx
        · rename_i h1
          rw [dCode_more h hk k _ _ _ _ _ h1]
          dsimp only
          split at hx
          · rename_i he
            rw [if_pos he]
            exact dCode_more h hk k _ _ _ _ _ hx
          · rename_i he
            rw [if_neg he]
            exact hx
        · cases hx
      · split at hx
        · rename_i hb
          exact dCode_more h hk k _ _ _ _ _ hx
        · cases hx
      · split at hx
        · rename_i h1
          rw [dCode_more h hk k _ _ _ _ _ h1]
          exact hx
        · cases hx
      · exact dCode_more h hk k _ _ _ _ _ hx
      · split at hx
        · rename_i h1
          rw [dOps_more h _ _ _ _ h1]
          exact hx
        · cases hx
      · cases hx
    · rename_i hd
      rw [if_neg hd]
      split at hx
      · rename_i h1
        rw [hk _ _ _ _ _ h1]
        exact hx
      · cases hx

theorem dRec_more {a b : CodeF} (h : CLe f g) (hk : CodeLe a b) {fn : FuncId} {args : List Value} {σ : AS} {x : AS} (hx : dRec P G f a fn args σ = some x) : dRec P G g b fn args σ = some x := by
  unfold dRec at hx ⊢
  split at hx
  · split at hx
    · split at hx
      · split at hx
        · rename_i hc
          split at hx
          · rename_i hput
            split at hx
            · rename_i h1
              split at hx
              · rename_i h2
                simp only [hc, if_true, aOps_more h _ _ _ h1, hk _ _ _ _ _ h2, hput]
                exact hx
              · cases hx
            · cases hx
          · cases hx
        · cases hx
      · cases hx
    · cases hx
  · cases hx

theorem dRun_more {a b : CodeF} (h : CLe f g) (hk : CodeLe a b) : ∀ (ds : List ADef) (σ : AS) {x : AS}, dRun P G f a ds σ = some x → dRun P G g b ds σ = some x
  | [], σ, x, hx => hx
  | d :: ds, σ, x, hx => by
    simp only [dRun, bite_eq] at hx ⊢
    split at hx
    · rename_i hi
      rw [if_pos hi]
      split at hx
      · rename_i h1
        rw [dRec_more h hk h1]
        exact dRun_more h hk ds _ hx
      · cases hx
    · rename_i hi
      rw [if_neg hi]
      split at hx
      · rename_i h1
        rw [callRun_more hk _ _ _ _ h1]
        exact dRun_more h hk ds _ hx
      · cases hx

theorem callBy_more {a b : CodeF} (h : CodeLe a b) : CLe (aCallBy P K G a) (aCallBy P K G b) := by
  intro fn args σ x hx
  unfold aCallBy at hx ⊢
  split at hx
  · exact hx
  rw [bite_eq] at hx ⊢
  split at hx
  · rename_i hd
    rw [if_pos hd]
    unfold aDefRun at hx ⊢
    split at hx
    · split at hx
      · split at hx
        · rename_i hl
          split at hx
          · rename_i y r' σ' ds hc
            split at hx
            · rename_i hy
              split at hx
              · rename_i σ2 h2
                have hc' := dCode_more (callPlain_more (K := K) h) h _ _ _ _ _ _ hc
                have h2' := dRun_more (callPlain_more (K := K) h) h _ _ h2
                simp only [*, if_true]
              · cases hx
            · cases hx
          · cases hx
        · cases hx
      · cases hx
    · cases hx
  · rename_i hd
    rw [if_neg hd]
    exact callRun_more h _ _ _ _ hx

theorem cStep_more {a b : CodeF} (h : CodeLe a b) : CodeLe (cStep P K G a) (cStep P K G b) := by
  intro n c r σ x hx
  have seqs : ∀ (c d : Code) {x}, cSeq a n d (a n c r σ) = some x → cSeq b n d (b n c r σ) = some x := fun c d x hx => by
    cases hc : a n c r σ with
    | none => rw [hc] at hx; cases hx
    | some y =>
      obtain ⟨e, r1, σ1⟩ := y
      rw [hc] at hx
      rw [h _ _ _ _ _ hc]
      simp only [cSeq] at hx ⊢
      split at hx
      · rename_i he
        rw [if_pos he]; exact h _ _ _ _ _ hx
      · rename_i he
        rw [if_neg he]; exact hx
  cases c <;> simp only [cStep] at hx ⊢
  case seq c d => exact seqs c d hx
  case loop c => exact seqs c (.loop c) hx
  case cond v c d =>
    unfold cCond at hx ⊢
    split at hx
    · exact h _ _ _ _ _ hx
    · cases hx
  case block id c =>
    cases hc : a n c r σ with
    | none => rw [hc] at hx; cases hx
    | some y => rw [hc] at hx; rw [h _ _ _ _ _ hc]; exact hx
  case scope c => exact h _ _ _ _ _ hx
  case region id ops draw =>
    cases draw with
    | true =>
      dsimp only at hx ⊢
      cases hc : aDraw P G (aCallBy P K G a) n ops r σ with
      | none => rw [hc] at hx; cases hx
      | some y => rw [hc] at hx; rw [aDraw_more (callBy_more h) hc]; exact hx
    | false =>
      dsimp only at hx ⊢
      cases hc : aOps P G (aCallBy P K G a) n ops ops.toList r σ with
      | none => rw [hc] at hx; cases hx
      | some y => rw [hc] at hx; rw [aOps_more (callBy_more h) _ _ _ hc]; exact hx
  all_goals first | exact hx | cases hx

theorem aCode_more : ∀ fuel, CodeLe (aCode P K G fuel) (aCode P K G (fuel + 1))
  | 0 => fun n c r σ x hx => by simp [aCode] at hx
  | fuel + 1 => cStep_more (aCode_more fuel)

theorem aCode_le {m k : Nat} (hmk : m ≤ k) : CodeLe (aCode P K G m) (aCode P K G k) := by
  induction hmk with
  | refl => exact fun _ _ _ _ _ h => h
  | step _ ih => exact fun n c r σ x h => aCode_more _ n c r σ x (ih n c r σ x h)
end more

section
variable (P : Program) (K : Tbl) (G : Nat)

/-- The code comes to an end, of which Q holds. -/
def W (n : Nat) (c : Code) (r : Regs) (σ : AS) (Q : Nat → Regs → AS → Prop) : Prop :=
  ∃ x r' σ' N, (∀ fuel, N ≤ fuel → aCode P K G fuel n c r σ = some (x, r', σ')) ∧ Q x r' σ'
/-- A call. -/
def C (f : FuncId) (args : List Value) (σ : AS) (Q : Value → AS → Prop) : Prop :=
  ∃ v σ' N, (∀ fuel, N ≤ fuel → aCall P K G fuel f args σ = some (v, σ')) ∧ Q v σ'
/-- An operation. -/
def O (r : Regs) (σ : AS) (o : Op) (Q : Value → AS → Prop) : Prop :=
  ∃ v σ' N, (∀ fuel, N ≤ fuel → aStep P G (aCall P K G fuel) r σ o = some (v, σ')) ∧ Q v σ'
/-- Operations in the text's order. -/
def Ls (n : Nat) (ops : Array Oper) (l : List Oper) (r : Regs) (σ : AS) (Q : Regs → AS → Prop) : Prop :=
  ∃ r' σ' N, (∀ fuel, N ≤ fuel → aOps P G (aCall P K G fuel) n ops l r σ = some (r', σ')) ∧ Q r' σ'
/-- Operations of a region whose order is open, each of which changes nothing that lay before it. -/
def Lq (n : Nat) (ops : Array Oper) (sj : List Nat) (l : List Oper) (r : Regs) (σ : AS) (acc : List Ent) (Q : Regs → AS → Prop) : Prop :=
  ∃ r' σ' N, (∀ fuel, N ≤ fuel → aDrawGo P G (aCall P K G fuel) n ops (preds ops) ops.size sj l r σ acc = some (r', σ')) ∧ Q r' σ'
end

section
variable {P : Program} {K : Tbl} {G : Nat} {n : Nat} {r : Regs} {σ : AS} {Q : Nat → Regs → AS → Prop}

theorem W.mono {c : Code} {Q' : Nat → Regs → AS → Prop} (h : W P K G n c r σ Q) (hq : ∀ x r' σ', Q x r' σ' → Q' x r' σ') : W P K G n c r σ Q' := by
  obtain ⟨x, r', σ', N, h1, h2⟩ := h; exact ⟨x, r', σ', N, h1, hq _ _ _ h2⟩
theorem C.mono {f : FuncId} {args : List Value} {Q Q' : Value → AS → Prop} (h : C P K G f args σ Q) (hq : ∀ v σ', Q v σ' → Q' v σ') : C P K G f args σ Q' := by
  obtain ⟨v, σ', N, h1, h2⟩ := h; exact ⟨v, σ', N, h1, hq _ _ h2⟩

theorem W_at {c : Code} {x : Nat} {r' : Regs} {σ' : AS} (N : Nat) (h : ∀ fuel, N ≤ fuel → cStep P K G (aCode P K G fuel) n c r σ = some (x, r', σ')) (hq : Q x r' σ') : W P K G n c r σ Q :=
  ⟨x, r', σ', N + 1, fun fuel hf => by
    cases fuel with
    | zero => omega
    | succ fuel => exact h fuel (by omega), hq⟩

theorem W_skip (h : Q 0 r σ) : W P K G n .skip r σ Q := W_at 0 (fun _ _ => rfl) h
theorem W_label {l : Nat} (h : Q 0 r σ) : W P K G n (.label l) r σ Q := W_at 0 (fun _ _ => rfl) h
theorem W_exit {id : Nat} (h : Q (id + 2) r σ) : W P K G n (.exit id) r σ Q := W_at 0 (fun _ _ => rfl) h
theorem W_ret (h : Q 1 r σ) : W P K G n .ret r σ Q := W_at 0 (fun _ _ => rfl) h

theorem W_seq {c d : Code} (h : W P K G n c r σ fun e r' σ' => (e = 0 → W P K G n d r' σ' Q) ∧ (e ≠ 0 → Q e r' σ')) : W P K G n (.seq c d) r σ Q := by
  obtain ⟨x, r', σ', N, h1, h2, h3⟩ := h
  by_cases hx : x = 0
  · subst hx
    obtain ⟨y, r2, σ2, M, h4, h5⟩ := h2 rfl
    refine W_at (N + M) (fun fuel hf => ?_) h5
    simp only [cStep, h1 fuel (by omega), cSeq]
    exact h4 fuel (by omega)
  · refine W_at N (fun fuel hf => ?_) (h3 hx)
    simp only [cStep, h1 fuel hf, cSeq]
    rw [if_neg]
    intro h; exact hx (Nat.eq_of_beq_eq_true h)

theorem W_cond {x : Operand} {c d : Code} {b : Bool} (hb : aev G r x = some (.bool b)) (h : W P K G n (if b = true then c else d) r σ Q) : W P K G n (.cond x c d) r σ Q := by
  obtain ⟨y, r', σ', N, h1, h2⟩ := h
  refine W_at N (fun fuel hf => ?_) h2
  simp only [cStep, hb, cCond]
  exact h1 fuel hf

theorem W_block {id : Nat} {c : Code} (h : W P K G n c r σ fun e r' σ' => (e = id + 2 → Q 0 r' σ') ∧ (e ≠ id + 2 → Q e r' σ')) : W P K G n (.block id c) r σ Q := by
  obtain ⟨x, r', σ', N, h1, h2, h3⟩ := h
  by_cases hx : x = id + 2
  · refine W_at N (fun fuel hf => ?_) (h2 hx)
    simp only [cStep, h1 fuel hf, cBlock]
    rw [if_pos (by rw [hx]; exact Nat.beq_refl _)]
  · refine W_at N (fun fuel hf => ?_) (h3 hx)
    simp only [cStep, h1 fuel hf, cBlock]
    rw [if_neg]
    intro h; exact hx (Nat.eq_of_beq_eq_true h)

theorem W_scope {c : Code} (h : W P K G n c r σ Q) : W P K G n (.scope c) r σ Q := by
  obtain ⟨x, r', σ', N, h1, h2⟩ := h
  exact W_at N (fun fuel hf => h1 fuel hf) h2

theorem W_loop {α : Type} (inv : α → Regs → AS → Prop) (μ : α → Nat) {c : Code}
    (h : ∀ a r σ, inv a r σ → W P K G n c r σ fun e r' σ' => (e = 0 → ∃ a', μ a' < μ a ∧ inv a' r' σ') ∧ (e ≠ 0 → Q e r' σ')) :
    ∀ a r σ, inv a r σ → W P K G n (.loop c) r σ Q := by
  have key : ∀ m a r σ, μ a ≤ m → inv a r σ → W P K G n (.loop c) r σ Q := by
    intro m
    induction m with
    | zero =>
      intro a r σ hm hi
      obtain ⟨x, r', σ', N, h1, h2, h3⟩ := h a r σ hi
      by_cases hx : x = 0
      · obtain ⟨a', h4, _⟩ := h2 hx; omega
      · refine W_at N (fun fuel hf => ?_) (h3 hx)
        simp only [cStep, h1 fuel hf, cSeq]
        rw [if_neg]
        intro h; exact hx (Nat.eq_of_beq_eq_true h)
    | succ m ih =>
      intro a r σ hm hi
      obtain ⟨x, r', σ', N, h1, h2, h3⟩ := h a r σ hi
      by_cases hx : x = 0
      · subst hx
        obtain ⟨a', h4, h5⟩ := h2 rfl
        obtain ⟨y, r2, σ2, M, h6, h7⟩ := ih a' r' σ' (by omega) h5
        refine W_at (N + M) (fun fuel hf => ?_) h7
        simp only [cStep, h1 fuel (by omega), cSeq]
        exact h6 fuel (by omega)
      · refine W_at N (fun fuel hf => ?_) (h3 hx)
        simp only [cStep, h1 fuel hf, cSeq]
        rw [if_neg]
        intro h; exact hx (Nat.eq_of_beq_eq_true h)
  intro a r σ hi
  exact key (μ a) a r σ (Nat.le_refl _) hi

theorem W_region {id : Nat} {ops : Array Oper} (h : Ls P K G n ops ops.toList r σ (Q 0)) : W P K G n (.region id ops false) r σ Q := by
  obtain ⟨r', σ', N, h1, h2⟩ := h
  refine W_at N (fun fuel hf => ?_) h2
  have := h1 fuel hf
  simp only [cStep]
  unfold aCall at this
  rw [show (fun f args σ => aCallBy P K G (aCode P K G fuel) f args σ) = aCallBy P K G (aCode P K G fuel) from rfl] at this
  rw [this]; rfl

theorem W_draw {id : Nat} {ops : Array Oper} (hst : drawStatic ops (preds ops) = true) {sj : List Nat} (hsj : readers ops (preds ops) ops.size = sj) (h : Lq P K G n ops sj ops.toList r σ [] (Q 0)) : W P K G n (.region id ops true) r σ Q := by
  obtain ⟨r', σ', N, h1, h2⟩ := h
  refine W_at N (fun fuel hf => ?_) h2
  have := h1 fuel hf
  simp only [cStep]
  unfold aCall at this
  rw [show (fun f args σ => aCallBy P K G (aCode P K G fuel) f args σ) = aCallBy P K G (aCode P K G fuel) from rfl] at this
  unfold aDraw
  rw [if_pos hst, hsj, this]; rfl

theorem C_of {f : FuncId} {args : List Value} {fn : Func} {c : Code} {Q : Value → AS → Prop} (hk : K.ask f args σ = none) (hf : P.funcs[f]? = some fn) (hb : fn.body = some c) (hl : args.length ≤ fn.ntmps)
    (h : W P K G fn.ntmps c (rinit args 0 .e) σ fun x r' σ' => x ≤ 1 ∧ ∃ vs, aResults P σ' r' fn.results.toList = some vs ∧ Q (aResult vs) σ') (hdf : K.dfr f = false := by rfl) : C P K G f args σ Q := by
  obtain ⟨x, r', σ', N, h1, hx, vs, h2, h3⟩ := h
  refine ⟨aResult vs, σ', N, fun fuel hfu => ?_, h3⟩
  unfold aCall aCallBy
  simp only [hk, hdf, bite_eq, Bool.false_eq_true, if_false]
  unfold aCallRun
  simp only [hf, hb]
  rw [if_pos (by simpa [Nat.ble_eq] using hl), h1 fuel hfu]
  simp only [h2]
  rw [if_pos (by simpa [Nat.ble_eq] using hx)]

theorem C_known {f : FuncId} {args : List Value} {v : Value} {σ' : AS} {Q : Value → AS → Prop} (hk : K.ask f args σ = some (v, σ')) (h : Q v σ') : C P K G f args σ Q :=
  ⟨v, σ', 0, fun fuel _ => by unfold aCall aCallBy; simp only [hk], h⟩

section ops
variable {ops : Array Oper} {Q : Regs → AS → Prop} {l : List Oper} {o : Oper} {sj : List Nat} {acc : List Ent}

theorem Ls_nil (h : Q r σ) : Ls P K G n ops [] r σ Q := ⟨r, σ, 0, fun _ _ => rfl, h⟩

theorem Ls_cons (hw : aWanted ops r o = true) (h : O P K G r σ o.op fun v σ' => ∃ r', aPut n r o.dst v = some r' ∧ Ls P K G n ops l r' σ' Q) : Ls P K G n ops (o :: l) r σ Q := by
  obtain ⟨v, σ', N, h1, r', h2, r2, σ2, M, h3, h4⟩ := h
  refine ⟨r2, σ2, N + M, fun fuel hf => ?_, h4⟩
  simp only [aOps, bite_eq, hw, if_true, h1 fuel (by omega), h2]
  exact h3 fuel (by omega)

theorem Ls_not {r' : Regs} (hw : aWanted ops r o = false) (hp : aPut n r o.dst undef = some r') (h : Ls P K G n ops l r' σ Q) : Ls P K G n ops (o :: l) r σ Q := by
  obtain ⟨r2, σ2, M, h3, h4⟩ := h
  refine ⟨r2, σ2, M, fun fuel hf => ?_, h4⟩
  simp only [aOps, bite_eq, hw, hp]
  exact h3 fuel (by omega)

theorem Lq_nil (hsj : sj = []) (hq : acc.any (·.f) = false) (h : Q r σ) : Lq P K G n ops sj [] r σ acc Q := ⟨r, σ, 0, fun fuel _ => by
  have : acc.reverse.any (·.f) = false := by simpa using hq
  simp only [aDrawGo, drawOk, bite_eq, this, hsj]
  rfl, h⟩

theorem Lq_cons (hw : aWanted ops r o = true) (h : O P K G r σ.reset o.op fun v s1 => ∃ r', aPut n r o.dst v = some r' ∧ Lq P K G n ops sj l r' (σ.merge s1) (⟨σ, r, v, !Nat.ble σ.next s1.low⟩ :: acc) Q) : Lq P K G n ops sj (o :: l) r σ acc Q := by
  obtain ⟨v, s1, N, h1, r', h2, r2, σ2, M, h3, h4⟩ := h
  refine ⟨r2, σ2, N + M, fun fuel hf => ?_, h4⟩
  simp only [aDrawGo, bite_eq, hw, if_true, h1 fuel (by omega), h2]
  exact h3 fuel (by omega)

theorem Lq_not {r' : Regs} (hw : aWanted ops r o = false) (hp : aPut n r o.dst undef = some r') (h : Lq P K G n ops sj l r' σ (⟨σ, r, undef, false⟩ :: acc) Q) : Lq P K G n ops sj (o :: l) r σ acc Q := by
  obtain ⟨r2, σ2, M, h3, h4⟩ := h
  refine ⟨r2, σ2, M, fun fuel hf => ?_, h4⟩
  simp only [aDrawGo, bite_eq, hw, hp]
  exact h3 fuel (by omega)

end ops

section op
variable {Q : Value → AS → Prop}

theorem O_mem {o : Op} {v : Value} {σ' : AS} (h : ∀ callf, aStep P G callf r σ o = some (v, σ')) (hq : Q v σ') : O P K G r σ o Q := ⟨v, σ', 0, fun fuel _ => h _, hq⟩

theorem O_call {f : Operand} {args : Array Operand} {ts : Array TypeId} {fid : FuncId} {first captured : Array Value} {vs : List Value} (hf : aev G r f = some (.func (.func fid) first captured)) (hv : aevs G r args.toList = some vs)
    (h : C P K G fid (first.toList ++ vs ++ captured.toList) σ Q) : O P K G r σ (.call ⟨.value f, args, ts⟩) Q := by
  obtain ⟨v, σ', N, h1, h2⟩ := h
  refine ⟨v, σ', N, fun fuel hfu => ?_, h2⟩
  rw [aStep_eq]
  simp only [aStepOld, hf, opEnter, hv]
  exact h1 fuel hfu
end op


section code
variable {c d : Code} {id : Nat} {ops : Array Oper} {r' : Regs} {σ' : AS}

theorem W_run {x : Nat} {N : Nat} (h : aCode P K G N n c r σ = some (x, r', σ')) (hq : Q x r' σ') : W P K G n c r σ Q :=
  ⟨x, r', σ', N, fun _ hf => aCode_le hf n c r σ _ h, hq⟩

theorem W_tail (h : W P K G n (.seq c .skip) r σ Q) : W P K G n c r σ Q := by
  obtain ⟨x, r', σ', N, h1, h2⟩ := h
  have h3 := h1 (N + 2) (by omega)
  have e1 : aCode P K G (N + 2) n (.seq c .skip) r σ = cSeq (aCode P K G (N + 1)) n .skip (aCode P K G (N + 1) n c r σ) := rfl
  rw [e1] at h3
  cases hc : aCode P K G (N + 1) n c r σ with
  | none => rw [hc] at h3; cases h3
  | some y =>
    obtain ⟨e, r1, σ1⟩ := y
    rw [hc] at h3
    simp only [cSeq] at h3
    split at h3
    · rename_i he
      have he := Nat.eq_of_beq_eq_true he
      subst he
      have e2 : aCode P K G (N + 1) n .skip r1 σ1 = some (0, r1, σ1) := rfl
      rw [e2] at h3
      cases h3
      exact W_run hc h2
    · cases h3
      exact W_run hc h2

theorem W_assoc {e : Code} (h : W P K G n (.seq c (.seq d e)) r σ Q) : W P K G n (.seq (.seq c d) e) r σ Q := by
  obtain ⟨x, r', σ', N, h1, h2⟩ := h
  have h3 := h1 (N + 2) (by omega)
  refine W_run (N := N + 3) ?_ h2
  have e1 : aCode P K G (N + 2) n (.seq c (.seq d e)) r σ = cSeq (aCode P K G (N + 1)) n (.seq d e) (aCode P K G (N + 1) n c r σ) := rfl
  have e2 : aCode P K G (N + 3) n (.seq (.seq c d) e) r σ = cSeq (aCode P K G (N + 2)) n e (cSeq (aCode P K G (N + 1)) n d (aCode P K G (N + 1) n c r σ)) := rfl
  rw [e1] at h3
  rw [e2]
  cases hc : aCode P K G (N + 1) n c r σ with
  | none => rw [hc] at h3; cases h3
  | some y =>
    obtain ⟨a, r1, σ1⟩ := y
    rw [hc] at h3
    simp only [cSeq] at h3 ⊢
    by_cases ha : Nat.beq a 0 = true
    · rw [if_pos ha] at h3
      simp only [ha, if_true]
      have e3 : aCode P K G (N + 1) n (.seq d e) r1 σ1 = cSeq (aCode P K G N) n e (aCode P K G N n d r1 σ1) := rfl
      rw [e3] at h3
      cases hd : aCode P K G N n d r1 σ1 with
      | none => rw [hd] at h3; cases h3
      | some z =>
        obtain ⟨b, r2, σ2⟩ := z
        rw [hd] at h3
        rw [aCode_more N _ _ _ _ _ hd]
        simp only [cSeq] at h3 ⊢
        by_cases hb : Nat.beq b 0 = true
        · rw [if_pos hb] at h3 ⊢
          exact aCode_le (by omega) _ _ _ _ _ h3
        · rw [if_neg hb] at h3 ⊢
          exact h3
    · rw [if_neg ha] at h3
      simp only [ha]
      simp only [Bool.false_eq_true, if_false, ha]
      exact h3

theorem W_regL (h : Ls P K G n ops ops.toList r σ fun r' σ' => W P K G n d r' σ' Q) : W P K G n (.seq (.region id ops false) d) r σ Q :=
  W_seq (W_region (by
    obtain ⟨r', σ', N, h1, h2⟩ := h
    exact ⟨r', σ', N, h1, fun _ => h2, fun h => absurd rfl h⟩))

theorem W_reg (h : ∀ callf, aOps P G callf n ops ops.toList r σ = some (r', σ')) (hn : W P K G n d r' σ' Q) : W P K G n (.seq (.region id ops false) d) r σ Q :=
  W_regL ⟨r', σ', 0, fun _ _ => h _, hn⟩

theorem W_if {x : Operand} {e : Code} {b : Bool} (hb : aev G r x = some (.bool b)) (ht : b = true → W P K G n (.seq c e) r σ Q) (hf : b = false → W P K G n (.seq d e) r σ Q) : W P K G n (.seq (.cond x c d) e) r σ Q := by
  cases b with
  | true =>
    obtain ⟨x', r', σ', N, h1, h2⟩ := ht rfl
    refine W_run (N := N + 2) ?_ h2
    have h3 := h1 (N + 1) (by omega)
    have e1 : aCode P K G (N + 2) n (.seq (.cond x c d) e) r σ = cSeq (aCode P K G (N + 1)) n e (cCond (aCode P K G N) n c d r σ (aev G r x)) := rfl
    have e2 : aCode P K G (N + 1) n (.seq c e) r σ = cSeq (aCode P K G N) n e (aCode P K G N n c r σ) := rfl
    rw [e2] at h3
    rw [e1, hb]
    simp only [cCond, if_true]
    cases hc : aCode P K G N n c r σ with
    | none => rw [hc] at h3; cases h3
    | some y =>
      obtain ⟨a, r1, σ1⟩ := y
      rw [hc] at h3
      simp only [cSeq] at h3 ⊢
      by_cases ha : Nat.beq a 0 = true
      · rw [if_pos ha] at h3 ⊢; exact aCode_more _ _ _ _ _ _ h3
      · rw [if_neg ha] at h3 ⊢; exact h3
  | false =>
    obtain ⟨x', r', σ', N, h1, h2⟩ := hf rfl
    refine W_run (N := N + 2) ?_ h2
    have h3 := h1 (N + 1) (by omega)
    have e1 : aCode P K G (N + 2) n (.seq (.cond x c d) e) r σ = cSeq (aCode P K G (N + 1)) n e (cCond (aCode P K G N) n c d r σ (aev G r x)) := rfl
    have e2 : aCode P K G (N + 1) n (.seq d e) r σ = cSeq (aCode P K G N) n e (aCode P K G N n d r σ) := rfl
    rw [e2] at h3
    rw [e1, hb]
    simp only [cCond, Bool.false_eq_true, if_false]
    cases hc : aCode P K G N n d r σ with
    | none => rw [hc] at h3; cases h3
    | some y =>
      obtain ⟨a, r1, σ1⟩ := y
      rw [hc] at h3
      simp only [cSeq] at h3 ⊢
      by_cases ha : Nat.beq a 0 = true
      · rw [if_pos ha] at h3 ⊢; exact aCode_more _ _ _ _ _ _ h3
      · rw [if_neg ha] at h3 ⊢; exact h3

theorem W_skipq (h : W P K G n d r σ Q) : W P K G n (.seq .skip d) r σ Q := W_seq (W_skip ⟨fun _ => h, fun h => absurd rfl h⟩)
theorem W_labelq {l : Nat} (h : W P K G n d r σ Q) : W P K G n (.seq (.label l) d) r σ Q := W_seq (W_label ⟨fun _ => h, fun h => absurd rfl h⟩)
theorem W_retq (h : Q 1 r σ) : W P K G n (.seq .ret d) r σ Q := W_seq (W_ret ⟨fun h => (nomatch h), fun _ => h⟩)
theorem W_exitq (h : Q (id + 2) r σ) : W P K G n (.seq (.exit id) d) r σ Q := W_seq (W_exit ⟨fun h => (nomatch h), fun _ => h⟩)
theorem W_scopeq (h : W P K G n (.seq c d) r σ Q) : W P K G n (.seq (.scope c) d) r σ Q := by
  obtain ⟨x', r', σ', N, h1, h2⟩ := h
  refine W_run (N := N + 2) ?_ h2
  have h3 := h1 (N + 1) (by omega)
  have e1 : aCode P K G (N + 2) n (.seq (.scope c) d) r σ = cSeq (aCode P K G (N + 1)) n d (aCode P K G N n c r σ) := rfl
  have e2 : aCode P K G (N + 1) n (.seq c d) r σ = cSeq (aCode P K G N) n d (aCode P K G N n c r σ) := rfl
  rw [e2] at h3
  rw [e1]
  cases hc : aCode P K G N n c r σ with
  | none => rw [hc] at h3; cases h3
  | some y =>
    obtain ⟨a, r1, σ1⟩ := y
    rw [hc] at h3
    simp only [cSeq] at h3 ⊢
    by_cases ha : Nat.beq a 0 = true
    · rw [if_pos ha] at h3 ⊢; exact aCode_more _ _ _ _ _ _ h3
    · rw [if_neg ha] at h3 ⊢; exact h3

/-- A block: what leaves it, and what follows. -/
theorem W_blk (h : W P K G n c r σ fun e r' σ' => (e = 0 ∨ e = id + 2 → W P K G n d r' σ' Q) ∧ (e ≠ 0 → e ≠ id + 2 → Q e r' σ')) : W P K G n (.seq (.block id c) d) r σ Q :=
  W_seq (W_block (h.mono fun e r' σ' ⟨h1, h2⟩ => ⟨fun he => ⟨fun _ => h1 (.inr he), fun h => absurd rfl h⟩, fun he => ⟨fun h0 => h1 (.inl h0), fun h0 => h2 h0 he⟩⟩))

/-- A loop in a block, and what follows. -/
theorem W_for {α : Type} (inv : α → Regs → AS → Prop) (μ : α → Nat)
    (h : ∀ a r σ, inv a r σ → W P K G n c r σ fun e r' σ' => (e = 0 → ∃ a', μ a' < μ a ∧ inv a' r' σ') ∧ (e = id + 2 → W P K G n d r' σ' Q) ∧ (e ≠ 0 → e ≠ id + 2 → Q e r' σ'))
    (a : α) (h0 : inv a r σ) : W P K G n (.seq (.block id (.loop c)) d) r σ Q :=
  W_blk (W_loop (Q := fun e r' σ' => (e = 0 ∨ e = id + 2 → W P K G n d r' σ' Q) ∧ (e ≠ 0 → e ≠ id + 2 → Q e r' σ')) inv μ
    (fun a r σ hi => (h a r σ hi).mono fun e r' σ' ⟨h1, h2, h3⟩ => ⟨h1, fun he => ⟨fun h4 => h2 (h4.resolve_left he), h3⟩⟩) a r σ h0)

/-! ### Operations one after another -/

section lists
variable {Q : Regs → AS → Prop} {l : List Oper}

/-- The first k operations call nothing. -/
theorem Ls_pre (k : Nat) (h : ∀ callf, aOps P G callf n ops (l.take k) r σ = some (r', σ')) (hl : Ls P K G n ops (l.drop k) r' σ' Q) : Ls P K G n ops l r σ Q := by
  have app : ∀ (l1 l2 : List Oper) (callf) (r σ), aOps P G callf n ops (l1 ++ l2) r σ = (match aOps P G callf n ops l1 r σ with | some (r', σ') => aOps P G callf n ops l2 r' σ' | none => none) := by
    intro l1
    induction l1 with
    | nil => intro l2 callf r σ; rfl
    | cons o l1 ih =>
      intro l2 callf r σ
      simp only [List.cons_append, aOps, bite_eq]
      split
      · split
        · split
          · exact ih _ _ _ _
          · rfl
        · rfl
      · split
        · exact ih _ _ _ _
        · rfl
  obtain ⟨r2, σ2, N, h1, h2⟩ := hl
  refine ⟨r2, σ2, N, fun fuel hf => ?_, h2⟩
  rw [← List.take_append_drop k l, app, h]
  exact h1 fuel hf

theorem Ls_all (h : ∀ callf, aOps P G callf n ops l r σ = some (r', σ')) (hq : Q r' σ') : Ls P K G n ops l r σ Q := ⟨r', σ', 0, fun _ _ => h _, hq⟩

/-- A call of a function. -/
theorem Ls_call {d : Nat} {f : Operand} {args : Array Operand} {ts : Array TypeId} {ty : TypeId} {pos : String} {aft : Array Edge} {fid : FuncId} {first captured : Array Value} {vs : List Value}
    (hf : aev G r f = some (.func (.func fid) first captured)) (hv : aevs G r args.toList = some vs) (hd : d < n)
    (h : C P K G fid (first.toList ++ vs ++ captured.toList) σ fun v σ' => Ls P K G n ops l (rput r d v) σ' Q) : Ls P K G n ops (⟨some d, .call ⟨.value f, args, ts⟩, ty, pos, aft, none⟩ :: l) r σ Q :=
  Ls_cons rfl (O_call hf hv (h.mono fun v σ' h => ⟨_, by simp only [aPut, bite_eq]; rw [if_pos (by rw [Nat.blt_eq]; exact hd)], h⟩))

theorem Ls_fn {d : Nat} {args : Array Operand} {ts : Array TypeId} {ty : TypeId} {pos : String} {aft : Array Edge} {fid : FuncId} {vs : List Value} (hv : aevs G r args.toList = some vs) (hd : d < n)
    (h : C P K G fid vs σ fun v σ' => Ls P K G n ops l (rput r d v) σ' Q) : Ls P K G n ops (⟨some d, .call ⟨.value (.func fid), args, ts⟩, ty, pos, aft, none⟩ :: l) r σ Q :=
  Ls_call (first := #[]) (captured := #[]) rfl hv hd (by simpa using h)
end lists
end code

section draws
variable {ops : Array Oper} {sj X : List Nat} {Q : Regs → AS → Prop} {l : List Oper} {r' : Regs} {σ' : AS} {d : Code} {id : Nat}

/-- What is asked of a reader that stands unordered beside a call: its block is among X. -/
noncomputable def readOk (P : Program) (G : Nat) (X : List Nat) (r : Regs) (σ : AS) (o : Oper) (v : Value) : Bool :=
  vsc σ.next 9 v && veq 9 v v && (match fpOf P G r o.op with
    | some [] => true
    | some [x] => Nat.blt x σ.next && memb X x
    | _ => false)

/-- j makes a variable, k is a call before it. -/
noncomputable def newAt (ops : Array Oper) (k j : Nat) : Bool :=
  Nat.blt k j && (match ops[j]? with | some o => (match o.op with | .alloc _ => true | _ => false) | none => false) &&
  (match ops[k]? with | some o => (match o.op with | .call c => (match c.callee with | .value _ => true | _ => false) | _ => false) | none => false)

/-- k comes after all readers. -/
noncomputable def lastAt (ops : Array Oper) (sj : List Nat) (k : Nat) : Bool := sj.all fun j => isPred (preds ops) k j
/-- The first operation lays out a slice. -/
noncomputable def firstLit (ops : Array Oper) : Bool := match ops[0]? with | some o => (match o.op with | .buildSlice .. => true | _ => false) | none => false
/-- j is the first operation and lays out a slice, k is a call, and not all readers come before it. -/
noncomputable def earlyAt (ops : Array Oper) (sj : List Nat) (k j : Nat) : Bool :=
  Nat.beq j 0 && firstLit ops && (match ops[k]? with | some o => (match o.op with | .call c => (match c.callee with | .value _ => true | _ => false) | _ => false) | none => false) && !lastAt ops sj k
/-- There is no such pair. -/
noncomputable def lateOk (ops : Array Oper) (sj : List Nat) : Bool :=
  !firstLit ops || (List.range ops.size).all fun k => Nat.beq 0 k || isPred (preds ops) k 0 || !earlyAt ops sj k 0

/-- k is ordered against every other operation but those that look at registers alone, the readers, variables made behind a call, and a first slice. -/
noncomputable def barAt (P : Program) (ops : Array Oper) (sj : List Nat) (k : Nat) : Bool :=
  (List.range ops.size).all fun j => Nat.beq j k || isPred (preds ops) k j || isPred (preds ops) j k || stillAt P ops sj j || newAt ops k j || earlyAt ops sj k j

/-- Operations of a region whose order is open, each of which changes nothing that lay before it. -/
noncomputable def aQ (P : Program) (G : Nat) (callf : FuncId → List Value → AS → Option (Value × AS)) (n : Nat) (ops : Array Oper) (sj X : List Nat) : Nat → List Oper → Regs → AS → Option (Regs × AS)
  | _, [], r, σ => some (r, σ)
  | k, o :: l, r, σ => bite (aWanted ops r o)
      (match aStep P G callf r σ.reset o.op with
      | some (v, s1) => bite (Nat.ble σ.next s1.low && (!memb sj k || readOk P G X r σ o v)) (match aPut n r o.dst v with
          | some r' => aQ P G callf n ops sj X (k + 1) l r' (σ.merge s1)
          | none => none) none
      | none => none)
      (match aPut n r o.dst undef with
      | some r' => aQ P G callf n ops sj X (k + 1) l r' σ
      | none => none)

/-- What is asked of a step: it changes nothing that lay before it, or it stands as a bar and changes no block of X, or after all readers. -/
def StepOk (P : Program) (G : Nat) (ops : Array Oper) (sj X : List Nat) (k : Nat) (r : Regs) (σ : AS) (o : Oper) (v : Value) (s1 : AS) : Prop :=
  (σ.next ≤ s1.low ∨ (barAt P ops sj k = true ∧ ∀ x ∈ X, x < σ.next → s1.get x = σ.get x ∨ (lastAt ops sj k = true ∧ inTake (fpOf P G r o.op) x = true))) ∧
  (memb sj k = true → readOk P G X r σ o v = true)

/-- A run of such a region, from operation k on. -/
def Lg (P : Program) (K : Tbl) (G n : Nat) (ops : Array Oper) (sj X : List Nat) : Nat → List Oper → Regs → AS → (Regs → AS → Prop) → Prop
  | _, [], r, σ, Q => Q r σ
  | k, o :: l, r, σ, Q => (aWanted ops r o = true → O P K G r σ.reset o.op fun v s1 => StepOk P G ops sj X k r σ o v s1 ∧ ∃ r', aPut n r o.dst v = some r' ∧ Lg P K G n ops sj X (k + 1) l r' (σ.merge s1) Q) ∧
    (aWanted ops r o = false → ∃ r', aPut n r o.dst undef = some r' ∧ Lg P K G n ops sj X (k + 1) l r' σ Q)

theorem callf_mono {fuel : Nat} : CallMono (aCall P K G fuel) := callBy_mono (aCode_mono fuel)

/-- What such a run does at operation k, with fuel enough. -/
structure AtG (P : Program) (K : Tbl) (G n : Nat) (ops : Array Oper) (sj X : List Nat) (M : Nat) (rS : Nat → Regs) (sS : Nat → AS) (vS : Nat → Value) (fS : Nat → Bool) (k : Nat) (o : Oper) : Prop where
  yes : aWanted ops (rS k) o = true → ∃ s1, (∀ fuel, M ≤ fuel → aStep P G (aCall P K G fuel) (rS k) (sS k).reset o.op = some (vS k, s1)) ∧ fS k = (!Nat.ble (sS k).next s1.low) ∧ sS (k + 1) = (sS k).merge s1 ∧
    StepOk P G ops sj X k (rS k) (sS k) o (vS k) s1
  no : aWanted ops (rS k) o = false → vS k = undef ∧ sS (k + 1) = sS k ∧ fS k = false
  put : aPut n (rS k) o.dst (vS k) = some (rS (k + 1))

theorem AtG.up {M M' : Nat} {rS : Nat → Regs} {sS : Nat → AS} {vS : Nat → Value} {fS : Nat → Bool} {k : Nat} {o : Oper} (h : AtG P K G n ops sj X M rS sS vS fS k o) (hm : M ≤ M') : AtG P K G n ops sj X M' rS sS vS fS k o :=
  ⟨fun hw => by obtain ⟨s1, h1, h2⟩ := h.yes hw; exact ⟨s1, fun fuel hf => h1 fuel (Nat.le_trans hm hf), h2⟩, h.no, h.put⟩

theorem Lg_trace : ∀ (l : List Oper) (k0 : Nat) (r : Regs) (σ : AS), Lg P K G n ops sj X k0 l r σ Q → (∀ i, l[i]? = ops.toList[k0 + i]?) →
    ∃ rS sS vS fS M, rS k0 = r ∧ sS k0 = σ ∧ Q (rS (k0 + l.length)) (sS (k0 + l.length)) ∧ ∀ k o, k0 ≤ k → ops.toList[k]? = some o → AtG P K G n ops sj X M rS sS vS fS k o
  | [], k0, r, σ, h, hl => ⟨fun _ => r, fun _ => σ, fun _ => undef, fun _ => false, 0, rfl, rfl, h, fun k o hk ho => by
      exfalso
      have := hl (k - k0)
      rw [show k0 + (k - k0) = k by omega, ho] at this
      simp at this⟩
  | x :: l, k0, r, σ, h, hl => by
    have hx : ops.toList[k0]? = some x := by have := hl 0; simpa using this.symm
    have hl' : ∀ i, l[i]? = ops.toList[k0 + 1 + i]? := fun i => by
      have := hl (i + 1)
      simp only [List.getElem?_cons_succ] at this
      rw [this]; congr 1; omega
    have go : ∀ r1 σ1 v1 f1 M1, Lg P K G n ops sj X (k0 + 1) l r1 σ1 Q →
        (∀ rS sS vS fS, rS k0 = r → sS k0 = σ → vS k0 = v1 → fS k0 = f1 → rS (k0 + 1) = r1 → sS (k0 + 1) = σ1 → AtG P K G n ops sj X M1 rS sS vS fS k0 x) →
        ∃ rS sS vS fS M, rS k0 = r ∧ sS k0 = σ ∧ Q (rS (k0 + (x :: l).length)) (sS (k0 + (x :: l).length)) ∧ ∀ k o, k0 ≤ k → ops.toList[k]? = some o → AtG P K G n ops sj X M rS sS vS fS k o := by
      intro r1 σ1 v1 f1 M1 hgo hat
      obtain ⟨rS, sS, vS, fS, M, h1, h2, h3, h5⟩ := Lg_trace l (k0 + 1) r1 σ1 hgo hl'
      refine ⟨fun k => if k = k0 then r else rS k, fun k => if k = k0 then σ else sS k, fun k => if k = k0 then v1 else vS k, fun k => if k = k0 then f1 else fS k, max M M1, by simp, by simp, ?_, ?_⟩
      · have e : k0 + (x :: l).length = k0 + 1 + l.length := by simp; omega
        simp only [e, if_neg (show ¬ k0 + 1 + l.length = k0 by omega)]
        exact h3
      · intro k o hk ho
        by_cases e : k = k0
        · subst e
          obtain rfl : x = o := by rw [hx] at ho; exact Option.some.inj ho
          exact (hat _ _ _ _ (by simp) (by simp) (by simp) (by simp) (by simp [h1]) (by simp [h2])).up (Nat.le_max_right _ _)
        · obtain ⟨a1, a2, a3⟩ := (h5 k o (by omega) ho).up (Nat.le_max_left M M1)
          refine ⟨?_, ?_, ?_⟩
          · simp only [if_neg e, if_neg (show ¬ k + 1 = k0 by omega)]; exact a1
          · simp only [if_neg e, if_neg (show ¬ k + 1 = k0 by omega)]; exact a2
          · simp only [if_neg e, if_neg (show ¬ k + 1 = k0 by omega)]; exact a3
    cases hw : aWanted ops r x with
    | true =>
      obtain ⟨v, s1, N, h1, h2, r1, h3, h4⟩ := h.1 hw
      refine go r1 (σ.merge s1) v (!Nat.ble σ.next s1.low) N h4 fun rS sS vS fS e1 e2 e3 e6 e4 e5 => ⟨fun _ => ⟨s1, ?_, ?_, ?_, ?_⟩, fun hno => ?_, ?_⟩
      · rw [e1, e2, e3]; exact h1
      · rw [e6, e2]
      · rw [e5, e2]
      · rw [e1, e2, e3]; exact h2
      · rw [e1, hw] at hno; cases hno
      · rw [e1, e3, e4]; exact h3
    | false =>
      obtain ⟨r1, h3, h4⟩ := h.2 hw
      refine go r1 σ undef false 0 h4 fun rS sS vS fS e1 e2 e3 e6 e4 e5 => ⟨fun hy => ?_, fun _ => ⟨e3, by rw [e5, e2], e6⟩, ?_⟩
      · rw [e1, hw] at hy; cases hy
      · rw [e1, e3, e4]; exact h3

theorem trace_go {M fuel : Nat} {rS : Nat → Regs} {sS : Nat → AS} {vS : Nat → Value} {fS : Nat → Bool} (hf : M ≤ fuel) : ∀ (l : List Oper) (k0 : Nat) (acc : List Ent), (∀ i, l[i]? = ops.toList[k0 + i]?) →
    (∀ k o, k0 ≤ k → ops.toList[k]? = some o → AtG P K G n ops sj X M rS sS vS fS k o) →
    drawOk P G (aCall P K G fuel) ops (preds ops) ops.size sj (acc.reverse ++ (List.range l.length).map fun i => ⟨sS (k0 + i), rS (k0 + i), vS (k0 + i), fS (k0 + i)⟩) (sS (k0 + l.length)) = true →
    aDrawGo P G (aCall P K G fuel) n ops (preds ops) ops.size sj l (rS k0) (sS k0) acc = some (rS (k0 + l.length), sS (k0 + l.length))
  | [], k0, acc, hl, hat, hok => by
    simp only [aDrawGo, bite_eq]
    rw [if_pos (by simpa using hok)]
    rfl
  | x :: l, k0, acc, hl, hat, hok => by
    have hx : ops.toList[k0]? = some x := by have := hl 0; simpa using this.symm
    have hl' : ∀ i, l[i]? = ops.toList[k0 + 1 + i]? := fun i => by
      have := hl (i + 1)
      simp only [List.getElem?_cons_succ] at this
      rw [this]; congr 1; omega
    have A := hat k0 x (Nat.le_refl _) hx
    have e0 : k0 + (x :: l).length = k0 + 1 + l.length := by simp; omega
    have go := trace_go hf l (k0 + 1) (⟨sS k0, rS k0, vS k0, fS k0⟩ :: acc) hl' (fun k o hk ho => hat k o (by omega) ho) (by
      rw [← e0]
      have e : (acc.reverse ++ (List.range (x :: l).length).map fun i => (⟨sS (k0 + i), rS (k0 + i), vS (k0 + i), fS (k0 + i)⟩ : Ent))
          = (⟨sS k0, rS k0, vS k0, fS k0⟩ :: acc).reverse ++ (List.range l.length).map fun i => ⟨sS (k0 + 1 + i), rS (k0 + 1 + i), vS (k0 + 1 + i), fS (k0 + 1 + i)⟩ := by
        rw [List.length_cons, List.range_succ_eq_map, List.map_cons, List.map_map, List.reverse_cons, List.append_assoc, List.singleton_append]
        congr 2
        refine List.map_congr_left fun i _ => ?_
        have e1 : k0 + (i + 1) = k0 + 1 + i := by omega
        simp only [Function.comp_apply, Nat.succ_eq_add_one, e1]
      rw [← e]; exact hok)
    rw [e0, ← go]
    simp only [aDrawGo, bite_eq]
    cases hw : aWanted ops (rS k0) x with
    | true =>
      obtain ⟨s1, h1, h2, h3, _⟩ := A.yes hw
      rw [if_pos rfl, h1 fuel hf]
      dsimp only
      rw [A.put]
      dsimp only
      rw [h2, h3]
    | false =>
      obtain ⟨h1, h2, h3⟩ := A.no hw
      rw [if_neg (by simp)]
      have hp := A.put
      rw [h1] at hp
      rw [hp]
      dsimp only
      rw [h1, h2, h3]

theorem readers_mem {j : Nat} (h : j ∈ readers ops (preds ops) ops.size) : j < ops.size ∧ ∃ o, ops[j]? = some o ∧ opStill o.op = true := by
  unfold readers at h
  rw [List.mem_filter] at h
  obtain ⟨h1, h2⟩ := h
  rw [Bool.and_eq_true] at h2
  refine ⟨List.mem_range.1 h1, ?_⟩
  cases ho : ops[j]? with
  | none => rw [ho] at h2; cases h2.1
  | some o => rw [ho] at h2; exact ⟨o, rfl, h2.1⟩

theorem lit_next {callf : FuncId → List Value → AS → Option (Value × AS)} {t : TypeId} {len : Nat} {parts : Array (Nat × Operand)} {v : Value} {s1 : AS} (h : aStep P G callf r σ.reset (.buildSlice t len parts) = some (v, s1)) : s1.next ≤ σ.next + 1 := by
  simp only [aStep_eq, aStepOld, aOp, opBuildSlice] at h
  split at h
  · unfold aBuildSlice at h
    repeat' split at h
    all_goals first | (cases h; done) | skip
    all_goals (cases h; exact Nat.le_refl _)
  · cases h

theorem W_drw {Q : Nat → Regs → AS → Prop} (sj X : List Nat) (hst : drawStatic ops (preds ops) = true) (hsj : readers ops (preds ops) ops.size = sj) (h : Lg P K G n ops sj X 0 ops.toList r σ fun r' σ' => W P K G n d r' σ' Q)
    (hnew : lateOk ops sj = true ∨ σ.next ∈ X := by first | with_reducible exact .inr (List.Mem.head _) | exact .inl (by kernel_rfl)) :
    W P K G n (.seq (.region id ops true) d) r σ Q := by
  obtain ⟨rS, sS, vS, fS, M, e1, e2, hQ, hat⟩ := Lg_trace ops.toList 0 r σ h (fun i => by simp)
  simp only [Nat.zero_add, Array.length_toList] at hQ
  refine W_seq (W_draw hst hsj ⟨rS ops.size, sS ops.size, M, fun fuel hf => ?_, fun _ => hQ, fun h => absurd rfl h⟩)
  have hat : ∀ k o, ops.toList[k]? = some o → AtG P K G n ops sj X M rS sS vS fS k o := fun k o ho => hat k o (Nat.zero_le _) ho
  have key : drawOk P G (aCall P K G fuel) ops (preds ops) ops.size sj ((List.range ops.size).map fun i => ⟨sS i, rS i, vS i, fS i⟩) (sS ops.size) = true := by
    generalize hL : ((List.range ops.size).map fun i => (⟨sS i, rS i, vS i, fS i⟩ : Ent)) = L
    have hLk : ∀ m, m < ops.size → L[m]? = some ⟨sS m, rS m, vS m, fS m⟩ := fun m hm => by
      rw [← hL, List.getElem?_map, List.getElem?_range hm]; rfl
    have hN : ∀ m, m ≤ ops.size → stateAt L (sS ops.size) m = sS m := fun m hm => by
      unfold stateAt
      rcases Nat.lt_or_ge m ops.size with h | h
      · rw [hLk m h]
      · obtain rfl : m = ops.size := by omega
        rw [List.getElem?_eq_none (by rw [← hL]; simp)]
    have st := Static.of hst
    have hmono : ∀ k, k < ops.size → AMono (sS k) (sS (k + 1)) := fun k hk => by
      obtain ⟨o, ho⟩ := op_at hk
      have A := hat k o ho
      cases hw : aWanted ops (rS k) o with
      | true => obtain ⟨s1, h1, h0, h3, _⟩ := A.yes hw; rw [h3]; exact merge_mono (aStep_mono callf_mono (h1 fuel hf))
      | false => rw [(A.no hw).2.1]; exact AMono.refl _
    have hle : ∀ i j, i ≤ j → j ≤ ops.size → (sS i).next ≤ (sS j).next := fun i j hij => by
      induction hij with
      | refl => intro _; exact Nat.le_refl _
      | step _ ih => intro hj; exact Nat.le_trans (ih (by omega)) (hmono _ (by omega)).nxt
    have hwr : ∀ k, k < ops.size → writes L k = fS k := fun k hk => by unfold writes; rw [hLk k hk]
    have hfoot : ∀ k o, ops.toList[k]? = some o → footAt P G ops sj L k = bite (stillAt P ops sj k || !aWanted ops (rS k) o) (some []) (fpOf P G (rS k) o.op) := fun k o ho => by
      have hk : k < ops.size := by have := (List.getElem?_eq_some_iff.1 ho).1; simpa using this
      have ho' : ops[k]? = some o := by simpa using ho
      unfold footAt
      rw [ho', hLk k hk]
    have hstill : ∀ k o, ops.toList[k]? = some o → stillAt P ops sj k = true → fS k = false ∧ (sS (k + 1)).next = (sS k).next := fun k o ho h => by
      have A := hat k o ho
      have ho' : ops[k]? = some o := by simpa using ho
      cases hw : aWanted ops (rS k) o with
      | true =>
        obtain ⟨s1, h1, h0, h3, _⟩ := A.yes hw
        have e : s1 = (sS k).reset := by
          unfold stillAt at h
          rw [Bool.or_eq_true] at h
          rcases h with h | h
          · have hbo : opBlind P o.op = true := by
              unfold blindAt at h
              rw [ho'] at h; exact h
            exact blind_same hbo (h1 fuel hf)
          · obtain ⟨_, o', ho2, hs⟩ := readers_mem (by rw [hsj]; exact memb_mem h)
            rw [ho'] at ho2; cases ho2
            exact still_same hs (h1 fuel hf)
        refine ⟨?_, by rw [h3, e]; rfl⟩
        rw [h0, e]; simp [AS.reset]
      | false => exact ⟨(A.no hw).2.2, by rw [(A.no hw).2.1]⟩
    -- what a step does to the blocks of X
    have hX : ∀ k, k < ops.size → ∀ x ∈ X, x < (sS k).next → (sS (k + 1)).get x = (sS k).get x ∨ (lastAt ops sj k = true ∧ wrAt P G ops sj L (sS ops.size) k x = true) := fun k hk x hx hlt => by
      obtain ⟨o, ho⟩ := op_at hk
      have A := hat k o ho
      cases hw : aWanted ops (rS k) o with
      | false => exact .inl (by rw [(A.no hw).2.1])
      | true =>
        obtain ⟨s1, h1, h0, h3, h4, _⟩ := A.yes hw
        rw [h3, get_merge]
        rcases h4 with h4 | ⟨_, h4⟩
        · exact .inl ((aStep_mono callf_mono (h1 fuel hf)).keep x hlt (Nat.lt_of_lt_of_le hlt h4))
        · rcases h4 x hx hlt with h5 | ⟨h5, h6⟩
          · exact .inl h5
          · cases hfk : fS k with
            | false =>
              have hb : Nat.ble (sS k).next s1.low = true := by rw [h0] at hfk; simpa using hfk
              exact .inl ((aStep_mono callf_mono (h1 fuel hf)).keep x hlt (Nat.lt_of_lt_of_le hlt (Nat.le_of_ble_eq_true hb)))
            | true =>
              refine .inr ⟨h5, ?_⟩
              have hns : stillAt P ops sj k = false := by
                cases h : stillAt P ops sj k with
                | false => rfl
                | true => rw [(hstill k o ho h).1] at hfk; cases hfk
              unfold wrAt
              rw [hwr k hk, hfk, hN k (by omega), hfoot k o ho, hns, hw]
              simp only [Bool.and_eq_true, Nat.blt_eq]
              exact ⟨⟨trivial, hlt⟩, h6⟩
    unfold drawOk
    rw [Bool.and_eq_true, bite_eq]
    refine ⟨?_, List.all_eq_true.2 fun j hj => ?_⟩
    · split
      · unfold quietOk
        rw [List.all_eq_true]
        intro k hk
        rw [List.mem_range] at hk
        rw [hwr k hk]
        cases hfk : fS k with
        | false => rfl
        | true =>
          simp only [Bool.not_true, Bool.false_or]
          obtain ⟨o, ho⟩ := op_at hk
          have A := hat k o ho
          have hw : aWanted ops (rS k) o = true := by
            cases hw : aWanted ops (rS k) o with
            | true => rfl
            | false => rw [(A.no hw).2.2] at hfk; cases hfk
          obtain ⟨s1, h1, h0, h3, h4, _⟩ := A.yes hw
          have hbar : barAt P ops sj k = true := by
            rcases h4 with h4 | h4
            · rw [h0, Nat.ble_eq_true_of_le h4] at hfk; cases hfk
            · exact h4.1
          rw [List.all_eq_true]
          intro j hjr
          have hb := List.all_eq_true.1 hbar j hjr
          rw [List.mem_range] at hjr
          simp only [Bool.or_eq_true] at hb ⊢
          rcases hb with ((hb | hb) | hb) | hb
          · exact .inl hb
          rotate_left
          rotate_left
          · by_cases hpk : isPred (preds ops) k j = true
            · exact .inl (.inl (.inr hpk))
            by_cases hjk : Nat.beq j k = true
            · exact .inl (.inl (.inl hjk))
            refine .inr ?_
            obtain ⟨oj, hoj⟩ := op_at hjr
            have hoj' : ops[j]? = some oj := by simpa using hoj
            have ho' : ops[k]? = some o := by simpa using ho
            have hea := hb
            unfold earlyAt firstLit at hb
            simp only [Bool.and_eq_true, Bool.not_eq_true', Nat.beq_eq] at hb
            obtain ⟨⟨⟨hj0, hb1⟩, hb2⟩, hb3⟩ := hb
            subst hj0
            have hX0 : (sS 0).next ∈ X := by
              rcases hnew with hn | hn
              · exfalso
                unfold lateOk at hn
                simp only [Bool.or_eq_true, Bool.not_eq_true'] at hn
                rcases hn with hn | hn
                · unfold firstLit at hn
                  rw [hb1] at hn; cases hn
                · have h7 := List.all_eq_true.1 hn k (List.mem_range.2 hk)
                  simp only [Bool.or_eq_true, Bool.not_eq_true'] at h7
                  rcases h7 with (h7 | h7) | h7
                  · exact hjk h7
                  · exact hpk h7
                  · rw [hea] at h7; cases h7
              · rw [e2]; exact hn
            rw [hoj'] at hb1
            rw [ho'] at hb2
            have hlit : ∃ t len parts, oj.op = .buildSlice t len parts := by
              dsimp only at hb1
              split at hb1
              · rename_i t len parts he; exact ⟨t, len, parts, he⟩
              · cases hb1
            obtain ⟨t, len, parts, hlit⟩ := hlit
            have hfj : footAt P G ops sj L 0 = some [] := by
              rw [hfoot 0 oj hoj, bite_eq]
              split
              · rfl
              · rw [hlit]; rfl
            have hfk2 : footAt P G ops sj L k = some [] ∨ footAt P G ops sj L k = none := by
              rw [hfoot k o ho, bite_eq]
              split
              · exact .inl rfl
              · dsimp only at hb2
                split at hb2
                · rename_i c hc
                  split at hb2
                  · rename_i x hx
                    right
                    rw [hc]
                    unfold fpOf
                    simp only [hx]
                  · cases hb2
                · cases hb2
            have h1n : (sS 1).next ≤ (sS 0).next + 1 := by
              have A0 := hat 0 oj hoj
              cases hw0 : aWanted ops (rS 0) oj with
              | false => rw [(A0.no hw0).2.1]; omega
              | true =>
                obtain ⟨s0, g1, _, g3, _⟩ := A0.yes hw0
                rw [g3]
                have g1 := g1 fuel hf
                rw [hlit] at g1
                show s0.next ≤ _
                exact lit_next g1
            have hkp : 0 < k := by
              rcases Nat.eq_zero_or_pos k with h | h
              · subst h; exact absurd rfl hjk
              · exact h
            unfold clashFree
            rcases hfk2 with e | e <;> rw [e, hfj]
            simp only [Bool.or_eq_true]
            refine .inr (.inr ?_)
            simp only [stays, decide_eq_true_eq]
            rw [hN 0 (by omega), hN (0 + 1) (by omega), hN k (by omega), hN (k + 1) (by omega)]
            intro x hx1 hx2
            have hx3 : x = (sS 0).next := by simp only [Nat.zero_add] at hx2; omega
            subst hx3
            rcases hX k hk _ hX0 (Nat.lt_of_lt_of_le hx2 (hle 1 k hkp (by omega))) with h7 | ⟨h7, _⟩
            · exact h7
            · rw [hb3] at h7; cases h7
          rotate_left
          · refine .inr ?_
            obtain ⟨oj, hoj⟩ := op_at hjr
            unfold newAt at hb
            simp only [Bool.and_eq_true] at hb
            obtain ⟨⟨hkj, hb1⟩, hb2⟩ := hb
            have hoj' : ops[j]? = some oj := by simpa using hoj
            have ho' : ops[k]? = some o := by simpa using ho
            rw [hoj'] at hb1
            rw [ho'] at hb2
            have hfj : footAt P G ops sj L j = some [] := by
              rw [hfoot j oj hoj, bite_eq]
              split
              · rfl
              · dsimp only at hb1
                split at hb1
                · rename_i t ht; rw [ht]; rfl
                · cases hb1
            have hfk2 : footAt P G ops sj L k = some [] ∨ footAt P G ops sj L k = none := by
              rw [hfoot k o ho, bite_eq]
              split
              · exact .inl rfl
              · dsimp only at hb2
                split at hb2
                · rename_i c hc
                  split at hb2
                  · rename_i x hx
                    right
                    rw [hc]
                    unfold fpOf
                    simp only [hx]
                  · cases hb2
                · cases hb2
            unfold clashFree
            rcases hfk2 with e | e <;> rw [e, hfj]
            simp only [hkj, Bool.true_or]
          · refine .inr ?_
            obtain ⟨oj, hoj⟩ := op_at hjr
            obtain ⟨_, hnx⟩ := hstill j oj hoj hb
            have hfj : footAt P G ops sj L j = some [] := by rw [hfoot j oj hoj, hb]; rfl
            unfold clashFree
            rw [hfj, hN j (by omega), hN (j + 1) (by omega)]
            split
            · rfl
            · rename_i x t F hF1 hF2
              cases hF2
              simp only [Bool.and_eq_true, Bool.not_eq_true']
              refine ⟨rfl, ?_⟩
              rw [hnx]
              cases h5 : Nat.ble (sS j).next x with
              | false => rfl
              | true =>
                have := Nat.le_of_ble_eq_true h5
                cases h6 : Nat.blt x (sS j).next with
                | false => rfl
                | true => rw [Nat.blt_eq] at h6; omega
            · rw [hnx]; simp
            · first | contradiction | simp_all
            · first | contradiction | simp_all
      · rfl
    · obtain ⟨hjN, o, ho', hstl⟩ := readers_mem (by rw [hsj]; exact hj)
      have ho : ops.toList[j]? = some o := by simpa using ho'
      have A := hat j o ho
      have hmj : memb sj j = true := memb_iff.2 hj
      unfold steadyOne
      rw [hLk j hjN, ho']
      simp only [Bool.and_eq_true, Bool.or_eq_true, Bool.not_eq_true']
      refine ⟨hstl, ?_⟩
      cases hw : aWanted ops (rS j) o with
      | false => exact .inl rfl
      | true =>
        obtain ⟨s1, h1, h0, h3, _, h5⟩ := A.yes hw
        have h5 := h5 hmj
        unfold readOk at h5
        simp only [Bool.and_eq_true] at h5
        refine .inr ⟨h5.1.1, ?_⟩
        have h6 := h5.2
        split at h6
        · rename_i hF; rw [hF]
        · rename_i x hF
          rw [hF]
          simp only [Bool.and_eq_true, Nat.blt_eq] at h6
          have hxX := memb_mem h6.2
          rw [List.all_eq_true]
          intro m hm
          rw [List.mem_range] at hm
          have hm : m ≤ ops.size := by omega
          rw [Bool.or_eq_true]
          -- the block is the same, or a writer after the reader has passed
          have conc : (sS m).get x = (sS j).get x ∨ passes P G ops (preds ops) ops.size sj L (sS ops.size) j m x = true := by
            rcases Nat.lt_or_ge x (sS m).next with hxm | hxm
            · rcases Nat.le_total m j with hmj2 | hmj2
              · -- before it
                left
                have : ∀ i, m ≤ i → i ≤ j → (sS i).get x = (sS m).get x := fun i hmi => by
                  induction hmi with
                  | refl => intro _; rfl
                  | @step i hmi ih =>
                    intro hij
                    rcases hX i (by omega) x hxX (Nat.lt_of_lt_of_le hxm (hle m i hmi (by omega))) with h7 | ⟨h7, _⟩
                    · rw [h7, ih (by omega)]
                    · exfalso
                      have h8 := List.all_eq_true.1 h7 j hj
                      obtain ⟨oi, hoi⟩ := op_at (ops := ops) (k := i) (by omega)
                      have := pred_lt st hoi h8
                      omega
                exact (this j hmj2 (Nat.le_refl _)).symm
              · -- after it
                have : ∀ i, j ≤ i → i ≤ m → (sS i).get x = (sS j).get x ∨ ∃ q, q < i ∧ isPred (preds ops) q j = true ∧ wrAt P G ops sj L (sS ops.size) q x = true := fun i hji => by
                  induction hji with
                  | refl => intro _; exact .inl rfl
                  | @step i hji ih =>
                    intro him
                    rcases ih (by omega) with h7 | ⟨q, h7, h8, h9⟩
                    · rcases hX i (by omega) x hxX (Nat.lt_of_lt_of_le h6.1 (hle j i hji (by omega))) with h10 | ⟨h10, h11⟩
                      · exact .inl (by rw [h10, h7])
                      · exact .inr ⟨i, Nat.lt_succ_self _, List.all_eq_true.1 h10 j hj, h11⟩
                    · exact .inr ⟨q, by omega, h8, h9⟩
                rcases this m hmj2 (Nat.le_refl _) with h7 | ⟨q, h7, h8, h9⟩
                · exact .inl h7
                · right
                  unfold passes
                  rw [Bool.or_eq_true]
                  right
                  rw [List.any_eq_true]
                  exact ⟨q, List.mem_range.2 h7, by rw [h8, h9]; rfl⟩
            · right
              unfold passes
              rw [hN m hm, Bool.or_eq_true, Bool.or_eq_true]
              exact .inl (.inl (Nat.ble_eq_true_of_le hxm))
          rcases conc with conc | conc
          · right
            rw [hN m hm]
            have := still_agree (S := (sS m).reset) hstl (h1 fuel hf) hF fun y hy => by
              rw [List.mem_singleton] at hy
              subst hy
              exact conc
            unfold sameVal
            rw [this]
            exact h5.1.2
          · exact .inl conc
        · cases h6
  have := trace_go (P := P) (K := K) (G := G) (n := n) (sj := sj) (X := X) hf ops.toList 0 [] (fun i => by simp) (fun k o _ ho => hat k o ho) (by simpa using key)
  simp only [Nat.zero_add, Array.length_toList] at this
  rw [← e1, ← e2]; exact this

theorem Lg_pre {k0 : Nat} (k : Nat) (h : ∀ callf, aQ P G callf n ops sj X k0 (l.take k) r σ = some (r', σ')) (hl : Lg P K G n ops sj X (k0 + (l.take k).length) (l.drop k) r' σ' Q) : Lg P K G n ops sj X k0 l r σ Q := by
  have app : ∀ (l1 l2 : List Oper) (k0 : Nat) (r : Regs) (σ : AS), (∀ callf, aQ P G callf n ops sj X k0 l1 r σ = some (r', σ')) → Lg P K G n ops sj X (k0 + l1.length) l2 r' σ' Q → Lg P K G n ops sj X k0 (l1 ++ l2) r σ Q := by
    intro l1
    induction l1 with
    | nil =>
      intro l2 k0 r σ h1 h2
      have := h1 (fun _ _ _ => none)
      cases this
      exact h2
    | cons o l1 ih =>
      intro l2 k0 r σ h1 h2
      have h2 : Lg P K G n ops sj X (k0 + 1 + l1.length) l2 r' σ' Q := by
        have e : k0 + (o :: l1).length = k0 + 1 + l1.length := by simp; omega
        rw [← e]; exact h2
      refine ⟨fun hw => ?_, fun hw => ?_⟩
      · have h3 := h1 (fun _ _ _ => none)
        simp only [aQ, bite_eq, hw, if_true] at h3
        split at h3
        · rename_i v s1 hs
          split at h3
          · rename_i hb
            simp only [Bool.and_eq_true, Bool.or_eq_true, Bool.not_eq_true'] at hb
            split at h3
            · rename_i r1 hp
              have hle : ∀ callf, CLe (fun _ _ _ => none) callf := fun callf _ _ _ _ h => (nomatch h)
              refine O_mem (v := v) (σ' := s1) (fun callf => aStep_more (hle callf) hs) ⟨⟨.inl (Nat.le_of_ble_eq_true hb.1), fun hm => hb.2.resolve_left (by rw [hm]; simp)⟩, r1, hp, ih l2 (k0 + 1) r1 _ (fun callf => ?_) h2⟩
              have h4 := h1 callf
              simp only [aQ, bite_eq, hw, if_true, aStep_more (hle callf) hs, hp] at h4
              rw [if_pos (by simp only [Bool.and_eq_true, Bool.or_eq_true, Bool.not_eq_true']; exact hb)] at h4
              exact h4
            · cases h3
          · cases h3
        · cases h3
      · have h3 := h1 (fun _ _ _ => none)
        simp only [aQ, bite_eq, hw, Bool.false_eq_true, if_false] at h3
        split at h3
        · rename_i r1 hp
          refine ⟨r1, hp, ih l2 (k0 + 1) r1 _ (fun callf => ?_) h2⟩
          have h4 := h1 callf
          simp only [aQ, bite_eq, hw, Bool.false_eq_true, if_false, hp] at h4
          exact h4
        · cases h3
  have := app (l.take k) (l.drop k) k0 r σ h hl
  rw [List.take_append_drop] at this
  exact this

theorem Lg_all {k0 : Nat} (h : ∀ callf, aQ P G callf n ops sj X k0 l r σ = some (r', σ')) (hq : Q r' σ') : Lg P K G n ops sj X k0 l r σ Q :=
  Lg_pre l.length (by rw [List.take_length]; exact h) (by rw [List.drop_length]; exact hq)

theorem Lg_call {k0 : Nat} {d : Nat} {f : Operand} {args : Array Operand} {ts : Array TypeId} {ty : TypeId} {pos : String} {aft : Array Edge} {fid : FuncId} {first captured : Array Value} {vs : List Value}
    (hf : aev G r f = some (.func (.func fid) first captured)) (hv : aevs G r args.toList = some vs) (hd : d < n) (hm : memb sj k0 = false)
    (h : C P K G fid (first.toList ++ vs ++ captured.toList) σ.reset fun v s1 => (σ.next ≤ s1.low ∨ (barAt P ops sj k0 = true ∧ ∀ x ∈ X, x < σ.next → s1.get x = σ.get x ∨ lastAt ops sj k0 = true)) ∧ Lg P K G n ops sj X (k0 + 1) l (rput r d v) (σ.merge s1) Q) :
    Lg P K G n ops sj X k0 (⟨some d, .call ⟨.value f, args, ts⟩, ty, pos, aft, none⟩ :: l) r σ Q := by
  refine ⟨fun _ => O_call hf hv (h.mono fun v s1 ⟨h1, h2⟩ => ⟨⟨?_, fun h => by rw [hm] at h; cases h⟩, _, by simp only [aPut, bite_eq]; rw [if_pos (by rw [Nat.blt_eq]; exact hd)], h2⟩), fun h => (nomatch h)⟩
  exact h1.imp_right fun ⟨h3, h4⟩ => ⟨h3, fun x hx hl => (h4 x hx hl).imp_right fun h5 => ⟨h5, rfl⟩⟩

/-- A quiet call. -/
theorem Lg_fn {k0 : Nat} {d : Nat} {args : Array Operand} {ts : Array TypeId} {ty : TypeId} {pos : String} {aft : Array Edge} {fid : FuncId} {vs : List Value}
    (hv : aevs G r args.toList = some vs) (hd : d < n) (hm : memb sj k0 = false)
    (h : C P K G fid vs σ.reset fun v s1 => σ.next ≤ s1.low ∧ Lg P K G n ops sj X (k0 + 1) l (rput r d v) (σ.merge s1) Q) :
    Lg P K G n ops sj X k0 (⟨some d, .call ⟨.value (.func fid), args, ts⟩, ty, pos, aft, none⟩ :: l) r σ Q :=
  Lg_call (first := #[]) (captured := #[]) rfl hv hd hm (by
    have e : (#[] : Array Value).toList ++ vs ++ (#[] : Array Value).toList = vs := by simp
    rw [e]
    exact h.mono fun v s1 ⟨h1, h2⟩ => ⟨.inl h1, h2⟩)
end draws

end
end Go.Proofs.YtacpdefmnijhnaaGreat.Abs
