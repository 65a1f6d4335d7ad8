/- Code and calls: what the evaluator answers, the program does. -/
import Derived.Test.YtacpdefmnijhnaaGreatAbsL
import Derived.Recover
set_option linter.unusedSimpArgs false
set_option linter.unusedVariables false
namespace Go.Proofs.YtacpdefmnijhnaaGreat.Abs

noncomputable def aResults (P : Program) (σ : AS) (r : Regs) : List ResultVar → Option (List Value)
  | [] => some []
  | .tmp t :: l => match aResults P σ r l with
    | some vs => some (rget r t :: vs)
    | none => none
  | .cell x t :: l => match aLoad P σ t (rget r x) with
    | some v => match aResults P σ r l with
      | some vs => some (v :: vs)
      | none => none
    | none => none

noncomputable def aResult : List Value → Value
  | [v] => v
  | vs => .tuple vs.toArray

/-- Calls whose answers are known, with what they do to the memory. -/
structure Tbl where
  ask : FuncId → List Value → AS → Option (Value × AS)
  mono : CallMono ask
  dfr : FuncId → Bool := fun _ => false

noncomputable def aCallRun (P : Program) (code : Nat → Code → Regs → AS → Option (Nat × Regs × AS)) (f : FuncId) (args : List Value) (σ : AS) : Option (Value × AS) :=
  match P.funcs[f]? with
  | some fn => match fn.body with
    | some c => if Nat.ble args.length fn.ntmps then match code fn.ntmps c (rinit args 0 .e) σ with
        | some (x, r', σ') => if Nat.ble x 1 then match aResults P σ' r' fn.results.toList with
            | some vs => some (aResult vs, σ')
            | none => none
          else none
        | none => none
      else none
    | none => none
  | none => none

/-- A deferred call: the function, what it is handed. -/
abbrev ADef : Type := Nat × List Value

noncomputable def isDefer : Op → Bool
  | .defer _ => true
  | _ => false

noncomputable def hasDefer : Nat → Code → Bool
  | 0, _ => true
  | k + 1, c => match c with
    | .seq x y => hasDefer k x || hasDefer k y
    | .cond _ x y => hasDefer k x || hasDefer k y
    | .block _ x => hasDefer k x
    | .loop x => hasDefer k x
    | .scope x => hasDefer k x
    | .region _ ops _ => ops.toList.any fun o => isDefer o.op
    | _ => false

noncomputable def dPush (G : Nat) (r : Regs) (c : Call) : Option ADef :=
  match c.callee with
  | .value f => match aev G r f with
    | some (.func (.func g) first captured) => match aevs G r c.args.toList with
      | some vs => some (g, first.toList ++ vs ++ captured.toList)
      | none => none
    | _ => none
  | _ => none

noncomputable def dOps (P : Program) (G : Nat) (callf : FuncId → List Value → AS → Option (Value × AS)) (n : Nat) (ops : Array Oper) : List Oper → Regs → AS → List ADef → Option (Regs × AS × List ADef)
  | [], r, σ, ds => some (r, σ, ds)
  | o :: l, r, σ, ds =>
    if aWanted ops r o then
      (match o.op with
      | .defer c => match dPush G r c with
        | some d => match aPut n r o.dst undef with
          | some r' => dOps P G callf n ops l r' σ (d :: ds)
          | none => none
        | none => none
      | _ => match aStep P G callf r σ o.op with
        | some (v, σ') => match aPut n r o.dst v with
          | some r' => dOps P G callf n ops l r' σ' ds
          | none => none
        | none => none)
    else match aPut n r o.dst undef with
      | some r' => dOps P G callf n ops l r' σ ds
      | none => none

noncomputable def dCode (P : Program) (G : Nat) (callf : FuncId → List Value → AS → Option (Value × AS)) (code : Nat → Code → Regs → AS → Option (Nat × Regs × AS)) : Nat → Nat → Code → Regs → AS → List ADef → Option (Nat × Regs × AS × List ADef)
  | 0, _, _, _, _, _ => none
  | k + 1, n, c, r, σ, ds =>
    if hasDefer 200 c then
      (match c with
      | .seq x y => match dCode P G callf code k n x r σ ds with
        | some (e, r', σ', ds') => if Nat.beq e 0 then dCode P G callf code k n y r' σ' ds' else some (e, r', σ', ds')
        | none => none
      | .cond x t e => match aev G r x with
        | some (.bool b) => dCode P G callf code k n (if b then t else e) r σ ds
        | _ => none
      | .block id x => match dCode P G callf code k n x r σ ds with
        | some (e, r', σ', ds') => if Nat.beq e (id + 2) then some (0, r', σ', ds') else some (e, r', σ', ds')
        | none => none
      | .scope x => dCode P G callf code k n x r σ ds
      | .region _ ops false => match dOps P G callf n ops ops.toList r σ ds with
        | some (r', σ', ds') => some (0, r', σ', ds')
        | none => none
      | _ => none)
    else match code n c r σ with
      | some (e, r', σ') => some (e, r', σ', ds)
      | none => none

/-- A function whose first operation recovers. -/
noncomputable def recOp (o : Oper) : Bool := match o.guard with
  | some _ => false
  | none => match o.op with
    | .call c => match c.callee with
      | .builtin .recover => Nat.beq c.args.size 0
      | _ => false
    | _ => false

noncomputable def recHead : Code → Bool
  | .seq (.region _ ops false) _ => match ops.toList with
    | o :: _ => recOp o
    | [] => false
  | _ => false

/-- Such a function as a deferred call, when there is nothing to recover. -/
noncomputable def dRec (P : Program) (G : Nat) (callf : FuncId → List Value → AS → Option (Value × AS)) (code : Nat → Code → Regs → AS → Option (Nat × Regs × AS)) (f : FuncId) (args : List Value) (σ : AS) : Option AS :=
  match P.funcs[f]? with
  | some fn => match fn.body with
    | some (.seq (.region _ ops false) y) => match ops.toList with
      | o :: l => if recOp o && Nat.ble args.length fn.ntmps then
          match aPut fn.ntmps (rinit args 0 .e) o.dst .nilIface with
          | some r0 => match aOps P G callf fn.ntmps ops l r0 σ with
            | some (r1, σ1) => match code fn.ntmps y r1 σ1 with
              | some (x, r2, σ2) => if Nat.ble x 1 then match aResults P σ2 r2 fn.results.toList with
                  | some _ => some σ2
                  | none => none
                else none
              | none => none
            | none => none
          | none => none
        else none
      | [] => none
    | _ => none
  | none => none

noncomputable def isRec (P : Program) (f : FuncId) : Bool := match P.funcs[f]? with
  | some fn => match fn.body with
    | some c => recHead c
    | none => false
  | none => false

noncomputable def aCallPlain (P : Program) (K : Tbl) (code : Nat → Code → Regs → AS → Option (Nat × Regs × AS)) (f : FuncId) (args : List Value) (σ : AS) : Option (Value × AS) :=
  match K.ask f args σ with
  | some x => some x
  | none => aCallRun P code f args σ

noncomputable def dRun (P : Program) (G : Nat) (callf : FuncId → List Value → AS → Option (Value × AS)) (code : Nat → Code → Regs → AS → Option (Nat × Regs × AS)) : List ADef → AS → Option AS
  | [], σ => some σ
  | d :: ds, σ => bite (isRec P d.1)
      (match dRec P G callf code d.1 d.2 σ with
      | some σ' => dRun P G callf code ds σ'
      | none => none)
      (match aCallRun P code d.1 d.2 σ with
      | some (_, σ') => dRun P G callf code ds σ'
      | none => none)

/-- A call of a function that defers. -/
noncomputable def aDefRun (P : Program) (K : Tbl) (G : Nat) (code : Nat → Code → Regs → AS → Option (Nat × Regs × AS)) (f : FuncId) (args : List Value) (σ : AS) : Option (Value × AS) :=
  match P.funcs[f]? with
  | some fn => match fn.body with
    | some c => if Nat.ble args.length fn.ntmps then match dCode P G (aCallPlain P K code) code 40 fn.ntmps c (rinit args 0 .e) σ [] with
        | some (x, r', σ', ds) => if Nat.ble x 1 then match dRun P G (aCallPlain P K code) code ds σ' with
            | some σ'' => match aResults P σ'' r' fn.results.toList with
              | some vs => some (aResult vs, σ'')
              | none => none
            | none => none
          else none
        | none => none
      else none
    | none => none
  | none => none

noncomputable def aCallBy (P : Program) (K : Tbl) (G : Nat) (code : Nat → Code → Regs → AS → Option (Nat × Regs × AS)) (f : FuncId) (args : List Value) (σ : AS) : Option (Value × AS) :=
  match K.ask f args σ with
  | some x => some x
  | none => bite (K.dfr f) (aDefRun P K G code f args σ) (aCallRun P code f args σ)

abbrev CodeF : Type := Nat → Code → Regs → AS → Option (Nat × Regs × AS)

noncomputable def cSeq (run : CodeF) (n : Nat) (y : Code) : Option (Nat × Regs × AS) → Option (Nat × Regs × AS)
  | some (e, r', σ') => if Nat.beq e 0 then run n y r' σ' else some (e, r', σ')
  | none => none
noncomputable def cCond (run : CodeF) (n : Nat) (t e : Code) (r : Regs) (σ : AS) : Option Value → Option (Nat × Regs × AS)
  | some (.bool b) => run n (if b then t else e) r σ
  | _ => none
noncomputable def cBlock (id : Nat) : Option (Nat × Regs × AS) → Option (Nat × Regs × AS)
  | some (e, r', σ') => if Nat.beq e (id + 2) then some (0, r', σ') else some (e, r', σ')
  | none => none
noncomputable def cRegion : Option (Regs × AS) → Option (Nat × Regs × AS)
  | some (r', σ') => some (0, r', σ')
  | none => none

noncomputable def cStep (P : Program) (K : Tbl) (G : Nat) (run : CodeF) (n : Nat) (c : Code) (r : Regs) (σ : AS) : Option (Nat × Regs × AS) :=
  match c with
  | .skip => some (0, r, σ)
  | .label _ => some (0, r, σ)
  | .exit id => some (id + 2, r, σ)
  | .ret => some (1, r, σ)
  | .seq x y => cSeq run n y (run n x r σ)
  | .cond x t e => cCond run n t e r σ (aev G r x)
  | .block id x => cBlock id (run n x r σ)
  | .loop x => cSeq run n (.loop x) (run n x r σ)
  | .scope x => run n x r σ
  | .region _ ops true => cRegion (aDraw P G (aCallBy P K G run) n ops r σ)
  | .region _ ops false => cRegion (aOps P G (aCallBy P K G run) n ops ops.toList r σ)
  | _ => none

/-- The first part of the answer: 0 the end, 1 return, id + 2 leaves block id. -/
noncomputable def aCode (P : Program) (K : Tbl) (G : Nat) : Nat → CodeF
  | 0 => fun _ _ _ _ => none
  | fuel + 1 => fun n c r σ => cStep P K G (aCode P K G fuel) n c r σ

noncomputable def aCall (P : Program) (K : Tbl) (G fuel : Nat) (f : FuncId) (args : List Value) (σ : AS) : Option (Value × AS) := aCallBy P K G (aCode P K G fuel) f args σ

/-- No call is known. -/
noncomputable def K0 : Tbl where
  ask := fun _ _ _ => none
  mono := fun _ _ _ _ _ h => nomatch h

section code
variable {P : Program} {K : Tbl} {G : Nat}

noncomputable def exitOf : Nat → Exit
  | 0 => .normal
  | 1 => .ret
  | x + 2 => .exit x

noncomputable def CodeMono (code : Nat → Code → Regs → AS → Option (Nat × Regs × AS)) : Prop := ∀ n c r σ x r' σ', code n c r σ = some (x, r', σ') → AMono σ σ'

theorem callRun_mono {code : Nat → Code → Regs → AS → Option (Nat × Regs × AS)} (h : CodeMono code) : CallMono (aCallRun P code) := by
  intro f args σ v σ' hc
  unfold aCallRun at hc
  split at hc
  · split at hc
    · split at hc
      · split at hc
        · rename_i x r' σ1 hx
          split at hc
          · split at hc
            · cases hc; exact h _ _ _ _ _ _ _ hx
            · cases hc
          · cases hc
        · cases hc
      · cases hc
    · cases hc
  · cases hc

theorem callPlain_mono {code : Nat → Code → Regs → AS → Option (Nat × Regs × AS)} (h : CodeMono code) : CallMono (aCallPlain P K code) := by
  intro f args σ v σ' hc
  unfold aCallPlain at hc
  split at hc
  · rename_i x hx; cases hc; exact K.mono _ _ _ _ _ hx
  · exact callRun_mono h _ _ _ _ _ hc

theorem dOps_mono {callf : FuncId → List Value → AS → Option (Value × AS)} (hc : CallMono callf) {n : Nat} {ops : Array Oper} : ∀ (l : List Oper) (r : Regs) (σ : AS) (ds : List ADef) {r' : Regs} {σ' : AS} {ds' : List ADef}, dOps P G callf n ops l r σ ds = some (r', σ', ds') → AMono σ σ'
  | [], r, σ, ds, r', σ', ds', h => by cases h; exact AMono.refl _
  | o :: l, r, σ, ds, r', σ', ds', h => by
    unfold dOps at h
    split at h
    · split at h
      · split at h
        · split at h
          · exact dOps_mono hc l _ _ _ h
          · cases h
        · cases h
      · split at h
        · rename_i hs
          split at h
          · exact (aStep_mono hc hs).trans (dOps_mono hc l _ _ _ h)
          · cases h
        · cases h
    · split at h
      · exact dOps_mono hc l _ _ _ h
      · cases h

theorem dCode_mono {callf : FuncId → List Value → AS → Option (Value × AS)} (hc : CallMono callf) {code : Nat → Code → Regs → AS → Option (Nat × Regs × AS)} (hk : CodeMono code) : ∀ (k n : Nat) (c : Code) (r : Regs) (σ : AS) (ds : List ADef) {x : Nat} {r' : Regs} {σ' : AS} {ds' : List ADef}, dCode P G callf code k n c r σ ds = some (x, r', σ', ds') → AMono σ σ'
  | 0, n, c, r, σ, ds, x, r', σ', ds', h => by cases h
  | k + 1, n, c, r, σ, ds, x, r', σ', ds', h => by
    unfold dCode at h
    split at h
    · split at h
      · split at h
        · rename_i h1
          split at h
          · exact (dCode_mono hc hk k _ _ _ _ _ h1).trans (dCode_mono hc hk k _ _ _ _ _ h)
          · cases h; exact dCode_mono hc hk k _ _ _ _ _ h1
        · cases h
      · split at h
        · exact dCode_mono hc hk k _ _ _ _ _ h
        · cases h
      · split at h
        · rename_i h1
          split at h <;> (cases h; exact dCode_mono hc hk k _ _ _ _ _ h1)
        · cases h
      · exact dCode_mono hc hk k _ _ _ _ _ h
      · split at h
        · rename_i h1; cases h; exact dOps_mono hc _ _ _ _ h1
        · cases h
      · cases h
    · split at h
      · rename_i h1; cases h; exact hk _ _ _ _ _ _ _ h1
      · cases h

theorem dRec_mono {callf : FuncId → List Value → AS → Option (Value × AS)} (hc : CallMono callf) {code : Nat → Code → Regs → AS → Option (Nat × Regs × AS)} (hk : CodeMono code) {f : FuncId} {args : List Value} {σ σ' : AS} (h : dRec P G callf code f args σ = some σ') : AMono σ σ' := by
  unfold dRec at h
  split at h
  · split at h
    · split at h
      · split at h
        · split at h
          · split at h
            · rename_i h1
              split at h
              · rename_i h2
                split at h
                · split at h
                  · cases h; exact (aOps_mono hc _ _ _ h1).trans (hk _ _ _ _ _ _ _ h2)
                  · cases h
                · cases h
              · cases h
            · cases h
          · cases h
        · cases h
      · cases h
    · cases h
  · cases h

theorem dRun_mono {callf : FuncId → List Value → AS → Option (Value × AS)} (hc : CallMono callf) {code : Nat → Code → Regs → AS → Option (Nat × Regs × AS)} (hk : CodeMono code) : ∀ (ds : List ADef) (σ : AS) {σ' : AS}, dRun P G callf code ds σ = some σ' → AMono σ σ'
  | [], σ, σ', h => by cases h; exact AMono.refl _
  | d :: ds, σ, σ', h => by
    simp only [dRun, bite_eq] at h
    split at h
    · split at h
      · rename_i h1; exact (dRec_mono hc hk h1).trans (dRun_mono hc hk ds _ h)
      · cases h
    · split at h
      · rename_i h1; exact (callRun_mono hk _ _ _ _ _ h1).trans (dRun_mono hc hk ds _ h)
      · cases h

theorem callBy_mono {code : Nat → Code → Regs → AS → Option (Nat × Regs × AS)} (h : CodeMono code) : CallMono (aCallBy P K G code) := by
  intro f args σ v σ' hc
  unfold aCallBy at hc
  split at hc
  · rename_i x hx; cases hc; exact K.mono _ _ _ _ _ hx
  rw [bite_eq] at hc
  split at hc
  · unfold aDefRun at hc
    split at hc
    · split at hc
      · split at hc
        · split at hc
          · rename_i x r' σ1 ds hx
            split at hc
            · split at hc
              · rename_i σ2 h2
                split at hc
                · cases hc; exact (dCode_mono (callPlain_mono h) h _ _ _ _ _ _ hx).trans (dRun_mono (callPlain_mono h) h _ _ h2)
                · cases hc
              · cases hc
            · cases hc
          · cases hc
        · cases hc
      · cases hc
    · cases hc
  · exact callRun_mono h _ _ _ _ _ hc

theorem aCode_mono : ∀ fuel, CodeMono (aCode P K G fuel)
  | 0 => fun n c r σ x r' σ' h => by simp [aCode] at h
  | fuel + 1 => fun n c r σ x r' σ' h => by
    have ih := aCode_mono fuel
    simp only [aCode] at h
    cases c <;> simp only [cStep, cSeq, cCond, cBlock, cRegion] at h
    case skip => cases h; exact AMono.refl _
    case label => cases h; exact AMono.refl _
    case exit => cases h; exact AMono.refl _
    case ret => cases h; exact AMono.refl _
    case seq c1 c2 =>
      split at h
      · rename_i e r1 σ1 h1
        split at h
        · exact (ih _ _ _ _ _ _ _ h1).trans (ih _ _ _ _ _ _ _ h)
        · cases h; exact ih _ _ _ _ _ _ _ h1
      · cases h
    case cond =>
      split at h
      · exact ih _ _ _ _ _ _ _ h
      · cases h
    case block =>
      split at h
      · rename_i e r1 σ1 h1
        split at h
        · cases h; exact ih _ _ _ _ _ _ _ h1
        · cases h; exact ih _ _ _ _ _ _ _ h1
      · cases h
    case loop =>
      split at h
      · rename_i e r1 σ1 h1
        split at h
        · exact (ih _ _ _ _ _ _ _ h1).trans (ih _ _ _ _ _ _ _ h)
        · cases h; exact ih _ _ _ _ _ _ _ h1
      · cases h
    case scope => exact ih _ _ _ _ _ _ _ h
    case region id ops draw =>
      cases draw with
      | true =>
        simp only [] at h
        split at h
        · rename_i r1 σ1 h1
          cases h
          exact aDraw_mono (callBy_mono ih) h1
        · cases h
      | false =>
        simp only [] at h
        split at h
        · rename_i r1 σ1 h1
          cases h
          exact aOps_mono (callBy_mono ih) _ _ _ h1
        · cases h
    all_goals cases h

/-- What is asked of the program's own parts: closed facts. -/
structure ProgOk (P : Program) : Prop where
  mixed : P.follows .mixedOrders = true
  names : ∀ (f : Nat) fn, P.funcs[f]? = some fn → (fn.name == "runtime.NumGoroutine") = false

/-- The known calls come out as they are known. -/
def KOk (P : Program) (K : Tbl) : Prop := ∀ G, CallSound P G K.ask

theorem K0_ok (P : Program) : KOk P K0 := fun _ _ _ _ _ _ _ _ _ h => nomatch h

theorem Sim.grown {ρ : Ren} {σ : AS} {w w' : World} (hR : R G ρ σ w) (hh : ∀ b, b < w.heap.size → w'.heap[b]? = w.heap[b]?) (hs : w.heap.size ≤ w'.heap.size) (ho : w'.os = w.os ∧ w'.output = w.output) : Sim G ρ σ w ρ σ w' where
  base := hR
  le := Ren.le_refl ρ
  rel := ⟨fun i b hi => by
    obtain ⟨h1, o, h2, h3⟩ := hR.blk i b hi
    exact ⟨h1, o, by rw [hh b (hR.lt hi)]; exact h2, h3⟩, hR.inj, hR.glob, hR.globN⟩
  frame := fun b hb _ => hh b hb
  hsz := hs
  nxt := Nat.le_refl _
  newid := fun i b h h' => by rw [h] at h'; cases h'
  newblk := fun i b h h' => by rw [h] at h'; cases h'
  low := Nat.le_refl _
  keep := fun _ _ _ => rfl
  dead := fun _ _ h => h
  stay := fun i b hi _ _ => hh b (hR.lt hi)
  out := ho

theorem flats_eq {ρ : Ren} : ∀ {l l' : List Value}, (∀ x ∈ l, flat x = true) → LRel (VRel ρ) l l' → l' = l
  | [], [], _, _ => rfl
  | a :: l, b :: l', h, hr => by rw [(vrel_flat (h a (by simp))).1 hr.1, flats_eq (fun x hx => h x (by simp [hx])) hr.2]
  | [], _ :: _, _, h => h.elim
  | _ :: _, [], _, h => h.elim

noncomputable def CodeSound (P : Program) (G : Nat) (code : Nat → Code → Regs → AS → Option (Nat × Regs × AS)) : Prop :=
  ∀ n c r σ x r' σ' ρ w a (Q : Exit → Act → World → Prop) {ds : List Deferred}, code n c r σ = some (x, r', σ') → R G ρ σ w → RegsRel ρ r a.tmps → a.tmps.size = n → a.defers = ds →
    (∀ τ a' w', RegsRel τ r' a'.tmps → a'.tmps.size = n → a'.defers = ds → Sim G ρ σ w τ σ' w' → Q (exitOf x) a' w') → c.wp P Q a w

theorem rget_rinit : ∀ (l : List Value) (i : Nat) (r : Regs) (t : Nat), rget (rinit l i r) t = if i ≤ t then (match l[t - i]? with | some v => v | none => rget r t) else rget r t
  | [], i, r, t => by simp [rinit]
  | v :: l, i, r, t => by
    rw [rinit, rget_rinit l (i + 1), rget_rput]
    by_cases h : i ≤ t
    · by_cases e : i = t
      · subst e; simp; intro h; omega
      · rw [if_pos (show i + 1 ≤ t by omega), if_pos h, show t - i = (t - (i + 1)) + 1 by omega, List.getElem?_cons_succ, if_neg e]
    · rw [if_neg (by omega), if_neg h, if_neg (by omega)]

theorem rget_nil (t : Nat) : rget .e t = undef := by
  rfl

theorem results_sound {ρ : Ren} {σ : AS} {w : World} {r : Regs} {tmps : Array Value} {g : ResultVar → Sem Value} (g1 : ∀ t, g (.tmp t) = pure (tmps.getD t undef))
    (g2 : ∀ x t, g (.cell x t) = do loadVar t (← asAddr (tmps.getD x undef))) (hR : R G ρ σ w) (hr : RegsRel ρ r tmps) : ∀ {l : List ResultVar} {vs : List Value}, aResults P σ r l = some vs →
    ∃ us, (l.mapM g).run P w = .ok us w ∧ LRel (VRel ρ) vs us
  | [], vs, h => by cases h; exact ⟨[], rfl, trivial⟩
  | .tmp t :: l, vs, h => by
    simp only [aResults] at h
    split at h
    · rename_i vs' h'
      cases h
      obtain ⟨us, h1, h2⟩ := results_sound g1 g2 hR hr h'
      refine ⟨tmps.getD t undef :: us, ?_, hr t, h2⟩
      rw [List.mapM_cons, g1]
      simp only [Sem.run_bind, Sem.run_pure, Result.andThen_ok, h1]
    · cases h
  | .cell x t :: l, vs, h => by
    simp only [aResults] at h
    split at h
    · rename_i v hv
      split at h
      · rename_i vs' h'
        cases h
        obtain ⟨us, h1, h2⟩ := results_sound g1 g2 hR hr h'
        obtain ⟨v', h3, h4⟩ := aLoad_sound (P := P) hv hR (hr x)
        refine ⟨v' :: us, ?_, h4, h2⟩
        have hp : ∃ y, rget r x = .pointer (some y) := by
          unfold aLoad at hv
          split at hv
          · rename_i y e; exact ⟨y, e⟩
          · cases hv
        obtain ⟨y, hy⟩ := hp
        have hx := hr x
        rw [hy] at hx
        obtain ⟨b, _, _, e⟩ := vrel_ptr.1 hx
        rw [e] at h3
        have h5 : (g (.cell x t)).run P w = .ok v' w := by
          rw [g2, e]
          simpa [Instr.loadAt, Instr.sureAddr, asAddr] using h3
        rw [List.mapM_cons, Sem.run_bind, h5, Result.andThen_ok, Sem.run_bind, h1]
        rfl
      · cases h
    · cases h

theorem act0_rel {ρ : Ren} {args args' : List Value} {m : Nat} (ha : LRel (VRel ρ) args args') : RegsRel ρ (rinit args 0 .e) (args'.toArray ++ Array.replicate m undef) := by
  intro t
  rw [rget_rinit, if_pos (Nat.zero_le _), Nat.sub_zero, rget_nil]
  simp only [Array.getD_eq_getD_getElem?, Array.getElem?_append, List.size_toArray, List.getElem?_toArray, Array.getElem?_replicate]
  split
  · rename_i u hu
    obtain ⟨u', h1, h2⟩ := ha.get t hu
    have hlt : t < args'.length := (List.getElem?_eq_some_iff.1 h1).1
    rw [if_pos hlt, h1]
    exact h2
  · rename_i hu
    have hge : args.length ≤ t := List.getElem?_eq_none_iff.1 hu
    rw [if_neg (by rw [← ha.length]; omega)]
    split <;> exact vrel_undef

theorem results_rel {τ : Ren} {σ : AS} {w' : World} {r : Regs} {tmps : Array Value} {fn : Func} {vs : List Value} (hvs : aResults P σ r fn.results.toList = some vs) (hR : R G τ σ w') (hr : RegsRel τ r tmps) : ∃ u, (results fn tmps).run P w' = .ok u w' ∧ VRel τ (aResult vs) u := by
  have hrs := fun (g : ResultVar → Sem Value) (g1 : ∀ t, g (.tmp t) = pure (tmps.getD t undef)) (g2 : ∀ x t, g (.cell x t) = do loadVar t (← asAddr (tmps.getD x undef))) =>
    results_sound (P := P) g1 g2 hR hr hvs
  have h56 : ∃ us, (results fn tmps).run P w' = .ok (if h : us.toArray.size = 1 then us.toArray[0] else .tuple us.toArray) w' ∧ LRel (VRel τ) vs us := by
    unfold results
    rw [Sem.run_bind, Array.mapM_eq_mapM_toList, Sem.run_map]
    obtain ⟨us, h5, h6⟩ := hrs (fun x => match x with | .tmp t => pure (tmps.getD t undef) | .cell a t => do loadVar t (← asAddr (tmps.getD a undef))) (fun t => rfl) (fun x t => rfl)
    exact ⟨us, by erw [h5]; rfl, h6⟩
  obtain ⟨us, h5, h6⟩ := h56
  refine ⟨_, h5, ?_⟩
  match vs, us, h6 with
  | [], [], _ => exact vrel_tuple.2 ⟨[], trivial, rfl⟩
  | [v1], [u1], h6 => simpa [aResult] using h6.1
  | v1 :: v2 :: vs, u1 :: u2 :: us, h6 => simpa [aResult] using vrel_tuple.2 ⟨_, h6, rfl⟩

/-- What a function's body does, as the evaluator tells it. -/
theorem run_wp {code : Nat → Code → Regs → AS → Option (Nat × Regs × AS)} (h : CodeSound P G code) {f : FuncId} {args : List Value} {σ : AS} {v : Value} {σ' : AS} (hc : aCallRun P code f args σ = some (v, σ')) :
    ∃ fn c, P.funcs[f]? = some fn ∧ fn.body = some c ∧ ∀ {ρ : Ren} {w : World} {args' : List Value}, R G ρ σ w → LRel (VRel ρ) args args' →
      c.wp P (bodyPost P fn fun e w' => ∃ v' τ, e = .returned v' ∧ VRel τ v v' ∧ Sim G ρ σ w τ σ' w') { tmps := args'.toArray ++ Array.replicate (fn.ntmps - args'.toArray.size) undef, defers := [] } w := by
  unfold aCallRun at hc
  split at hc
  · rename_i fn hfn
    split at hc
    · rename_i c hb
      split at hc
      · rename_i hlen
        have hlen : args.length ≤ fn.ntmps := by simpa [Nat.ble_eq] using hlen
        split at hc
        · rename_i x r' σ1 hx
          split at hc
          · rename_i hx1
            have hx1 : x ≤ 1 := by simpa [Nat.ble_eq] using hx1
            split at hc
            · rename_i vs hvs
              cases hc
              refine ⟨fn, c, hfn, hb, fun {ρ w args'} hR ha => ?_⟩
              refine h _ _ _ _ _ _ _ ρ w _ _ hx hR (act0_rel ha) ?_ rfl ?_
              · simp [← ha.length]; omega
              · intro τ a' w' h1 h2 h3 h4
                obtain ⟨u, h5, h6⟩ := results_rel hvs h4.rel h1
                match x, hx1 with
                | 0, _ => exact ⟨h3, u, h5, u, τ, rfl, h6, h4⟩
                | 1, _ => exact ⟨h3, u, h5, u, τ, rfl, h6, h4⟩
            · cases hc
          · cases hc
        · cases hc
      · cases hc
    · cases hc
  · cases hc

theorem callFunc_run (hp : ProgOk P) {f : FuncId} {fn : Func} {c : Code} (hfn : P.funcs[f]? = some fn) (hb : fn.body = some c) (args : Array Value) (w : World) : (callFunc f args).run P w = .ok (.enter f args) w := by
  have hne : ¬ fn.name = "runtime.NumGoroutine" := by simpa using hp.names f fn hfn
  simp [callFunc, hfn, hne, hb]

theorem callRun_sound (hp : ProgOk P) {code : Nat → Code → Regs → AS → Option (Nat × Regs × AS)} (h : CodeSound P G code) : CallSound P G (aCallRun P code) := by
  intro f args σ v σ' ρ w args' hc hR ha
  obtain ⟨fn, c, hfn, hb, hw⟩ := run_wp h hc
  exact ⟨callFunc_run hp hfn hb _ _, calls_of_wp hfn hb (hw hR ha)⟩

theorem callPlain_sound (hp : ProgOk P) (hk : KOk P K) {code : Nat → Code → Regs → AS → Option (Nat × Regs × AS)} (h : CodeSound P G code) : CallSound P G (aCallPlain P K code) := by
  intro f args σ v σ' ρ w args' hc hR ha
  unfold aCallPlain at hc
  split at hc
  · rename_i u hu
    cases hc
    exact hk G f args σ v σ' ρ w args' hu hR ha
  · exact callRun_sound hp h f args σ v σ' ρ w args' hc hR ha

/-! ### Deferred calls -/

def DRel (ρ : Ren) (x : ADef) (d : Deferred) : Prop := ∃ cap as, d = ⟨.fn (.func x.1) cap, as⟩ ∧ LRel (VRel ρ) x.2 (as ++ cap).toList

theorem DRel.ext {ρ τ : Ren} (h : ρ.le τ) {l : List ADef} {m : List Deferred} (hl : LRel (DRel ρ) l m) : LRel (DRel τ) l m :=
  hl.mono fun _ _ ⟨cap, as, e, hr⟩ => ⟨cap, as, e, hr.mono fun _ _ hv => hv.ext h⟩

theorem dPush_sound {ρ : Ren} {σ : AS} {w : World} {r : Regs} {a : Act} {c : Call} {d : ADef} {ty : TypeId} (h : dPush G r c = some d) (hR : R G ρ σ w) (hr : RegsRel ρ r a.tmps) : ∃ d', (resolve a.eval c ty).run P w = .ok d' w ∧ DRel ρ d d' := by
  unfold dPush at h
  split at h
  · rename_i f hcal
    split at h
    · rename_i g first captured hf
      split at h
      · rename_i vs hvs
        cases h
        obtain ⟨f', c', h1, h2, e⟩ := vrel_func.1 (aev_sound hf hR hr)
        have h3 := aevs_rel (ρ := ρ) (a := a) hvs fun x _ v hx => aev_sound hx hR hr
        refine ⟨⟨.fn (.func g) c'.toArray, f'.toArray ++ c.args.map a.eval⟩, ?_, _, _, rfl, ?_⟩
        · unfold resolve
          rw [hcal]
          simp only [Deferred.ofValue, e]
          rfl
        · simpa using (h1.append h3).append h2
      · cases h
    · cases h
  · cases h

theorem dOps_wp {callf : FuncId → List Value → AS → Option (Value × AS)} (hc : CallSound P G callf) {n : Nat} {ops : Array Oper} {Q : Exit → Act → World → Prop} : ∀ (l : List Oper) (r : Regs) (σ : AS) (ds : List ADef) (ρ : Ren) (w : World) (a : Act) {r' : Regs} {σ' : AS} {ds' : List ADef}, dOps P G callf n ops l r σ ds = some (r', σ', ds') →
    R G ρ σ w → RegsRel ρ r a.tmps → a.tmps.size = n → LRel (DRel ρ) ds a.defers →
    (∀ τ a' w', RegsRel τ r' a'.tmps → a'.tmps.size = n → LRel (DRel τ) ds' a'.defers → Sim G ρ σ w τ σ' w' → Q .normal a' w') → wpList P ops Q l a w
  | [], r, σ, ds, ρ, w, a, r', σ', ds', h, hR, hr, hn, hd, hQ => by cases h; exact hQ ρ a w hr hn hd (Sim.refl hR)
  | o :: l, r, σ, ds, ρ, w, a, r', σ', ds', h, hR, hr, hn, hd, hQ => by
    have hw : aWanted ops r o = Region.wanted o (yielded ops a.tmps) := aWanted_eq fun _ _ t _ _ => hr t
    unfold dOps at h
    unfold wpList
    rw [← hw]
    split at h
    · rename_i hwt
      rw [if_pos hwt]
      split at h
      · rename_i c hop
        split at h
        · rename_i d hpush
          split at h
          · rename_i r1 hput
            obtain ⟨d', h1, h2⟩ := dPush_sound (P := P) (ty := o.type) hpush hR hr
            refine .inl ?_
            have hex : (execOp a.eval o).run P w = .ok (.defer d') w := by
              unfold execOp
              rw [hop]
              simp only [Sem.run_bind, h1, Result.andThen_ok]
              rfl
            unfold Oper.wp
            rw [hex, Oper.upon_defer]
            refine dOps_wp hc l r1 σ (d :: ds) ρ w _ h hR (aPut_rel (a := { a with defers := d' :: a.defers }) hput hr vrel_undef hn) (by rw [put_size]; exact hn) (by rw [put_defers]; exact ⟨h2, hd⟩) hQ
          · cases h
        · cases h
      · split at h
        · rename_i v σ1 hst
          split at h
          · rename_i r1 hput
            refine .inl (aStep_wp hc hst hR (OpRel.of_regs hR hr) fun v' τ w' hv hs => ?_)
            exact dOps_wp hc l r1 σ1 ds τ w' _ h hs.rel (aPut_rel hput (hr.ext hs.le) hv hn) (by rw [put_size]; exact hn) (by rw [put_defers]; exact DRel.ext hs.le hd)
              fun τ' a' w'' h1 h2 h3 h4 => hQ τ' a' w'' h1 h2 h3 (hs.trans h4)
          · cases h
        · cases h
    · rename_i hwt
      rw [if_neg hwt]
      split at h
      · rename_i r1 hput
        exact dOps_wp hc l r1 σ ds ρ w _ h hR (aPut_rel hput hr vrel_undef hn) (by rw [put_size]; exact hn) (by rw [put_defers]; exact hd) hQ
      · cases h

theorem dCode_wp {callf : FuncId → List Value → AS → Option (Value × AS)} (hc : CallSound P G callf) {code : Nat → Code → Regs → AS → Option (Nat × Regs × AS)} (hk : CodeSound P G code) {n : Nat} : ∀ (k : Nat) (c : Code) (r : Regs) (σ : AS) (ds : List ADef) (ρ : Ren) (w : World) (a : Act) (Q : Exit → Act → World → Prop) {x : Nat} {r' : Regs} {σ' : AS} {ds' : List ADef}, dCode P G callf code k n c r σ ds = some (x, r', σ', ds') →
    R G ρ σ w → RegsRel ρ r a.tmps → a.tmps.size = n → LRel (DRel ρ) ds a.defers →
    (∀ τ a' w', RegsRel τ r' a'.tmps → a'.tmps.size = n → LRel (DRel τ) ds' a'.defers → Sim G ρ σ w τ σ' w' → Q (exitOf x) a' w') → c.wp P Q a w
  | 0, c, r, σ, ds, ρ, w, a, Q, x, r', σ', ds', h, hR, hr, hn, hd, hQ => by cases h
  | k + 1, c, r, σ, ds, ρ, w, a, Q, x, r', σ', ds', h, hR, hr, hn, hd, hQ => by
    unfold dCode at h
    split at h
    · split at h
      · split at h
        · rename_i e r1 σ1 ds1 h1
          refine wp_seq (dCode_wp hc hk k _ _ _ _ ρ w a _ h1 hR hr hn hd fun τ a' w' k1 k2 k3 k4 => ?_)
          split at h
          · rename_i he
            have he := Nat.eq_of_beq_eq_true he
            subst he
            exact dCode_wp hc hk k _ _ _ _ τ w' a' Q h k4.rel k1 k2 k3 fun τ' a'' w'' l1 l2 l3 l4 => hQ τ' a'' w'' l1 l2 l3 (k4.trans l4)
          · rename_i he
            cases h
            have he : x ≠ 0 := fun h => he (by rw [h]; rfl)
            match x, he with
            | 1, _ => exact hQ τ a' w' k1 k2 k3 k4
            | y + 2, _ => exact hQ τ a' w' k1 k2 k3 k4
        · cases h
      · split at h
        · rename_i b hb
          have hv := vrel_bool.1 (aev_sound hb hR hr)
          exact wp_cond hv (dCode_wp hc hk k _ _ _ _ ρ w a Q h hR hr hn hd hQ)
        · cases h
      · rename_i id cb hdf
        split at h
        · rename_i e r1 σ1 ds1 h1
          refine wp_block (dCode_wp hc hk k _ _ _ _ ρ w a _ h1 hR hr hn hd fun τ a' w' k1 k2 k3 k4 => ?_)
          split at h
          · rename_i he
            have he := Nat.eq_of_beq_eq_true he
            subst he
            cases h
            simp only [exitOf, Exit.inBlock, if_true]
            exact hQ τ a' w' k1 k2 k3 k4
          · rename_i he
            cases h
            have he : x ≠ id + 2 := fun h => he (by rw [h]; simp [Nat.beq_eq])
            match x, he with
            | 0, _ => exact hQ τ a' w' k1 k2 k3 k4
            | 1, _ => exact hQ τ a' w' k1 k2 k3 k4
            | y + 2, he =>
              simp only [exitOf, Exit.inBlock]
              rw [if_neg (by omega)]
              exact hQ τ a' w' k1 k2 k3 k4
        · cases h
      · refine wp_scope_straight (dCode_wp hc hk k _ _ _ _ ρ w a _ h hR hr hn hd fun τ a' w' k1 k2 k3 k4 => ?_)
        match x with
        | 0 => exact hQ τ a' w' k1 k2 k3 k4
        | 1 => exact hQ τ a' w' k1 k2 k3 k4
        | y + 2 => exact hQ τ a' w' k1 k2 k3 k4
      · split at h
        · rename_i r1 σ1 ds1 h1
          cases h
          exact wp_region_list (dOps_wp hc _ _ _ _ _ _ _ h1 hR hr hn hd hQ)
        · cases h
      · cases h
    · split at h
      · rename_i e r1 σ1 h1
        cases h
        exact hk _ _ _ _ _ _ _ ρ w a Q h1 hR hr hn rfl fun τ a' w' k1 k2 k3 k4 => hQ τ a' w' k1 k2 (by rw [k3]; exact DRel.ext k4.le hd) k4
      · cases h

theorem opsS_sound {callf : FuncId → List Value → AS → Option (Value × AS)} (hc : CallSound P G callf) {n : Nat} {ops : Array Oper} {cs : List Frame} {Q : Exit → Act → List Frame → World → Prop} {r' : Regs} {σ' : AS} : ∀ (l : List Oper) (k : Nat), (∀ j, l[j]? = ops[k + j]?) → ∀ (r : Regs) (σ : AS) (ρ : Ren) (w : World) (a : Act),
    aOps P G callf n ops l r σ = some (r', σ') → R G ρ σ w → RegsRel ρ r a.tmps → a.tmps.size = n → a.defers = [] →
    (∀ τ a' w', RegsRel τ r' a'.tmps → a'.tmps.size = n → a'.defers = [] → Sim G ρ σ w τ σ' w' → Q .normal a' cs w') → wpOpsS P ops Q (List.range' k l.length) a cs w
  | [], k, _, r, σ, ρ, w, a, h, hR, hr, hn, hd, hQ => by cases h; exact hQ ρ a w hr hn hd (Sim.refl hR)
  | o :: l, k, hl, r, σ, ρ, w, a, h, hR, hr, hn, hd, hQ => by
    have ho : ops[k]? = some o := by simpa using (hl 0).symm
    have hl' : ∀ j, l[j]? = ops[k + 1 + j]? := fun j => by have := hl (j + 1); simpa [Nat.add_assoc, Nat.add_comm 1 j] using this
    have hw : aWanted ops r o = Region.wanted o (yielded ops a.tmps) := aWanted_eq fun _ _ t _ _ => hr t
    simp only [aOps, bite_eq] at h
    simp only [List.length_cons, List.range'_succ, wpOpsS, ho]
    rw [← hw]
    split at h
    · rename_i hwt
      rw [if_pos hwt]
      split at h
      · rename_i v σ1 hst
        split at h
        · rename_i r1 hput
          have key : o.wp P a w (fun a' w' => wpOpsS P ops Q (List.range' (k + 1) l.length) a' cs w') (fun e a' w' => Q e a' cs w') :=
            aStep_wp hc hst hR (OpRel.of_regs hR hr) fun v' τ w' hv hs =>
              opsS_sound hc l (k + 1) hl' r1 σ1 τ w' _ h hs.rel (aPut_rel hput (hr.ext hs.le) hv hn) (by rw [put_size]; exact hn) (by rw [put_defers]; exact hd)
                fun τ' a' w'' h1 h2 h3 h4 => hQ τ' a' w'' h1 h2 h3 (hs.trans h4)
          unfold Oper.wp at key
          split
          · rename_i w1 hex
            rw [hex] at key
            exact key.elim
          · exact key
        · cases h
      · cases h
    · rename_i hwt
      rw [if_neg hwt]
      split at h
      · rename_i r1 hput
        exact opsS_sound hc l (k + 1) hl' r1 σ ρ w _ h hR (aPut_rel hput hr vrel_undef hn) (by rw [put_size]; exact hn) (by rw [put_defers]; exact hd) hQ
      · cases h

theorem rec_calls {callf : FuncId → List Value → AS → Option (Value × AS)} (hc : CallSound P G callf) {code : Nat → Code → Regs → AS → Option (Nat × Regs × AS)} (hk : CodeSound P G code) {f : FuncId} {args : List Value} {σ σ' : AS} (h : dRec P G callf code f args σ = some σ') :
    ∃ fn c, P.funcs[f]? = some fn ∧ fn.body = some c ∧ ∀ {ρ : Ren} {w : World} {args' : List Value}, R G ρ σ w → LRel (VRel ρ) args args' →
      CallsD P f args'.toArray .returning w fun e u' w' => (∃ v, e = .returned v) ∧ u' = .returning ∧ ∃ τ, Sim G ρ σ w τ σ' w' := by
  unfold dRec at h
  split at h
  · rename_i fn hfn
    split at h
    · rename_i id ops y hb
      split at h
      · rename_i o l hops
        split at h
        · rename_i hcond
          rw [Bool.and_eq_true] at hcond
          have hlen : args.length ≤ fn.ntmps := by simpa [Nat.ble_eq] using hcond.2
          split at h
          · rename_i r0 hput
            split at h
            · rename_i r1 σ1 h1
              split at h
              · rename_i x r2 σ2 h2
                split at h
                · rename_i hx1
                  have hx1 : x ≤ 1 := by simpa [Nat.ble_eq] using hx1
                  split at h
                  · rename_i vs hvs
                    cases h
                    refine ⟨fn, _, hfn, hb, fun {ρ w args'} hR ha => callsD_of_wpS hfn hb fun c₀ cs hm => ?_⟩
                    have hc0 : ({ c₀ with mode := .returning } : Frame) = c₀ := by rw [← hm]
                    have hsize : (args'.toArray ++ Array.replicate (fn.ntmps - args'.toArray.size) undef).size = fn.ntmps := by simp [← ha.length]; omega
                    have hg : o.guard = none ∧ ∃ c, o.op = .call c ∧ c.callee = .builtin .recover ∧ c.args.size = 0 := by
                      have h3 := hcond.1
                      unfold recOp at h3
                      split at h3
                      · cases h3
                      · rename_i hg
                        split at h3
                        · rename_i c hop
                          split at h3
                          · rename_i hcal; exact ⟨hg, c, hop, hcal, Nat.eq_of_beq_eq_true h3⟩
                          · cases h3
                        · cases h3
                    obtain ⟨hg, c, hop, hcal, hca⟩ := hg
                    have hex : ∀ a : Act, (execOp a.eval o).run P w = .ok .recover w := fun a => by
                      unfold execOp
                      rw [hop]
                      simp only [resolve, hcal, Sem.run_bind, Sem.run_pure, Result.andThen_ok, invoke]
                      have : c.args = #[] := Array.eq_empty_of_size_eq_zero hca
                      rw [this]
                      rfl
                    refine wpS_seq (wpS_region ?_)
                    have hsz : ops.size = l.length + 1 := by rw [← Array.length_toList, hops]; rfl
                    have ho : ops[0]? = some o := by rw [← Array.getElem?_toList, hops]; rfl
                    have hl' : ∀ j, l[j]? = ops[0 + 1 + j]? := fun j => by rw [← Array.getElem?_toList, hops, show 0 + 1 + j = j + 1 by omega]; rfl
                    rw [List.range_eq_range', hsz, List.range'_succ]
                    simp only [wpOpsS, ho]
                    rw [show Region.wanted o (yielded ops (args'.toArray ++ Array.replicate (fn.ntmps - args'.toArray.size) undef)) = true by unfold Region.wanted; rw [hg], if_pos rfl, hex]
                    have hrec : recoverD (c₀ :: cs) = none := by simp only [recoverD, hm]
                    simp only [hrec]
                    refine opsS_sound hc l (0 + 1) hl' r0 σ ρ w _ h1 hR (aPut_rel (a := { tmps := args'.toArray ++ Array.replicate (fn.ntmps - args'.toArray.size) undef, defers := [] }) hput (act0_rel ha) (vrel_nilIface.2 rfl) hsize) (by rw [put_size]; exact hsize) (by rw [put_defers]) fun τ a' w' k1 k2 k3 k4 => ?_
                    refine wpS_of_wp (hk _ _ _ _ _ _ _ τ w' a' _ h2 k4.rel k1 k2 k3 fun τ' a'' w'' l1 l2 l3 l4 => ?_)
                    obtain ⟨u, h5, h6⟩ := results_rel hvs l4.rel l1
                    match x, hx1 with
                    | 0, _ => exact ⟨l3, .returning, by rw [hc0], u, h5, ⟨u, rfl⟩, rfl, τ', k4.trans l4⟩
                    | 1, _ => exact ⟨l3, .returning, by rw [hc0], u, h5, ⟨u, rfl⟩, rfl, τ', k4.trans l4⟩
                  · cases h
                · cases h
              · cases h
            · cases h
          · cases h
        · cases h
      · cases h
    · cases h
  · cases h

theorem dRun_leaves (hp : ProgOk P) {callf : FuncId → List Value → AS → Option (Value × AS)} (hc : CallSound P G callf) {code : Nat → Code → Regs → AS → Option (Nat × Regs × AS)} (hk : CodeSound P G code) {fn : Func} {tmps : Array Value} {r : Regs} {vs : List Value} {σe : AS} (hvs : aResults P σe r fn.results.toList = some vs) :
    ∀ (ds : List ADef) (l : List Deferred) (ρ : Ren) (σ : AS) (w : World) {R' : Ending → World → Prop}, dRun P G callf code ds σ = some σe → R G ρ σ w → LRel (DRel ρ) ds l → RegsRel ρ r tmps →
      (∀ v' τ w', VRel τ (aResult vs) v' → Sim G ρ σ w τ σe w' → R' (.returned v') w') → Leaves P fn tmps R' l .returning w
  | [], [], ρ, σ, w, R', h, hR, _, hr, hQ => by
    cases h
    obtain ⟨u, h5, h6⟩ := results_rel hvs hR hr
    exact ⟨u, h5, hQ u ρ w h6 (Sim.refl hR)⟩
  | d :: ds, d' :: l, ρ, σ, w, R', h, hR, hd, hr, hQ => by
    obtain ⟨⟨cap, as, e, h1⟩, h2⟩ := hd
    subst e
    simp only [dRun, bite_eq] at h
    split at h
    · split at h
      · rename_i σ1 hd1
        obtain ⟨gn, gc, h3, h4, h5⟩ := rec_calls hc hk hd1
        have h6 := h5 hR h1
        rw [Array.toArray_toList] at h6
        refine leaves_cons (by simp) (callFunc_run hp h3 h4 _ _) (h6.mono fun e u' w' ⟨⟨v, e1⟩, e2, τ, hs⟩ => ?_)
        subst e1 e2
        exact dRun_leaves hp hc hk hvs ds l τ σ1 w' h hs.rel (DRel.ext hs.le h2) (hr.ext hs.le) fun v'' τ' w'' k1 k2 => hQ v'' τ' w'' k1 (hs.trans k2)
      · cases h
    · split at h
      · rename_i v σ1 hrun
        obtain ⟨gn, gc, h3, h4, h5⟩ := run_wp hk hrun
        have h6 := h5 hR h1
        rw [Array.toArray_toList] at h6
        refine leaves_cons (by simp) (callFunc_run hp h3 h4 _ _) ((callsD_of_wp h3 h4 h6).mono fun e u' w' ⟨e2, v', τ, e1, _, hs⟩ => ?_)
        subst e1 e2
        exact dRun_leaves hp hc hk hvs ds l τ σ1 w' h hs.rel (DRel.ext hs.le h2) (hr.ext hs.le) fun v'' τ' w'' k1 k2 => hQ v'' τ' w'' k1 (hs.trans k2)
      · cases h
  | [], _ :: _, _, _, _, _, _, _, hd, _, _ => hd.elim
  | _ :: _, [], _, _, _, _, _, _, hd, _, _ => hd.elim

theorem callBy_sound (hp : ProgOk P) (hk : KOk P K) {code : Nat → Code → Regs → AS → Option (Nat × Regs × AS)} (h : CodeSound P G code) : CallSound P G (aCallBy P K G code) := by
  intro f args σ v σ' ρ w args' hc hR ha
  unfold aCallBy at hc
  split at hc
  · rename_i u hu
    cases hc
    exact hk G f args σ v σ' ρ w args' hu hR ha
  rw [bite_eq] at hc
  split at hc
  · unfold aDefRun at hc
    split at hc
    · rename_i fn hfn
      split at hc
      · rename_i c hb
        split at hc
        · rename_i hlen
          have hlen : args.length ≤ fn.ntmps := by simpa [Nat.ble_eq] using hlen
          split at hc
          · rename_i x r' σ1 ds hx
            split at hc
            · rename_i hx1
              have hx1 : x ≤ 1 := by simpa [Nat.ble_eq] using hx1
              split at hc
              · rename_i σ2 h2
                split at hc
                · rename_i vs hvs
                  cases hc
                  refine ⟨callFunc_run hp hfn hb _ _, calls_of_wp_defers hfn hb ?_⟩
                  refine dCode_wp (callPlain_sound hp hk h) h 40 c _ σ [] ρ w _ _ hx hR (act0_rel ha) (by simp [← ha.length]; omega) trivial fun τ a' w' k1 k2 k3 k4 => ?_
                  have hlv : Leaves P fn a'.tmps (fun e w' => ∃ v' τ, e = .returned v' ∧ VRel τ (aResult vs) v' ∧ Sim G ρ σ w τ σ' w') a'.defers .returning w' :=
                    dRun_leaves hp (callPlain_sound hp hk h) h hvs ds a'.defers τ σ1 w' h2 k4.rel k3 k1 fun v' τ' w'' l1 l2 => ⟨v', τ', rfl, l1, k4.trans l2⟩
                  match x, hx1 with
                  | 0, _ => exact hlv
                  | 1, _ => exact hlv
                · cases hc
              · cases hc
            · cases hc
          · cases hc
        · cases hc
      · cases hc
    · cases hc
  · exact callRun_sound hp h f args σ v σ' ρ w args' hc hR ha

theorem aCode_sound (hp : ProgOk P) (hk : KOk P K) : ∀ fuel, CodeSound P G (aCode P K G fuel) ∧
    (∀ n c r σ x r' σ' ρ w a (Q : Exit → Act → World → Prop) {ds : List Deferred}, aCode P K G fuel n (.loop c) r σ = some (x, r', σ') → R G ρ σ w → RegsRel ρ r a.tmps → a.tmps.size = n → a.defers = ds →
      (∀ τ a' w', RegsRel τ r' a'.tmps → a'.tmps.size = n → a'.defers = ds → Sim G ρ σ w τ σ' w' → Q (exitOf x) a' w') → Code.rounds P c Q fuel a w)
  | 0 => ⟨by intro n c r σ x r' σ' ρ w a Q ds h; simp [aCode] at h, by intro n c r σ x r' σ' ρ w a Q ds h; simp [aCode] at h⟩
  | fuel + 1 => by
    obtain ⟨ihA, ihB⟩ := aCode_sound hp hk fuel
    have B : ∀ n c r σ x r' σ' ρ w a (Q : Exit → Act → World → Prop) {ds : List Deferred}, aCode P K G (fuel + 1) n (.loop c) r σ = some (x, r', σ') → R G ρ σ w → RegsRel ρ r a.tmps → a.tmps.size = n → a.defers = ds →
      (∀ τ a' w', RegsRel τ r' a'.tmps → a'.tmps.size = n → a'.defers = ds → Sim G ρ σ w τ σ' w' → Q (exitOf x) a' w') → Code.rounds P c Q (fuel + 1) a w := by
      intro n c r σ x r' σ' ρ w a Q ds h hR hr hn hd hQ
      simp only [aCode, cStep, cSeq] at h
      rw [rounds_succ]
      split at h
      · rename_i e r1 σ1 h1
        split at h
        · rename_i he
          have he := Nat.eq_of_beq_eq_true he
          subst he
          refine ihA _ _ _ _ _ _ _ ρ w a _ h1 hR hr hn hd fun τ a' w' k1 k2 k3 k4 => ?_
          exact ihB _ _ _ _ _ _ _ τ w' a' Q h k4.rel k1 k2 k3 fun τ' a'' w'' l1 l2 l3 l4 => hQ τ' a'' w'' l1 l2 l3 (k4.trans l4)
        · rename_i he
          cases h
          have he : x ≠ 0 := fun h => he (by rw [h]; rfl)
          refine ihA _ _ _ _ _ _ _ ρ w a _ h1 hR hr hn hd fun τ a' w' k1 k2 k3 k4 => ?_
          match x, he with
          | 1, _ => exact hQ τ a' w' k1 k2 k3 k4
          | y + 2, _ => exact hQ τ a' w' k1 k2 k3 k4
      · cases h
    refine ⟨?_, B⟩
    intro n c r σ x r' σ' ρ w a Q ds h hR hr hn hd hQ
    cases c
    case loop c => exact wp_loop_rounds (fuel + 1) (B n c r σ x r' σ' ρ w a Q h hR hr hn hd hQ)
    all_goals simp only [aCode, cStep, cSeq, cCond, cBlock, cRegion] at h
    case skip => cases h; exact wp_skip (hQ ρ a w hr hn hd (Sim.refl hR))
    case label => cases h; exact wp_label (hQ ρ a w hr hn hd (Sim.refl hR))
    case exit => cases h; exact wp_exit (hQ ρ a w hr hn hd (Sim.refl hR))
    case ret => cases h; exact wp_ret (hQ ρ a w hr hn hd (Sim.refl hR))
    case seq c1 c2 =>
      split at h
      · rename_i e r1 σ1 h1
        refine wp_seq (ihA _ _ _ _ _ _ _ ρ w a _ h1 hR hr hn hd fun τ a' w' k1 k2 k3 k4 => ?_)
        split at h
        · rename_i he
          have he := Nat.eq_of_beq_eq_true he
          subst he
          exact ihA _ _ _ _ _ _ _ τ w' a' Q h k4.rel k1 k2 k3 fun τ' a'' w'' l1 l2 l3 l4 => hQ τ' a'' w'' l1 l2 l3 (k4.trans l4)
        · rename_i he
          cases h
          have he : x ≠ 0 := fun h => he (by rw [h]; rfl)
          match x, he with
          | 1, _ => exact hQ τ a' w' k1 k2 k3 k4
          | y + 2, _ => exact hQ τ a' w' k1 k2 k3 k4
      · cases h
    case cond v c1 c2 =>
      split at h
      · rename_i b hb
        have hv := vrel_bool.1 (aev_sound hb hR hr)
        exact wp_cond hv (ihA _ _ _ _ _ _ _ ρ w a Q h hR hr hn hd hQ)
      · cases h
    case block id c =>
      split at h
      · rename_i e r1 σ1 h1
        refine wp_block (ihA _ _ _ _ _ _ _ ρ w a _ h1 hR hr hn hd fun τ a' w' k1 k2 k3 k4 => ?_)
        split at h
        · rename_i he
          have he := Nat.eq_of_beq_eq_true he
          subst he
          cases h
          simp only [exitOf, Exit.inBlock, if_true]
          exact hQ τ a' w' k1 k2 k3 k4
        · rename_i he
          cases h
          have he : x ≠ id + 2 := fun h => he (by rw [h]; simp [Nat.beq_eq])
          match x, he with
          | 0, _ => exact hQ τ a' w' k1 k2 k3 k4
          | 1, _ => exact hQ τ a' w' k1 k2 k3 k4
          | y + 2, he =>
            simp only [exitOf, Exit.inBlock]
            rw [if_neg (by omega)]
            exact hQ τ a' w' k1 k2 k3 k4
      · cases h
    case scope c =>
      refine wp_scope_straight (ihA _ _ _ _ _ _ _ ρ w a _ h hR hr hn hd fun τ a' w' k1 k2 k3 k4 => ?_)
      match x with
      | 0 => exact hQ τ a' w' k1 k2 k3 k4
      | 1 => exact hQ τ a' w' k1 k2 k3 k4
      | y + 2 => exact hQ τ a' w' k1 k2 k3 k4
    case region id ops draw =>
      cases draw with
      | true =>
        simp only [] at h
        split at h
        · rename_i r1 σ1 h1
          cases h
          exact aDraw_wp hp.mixed (callBy_sound hp hk ihA) (callBy_mono (aCode_mono fuel)) h1 hR hr hn hd hQ
        · cases h
      | false =>
        simp only [] at h
        split at h
        · rename_i r1 σ1 h1
          cases h
          exact wp_region_list (aOps_wp (callBy_sound hp hk ihA) _ _ _ _ _ _ h1 hR hr hn hd hQ)
        · cases h
    all_goals cases h

/-- THE EVALUATOR IS RIGHT. -/
theorem aCall_sound (hp : ProgOk P) (hk : KOk P K) (fuel : Nat) : CallSound P G (aCall P K G fuel) := callBy_sound hp hk (aCode_sound hp hk fuel).1

/-- A function at arguments without addresses, over a program whose package variables it does not read. -/
theorem flat_calls (hp : ProgOk P) (hk : KOk P K) {fuel f : Nat} {args : List Value} {v : Value} {σ' : AS} (ha : ∀ x ∈ args, flat x = true) (h : aCall P K 0 fuel f args ⟨0, 0, .e⟩ = some (v, σ')) (hv : flat v = true) (w : World) :
    (callFunc f args.toArray).run P w = .ok (.enter f args.toArray) w ∧
    Calls P f args.toArray w fun e w' => e = .returned v ∧ (∀ b, b < w.heap.size → w'.heap[b]? = w.heap[b]?) ∧ w.heap.size ≤ w'.heap.size ∧ w'.os = w.os ∧ w'.output = w.output := by
  have hR : R 0 ⟨fun _ => none, fun _ => (0, 0)⟩ ⟨0, 0, .e⟩ w :=
    ⟨fun i b hi => (nomatch hi), fun i j b hi => (nomatch hi), fun g hg => absurd hg (Nat.not_lt_zero _), Nat.le_refl _⟩
  have hrel : ∀ l : List Value, (∀ x ∈ l, flat x = true) → LRel (VRel ⟨fun _ => none, fun _ => (0, 0)⟩) l l := by
    intro l
    induction l with
    | nil => intro _; trivial
    | cons a l ih => intro h; exact ⟨(vrel_flat (h a (by simp))).2 rfl, ih fun x hx => h x (by simp [hx])⟩
  obtain ⟨h1, h2⟩ := aCall_sound hp hk fuel f args ⟨0, 0, .e⟩ v σ' _ w args h hR (hrel args ha)
  refine ⟨h1, h2.mono fun e w' ⟨v', τ, he, hv', hs⟩ => ?_⟩
  have := (vrel_flat hv).1 hv'
  subst this
  exact ⟨he, fun i hi => hs.frame i hi fun i hi => (nomatch hi), hs.hsz, hs.out⟩

/-- One more known call: of a function at arguments without addresses; the answer has none. -/
noncomputable def Tbl.add (K : Tbl) (f : FuncId) (args : List Value) (v : Value) : Tbl where
  dfr := K.dfr
  ask := fun g as σ => bite (Nat.beq g f && veqL (veq 9) as args) (some (v, σ)) (K.ask g as σ)
  mono := fun g as σ u σ' h => by
    dsimp only at h
    rw [bite_eq] at h
    split at h
    · cases h; exact AMono.refl _
    · exact K.mono _ _ _ _ _ h

theorem KOk.add (hp : ProgOk P) (hk : KOk P K) {fuel f : Nat} {args : List Value} {v : Value} {σ' : AS} (ha : args.all flat = true) (h : aCall P K 0 fuel f args ⟨0, 0, .e⟩ = some (v, σ')) (hv : flat v = true) : KOk P (K.add f args v) := by
  intro G g as σ u σ1 ρ w as' hu hR has
  unfold Tbl.add at hu
  dsimp only at hu
  rw [bite_eq] at hu
  split at hu
  · rename_i hc
    simp only [Bool.and_eq_true] at hc
    obtain rfl := Nat.eq_of_beq_eq_true hc.1
    obtain rfl := veqL_eq (veq_eq 9) hc.2
    cases hu
    rw [List.all_eq_true] at ha
    obtain rfl := flats_eq ha has
    obtain ⟨h4, h5⟩ := flat_calls hp hk ha h hv w
    exact ⟨h4, h5.mono fun e w' ⟨he, h6, h7, h8⟩ => ⟨_, ρ, he, (vrel_flat hv).2 rfl, Sim.grown hR h6 h7 h8⟩⟩
  · exact hk G g as σ u σ1 ρ w as' hu hR has

/-- Which functions defer. -/
noncomputable def Tbl.defers (K : Tbl) (l : List Nat) : Tbl where
  ask := K.ask
  mono := K.mono
  dfr := fun f => l.any (Nat.beq f)

theorem KOk.defers (hk : KOk P K) (l : List Nat) : KOk P (K.defers l) := hk

/-- A function without arguments, over a program whose package variables it does not read. -/
theorem closed_calls (hp : ProgOk P) (hk : KOk P K) {fuel f : Nat} {v : Value} {σ' : AS} (h : aCall P K 0 fuel f [] ⟨0, 0, .e⟩ = some (v, σ')) (hv : flat v = true) (w : World) :
    Calls P f #[] w fun e w' => e = .returned v ∧ ∀ may, w.keptBut w' may := by
  refine (flat_calls hp hk (by simp) h hv w).2.mono fun e w' ⟨he, h1, _, h2⟩ => ⟨he, fun may => ⟨h2.1, h2.2, fun i hi => ?_⟩⟩
  rw [h1 i hi]
  cases w.heap[i]? with
  | none => rfl
  | some o => cases o <;> simp

end code
end Go.Proofs.YtacpdefmnijhnaaGreat.Abs
