/- Code and calls: what the evaluator answers, the program does. -/
import Derived.Test.YtmojgclminmbfaaGreatDoorAbsL
set_option linter.unusedSimpArgs false
set_option linter.unusedVariables false
namespace Go.Proofs.YtmojgclminmbfaaGreatDoor.Abs

noncomputable def aResults (P : Program) (σ : AS) (r : Regs) : List ResultVar → Option (List Value)
  | [] => some []
  | .tmp t :: l => match aResults P σ r l with
    | some vs => some (rget r t :: vs)
    | none => none
  | .cell x t :: l => match aLoad P σ t (rget r x) with
    | some v => match aResults P σ r l with
      | some vs => some (v :: vs)
      | none => none
    | none => none

noncomputable def aResult : List Value → Value
  | [v] => v
  | vs => .tuple vs.toArray

/-- Calls whose answers are known, with what they do to the memory. -/
structure Tbl where
  ask : FuncId → List Value → AS → Option (Value × AS)
  mono : CallMono ask

noncomputable def aCallRun (P : Program) (code : Nat → Code → Regs → AS → Option (Nat × Regs × AS)) (f : FuncId) (args : List Value) (σ : AS) : Option (Value × AS) :=
  match P.funcs[f]? with
  | some fn => match fn.body with
    | some c => if Nat.ble args.length fn.ntmps then match code fn.ntmps c (rinit args 0 .e) σ with
        | some (x, r', σ') => if Nat.ble x 1 then match aResults P σ' r' fn.results.toList with
            | some vs => some (aResult vs, σ')
            | none => none
          else none
        | none => none
      else none
    | none => none
  | none => none

noncomputable def aCallBy (P : Program) (K : Tbl) (code : Nat → Code → Regs → AS → Option (Nat × Regs × AS)) (f : FuncId) (args : List Value) (σ : AS) : Option (Value × AS) :=
  match K.ask f args σ with
  | some x => some x
  | none => aCallRun P code f args σ

abbrev CodeF : Type := Nat → Code → Regs → AS → Option (Nat × Regs × AS)

noncomputable def cSeq (run : CodeF) (n : Nat) (y : Code) : Option (Nat × Regs × AS) → Option (Nat × Regs × AS)
  | some (e, r', σ') => if Nat.beq e 0 then run n y r' σ' else some (e, r', σ')
  | none => none
noncomputable def cCond (run : CodeF) (n : Nat) (t e : Code) (r : Regs) (σ : AS) : Option Value → Option (Nat × Regs × AS)
  | some (.bool b) => run n (if b then t else e) r σ
  | _ => none
noncomputable def cBlock (id : Nat) : Option (Nat × Regs × AS) → Option (Nat × Regs × AS)
  | some (e, r', σ') => if Nat.beq e (id + 2) then some (0, r', σ') else some (e, r', σ')
  | none => none
noncomputable def cRegion : Option (Regs × AS) → Option (Nat × Regs × AS)
  | some (r', σ') => some (0, r', σ')
  | none => none

noncomputable def cStep (P : Program) (K : Tbl) (G : Nat) (run : CodeF) (n : Nat) (c : Code) (r : Regs) (σ : AS) : Option (Nat × Regs × AS) :=
  match c with
  | .skip => some (0, r, σ)
  | .label _ => some (0, r, σ)
  | .exit id => some (id + 2, r, σ)
  | .ret => some (1, r, σ)
  | .seq x y => cSeq run n y (run n x r σ)
  | .cond x t e => cCond run n t e r σ (aev G r x)
  | .block id x => cBlock id (run n x r σ)
  | .loop x => cSeq run n (.loop x) (run n x r σ)
  | .scope x => run n x r σ
  | .region _ ops true => cRegion (aDraw P G (aCallBy P K run) n ops r σ)
  | .region _ ops false => cRegion (aOps P G (aCallBy P K run) n ops ops.toList r σ)
  | _ => none

/-- The first part of the answer: 0 the end, 1 return, id + 2 leaves block id. -/
noncomputable def aCode (P : Program) (K : Tbl) (G : Nat) : Nat → CodeF
  | 0 => fun _ _ _ _ => none
  | fuel + 1 => fun n c r σ => cStep P K G (aCode P K G fuel) n c r σ

noncomputable def aCall (P : Program) (K : Tbl) (G fuel : Nat) (f : FuncId) (args : List Value) (σ : AS) : Option (Value × AS) := aCallBy P K (aCode P K G fuel) f args σ

/-- No call is known. -/
noncomputable def K0 : Tbl := ⟨fun _ _ _ => none, fun _ _ _ _ _ h => nomatch h⟩

section code
variable {P : Program} {K : Tbl} {G : Nat}

noncomputable def exitOf : Nat → Exit
  | 0 => .normal
  | 1 => .ret
  | x + 2 => .exit x

noncomputable def CodeMono (code : Nat → Code → Regs → AS → Option (Nat × Regs × AS)) : Prop := ∀ n c r σ x r' σ', code n c r σ = some (x, r', σ') → AMono σ σ'

theorem callBy_mono {code : Nat → Code → Regs → AS → Option (Nat × Regs × AS)} (h : CodeMono code) : CallMono (aCallBy P K code) := by
  intro f args σ v σ' hc
  unfold aCallBy at hc
  split at hc
  · rename_i x hx; cases hc; exact K.mono _ _ _ _ _ hx
  unfold aCallRun at hc
  split at hc
  · split at hc
    · split at hc
      · split at hc
        · rename_i x r' σ1 hx
          split at hc
          · split at hc
            · cases hc; exact h _ _ _ _ _ _ _ hx
            · cases hc
          · cases hc
        · cases hc
      · cases hc
    · cases hc
  · cases hc

theorem aCode_mono : ∀ fuel, CodeMono (aCode P K G fuel)
  | 0 => fun n c r σ x r' σ' h => by simp [aCode] at h
  | fuel + 1 => fun n c r σ x r' σ' h => by
    have ih := aCode_mono fuel
    simp only [aCode] at h
    cases c <;> simp only [cStep, cSeq, cCond, cBlock, cRegion] at h
    case skip => cases h; exact AMono.refl _
    case label => cases h; exact AMono.refl _
    case exit => cases h; exact AMono.refl _
    case ret => cases h; exact AMono.refl _
    case seq c1 c2 =>
      split at h
      · rename_i e r1 σ1 h1
        split at h
        · exact (ih _ _ _ _ _ _ _ h1).trans (ih _ _ _ _ _ _ _ h)
        · cases h; exact ih _ _ _ _ _ _ _ h1
      · cases h
    case cond =>
      split at h
      · exact ih _ _ _ _ _ _ _ h
      · cases h
    case block =>
      split at h
      · rename_i e r1 σ1 h1
        split at h
        · cases h; exact ih _ _ _ _ _ _ _ h1
        · cases h; exact ih _ _ _ _ _ _ _ h1
      · cases h
    case loop =>
      split at h
      · rename_i e r1 σ1 h1
        split at h
        · exact (ih _ _ _ _ _ _ _ h1).trans (ih _ _ _ _ _ _ _ h)
        · cases h; exact ih _ _ _ _ _ _ _ h1
      · cases h
    case scope => exact ih _ _ _ _ _ _ _ h
    case region id ops draw =>
      cases draw with
      | true =>
        simp only [] at h
        split at h
        · rename_i r1 σ1 h1
          cases h
          exact aDraw_mono (callBy_mono ih) h1
        · cases h
      | false =>
        simp only [] at h
        split at h
        · rename_i r1 σ1 h1
          cases h
          exact aOps_mono (callBy_mono ih) _ _ _ h1
        · cases h
    all_goals cases h

/-- What is asked of the program's own parts: closed facts. -/
structure ProgOk (P : Program) : Prop where
  mixed : P.follows .mixedOrders = true
  names : ∀ (f : Nat) fn, P.funcs[f]? = some fn → (fn.name == "runtime.NumGoroutine") = false

/-- The known calls come out as they are known. -/
def KOk (P : Program) (K : Tbl) : Prop := ∀ G, CallSound P G K.ask

theorem K0_ok (P : Program) : KOk P K0 := fun _ _ _ _ _ _ _ _ _ h => nomatch h

theorem Sim.grown {ρ : Ren} {σ : AS} {w w' : World} (hR : R G ρ σ w) (hh : ∀ b, b < w.heap.size → w'.heap[b]? = w.heap[b]?) (hs : w.heap.size ≤ w'.heap.size) (ho : w'.os = w.os ∧ w'.output = w.output) : Sim G ρ σ w ρ σ w' where
  base := hR
  le := Ren.le_refl ρ
  rel := ⟨fun i b hi => by
    obtain ⟨h1, o, h2, h3⟩ := hR.blk i b hi
    exact ⟨h1, o, by rw [hh b (hR.lt hi)]; exact h2, h3⟩, hR.inj, hR.glob, hR.globN⟩
  frame := fun b hb _ => hh b hb
  hsz := hs
  nxt := Nat.le_refl _
  newid := fun i b h h' => by rw [h] at h'; cases h'
  newblk := fun i b h h' => by rw [h] at h'; cases h'
  low := Nat.le_refl _
  keep := fun _ _ _ => rfl
  dead := fun _ _ h => h
  stay := fun i b hi _ _ => hh b (hR.lt hi)
  out := ho

theorem flats_eq {ρ : Ren} : ∀ {l l' : List Value}, (∀ x ∈ l, flat x = true) → LRel (VRel ρ) l l' → l' = l
  | [], [], _, _ => rfl
  | a :: l, b :: l', h, hr => by rw [(vrel_flat (h a (by simp))).1 hr.1, flats_eq (fun x hx => h x (by simp [hx])) hr.2]
  | [], _ :: _, _, h => h.elim
  | _ :: _, [], _, h => h.elim

noncomputable def CodeSound (P : Program) (G : Nat) (code : Nat → Code → Regs → AS → Option (Nat × Regs × AS)) : Prop :=
  ∀ n c r σ x r' σ' ρ w a (Q : Exit → Act → World → Prop), code n c r σ = some (x, r', σ') → R G ρ σ w → RegsRel ρ r a.tmps → a.tmps.size = n → a.defers = [] →
    (∀ τ a' w', RegsRel τ r' a'.tmps → a'.tmps.size = n → a'.defers = [] → Sim G ρ σ w τ σ' w' → Q (exitOf x) a' w') → c.wp P Q a w

theorem rget_rinit : ∀ (l : List Value) (i : Nat) (r : Regs) (t : Nat), rget (rinit l i r) t = if i ≤ t then (match l[t - i]? with | some v => v | none => rget r t) else rget r t
  | [], i, r, t => by simp [rinit]
  | v :: l, i, r, t => by
    rw [rinit, rget_rinit l (i + 1), rget_rput]
    by_cases h : i ≤ t
    · by_cases e : i = t
      · subst e; simp; intro h; omega
      · rw [if_pos (show i + 1 ≤ t by omega), if_pos h, show t - i = (t - (i + 1)) + 1 by omega, List.getElem?_cons_succ, if_neg e]
    · rw [if_neg (by omega), if_neg h, if_neg (by omega)]

theorem rget_nil (t : Nat) : rget .e t = undef := by
  rfl

theorem results_sound {ρ : Ren} {σ : AS} {w : World} {r : Regs} {tmps : Array Value} {g : ResultVar → Sem Value} (g1 : ∀ t, g (.tmp t) = pure (tmps.getD t undef))
    (g2 : ∀ x t, g (.cell x t) = do loadVar t (← asAddr (tmps.getD x undef))) (hR : R G ρ σ w) (hr : RegsRel ρ r tmps) : ∀ {l : List ResultVar} {vs : List Value}, aResults P σ r l = some vs →
    ∃ us, (l.mapM g).run P w = .ok us w ∧ LRel (VRel ρ) vs us
  | [], vs, h => by cases h; exact ⟨[], rfl, trivial⟩
  | .tmp t :: l, vs, h => by
    simp only [aResults] at h
    split at h
    · rename_i vs' h'
      cases h
      obtain ⟨us, h1, h2⟩ := results_sound g1 g2 hR hr h'
      refine ⟨tmps.getD t undef :: us, ?_, hr t, h2⟩
      rw [List.mapM_cons, g1]
      simp only [Sem.run_bind, Sem.run_pure, Result.andThen_ok, h1]
    · cases h
  | .cell x t :: l, vs, h => by
    simp only [aResults] at h
    split at h
    · rename_i v hv
      split at h
      · rename_i vs' h'
        cases h
        obtain ⟨us, h1, h2⟩ := results_sound g1 g2 hR hr h'
        obtain ⟨v', h3, h4⟩ := aLoad_sound (P := P) hv hR (hr x)
        refine ⟨v' :: us, ?_, h4, h2⟩
        have hp : ∃ y, rget r x = .pointer (some y) := by
          unfold aLoad at hv
          split at hv
          · rename_i y e; exact ⟨y, e⟩
          · cases hv
        obtain ⟨y, hy⟩ := hp
        have hx := hr x
        rw [hy] at hx
        obtain ⟨b, _, _, e⟩ := vrel_ptr.1 hx
        rw [e] at h3
        have h5 : (g (.cell x t)).run P w = .ok v' w := by
          rw [g2, e]
          simpa [Instr.loadAt, Instr.sureAddr, asAddr] using h3
        rw [List.mapM_cons, Sem.run_bind, h5, Result.andThen_ok, Sem.run_bind, h1]
        rfl
      · cases h
    · cases h

theorem callBy_sound (hp : ProgOk P) (hk : KOk P K) {code : Nat → Code → Regs → AS → Option (Nat × Regs × AS)} (h : CodeSound P G code) : CallSound P G (aCallBy P K code) := by
  intro f args σ v σ' ρ w args' hc hR ha
  unfold aCallBy at hc
  split at hc
  · rename_i u hu
    cases hc
    exact hk G f args σ v σ' ρ w args' hu hR ha
  unfold aCallRun at hc
  split at hc
  · rename_i fn hfn
    split at hc
    · rename_i c hb
      split at hc
      · rename_i hlen
        have hlen : args.length ≤ fn.ntmps := by simpa [Nat.ble_eq] using hlen
        split at hc
        · rename_i x r' σ1 hx
          split at hc
          · rename_i hx1
            have hx1 : x ≤ 1 := by simpa [Nat.ble_eq] using hx1
            split at hc
            · rename_i vs hvs
              cases hc
              refine ⟨?_, ?_⟩
              · have hne : ¬ fn.name = "runtime.NumGoroutine" := by simpa using hp.names f fn hfn
                simp [callFunc, hfn, hne, hb]
              · refine calls_of_wp hfn hb (h _ _ _ _ _ _ _ ρ w _ _ hx hR ?_ ?_ rfl ?_)
                · intro t
                  rw [rget_rinit, if_pos (Nat.zero_le _), Nat.sub_zero, rget_nil]
                  simp only [Array.getD_eq_getD_getElem?, Array.getElem?_append, List.size_toArray, List.getElem?_toArray, Array.getElem?_replicate]
                  split
                  · rename_i u hu
                    obtain ⟨u', h1, h2⟩ := ha.get t hu
                    have hlt : t < args'.length := (List.getElem?_eq_some_iff.1 h1).1
                    rw [if_pos hlt, h1]
                    exact h2
                  · rename_i hu
                    have hge : args.length ≤ t := List.getElem?_eq_none_iff.1 hu
                    rw [if_neg (by rw [← ha.length]; omega)]
                    split <;> exact vrel_undef
                · simp [← ha.length]; omega
                · intro τ a' w' h1 h2 h3 h4
                  have key : ∃ u, (results fn a'.tmps).run P w' = .ok u w' ∧ VRel τ (aResult vs) u := by
                    have hrs := fun (g : ResultVar → Sem Value) (g1 : ∀ t, g (.tmp t) = pure (a'.tmps.getD t undef)) (g2 : ∀ x t, g (.cell x t) = do loadVar t (← asAddr (a'.tmps.getD x undef))) =>
                      results_sound (P := P) g1 g2 h4.rel h1 hvs
                    have h56 : ∃ us, (results fn a'.tmps).run P w' = .ok (if h : us.toArray.size = 1 then us.toArray[0] else .tuple us.toArray) w' ∧ LRel (VRel τ) vs us := by
                      unfold results
                      rw [Sem.run_bind, Array.mapM_eq_mapM_toList, Sem.run_map]
                      obtain ⟨us, h5, h6⟩ := hrs (fun x => match x with | .tmp t => pure (a'.tmps.getD t undef) | .cell a t => do loadVar t (← asAddr (a'.tmps.getD a undef))) (fun t => rfl) (fun x t => rfl)
                      exact ⟨us, by erw [h5]; rfl, h6⟩
                    obtain ⟨us, h5, h6⟩ := h56
                    refine ⟨_, h5, ?_⟩
                    match vs, us, h6 with
                    | [], [], _ => exact vrel_tuple.2 ⟨[], trivial, rfl⟩
                    | [v1], [u1], h6 => simpa [aResult] using h6.1
                    | v1 :: v2 :: vs, u1 :: u2 :: us, h6 => simpa [aResult] using vrel_tuple.2 ⟨_, h6, rfl⟩
                  obtain ⟨u, h5, h6⟩ := key
                  match x, hx1 with
                  | 0, _ => exact ⟨h3, u, h5, u, τ, rfl, h6, h4⟩
                  | 1, _ => exact ⟨h3, u, h5, u, τ, rfl, h6, h4⟩
            · cases hc
          · cases hc
        · cases hc
      · cases hc
    · cases hc
  · cases hc

theorem aCode_sound (hp : ProgOk P) (hk : KOk P K) : ∀ fuel, CodeSound P G (aCode P K G fuel) ∧
    (∀ n c r σ x r' σ' ρ w a (Q : Exit → Act → World → Prop), aCode P K G fuel n (.loop c) r σ = some (x, r', σ') → R G ρ σ w → RegsRel ρ r a.tmps → a.tmps.size = n → a.defers = [] →
      (∀ τ a' w', RegsRel τ r' a'.tmps → a'.tmps.size = n → a'.defers = [] → Sim G ρ σ w τ σ' w' → Q (exitOf x) a' w') → Code.rounds P c Q fuel a w)
  | 0 => ⟨fun n c r σ x r' σ' ρ w a Q h => by simp [aCode] at h, fun n c r σ x r' σ' ρ w a Q h => by simp [aCode] at h⟩
  | fuel + 1 => by
    obtain ⟨ihA, ihB⟩ := aCode_sound hp hk fuel
    have B : ∀ n c r σ x r' σ' ρ w a (Q : Exit → Act → World → Prop), aCode P K G (fuel + 1) n (.loop c) r σ = some (x, r', σ') → R G ρ σ w → RegsRel ρ r a.tmps → a.tmps.size = n → a.defers = [] →
      (∀ τ a' w', RegsRel τ r' a'.tmps → a'.tmps.size = n → a'.defers = [] → Sim G ρ σ w τ σ' w' → Q (exitOf x) a' w') → Code.rounds P c Q (fuel + 1) a w := by
      intro n c r σ x r' σ' ρ w a Q h hR hr hn hd hQ
      simp only [aCode, cStep, cSeq] at h
      rw [rounds_succ]
      split at h
      · rename_i e r1 σ1 h1
        split at h
        · rename_i he
          have he := Nat.eq_of_beq_eq_true he
          subst he
          refine ihA _ _ _ _ _ _ _ ρ w a _ h1 hR hr hn hd fun τ a' w' k1 k2 k3 k4 => ?_
          exact ihB _ _ _ _ _ _ _ τ w' a' Q h k4.rel k1 k2 k3 fun τ' a'' w'' l1 l2 l3 l4 => hQ τ' a'' w'' l1 l2 l3 (k4.trans l4)
        · rename_i he
          cases h
          have he : x ≠ 0 := fun h => he (by rw [h]; rfl)
          refine ihA _ _ _ _ _ _ _ ρ w a _ h1 hR hr hn hd fun τ a' w' k1 k2 k3 k4 => ?_
          match x, he with
          | 1, _ => exact hQ τ a' w' k1 k2 k3 k4
          | y + 2, _ => exact hQ τ a' w' k1 k2 k3 k4
      · cases h
    refine ⟨?_, B⟩
    intro n c r σ x r' σ' ρ w a Q h hR hr hn hd hQ
    cases c
    case loop c => exact wp_loop_rounds (fuel + 1) (B n c r σ x r' σ' ρ w a Q h hR hr hn hd hQ)
    all_goals simp only [aCode, cStep, cSeq, cCond, cBlock, cRegion] at h
    case skip => cases h; exact wp_skip (hQ ρ a w hr hn hd (Sim.refl hR))
    case label => cases h; exact wp_label (hQ ρ a w hr hn hd (Sim.refl hR))
    case exit => cases h; exact wp_exit (hQ ρ a w hr hn hd (Sim.refl hR))
    case ret => cases h; exact wp_ret (hQ ρ a w hr hn hd (Sim.refl hR))
    case seq c1 c2 =>
      split at h
      · rename_i e r1 σ1 h1
        refine wp_seq (ihA _ _ _ _ _ _ _ ρ w a _ h1 hR hr hn hd fun τ a' w' k1 k2 k3 k4 => ?_)
        split at h
        · rename_i he
          have he := Nat.eq_of_beq_eq_true he
          subst he
          exact ihA _ _ _ _ _ _ _ τ w' a' Q h k4.rel k1 k2 k3 fun τ' a'' w'' l1 l2 l3 l4 => hQ τ' a'' w'' l1 l2 l3 (k4.trans l4)
        · rename_i he
          cases h
          have he : x ≠ 0 := fun h => he (by rw [h]; rfl)
          match x, he with
          | 1, _ => exact hQ τ a' w' k1 k2 k3 k4
          | y + 2, _ => exact hQ τ a' w' k1 k2 k3 k4
      · cases h
    case cond v c1 c2 =>
      split at h
      · rename_i b hb
        have hv := vrel_bool.1 (aev_sound hb hR hr)
        exact wp_cond hv (ihA _ _ _ _ _ _ _ ρ w a Q h hR hr hn hd hQ)
      · cases h
    case block id c =>
      split at h
      · rename_i e r1 σ1 h1
        refine wp_block (ihA _ _ _ _ _ _ _ ρ w a _ h1 hR hr hn hd fun τ a' w' k1 k2 k3 k4 => ?_)
        split at h
        · rename_i he
          have he := Nat.eq_of_beq_eq_true he
          subst he
          cases h
          simp only [exitOf, Exit.inBlock, if_true]
          exact hQ τ a' w' k1 k2 k3 k4
        · rename_i he
          cases h
          have he : x ≠ id + 2 := fun h => he (by rw [h]; simp [Nat.beq_eq])
          match x, he with
          | 0, _ => exact hQ τ a' w' k1 k2 k3 k4
          | 1, _ => exact hQ τ a' w' k1 k2 k3 k4
          | y + 2, he =>
            simp only [exitOf, Exit.inBlock]
            rw [if_neg (by omega)]
            exact hQ τ a' w' k1 k2 k3 k4
      · cases h
    case scope c =>
      refine wp_scope_straight (ihA _ _ _ _ _ _ _ ρ w a _ h hR hr hn hd fun τ a' w' k1 k2 k3 k4 => ?_)
      match x with
      | 0 => exact hQ τ a' w' k1 k2 k3 k4
      | 1 => exact hQ τ a' w' k1 k2 k3 k4
      | y + 2 => exact hQ τ a' w' k1 k2 k3 k4
    case region id ops draw =>
      cases draw with
      | true =>
        simp only [] at h
        split at h
        · rename_i r1 σ1 h1
          cases h
          exact aDraw_wp hp.mixed (callBy_sound hp hk ihA) (callBy_mono (aCode_mono fuel)) h1 hR hr hn hd hQ
        · cases h
      | false =>
        simp only [] at h
        split at h
        · rename_i r1 σ1 h1
          cases h
          exact wp_region_list (aOps_wp (callBy_sound hp hk ihA) _ _ _ _ _ _ h1 hR hr hn hd hQ)
        · cases h
    all_goals cases h

/-- THE EVALUATOR IS RIGHT. -/
theorem aCall_sound (hp : ProgOk P) (hk : KOk P K) (fuel : Nat) : CallSound P G (aCall P K G fuel) := callBy_sound hp hk (aCode_sound hp hk fuel).1

/-- A function at arguments without addresses, over a program whose package variables it does not read. -/
theorem flat_calls (hp : ProgOk P) (hk : KOk P K) {fuel f : Nat} {args : List Value} {v : Value} {σ' : AS} (ha : ∀ x ∈ args, flat x = true) (h : aCall P K 0 fuel f args ⟨0, 0, .e⟩ = some (v, σ')) (hv : flat v = true) (w : World) :
    (callFunc f args.toArray).run P w = .ok (.enter f args.toArray) w ∧
    Calls P f args.toArray w fun e w' => e = .returned v ∧ (∀ b, b < w.heap.size → w'.heap[b]? = w.heap[b]?) ∧ w.heap.size ≤ w'.heap.size ∧ w'.os = w.os ∧ w'.output = w.output := by
  have hR : R 0 ⟨fun _ => none, fun _ => (0, 0)⟩ ⟨0, 0, .e⟩ w :=
    ⟨fun i b hi => (nomatch hi), fun i j b hi => (nomatch hi), fun g hg => absurd hg (Nat.not_lt_zero _), Nat.le_refl _⟩
  have hrel : ∀ l : List Value, (∀ x ∈ l, flat x = true) → LRel (VRel ⟨fun _ => none, fun _ => (0, 0)⟩) l l := by
    intro l
    induction l with
    | nil => intro _; trivial
    | cons a l ih => intro h; exact ⟨(vrel_flat (h a (by simp))).2 rfl, ih fun x hx => h x (by simp [hx])⟩
  obtain ⟨h1, h2⟩ := aCall_sound hp hk fuel f args ⟨0, 0, .e⟩ v σ' _ w args h hR (hrel args ha)
  refine ⟨h1, h2.mono fun e w' ⟨v', τ, he, hv', hs⟩ => ?_⟩
  have := (vrel_flat hv).1 hv'
  subst this
  exact ⟨he, fun i hi => hs.frame i hi fun i hi => (nomatch hi), hs.hsz, hs.out⟩

/-- One more known call: of a function at arguments without addresses; the answer has none. -/
noncomputable def Tbl.add (K : Tbl) (f : FuncId) (args : List Value) (v : Value) : Tbl where
  ask := fun g as σ => bite (Nat.beq g f && veqL (veq 9) as args) (some (v, σ)) (K.ask g as σ)
  mono := fun g as σ u σ' h => by
    dsimp only at h
    rw [bite_eq] at h
    split at h
    · cases h; exact AMono.refl _
    · exact K.mono _ _ _ _ _ h

theorem KOk.add (hp : ProgOk P) (hk : KOk P K) {fuel f : Nat} {args : List Value} {v : Value} {σ' : AS} (ha : args.all flat = true) (h : aCall P K 0 fuel f args ⟨0, 0, .e⟩ = some (v, σ')) (hv : flat v = true) : KOk P (K.add f args v) := by
  intro G g as σ u σ1 ρ w as' hu hR has
  unfold Tbl.add at hu
  dsimp only at hu
  rw [bite_eq] at hu
  split at hu
  · rename_i hc
    simp only [Bool.and_eq_true] at hc
    obtain rfl := Nat.eq_of_beq_eq_true hc.1
    obtain rfl := veqL_eq (veq_eq 9) hc.2
    cases hu
    rw [List.all_eq_true] at ha
    obtain rfl := flats_eq ha has
    obtain ⟨h4, h5⟩ := flat_calls hp hk ha h hv w
    exact ⟨h4, h5.mono fun e w' ⟨he, h6, h7, h8⟩ => ⟨_, ρ, he, (vrel_flat hv).2 rfl, Sim.grown hR h6 h7 h8⟩⟩
  · exact hk G g as σ u σ1 ρ w as' hu hR has

/-- A function without arguments, over a program whose package variables it does not read. -/
theorem closed_calls (hp : ProgOk P) (hk : KOk P K) {fuel f : Nat} {v : Value} {σ' : AS} (h : aCall P K 0 fuel f [] ⟨0, 0, .e⟩ = some (v, σ')) (hv : flat v = true) (w : World) :
    Calls P f #[] w fun e w' => e = .returned v ∧ ∀ may, w.keptBut w' may := by
  refine (flat_calls hp hk (by simp) h hv w).2.mono fun e w' ⟨he, h1, _, h2⟩ => ⟨he, fun may => ⟨h2.1, h2.2, fun i hi => ?_⟩⟩
  rw [h1 i hi]
  cases w.heap[i]? with
  | none => rfl
  | some o => cases o <;> simp

end code
end Go.Proofs.YtmojgclminmbfaaGreatDoor.Abs
