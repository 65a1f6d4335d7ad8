/- A range over a map of few entries: whatever the order, as far as the evaluator's runs for all orders go. No program text. -/
import Derived.Test.YtacpdefmnijhnaaGreatAbsV
import Derived.Test.YtacpdefmnijhnaaGreatAbsS
import Derived.Laws.IdiomRangeMap
set_option linter.unusedSimpArgs false
set_option linter.unusedVariables false
namespace Go.Proofs.YtacpdefmnijhnaaGreat.Abs

section
variable {P : Program}

theorem R.zero {G : Nat} {ρ : Ren} {σ : AS} {w : World} (h : R G ρ σ w) : R 0 ρ σ w := ⟨h.blk, h.inj, fun g hg => absurd hg (Nat.not_lt_zero _), Nat.zero_le _⟩

theorem Sim.lift {G : Nat} {ρ τ : Ren} {σ σ' : AS} {w w' : World} (h : Sim 0 ρ σ w τ σ' w') (hR : R G ρ σ w) : Sim G ρ σ w τ σ' w' :=
  { h with base := hR, rel := ⟨h.rel.blk, h.rel.inj, fun g hg => (h.le g g (hR.glob g hg)).1, Nat.le_trans hR.globN h.nxt⟩ }

/-- 'next' at an iterator anywhere, the map as it was when the loop began. -/
theorem run_next_at (w : World) (ty : TypeId) {bi bm clk : Nat} {seen : Array Nat} {es : Array MapEntry} (hi : w.heap[bi]? = some (.mapIter (some bm) clk seen clk)) (hb : w.heap[bm]? = some (.map es clk)) (hold : ∀ x ∈ es.toList, x.born < clk) :
    ((leftOf es seen).size = 0 ∧ (Instr.next (.pointer (some ⟨bi, 0, none⟩)) false ty).run P w = .ok (.tuple #[.bool false]) w) ∨
    ∃ e ∈ (leftOf es seen).toList, ∃ w1 : World, w1.heap = w.heap.setIfInBounds bi (.mapIter (some bm) clk (seen.push e.born) clk) ∧ w1.os = w.os ∧ w1.output = w.output ∧
      (Instr.next (.pointer (some ⟨bi, 0, none⟩)) false ty).run P w = .ok (.tuple #[.bool true, e.key, e.val]) w1 := by
  simp only [Instr.next, getObj, Sem.run_bind, Sem.run, hi, hb, Result.andThen, next_test_false seen es clk clk hold (Nat.le_refl _), Bool.false_eq_true, if_false]
  unfold leftOf
  have hmem : ∀ x ∈ (Array.filter (fun e => !seen.contains e.born) es).toList, x.born < clk := fun x hx => hold x (by simp at hx ⊢; exact hx.1)
  generalize Array.filter (fun e => !seen.contains e.born) es = L at hmem ⊢
  have e1 : L.filter (fun x => decide (x.born < clk)) = L := Array.filter_eq_self.2 (fun x hx => by simpa using hmem x (by simpa using hx))
  have e2 : L.filter (fun x => decide (x.born ≥ clk)) = #[] := by
    rw [Array.filter_eq_empty_iff]
    intro x hx
    have := hmem x (by simpa using hx)
    simp
    omega
  simp only [e1, e2, Array.append_empty]
  by_cases h0 : L.size = 0
  · left
    have : L = #[] := Array.eq_empty_of_size_eq_zero h0
    subst this
    refine ⟨rfl, ?_⟩
    simp [choose, Sem.run, Question.forced]
  · right
    have hne : L.isEmpty = false := by simp [Array.isEmpty, h0]
    simp only [hne, Bool.false_eq_true, if_false, Array.empty_append, Array.size_map]
    have hch : ∃ (j : Nat) (w1 : World), j < L.size ∧ w1.heap = w.heap ∧ w1.os = w.os ∧ w1.output = w.output ∧ (choose (Question.mapNext L.size)).run P w = .ok j w1 := by
      by_cases hf : L.size ≤ 1
      · exact ⟨0, w, by omega, rfl, rfl, rfl, by simp [choose, Sem.run, Question.forced, hf]⟩
      · exact ⟨_, w.drew, Nat.mod_lt _ (by omega), rfl, rfl, rfl, by
          simp only [choose, Sem.run, Question.forced, decide_eq_true_eq, hf, if_false, Question.cut]
          rfl⟩
    obtain ⟨j, w1, hj, k1, k2, k3, hrun⟩ := hch
    have hset : ∀ (o' : Obj), (setObj bi o').run P w1 = .ok () { w1 with heap := w1.heap.setIfInBounds bi o' } := fun o' => by
      simp [setObj, Sem.run, k1, hi]
    refine ⟨L[j], by simp, { w1 with heap := w1.heap.setIfInBounds bi (.mapIter (some bm) clk (seen.push L[j].born) clk) }, by rw [← k1], k2, k3, ?_⟩
    simp only [hrun, Array.getElem?_map, Array.getElem?_eq_getElem hj, Option.map_some, Sem.run_bind, hset, Result.andThen]
    rfl

/-- A block that is new since the start and has dead names alone may change. -/
theorem Sim.touch {G : Nat} {ρ τ : Ren} {σ σ' : AS} {w w' w1 : World} (h : Sim G ρ σ w τ σ' w') {bi : Nat} {o o' : Obj} (hb : w'.heap[bi]? = some o) (hnew : w.heap.size ≤ bi) (hd : ∀ i, τ.bl i = some bi → (σ'.get i).kind = 0)
    (hw : w1.heap = w'.heap.setIfInBounds bi o') (ho : w1.os = w'.os ∧ w1.output = w'.output) : Sim G ρ σ w τ σ' w1 where
  base := h.base
  le := h.le
  rel := by
    refine ⟨fun i b hi => ?_, h.rel.inj, h.rel.glob, h.rel.globN⟩
    obtain ⟨h1, o1, h2, h3⟩ := h.rel.blk i b hi
    refine ⟨h1, ?_⟩
    rw [hw]
    by_cases e : b = bi
    · subst e
      refine ⟨o', by rw [heap_set_get hb, if_pos rfl], ?_⟩
      have := hd i hi
      unfold BRel
      rw [this]
      trivial
    · exact ⟨o1, by rw [heap_set_get hb, if_neg (fun h => e h.symm)]; exact h2, h3⟩
  frame b hlt hdd := by
    rw [hw, heap_set_get hb, if_neg (by omega)]
    exact h.frame b hlt hdd
  hsz := by rw [hw]; simpa using h.hsz
  nxt := h.nxt
  newid := h.newid
  newblk := h.newblk
  low := h.low
  keep := h.keep
  dead := h.dead
  stay i b hi hk hl := by
    have := h.base.lt hi
    rw [hw, heap_set_get hb, if_neg (by omega)]
    exact h.stay i b hi hk hl
  out := ⟨ho.1.trans h.out.1, ho.2.trans h.out.2⟩

/-- A block all of whose names are dead keeps so. -/
theorem Sim.deads {G : Nat} {ρ τ : Ren} {σ σ' : AS} {w w' : World} (h : Sim G ρ σ w τ σ' w') {bi : Nat} (hlt : bi < w.heap.size) (hd : ∀ i, ρ.bl i = some bi → (σ.get i).kind = 0) : ∀ i, τ.bl i = some bi → (σ'.get i).kind = 0 := fun i hi => by
  cases hq : ρ.bl i with
  | some b =>
    have := (h.le i b hq).1
    rw [hi] at this
    cases this
    exact h.dead i (h.base.blk i bi hq).1 (hd i hq)
  | none =>
    rcases h.newblk i bi hi hq with h1 | ⟨j, h1, h2, _⟩
    · omega
    · exact absurd (hd j h1) h2

end

section
variable {P : Program} {K : Tbl} {n : Nat}

/-- A piece of code, told of the machine and of the evaluator's memory at once. -/
def M (P : Program) (n : Nat) (c : Code) (S : Ren → Regs → AS → World → Prop) (Q : Nat → Ren → Regs → AS → World → Prop) : Prop :=
  ∀ a w τ r σ (Post : Exit → Act → World → Prop), S τ r σ w → RegsRel τ r a.tmps → a.tmps.size = n → a.defers = [] →
    (∀ x τ' r' σ' a' w', Q x τ' r' σ' w' → RegsRel τ' r' a'.tmps → a'.tmps.size = n → a'.defers = [] → Post (exitOf x) a' w') → c.wp P Post a w

theorem M.seq {c d : Code} {S T : Ren → Regs → AS → World → Prop} {Q : Nat → Ren → Regs → AS → World → Prop} (h1 : M P n c S fun x τ r σ w => (x = 0 → T τ r σ w) ∧ (x ≠ 0 → Q x τ r σ w)) (h2 : M P n d T Q) : M P n (.seq c d) S Q := by
  intro a w τ r σ Post hS hr hn hd hP
  refine wp_seq (h1 a w τ r σ _ hS hr hn hd fun x τ' r' σ' a' w' hq k1 k2 k3 => ?_)
  match x with
  | 0 => exact h2 a' w' τ' r' σ' Post (hq.1 rfl) k1 k2 k3 hP
  | 1 => exact hP 1 τ' r' σ' a' w' (hq.2 (by decide)) k1 k2 k3
  | y + 2 => exact hP (y + 2) τ' r' σ' a' w' (hq.2 (by omega)) k1 k2 k3

theorem M.block {c : Code} {id : Nat} {S : Ren → Regs → AS → World → Prop} {Q : Nat → Ren → Regs → AS → World → Prop} (h : M P n c S fun x τ r σ w => (x = id + 2 → Q 0 τ r σ w) ∧ (x ≠ id + 2 → Q x τ r σ w)) : M P n (.block id c) S Q := by
  intro a w τ r σ Post hS hr hn hd hP
  refine wp_block (h a w τ r σ _ hS hr hn hd fun x τ' r' σ' a' w' hq k1 k2 k3 => ?_)
  by_cases hx : x = id + 2
  · subst hx
    simp only [exitOf, Exit.inBlock, if_true]
    exact hP 0 τ' r' σ' a' w' (hq.1 rfl) k1 k2 k3
  · have := hP x τ' r' σ' a' w' (hq.2 hx) k1 k2 k3
    match x, hx, this with
    | 0, _, this => exact this
    | 1, _, this => exact this
    | y + 2, hx, this =>
      simp only [exitOf, Exit.inBlock]
      rw [if_neg (by omega)]
      exact this

theorem M.run (hp : ProgOk P) (hk : KOk P K) {c : Code} {S : Ren → Regs → AS → World → Prop} {Q : Nat → Ren → Regs → AS → World → Prop}
    (h : ∀ τ r σ w, S τ r σ w → R 0 τ σ w ∧ ∃ fuel x r' σ', aCode P K 0 fuel n c r σ = some (x, r', σ') ∧ ∀ τ' w', Sim 0 τ σ w τ' σ' w' → Q x τ' r' σ' w') : M P n c S Q := by
  intro a w τ r σ Post hS hr hn hd hP
  obtain ⟨hR, fuel, x, r', σ', h1, h2⟩ := h τ r σ w hS
  exact (aCode_sound hp hk fuel).1 n c r σ x r' σ' τ w a Post h1 hR hr hn hd fun τ' a' w' k1 k2 k3 k4 => hP x τ' r' σ' a' w' (h2 τ' w' k4) k1 k2 k3

theorem M.mono {c : Code} {S S' : Ren → Regs → AS → World → Prop} {Q : Nat → Ren → Regs → AS → World → Prop} (h : M P n c S Q) (hs : ∀ τ r σ w, S' τ r σ w → S τ r σ w) : M P n c S' Q :=
  fun a w τ r σ Post hS => h a w τ r σ Post (hs _ _ _ _ hS)

/-- Operations ahead of others. -/
theorem aOps_wp_app {callf : FuncId → List Value → AS → Option (Value × AS)} (hc : CallSound P 0 callf) {ops : Array Oper} {Post : Exit → Act → World → Prop} {l2 : List Oper} {r' : Regs} {σ' : AS} : ∀ (l : List Oper) (r : Regs) (σ : AS) (ρ : Ren) (w : World) (a : Act),
    aOps P 0 callf n ops l r σ = some (r', σ') → R 0 ρ σ w → RegsRel ρ r a.tmps → a.tmps.size = n → a.defers = [] →
    (∀ τ a' w', RegsRel τ r' a'.tmps → a'.tmps.size = n → a'.defers = [] → Sim 0 ρ σ w τ σ' w' → wpList P ops Post l2 a' w') → wpList P ops Post (l ++ l2) a w
  | [], r, σ, ρ, w, a, h, hR, hr, hn, hd, hQ => by cases h; exact hQ ρ a w hr hn hd (Sim.refl hR)
  | o :: l, r, σ, ρ, w, a, h, hR, hr, hn, hd, hQ => by
    simp only [aOps, bite_eq] at h
    have hw : aWanted ops r o = Region.wanted o (yielded ops a.tmps) := aWanted_eq fun _ _ t _ _ => hr t
    rw [List.cons_append]
    unfold wpList
    rw [← hw]
    split at h
    · rename_i hwt
      rw [if_pos hwt]
      split at h
      · rename_i v σ1 hst
        split at h
        · rename_i r1 hput
          refine .inl (aStep_wp hc hst hR (OpRel.of_regs hR hr) fun v' τ w' hv hs => ?_)
          exact aOps_wp_app hc l r1 σ1 τ w' _ h hs.rel (aPut_rel hput (hr.ext hs.le) hv hn) (by rw [put_size]; exact hn) (by rw [put_defers]; exact hd)
            fun τ' a' w'' h1 h2 h3 h4 => hQ τ' a' w'' h1 h2 h3 (hs.trans h4)
        · cases h
      · cases h
    · rename_i hwt
      rw [if_neg hwt]
      split at h
      · rename_i r1 hput
        exact aOps_wp_app hc l r1 σ ρ w _ h hR (aPut_rel hput hr vrel_undef hn) (by rw [put_size]; exact hn) (by rw [put_defers]; exact hd) hQ
      · cases h

/-- An operation that yields a value. -/
theorem wpList_value {ops : Array Oper} {Post : Exit → Act → World → Prop} {l : List Oper} {a : Act} {w w1 : World} {d : Nat} {op : Op} {ty : TypeId} {pos : String} {aft : Array Edge} {v : Value}
    (h : (execOp a.eval ⟨some d, op, ty, pos, aft, none⟩).run P w = .ok (.value v) w1) (hn : wpList P ops Post l (a.put (some d) v) w1) : wpList P ops Post (⟨some d, op, ty, pos, aft, none⟩ :: l) a w := by
  unfold wpList
  rw [show Region.wanted ⟨some d, op, ty, pos, aft, none⟩ (yielded ops a.tmps) = true from rfl, if_pos rfl]
  refine .inl ?_
  unfold Oper.wp
  rw [h, Oper.upon_value]
  exact hn

/-- The iterator is laid. -/
theorem M.range (hp : ProgOk P) (hk : KOk P K) {id : Nat} {ops : Array Oper} {pre : List Oper} {d : Nat} {t ty : TypeId} {x : Nat} {pos : String} {aft : Array Edge} (hl : ops.toList = pre ++ [⟨some d, .range t (.tmp x), ty, pos, aft, none⟩]) {key elem : TypeId} (ht : P.underlying t = some (.map key elem))
    (hdn : d < n) {S : Ren → Regs → AS → World → Prop} {Q : Nat → Ren → Regs → AS → World → Prop}
    (h : ∀ τ r σ w, S τ r σ w → R 0 τ σ w ∧ ∃ fuel r1 σ1 mi, aOps P 0 (aCall P K 0 fuel) n ops pre r σ = some (r1, σ1) ∧ rget r1 x = .map (some mi) ∧ (σ1.get mi).kind = 3 ∧
      ∀ τ' w' bi mb, Sim 0 τ σ w τ' (σ1.new Blk.dead) w' → w.heap.size ≤ bi → τ'.bl mi = some mb → w'.heap[bi]? = some (.mapIter (some mb) (σ1.get mi).esz #[] (σ1.get mi).esz) → τ'.bl σ1.next = some bi →
        (∀ i, τ'.bl i = some bi → ((σ1.new Blk.dead).get i).kind = 0) → Q 0 τ' (rput r1 d (.pointer (some ⟨σ1.next, 0, none⟩))) (σ1.new Blk.dead) w') :
    M P n (.region id ops false) S Q := by
  intro a w τ r σ Post hS hr hn hd hP
  obtain ⟨hR, fuel, r1, σ1, mi, h1, h2, h3, h4⟩ := h τ r σ w hS
  refine wp_region_list ?_
  rw [hl]
  refine aOps_wp_app (aCall_sound hp hk fuel) pre r σ τ w a h1 hR hr hn hd fun τ1 a1 w1 k1 k2 k3 k4 => ?_
  have hx := k1 x
  rw [h2] at hx
  obtain ⟨mb, hmb, ex⟩ := vrel_map.1 hx
  obtain ⟨es, cl, e1, _, hcl, _⟩ := map_of k4.rel hmb h3
  have hrun : (Instr.range t (.map (some mb))).run P w1 = .ok (.pointer (some ⟨w1.heap.size, 0, none⟩)) (w1.alloc (.mapIter (some mb) cl #[] cl)) := run_range_map w1 t key elem mb es cl ht e1
  have hs2 : Sim 0 τ1 σ1 w1 (τ1.add σ1.next w1.heap.size (0, 0)) (σ1.new Blk.dead) (w1.alloc (.mapIter (some mb) cl #[] cl)) := Sim.alloc k4.rel (0, 0) (by trivial)
  have hs := k4.trans hs2
  refine wpList_value (v := .pointer (some ⟨w1.heap.size, 0, none⟩)) (w1 := w1.alloc (.mapIter (some mb) cl #[] cl)) ?_ ?_
  · have e : execOp a1.eval ⟨some d, .range t (.tmp x), ty, pos, aft, none⟩ = (do pure (.value (← Instr.range t (a1.eval (.tmp x)))) : Sem Next) := rfl
    rw [e, Sem.run_bind]
    have e2 : a1.eval (.tmp x) = .map (some mb) := ex
    rw [e2, hrun]
    rfl
  · refine hP 0 _ _ _ _ _ (h4 _ _ w1.heap.size mb hs k4.hsz ?_ ?_ ?_ ?_) ?_ (by rw [put_size]; exact k2) (by rw [put_defers]; exact k3)
    · exact (hs2.le mi mb hmb).1
    · rw [← hcl]
      exact heap_alloc_new w1 _
    · simp [Ren.add]
    · intro i hi
      by_cases e : i = σ1.next
      · subst e; rw [AS.get_new, if_pos rfl]; rfl
      · simp [Ren.add, e] at hi
        have := k4.rel.lt hi
        omega
    · exact aPut_rel (r := r1) (dst := some d) (by simp only [aPut, bite_eq]; rw [if_pos (by rw [Nat.blt_eq]; exact hdn)]) (k1.ext hs2.le) (vrel_ptr.2 ⟨w1.heap.size, by simp [Ren.add], rfl, rfl⟩) k2

end

/-! ### The loop -/
section
variable (P : Program) (K : Tbl) (n fuel : Nat) (ops : Array Oper) (rest : List Oper) (d t c : Nat) (opsE : Array Oper) (restE : List Oper) (dE : Nat) (Mc : Code) (mi it id id2 : Nat)

noncomputable def sameMap (b c : Blk) : Bool := Nat.beq c.kind 3 && Nat.beq b.esz c.esz && veqL (veq 9) b.vals c.vals

/-- What stands behind 'next' where nothing is left. -/
noncomputable def stepF (r : Regs) (σ : AS) : Option (Regs × AS) :=
  match aOps P 0 (aCall P K 0 fuel) n ops rest (rput r d (.tuple #[.bool false])) σ with
  | some (r1, σ1) => match rget r1 c with
    | .bool false => some (r1, σ1)
    | _ => none
  | none => none

/-- A round for entry i. -/
noncomputable def stepT (i : Nat) (r : Regs) (σ : AS) : Option (Regs × AS) :=
  match (σ.get mi).ents[i]? with
  | some e => match aOps P 0 (aCall P K 0 fuel) n ops rest (rput r d (.tuple #[.bool true, e.1, e.2])) σ with
    | some (r1, σ1) => match rget r1 c with
      | .bool true => if veq 9 (rget r1 t) (.pointer (some ⟨it, 0, none⟩)) && sameMap (σ.get mi) (σ1.get mi) then match (σ1.get mi).ents[i]? with
          | some e1 => match aOps P 0 (aCall P K 0 fuel) n opsE restE (rput r1 dE (.tuple #[e1.1, e1.2])) σ1 with
            | some (r2, σ2) => match aCode P K 0 fuel n Mc r2 σ2 with
              | some (x, r', σ') => if Nat.beq x 0 || Nat.beq x (id2 + 2) then some (r', σ') else none
              | none => none
            | none => none
          | none => none
        else none
      | _ => none
    | none => none
  | none => none

/-- The runs for all orders of the entries that are left. -/
noncomputable def tree (fin : Regs → AS → Bool) : Nat → List Nat → Regs → AS → Bool
  | 0, _, r, σ => match stepF P K n fuel ops rest d c r σ with
    | some (r', σ') => fin r' σ'
    | none => false
  | k + 1, left, r, σ => left.all fun i => match stepT P K n fuel ops rest d t c opsE restE dE Mc mi it id2 i r σ with
    | some (r', σ') => sameMap (σ.get mi) (σ'.get mi) && veq 9 (rget r' t) (.pointer (some ⟨it, 0, none⟩)) && tree fin k (left.erase i) r' σ'
    | none => false
end

section
variable {P : Program} {K : Tbl} {n fuel : Nat} {ops : Array Oper} {rest : List Oper} {d t c : Nat} {opsE : Array Oper} {restE : List Oper} {dE : Nat} {Mc : Code} {mi it id id2 : Nat}

noncomputable def births (B : List Nat) : List Value := B.map fun (b : Nat) => Value.int .i64 (b : Int)

structure Inv (ρ0 : Ren) (σ0 : AS) (w0 : World) (mi it t clk : Nat) (B : List Nat) (left : List Nat) (τ : Ren) (r : Regs) (σ : AS) (w : World) (bi mb : Nat) (seen : Array Nat) : Prop where
  sim : Sim 0 ρ0 σ0 w0 τ σ w
  reg : rget r t = .pointer (some ⟨it, 0, none⟩)
  new : w0.heap.size ≤ bi
  name : τ.bl it = some bi
  deads : ∀ i, τ.bl i = some bi → (σ.get i).kind = 0
  mname : τ.bl mi = some mb
  kind : (σ.get mi).kind = 3
  esz : (σ.get mi).esz = clk
  vals : (σ.get mi).vals = births B
  iter : w.heap[bi]? = some (.mapIter (some mb) clk seen clk)
  lf : ∀ (i b : Nat), B[i]? = some b → (i ∈ left ↔ b ∉ seen)
  nodup : left.Nodup
  inB : ∀ i ∈ left, i < B.length

theorem births_inj {B : List Nat} {es : List MapEntry} (h : births B = es.map fun e => Value.int .i64 (e.born : Int)) : B = es.map (·.born) := by
  unfold births at h
  have h2 := congrArg (List.map fun v => match v with | .int _ z => z.toNat | _ => 0) h
  simp only [List.map_map] at h2
  have e1 : ((fun v => match v with | .int _ z => z.toNat | _ => 0) ∘ fun (b : Nat) => Value.int IntKind.i64 (b : Int)) = id := by funext b; simp
  have e2 : ((fun v => match v with | .int _ z => z.toNat | _ => 0) ∘ fun (e : MapEntry) => Value.int IntKind.i64 (e.born : Int)) = (·.born) := by funext e; simp
  rw [e1, e2, List.map_id] at h2
  exact h2

theorem run_entry_at (w : World) {bi bm clk : Nat} {seen : Array Nat} {es : Array MapEntry} {e : MapEntry} {b : Nat} (hi : w.heap[bi]? = some (.mapIter (some bm) clk (seen.push b) clk)) (hb : w.heap[bm]? = some (.map es clk)) (he : e ∈ es.toList) (heb : e.born = b) (hn : (es.toList.map (·.born)).Nodup) :
    (Instr.entry (.pointer (some ⟨bi, 0, none⟩))).run P w = .ok (.tuple #[e.key, e.val]) w := by
  subst heb
  have hf : es.find? (·.born == e.born) = some e := by rw [← Array.find?_toList]; exact find_born e es.toList hn he
  simp only [Instr.entry, getObj, Sem.run_bind, Sem.run, hi, hb, Result.andThen, Array.back?_push, bne_self_eq_false, Bool.false_eq_true, if_false, hf]
  rfl

theorem mapLoop (hp : ProgOk P) (hk : KOk P K) {rid re : Nat} {ty ty2 : TypeId} {pos pos2 : String} {aft aft2 : Array Edge} (hl : ops.toList = ⟨some d, .next (.tmp t) false, ty, pos, aft, none⟩ :: rest) (hlE : opsE.toList = ⟨some dE, .entry (.tmp t), ty2, pos2, aft2, none⟩ :: restE) (hdn : d < n) (hdE : dE < n)
    {ρ0 : Ren} {σ0 : AS} {w0 : World} {clk : Nat} {B : List Nat} (hB : ∀ b ∈ B, b < clk) (hBn : B.Nodup) {fin : Regs → AS → Bool} {Post : Exit → Act → World → Prop}
    (hPost : ∀ τ r σ a w, Sim 0 ρ0 σ0 w0 τ σ w → fin r σ = true → RegsRel τ r a.tmps → a.tmps.size = n → a.defers = [] → Post (.exit id) a w) :
    ∀ (k : Nat) (left : List Nat) (τ : Ren) (r : Regs) (σ : AS) (a : Act) (w : World) (bi mb : Nat) (seen : Array Nat), left.length = k → Inv ρ0 σ0 w0 mi it t clk B left τ r σ w bi mb seen → RegsRel τ r a.tmps → a.tmps.size = n → a.defers = [] →
      tree P K n fuel ops rest d t c opsE restE dE Mc mi it id2 fin k left r σ = true → Code.rounds P (.seq (.region rid ops false) (.seq (.cond (.tmp c) .skip (.exit id)) (.block id2 (.seq (.region re opsE false) Mc)))) Post (k + 1) a w := by
  intro k
  induction k with
  | zero =>
    intro left τ r σ a w bi mb seen hlen hI hr hn hd ht
    rw [rounds_succ]
    refine wp_seq (wp_region_list ?_)
    rw [hl]
    have hleft : left = [] := List.eq_nil_of_length_eq_zero hlen
    subst hleft
    obtain ⟨es, cl, e1, e2, e3, e4⟩ := map_of hI.sim.rel hI.mname hI.kind
    rw [hI.esz] at e3
    rw [e3] at e1
    rw [hI.vals] at e4
    have hBe := births_inj e4
    have hx := hr t
    rw [hI.reg] at hx
    obtain ⟨b', hb', _, ex⟩ := vrel_ptr.1 hx
    rw [hI.name] at hb'
    cases hb'
    have hold : ∀ x ∈ es.toList, x.born < clk := fun x hx => hB _ (by rw [hBe]; exact List.mem_map.2 ⟨x, hx, rfl⟩)
    have hexec : ∀ u w1, (Instr.next (.pointer (some ⟨bi, 0, none⟩)) false ty).run P w = .ok u w1 → (execOp a.eval ⟨some d, .next (.tmp t) false, ty, pos, aft, none⟩).run P w = .ok (.value u) w1 := fun u w1 h => by
      have e : execOp a.eval ⟨some d, .next (.tmp t) false, ty, pos, aft, none⟩ = (do pure (.value (← Instr.next (a.eval (.tmp t)) false ty)) : Sem Next) := rfl
      rw [e, Sem.run_bind]
      have e2 : a.eval (.tmp t) = .pointer (some ⟨bi, 0, none⟩) := ex
      rw [e2, h]
      rfl
    rcases run_next_at w ty hI.iter e1 hold with ⟨_, h2⟩ | ⟨e, h1, _⟩
    · refine wpList_value (hexec _ _ h2) ?_
      simp only [tree] at ht
      split at ht
      · rename_i r' σ' hst
        unfold stepF at hst
        split at hst
        · rename_i r1 σ1 hops
          split at hst
          · rename_i hc
            cases hst
            refine aOps_wp (ds := []) (aCall_sound hp hk fuel) rest _ σ τ w _ hops hI.sim.rel (aPut_rel (r := r) (dst := some d) (by simp only [aPut, bite_eq]; rw [if_pos (by rw [Nat.blt_eq]; exact hdn)]) hr (vrel_tuple.2 ⟨[.bool false], (show LRel (VRel τ) [Value.bool false] [Value.bool false] from ⟨vrel_bool.2 rfl, trivial⟩), rfl⟩) hn) (by rw [put_size]; exact hn) (by rw [put_defers]; exact hd) ?_
            intro τ1 a1 w1 k1 k2 k3 k4
            refine wp_seq (wp_cond (t := false) ?_ ?_)
            · have := k1 c
              rw [hc] at this
              exact vrel_bool.1 this
            · exact wp_exit (hPost τ1 r' σ' a1 w1 (hI.sim.trans k4) ht k1 k2 k3)
          · cases hst
        · cases hst
      · cases ht
    · exfalso
      simp only [leftOf, Array.mem_toList_iff, Array.mem_filter, Bool.not_eq_true'] at h1
      obtain ⟨i, hi⟩ := List.mem_iff_getElem?.1 (show e ∈ es.toList by simpa using h1.1)
      have := (hI.lf i e.born (by rw [hBe, List.getElem?_map, hi]; rfl)).2 (by simpa using h1.2)
      simp at this
  | succ k ih =>
    intro left τ r σ a w bi mb seen hlen hI hr hn hd ht
    rw [rounds_succ]
    refine wp_seq (wp_region_list ?_)
    rw [hl]
    obtain ⟨es, cl, e1, e2, e3, e4⟩ := map_of hI.sim.rel hI.mname hI.kind
    rw [hI.esz] at e3
    rw [e3] at e1
    rw [hI.vals] at e4
    have hBe := births_inj e4
    have hx := hr t
    rw [hI.reg] at hx
    obtain ⟨b', hb', _, ex⟩ := vrel_ptr.1 hx
    rw [hI.name] at hb'
    cases hb'
    have hold : ∀ x ∈ es.toList, x.born < clk := fun x hx => hB _ (by rw [hBe]; exact List.mem_map.2 ⟨x, hx, rfl⟩)
    have hexec : ∀ u w1, (Instr.next (.pointer (some ⟨bi, 0, none⟩)) false ty).run P w = .ok u w1 → (execOp a.eval ⟨some d, .next (.tmp t) false, ty, pos, aft, none⟩).run P w = .ok (.value u) w1 := fun u w1 h => by
      have e : execOp a.eval ⟨some d, .next (.tmp t) false, ty, pos, aft, none⟩ = (do pure (.value (← Instr.next (a.eval (.tmp t)) false ty)) : Sem Next) := rfl
      rw [e, Sem.run_bind]
      have e2 : a.eval (.tmp t) = .pointer (some ⟨bi, 0, none⟩) := ex
      rw [e2, h]
      rfl
    rcases run_next_at w ty hI.iter e1 hold with ⟨h0, _⟩ | ⟨e, h1, w1, g1, g2, g3, h2⟩
    · exfalso
      obtain ⟨i, hi⟩ : ∃ i, i ∈ left := by
        match left, hlen with
        | i :: _, _ => exact ⟨i, by simp⟩
      have hib := hI.inB i hi
      obtain ⟨b0, hb⟩ : ∃ b0, B[i]? = some b0 := ⟨B[i], by simp [hib]⟩
      have hns := (hI.lf i _ hb).1 hi
      rw [hBe, List.getElem?_map] at hb
      cases hq : es.toList[i]? with
      | none => rw [hq] at hb; cases hb
      | some e =>
        rw [hq] at hb
        have he : e.born = b0 := by simpa using hb
        have : e ∈ leftOf es seen := by
          simp only [leftOf, Array.mem_filter, Bool.not_eq_true']
          refine ⟨by simpa using List.mem_of_getElem? hq, ?_⟩
          rw [he]
          simpa using hns
        have := Array.eq_empty_of_size_eq_zero h0 ▸ this
        simp at this
    · simp only [leftOf, Array.mem_toList_iff, Array.mem_filter, Bool.not_eq_true'] at h1
      obtain ⟨i, hi⟩ := List.mem_iff_getElem?.1 (show e ∈ es.toList by simpa using h1.1)
      have hBi : B[i]? = some e.born := by rw [hBe, List.getElem?_map, hi]; rfl
      have hil : i ∈ left := (hI.lf i e.born hBi).2 (by simpa using h1.2)
      simp only [tree, List.all_eq_true] at ht
      have hti := ht i hil
      split at hti
      · rename_i r' σ' hst
        simp only [Bool.and_eq_true, Nat.beq_eq, sameMap] at hti
        obtain ⟨⟨⟨⟨hk3, hes⟩, hvs⟩, hreg⟩, htr⟩ := hti
        obtain ⟨en, hen, her⟩ := e2.getR i hi
        unfold stepT at hst
        rw [hen] at hst
        dsimp only at hst
        split at hst
        · rename_i r1 σ1 hops
          split at hst
          · rename_i hc
            split at hst
            · rename_i hch
              simp only [Bool.and_eq_true, Nat.beq_eq, sameMap] at hch
              obtain ⟨hreg1, ⟨hk31, hes1⟩, hvs1⟩ := hch
              split at hst
              · rename_i ee hee
                split at hst
                · rename_i r2 σ2 hopsE
                  split at hst
                  · rename_i x r3 σ3 hmc
                    split at hst
                    · rename_i hx0
                      cases hst
                      have hbsz : bi < w.heap.size := by
                        rcases Nat.lt_or_ge bi w.heap.size with h | h
                        · exact h
                        · have := hI.iter; simp [Array.getElem?_eq_none h] at this
                      have hs1 := hI.sim.touch hI.iter hI.new hI.deads g1 ⟨g2, g3⟩
                      have hsz1 : w1.heap.size = w.heap.size := by rw [g1]; simp
                      have hit1 : w1.heap[bi]? = some (.mapIter (some mb) clk (seen.push e.born) clk) := by rw [g1, heap_set_get hI.iter, if_pos rfl]
                      refine wpList_value (hexec _ _ h2) ?_
                      refine aOps_wp (ds := []) (aCall_sound hp hk fuel) rest _ σ τ w1 _ hops hs1.rel (aPut_rel (r := r) (dst := some d) (by simp only [aPut, bite_eq]; rw [if_pos (by rw [Nat.blt_eq]; exact hdn)]) hr (vrel_tuple.2 ⟨[.bool true, e.key, e.val], (show LRel (VRel τ) [Value.bool true, en.1, en.2] [Value.bool true, e.key, e.val] from ⟨vrel_bool.2 rfl, her.1, her.2, trivial⟩), rfl⟩) hn) (by rw [put_size]; exact hn) (by rw [put_defers]; exact hd) ?_
                      intro τ1 a1 w2 k1 k2 k3 k4
                      refine wp_seq (wp_cond (t := true) ?_ ?_)
                      · have := k1 c
                        rw [hc] at this
                        exact vrel_bool.1 this
                      refine wp_skip ?_
                      refine wp_block ?_
                      refine wp_seq (wp_region_list ?_)
                      rw [hlE]
                      have hit2 : w2.heap[bi]? = some (.mapIter (some mb) clk (seen.push e.born) clk) := by rw [k4.frame bi (by omega) hI.deads]; exact hit1
                      obtain ⟨es2, cl2, f1, f2, f3, f4⟩ := map_of k4.rel (k4.le _ _ hI.mname).1 hk31
                      rw [← hes1, hI.esz] at f3
                      rw [f3] at f1
                      rw [← veqL_eq (veq_eq 9) hvs1, hI.vals] at f4
                      have hBe2 := births_inj f4
                      obtain ⟨e', he', her'⟩ := f2.get i hee
                      have heb : e'.born = e.born := by
                        have : B[i]? = some e'.born := by rw [hBe2, List.getElem?_map, he']; rfl
                        rw [this] at hBi
                        exact Option.some.inj hBi
                      have hx1 := k1 t
                      rw [veq_eq 9 _ _ hreg1] at hx1
                      obtain ⟨b2, hb2, _, ex1⟩ := vrel_ptr.1 hx1
                      rw [(k4.le _ _ hI.name).1] at hb2
                      cases hb2
                      have hent := run_entry_at (P := P) w2 hit2 f1 (List.mem_of_getElem? he') heb (by rw [← hBe2]; exact hBn)
                      refine wpList_value (v := .tuple #[e'.key, e'.val]) (w1 := w2) ?_ ?_
                      · have ee1 : execOp a1.eval ⟨some dE, .entry (.tmp t), ty2, pos2, aft2, none⟩ = (do pure (.value (← Instr.entry (a1.eval (.tmp t)))) : Sem Next) := rfl
                        rw [ee1, Sem.run_bind]
                        have ee2 : a1.eval (.tmp t) = .pointer (some ⟨bi, 0, none⟩) := ex1
                        rw [ee2, hent]
                        rfl
                      refine aOps_wp (ds := []) (aCall_sound hp hk fuel) restE _ σ1 τ1 w2 _ hopsE k4.rel (aPut_rel (r := r1) (dst := some dE) (by simp only [aPut, bite_eq]; rw [if_pos (by rw [Nat.blt_eq]; exact hdE)]) k1 (vrel_tuple.2 ⟨[e'.key, e'.val], (show LRel (VRel τ1) [ee.1, ee.2] [e'.key, e'.val] from ⟨her'.1, her'.2, trivial⟩), rfl⟩) k2) (by rw [put_size]; exact k2) (by rw [put_defers]; exact k3) ?_
                      intro τ2 a2 w3 l1 l2 l3 l4
                      refine (aCode_sound hp hk fuel).1 n Mc r2 σ2 _ r' σ' τ2 w3 a2 _ hmc l4.rel l1 l2 l3 fun τ3 a3 w4 m1 m2 m3 m4 => ?_
                      have hs2 := k4.trans (l4.trans m4)
                      have next : Code.rounds P (.seq (.region rid ops false) (.seq (.cond (.tmp c) .skip (.exit id)) (.block id2 (.seq (.region re opsE false) Mc)))) Post (k + 1) a3 w4 := by
                        refine ih (left.erase i) τ3 r' σ' a3 w4 bi mb (seen.push e.born) (by rw [List.length_erase_of_mem hil, hlen]; rfl) ?_ m1 m2 m3 htr
                        refine { sim := hs1.trans hs2, reg := veq_eq 9 _ _ hreg, new := hI.new, name := (hs2.le _ _ hI.name).1, deads := hs2.deads (by omega) hI.deads, mname := (hs2.le _ _ hI.mname).1, kind := hk3, esz := hes.symm.trans hI.esz, vals := ?_, iter := ?_, lf := ?_, nodup := hI.nodup.erase i, inB := fun j hj => hI.inB j (List.mem_of_mem_erase hj) }
                        · rw [← veqL_eq (veq_eq 9) hvs]; exact hI.vals
                        · rw [hs2.frame bi (by omega) hI.deads]; exact hit1
                        · intro j b hj
                          rw [hI.nodup.mem_erase_iff, hI.lf j b hj]
                          simp only [Array.mem_push, not_or]
                          constructor
                          · rintro ⟨h3, h4⟩
                            refine ⟨h4, fun hbe => h3 ?_⟩
                            subst hbe
                            exact (List.getElem?_inj (List.getElem?_eq_some_iff.1 hj).1 hBn).1 (hj.trans hBi.symm)
                          · rintro ⟨h3, h4⟩
                            refine ⟨fun hji => h4 ?_, h3⟩
                            subst hji
                            rw [hj] at hBi
                            exact Option.some.inj hBi
                      simp only [Bool.or_eq_true, Nat.beq_eq] at hx0
                      rcases hx0 with rfl | rfl
                      · exact next
                      · simp only [exitOf, Exit.then, Exit.inBlock, if_true]
                        exact next
                    · cases hst
                  · cases hst
                · cases hst
              · cases hst
            · cases hst
          · cases hst
        · cases hst
      · cases hti

end

/-! ### A function that ranges over a map, as a known call -/
section
variable (P : Program) (K : Tbl) (n fuel : Nat) (fronts : List Code) (opsA : Array Oper) (pre : List Oper) (x dA : Nat) (ops : Array Oper) (rest : List Oper) (d t c : Nat) (opsE : Array Oper) (restE : List Oper) (dE : Nat) (Mc : Code) (id2 : Nat) (Z : Code) (results : List ResultVar)

/-- What stands ahead of the range. -/
noncomputable def runFront : List Code → Regs → AS → Option (Regs × AS)
  | [], r, σ => some (r, σ)
  | c :: l, r, σ => match aCode P K 0 fuel n c r σ with
    | some (x, r', σ') => if Nat.beq x 0 then runFront l r' σ' else none
    | none => none

/-- What stands behind the loop. -/
noncomputable def fin1 (r : Regs) (σ : AS) : Option (Value × AS) := match aCode P K 0 fuel n Z r σ with
  | some (y, r', σ') => if Nat.ble y 1 then match aResults P σ' r' results with
      | some vs => some (aResult vs, σ')
      | none => none
    else none
  | none => none

/-- The run for the entries in order. -/
noncomputable def canon (mi it : Nat) : List Nat → Regs → AS → Option (Value × AS)
  | [], r, σ => match stepF P K n fuel ops rest d c r σ with
    | some (r', σ') => fin1 P K n fuel Z results r' σ'
    | none => none
  | i :: left, r, σ => match stepT P K n fuel ops rest d t c opsE restE dE Mc mi it id2 i r σ with
    | some (r', σ') => canon mi it left r' σ'
    | none => none

noncomputable def upto : Nat → List Nat → List Nat
  | 0, acc => acc
  | k + 1, acc => upto k (k :: acc)

noncomputable def bornOk (clk : Nat) : List Value → Bool
  | [] => true
  | .int .i64 (.ofNat b) :: l => Nat.blt b clk && l.all (fun v => !veq 9 v (.int .i64 (.ofNat b))) && bornOk clk l
  | _ :: _ => false

noncomputable def finOk (base : Nat) (v1 : Value) (σ1 : AS) (r : Regs) (σ : AS) : Bool := match fin1 P K n fuel Z results r σ with
  | some (u, σ') => (same base v1 u σ1 σ').isSome
  | none => false

noncomputable def rangeAsk (args : List Value) (σ : AS) : Option (Value × AS) :=
  if Nat.ble args.length n then
    match runFront P K n fuel fronts (rinit args 0 .e) σ with
    | some (r0, s0) => match aOps P 0 (aCall P K 0 fuel) n opsA pre r0 s0 with
     | some (r1, σ1) => match rget r1 x with
      | .map (some mi) => if Nat.beq (σ1.get mi).kind 3 && Nat.blt mi σ1.next && bornOk (σ1.get mi).esz (σ1.get mi).vals && hasLen (σ1.get mi).ents (σ1.get mi).vals.length then
          match canon P K n fuel ops rest d t c opsE restE dE Mc id2 Z results mi σ1.next (upto (σ1.get mi).vals.length []) (rput r1 dA (.pointer (some ⟨σ1.next, 0, none⟩))) (σ1.new Blk.dead) with
          | some (v, σc) => if tree P K n fuel ops rest d t c opsE restE dE Mc mi σ1.next id2 (finOk P K n fuel Z results σ.next v σc) (σ1.get mi).vals.length (upto (σ1.get mi).vals.length []) (rput r1 dA (.pointer (some ⟨σ1.next, 0, none⟩))) (σ1.new Blk.dead) then some (v, σc) else none
          | none => none
        else none
      | _ => none
     | none => none
    | none => none
  else none
end

section
variable {P : Program} {K : Tbl} {n fuel : Nat} {fronts : List Code} {opsA : Array Oper} {pre : List Oper} {x dA : Nat} {ops : Array Oper} {rest : List Oper} {d t c : Nat} {opsE : Array Oper} {restE : List Oper} {dE : Nat} {Mc : Code} {id id2 : Nat} {Z : Code} {results : List ResultVar}

theorem fin1_mono {r : Regs} {σ σ' : AS} {v : Value} (h : fin1 P K n fuel Z results r σ = some (v, σ')) : AMono σ σ' := by
  unfold fin1 at h
  split at h
  · rename_i y r' σ1 hz
    split at h
    · split at h
      · cases h; exact aCode_mono fuel _ _ _ _ _ _ _ hz
      · cases h
    · cases h
  · cases h

theorem stepF_mono {r r' : Regs} {σ σ' : AS} (h : stepF P K n fuel ops rest d c r σ = some (r', σ')) : AMono σ σ' := by
  unfold stepF at h
  split at h
  · rename_i r1 σ1 h1
    split at h
    · cases h; exact aOps_mono (callBy_mono (aCode_mono fuel)) _ _ _ h1
    · cases h
  · cases h

theorem stepT_mono {mi it i : Nat} {r r' : Regs} {σ σ' : AS} (h : stepT P K n fuel ops rest d t c opsE restE dE Mc mi it id2 i r σ = some (r', σ')) : AMono σ σ' := by
  unfold stepT at h
  split at h
  · split at h
    · rename_i r1 σ1 h1
      split at h
      · split at h
        · split at h
          · split at h
            · rename_i r2 σ2 h2
              split at h
              · rename_i x r3 σ3 h3
                split at h
                · cases h
                  exact ((aOps_mono (callBy_mono (aCode_mono fuel)) _ _ _ h1).trans (aOps_mono (callBy_mono (aCode_mono fuel)) _ _ _ h2)).trans (aCode_mono fuel _ _ _ _ _ _ _ h3)
                · cases h
              · cases h
            · cases h
          · cases h
        · cases h
      · cases h
    · cases h
  · cases h

theorem canon_mono {mi it : Nat} : ∀ {left : List Nat} {r : Regs} {σ σ' : AS} {v : Value}, canon P K n fuel ops rest d t c opsE restE dE Mc id2 Z results mi it left r σ = some (v, σ') → AMono σ σ'
  | [], r, σ, σ', v, h => by
    unfold canon at h
    split at h
    · rename_i h1; exact (stepF_mono h1).trans (fin1_mono h)
    · cases h
  | i :: left, r, σ, σ', v, h => by
    unfold canon at h
    split at h
    · rename_i h1; exact (stepT_mono h1).trans (canon_mono h)
    · cases h

theorem runFront_mono : ∀ {l : List Code} {r r' : Regs} {σ σ' : AS}, runFront P K n fuel l r σ = some (r', σ') → AMono σ σ'
  | [], r, r', σ, σ', h => by cases h; exact AMono.refl _
  | c :: l, r, r', σ, σ', h => by
    unfold runFront at h
    split at h
    · rename_i h1
      split at h
      · exact (aCode_mono fuel _ _ _ _ _ _ _ h1).trans (runFront_mono h)
      · cases h
    · cases h

theorem M.front (hp : ProgOk P) (hk : KOk P K) {X : Code} {Q : Nat → Ren → Regs → AS → World → Prop} {ρ0 : Ren} {σ0 : AS} {w0 : World} {r1 : Regs} {s1 : AS} (hX : M P n X (fun τ r s w => Sim 0 ρ0 σ0 w0 τ s w ∧ r = r1 ∧ s = s1) Q) :
    ∀ {l : List Code} {r0 : Regs} {s0 : AS}, runFront P K n fuel l r0 s0 = some (r1, s1) → M P n (l.foldr Code.seq X) (fun τ r s w => Sim 0 ρ0 σ0 w0 τ s w ∧ r = r0 ∧ s = s0) Q
  | [], r0, s0, h => by cases h; exact hX
  | c :: l, r0, s0, h => by
    unfold runFront at h
    split at h
    · rename_i y r' s' h1
      split at h
      · rename_i hy
        obtain rfl := Nat.eq_of_beq_eq_true hy
        refine M.seq (T := fun τ r s w => Sim 0 ρ0 σ0 w0 τ s w ∧ r = r' ∧ s = s') (M.run hp hk ?_) (M.front hp hk hX h)
        rintro τ r s w ⟨k1, rfl, rfl⟩
        exact ⟨k1.rel, fuel, 0, r', s', h1, fun τ' w' k2 => ⟨fun _ => ⟨k1.trans k2, rfl, rfl⟩, fun h => absurd rfl h⟩⟩
      · cases h
    · cases h

theorem rangeAsk_mono {args : List Value} {σ σ' : AS} {v : Value} (h : rangeAsk P K n fuel fronts opsA pre x dA ops rest d t c opsE restE dE Mc id2 Z results args σ = some (v, σ')) : AMono σ σ' := by
  unfold rangeAsk at h
  split at h
  · split at h
    · rename_i r0 s0 h0
      split at h
      · rename_i r1 σ1 h1
        split at h
        · split at h
          · split at h
            · rename_i v1 σc hc
              split at h
              · cases h
                exact (((runFront_mono h0).trans (aOps_mono (callBy_mono (aCode_mono fuel)) _ _ _ h1)).trans (AMono.new _ _)).trans (canon_mono hc)
              · cases h
            · cases h
          · cases h
        · cases h
      · cases h
    · cases h
  · cases h

theorem upto_mem : ∀ (k : Nat) (acc : List Nat) (i : Nat), i ∈ upto k acc ↔ i < k ∨ i ∈ acc
  | 0, acc, i => by simp [upto]
  | k + 1, acc, i => by
    rw [upto, upto_mem k, List.mem_cons]
    constructor
    · rintro (h | rfl | h)
      · exact .inl (by omega)
      · exact .inl (by omega)
      · exact .inr h
    · rintro (h | h)
      · by_cases e : i = k
        · exact .inr (.inl e)
        · exact .inl (by omega)
      · exact .inr (.inr h)
theorem upto_len : ∀ (k : Nat) (acc : List Nat), (upto k acc).length = k + acc.length
  | 0, acc => by simp [upto]
  | k + 1, acc => by rw [upto, upto_len k, List.length_cons]; omega
theorem upto_nodup : ∀ (k : Nat) (acc : List Nat), acc.Nodup → (∀ i ∈ acc, k ≤ i) → (upto k acc).Nodup
  | 0, acc, h, _ => h
  | k + 1, acc, h, hk => upto_nodup k (k :: acc) (List.nodup_cons.2 ⟨fun hm => by have := hk k hm; omega, h⟩) fun i hi => by
      rcases List.mem_cons.1 hi with rfl | hi
      · exact Nat.le_refl _
      · have := hk i hi; omega

theorem bornOk_some {clk : Nat} : ∀ {l : List Value}, bornOk clk l = true → ∃ B : List Nat, l = births B ∧ (∀ b ∈ B, b < clk) ∧ B.Nodup
  | [], _ => ⟨[], rfl, by simp, List.nodup_nil⟩
  | v :: l, h => by
    unfold bornOk at h
    split at h
    · cases ‹_ = [] ›
    · rename_i b l' e
      cases e
      simp only [Bool.and_eq_true, Nat.blt_eq, List.all_eq_true, Bool.not_eq_true'] at h
      obtain ⟨B, rfl, h2, h3⟩ := bornOk_some h.2
      refine ⟨b :: B, rfl, ?_, List.nodup_cons.2 ⟨fun hm => ?_, h3⟩⟩
      · intro c hc
        rcases List.mem_cons.1 hc with rfl | hc
        · exact h.1.1
        · exact h2 c hc
      · have := h.1.2 (.int .i64 (b : Int)) (List.mem_map.2 ⟨b, hm, rfl⟩)
        have e2 : veq 9 (.int .i64 (b : Int)) (.int .i64 (.ofNat b)) = true := by simp [veq]
        rw [e2] at this
        cases this
    · cases h

theorem M.mapLoop (hp : ProgOk P) (hk : KOk P K) {rid re : Nat} {ty ty2 : TypeId} {pos pos2 : String} {aft aft2 : Array Edge} (hl : ops.toList = ⟨some d, .next (.tmp t) false, ty, pos, aft, none⟩ :: rest) (hlE : opsE.toList = ⟨some dE, .entry (.tmp t), ty2, pos2, aft2, none⟩ :: restE) (hdn : d < n) (hdE : dE < n)
    {ρ0 : Ren} {σ0 : AS} {w0 : World} {fin : Regs → AS → Bool} {S : Ren → Regs → AS → World → Prop}
    (hS : ∀ τ r σ w, S τ r σ w → ∃ mi it clk B left bi mb seen, (∀ b ∈ B, b < clk) ∧ B.Nodup ∧ Inv ρ0 σ0 w0 mi it t clk B left τ r σ w bi mb seen ∧ tree P K n fuel ops rest d t c opsE restE dE Mc mi it id2 fin left.length left r σ = true) :
    M P n (.block id (.loop (.seq (.region rid ops false) (.seq (.cond (.tmp c) .skip (.exit id)) (.block id2 (.seq (.region re opsE false) Mc)))))) S fun y τ r σ w => y = 0 ∧ Sim 0 ρ0 σ0 w0 τ σ w ∧ fin r σ = true := by
  refine M.block ?_
  intro a w τ r σ Post hs hr hn hd hP
  obtain ⟨mi, it, clk, B, left, bi, mb, seen, h1, h2, h3, h4⟩ := hS τ r σ w hs
  refine wp_loop_rounds (left.length + 1) (Abs.mapLoop hp hk hl hlE hdn hdE h1 h2 (fin := fin) ?_ left.length left τ r σ a w bi mb seen rfl h3 hr hn hd h4)
  intro τ' r' σ' a' w' k1 k2 k3 k4 k5
  exact hP (id + 2) τ' r' σ' a' w' ⟨fun _ => ⟨rfl, k1, k2⟩, fun h => absurd rfl h⟩ k3 k4 k5

theorem rangeAsk_sound (hp : ProgOk P) (hk : KOk P K) {F : FuncId} {fn : Func} (hf : P.funcs[F]? = some fn) {ra rid re : Nat} (hb : fn.body = some (fronts.foldr Code.seq (.seq (.seq (.region ra opsA false) (.block id (.loop (.seq (.region rid ops false) (.seq (.cond (.tmp c) .skip (.exit id)) (.block id2 (.seq (.region re opsE false) Mc))))))) Z))) (hn : fn.ntmps = n)
    (hres : fn.results.toList = results) {tA ty1 : TypeId} {pos1 : String} {aft1 : Array Edge} {key elem : TypeId} (hlA : opsA.toList = pre ++ [⟨some t, .range tA (.tmp x), ty1, pos1, aft1, none⟩]) (ht : P.underlying tA = some (.map key elem))
    {ty ty2 : TypeId} {pos pos2 : String} {aft aft2 : Array Edge} (hl : ops.toList = ⟨some d, .next (.tmp t) false, ty, pos, aft, none⟩ :: rest) (hlE : opsE.toList = ⟨some dE, .entry (.tmp t), ty2, pos2, aft2, none⟩ :: restE) (htn : t < n) (hdn : d < n) (hdE : dE < n)
    {G : Nat} {args args' : List Value} {σ σc : AS} {v : Value} {ρ : Ren} {w : World} (h : rangeAsk P K n fuel fronts opsA pre x t ops rest d t c opsE restE dE Mc id2 Z results args σ = some (v, σc)) (hRG : R G ρ σ w) (ha : LRel (VRel ρ) args args') :
    (callFunc F args'.toArray).run P w = .ok (.enter F args'.toArray) w ∧ Calls P F args'.toArray w (fun e w' => ∃ v' τ, e = .returned v' ∧ VRel τ v v' ∧ Sim G ρ σ w τ σc w') := by
  have hmono := rangeAsk_mono h
  have hR := hRG.zero
  unfold rangeAsk at h
  split at h
  · rename_i hlen
    have hlen : args.length ≤ n := by simpa [Nat.ble_eq] using hlen
    split at h
    · rename_i r0 s0 h0
      split at h
      · rename_i r1 σ1 hA
        split at h
        · rename_i mi hmi
          split at h
          · rename_i hch
            simp only [Bool.and_eq_true, Nat.beq_eq, Nat.blt_eq] at hch
            obtain ⟨⟨⟨hk3, hmlt⟩, hborn⟩, _⟩ := hch
            obtain ⟨B, hB, hBc, hBn⟩ := bornOk_some hborn
            split at h
            · rename_i v1 σ2 hcan
              split at h
              · rename_i htree
                cases h
                have hM : M P n (fronts.foldr Code.seq (.seq (.seq (.region ra opsA false) (.block id (.loop (.seq (.region rid ops false) (.seq (.cond (.tmp c) .skip (.exit id)) (.block id2 (.seq (.region re opsE false) Mc))))))) Z)) (fun τ r s w1 => τ = ρ ∧ r = rinit args 0 .e ∧ s = σ ∧ w1 = w)
                    fun y τ r s w' => y ≤ 1 ∧ Sim 0 ρ σ w τ s w' ∧ ∃ vs β, aResults P s r results = some vs ∧ same σ.next v (aResult vs) σc s = some β := by
                  refine M.mono (M.front hp hk (ρ0 := ρ) (σ0 := σ) (w0 := w) ?_ h0) fun τ r s w1 ⟨e1, e2, e3, e4⟩ => ⟨by rw [e1, e3, e4]; exact Sim.refl hR, e2, e3⟩
                  refine M.seq (T := fun τ r s w' => Sim 0 ρ σ w τ s w' ∧ finOk P K n fuel Z results σ.next v σc r s = true) ?_ ?_
                  · refine M.seq (T := fun τ r s w' => ∃ mi it clk B left bi mb seen, (∀ b ∈ B, b < clk) ∧ B.Nodup ∧ Inv ρ σ w mi it t clk B left τ r s w' bi mb seen ∧ tree P K n fuel ops rest d t c opsE restE dE Mc mi it id2 (finOk P K n fuel Z results σ.next v σc) left.length left r s = true) ?_ ?_
                    · refine M.range hp hk hlA ht htn ?_
                      rintro τ r s w1 ⟨hs0, rfl, rfl⟩
                      refine ⟨hs0.rel, fuel, r1, σ1, mi, hA, hmi, hk3, ?_⟩
                      intro τ' w' bi mb k1 k2 k3 k4 k5 k6
                      refine ⟨fun _ => ⟨mi, σ1.next, (σ1.get mi).esz, B, upto (σ1.get mi).vals.length [], bi, mb, #[], hBc, hBn, ?_, ?_⟩, fun h => absurd rfl h⟩
                      · have eget : (σ1.new Blk.dead).get mi = σ1.get mi := by rw [AS.get_new, if_neg (by omega)]
                        refine { sim := hs0.trans k1, reg := by rw [rget_rput, if_pos rfl], new := Nat.le_trans hs0.hsz k2, name := k5, deads := k6, mname := k3, kind := by rw [eget]; exact hk3, esz := by rw [eget], vals := by rw [eget]; exact hB, iter := k4, lf := ?_, nodup := upto_nodup _ _ List.nodup_nil (by simp), inB := ?_ }
                        · intro i b hi
                          have : i < B.length := (List.getElem?_eq_some_iff.1 hi).1
                          rw [upto_mem, hB]
                          simp [births, this]
                        · intro i hi
                          rw [upto_mem, hB] at hi
                          simpa [births] using hi
                      · rw [upto_len, List.length_nil, Nat.add_zero]
                        exact htree
                    · have := M.mapLoop (P := P) (K := K) (n := n) (fuel := fuel) (ops := ops) (rest := rest) (d := d) (t := t) (c := c) (opsE := opsE) (restE := restE) (dE := dE) (Mc := Mc) (id := id) (id2 := id2) hp hk (rid := rid) (re := re) hl hlE hdn hdE (ρ0 := ρ) (σ0 := σ) (w0 := w) (fin := finOk P K n fuel Z results σ.next v σc) (S := fun τ r s w' => ∃ mi it clk B left bi mb seen, (∀ b ∈ B, b < clk) ∧ B.Nodup ∧ Inv ρ σ w mi it t clk B left τ r s w' bi mb seen ∧ tree P K n fuel ops rest d t c opsE restE dE Mc mi it id2 (finOk P K n fuel Z results σ.next v σc) left.length left r s = true) (fun _ _ _ _ h => h)
                      intro a w1 τ r s Post q1 q2 q3 q4 q5
                      exact this a w1 τ r s Post q1 q2 q3 q4 fun y τ' r' s' a' w' ⟨l1, l2, l3⟩ => q5 y τ' r' s' a' w' ⟨fun _ => ⟨l2, l3⟩, fun h => absurd l1 h⟩
                  · refine M.run hp hk ?_
                    rintro τ r s w1 ⟨k1, k2⟩
                    unfold finOk at k2
                    split at k2
                    · rename_i u s2 hfin
                      unfold fin1 at hfin
                      split at hfin
                      · rename_i y r' s' hz
                        split at hfin
                        · rename_i hy
                          split at hfin
                          · rename_i vs hvs
                            cases hfin
                            obtain ⟨β, hβ⟩ := Option.isSome_iff_exists.1 k2
                            exact ⟨k1.rel, fuel, y, r', _, hz, fun τ' w' k3 => ⟨by simpa [Nat.ble_eq] using hy, k1.trans k3, vs, β, hvs, hβ⟩⟩
                          · cases hfin
                        · cases hfin
                      · cases hfin
                    · cases k2
                refine ⟨?_, ?_⟩
                · have hne : ¬ fn.name = "runtime.NumGoroutine" := by simpa using hp.names F fn hf
                  simp [callFunc, hf, hne, hb]
                · refine calls_of_wp hf hb (hM _ w ρ (rinit args 0 .e) σ _ ⟨rfl, rfl, rfl, rfl⟩ ?_ ?_ rfl ?_)
                  · intro j
                    rw [rget_rinit, if_pos (Nat.zero_le _), Nat.sub_zero, rget_nil]
                    simp only [Array.getD_eq_getD_getElem?, Array.getElem?_append, List.size_toArray, List.getElem?_toArray, Array.getElem?_replicate]
                    split
                    · rename_i u hu
                      obtain ⟨u', h1, h2⟩ := ha.get j hu
                      have hlt : j < args'.length := (List.getElem?_eq_some_iff.1 h1).1
                      rw [if_pos hlt, h1]
                      exact h2
                    · rename_i hu
                      have hge : args.length ≤ j := List.getElem?_eq_none_iff.1 hu
                      rw [if_neg (by rw [← ha.length]; omega)]
                      split <;> exact vrel_undef
                  · simp [← ha.length, hn]; omega
                  · rintro y τ' r' s' a' w' ⟨hy, hsim, vs, β, hvs, hβ⟩ h1 h2 h3
                    have key : ∃ u, (Go.results fn a'.tmps).run P w' = .ok u w' ∧ VRel τ' (aResult vs) u := by
                      rw [← hres] at hvs
                      have hrs := fun (g : ResultVar → Sem Value) (g1 : ∀ t, g (.tmp t) = pure (a'.tmps.getD t undef)) (g2 : ∀ x t, g (.cell x t) = do loadVar t (← asAddr (a'.tmps.getD x undef))) =>
                        results_sound (P := P) g1 g2 hsim.rel h1 hvs
                      have h56 : ∃ us, (Go.results fn a'.tmps).run P w' = .ok (if h : us.toArray.size = 1 then us.toArray[0] else .tuple us.toArray) w' ∧ LRel (VRel τ') vs us := by
                        unfold Go.results
                        rw [Sem.run_bind, Array.mapM_eq_mapM_toList, Sem.run_map]
                        obtain ⟨us, h5, h6⟩ := hrs (fun x => match x with | .tmp t => pure (a'.tmps.getD t undef) | .cell a t => do loadVar t (← asAddr (a'.tmps.getD a undef))) (fun t => rfl) (fun x t => rfl)
                        exact ⟨us, by erw [h5]; rfl, h6⟩
                      obtain ⟨us, h5, h6⟩ := h56
                      refine ⟨_, h5, ?_⟩
                      match vs, us, h6 with
                      | [], [], _ => exact vrel_tuple.2 ⟨[], trivial, rfl⟩
                      | [v1], [u1], h6 => simpa [aResult] using h6.1
                      | v1 :: v2 :: vs, u1 :: u2 :: us, h6 => simpa [aResult] using vrel_tuple.2 ⟨_, h6, rfl⟩
                    obtain ⟨u, h5, h6⟩ := key
                    unfold same at hβ
                    dsimp only at hβ
                    split at hβ
                    · rename_i hvm
                      simp only [Bool.and_eq_true] at hvm
                      obtain ⟨τc, hs1, hback⟩ := hsim.alike hmono hvm.2
                      have hv := vm_rel hback 9 hvm.1 h6
                      have hs2 := hs1.lift hRG
                      match y, hy with
                      | 0, _ => exact ⟨h3, u, h5, u, τc, rfl, hv, hs2⟩
                      | 1, _ => exact ⟨h3, u, h5, u, τc, rfl, hv, hs2⟩
                    · cases hβ
              · cases h
            · cases h
          · cases h
        · cases h
      · cases h
    · cases h
  · cases h
end
end Go.Proofs.YtacpdefmnijhnaaGreat.Abs
