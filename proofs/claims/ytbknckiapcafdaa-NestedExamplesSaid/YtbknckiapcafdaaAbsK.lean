/- Regions whose order is open: whatever order the tape draws, the end is the text's. -/
import Derived.Test.YtbknckiapcafdaaAbsJ
import Derived.Orders
set_option linter.unusedSimpArgs false
set_option linter.unusedVariables false
namespace Go.Proofs.Ytbknckiapcafdaa.Abs

/-! ### Which operations precede which -/

def bindsOn (o : Oper) : List Nat := (o.after.toList.filter (Region.binds .any)).map (·.on)

def predGo : List Oper → List Nat → List Nat
  | [], acc => acc
  | o :: l, acc => predGo l (acc ++ [(bindsOn o).foldl (fun s e => s ||| 2 ^ e ||| acc.getD e 0) 0])

def preds (ops : Array Oper) : List Nat := predGo ops.toList []
def isPred (pb : List Nat) (k j : Nat) : Bool := (pb.getD k 0).testBit j

/-- Operations that look at registers alone. -/
def opBlind : Op → Bool
  | .move _ | .assign _ | .pick .. | .nilCheck _ | .fieldAddr .. | .field .. | .indexAddr .. | .index .. | .binOp .. | .unOp .. | .convert .. | .extract .. | .makeInterface .. | .makeFunc .. | .build .. => true
  | _ => false

def blindAt (ops : Array Oper) (j : Nat) : Bool := match ops[j]? with | some o => opBlind o.op | none => false

/-- k is after all before it, and before all after it, but for those that look at registers alone. -/
def bar (ops : Array Oper) (pb : List Nat) (N k : Nat) : Bool := (List.range N).all fun j => j == k || blindAt ops j || (if j < k then isPred pb k j else isPred pb j k)

def drawOne (ops : Array Oper) (pb : List Nat) (o : Oper) (k : Nat) : Bool :=
  (bindsOn o).all (fun e => Nat.blt e k) &&
  (match o.dst with | some t => (ops.toList.take k).all (fun o' => !(o'.dst == some t)) | none => true) &&
  (o.looksAt ops).all fun t => ops.toList.zipIdx.all fun (o', j) => !(o'.dst == some t) || isPred pb k j || isPred pb j k || j == k

def drawStatic (ops : Array Oper) (pb : List Nat) : Bool := ops.toList.zipIdx.all fun (o, k) => drawOne ops pb o k

def AS.reset (σ : AS) : AS := ⟨σ.next, σ.next, σ.heap⟩
def AS.merge (σ s1 : AS) : AS := ⟨s1.next, Nat.min σ.low s1.low, s1.heap⟩

def aDrawGo (P : Program) (G : Nat) (callf : FuncId → List Value → AS → Option (Value × AS)) (n : Nat) (ops : Array Oper) (pb : List Nat) (N : Nat) : List Oper → Nat → Regs → AS → Option (Regs × AS)
  | [], _, r, σ => some (r, σ)
  | o :: l, k, r, σ =>
    if aWanted ops r o then match aStep P G callf r σ.reset o.op with
      | some (v, s1) => if Nat.ble σ.next s1.low || bar ops pb N k then match aPut n r o.dst v with
          | some r' => aDrawGo P G callf n ops pb N l (k + 1) r' (σ.merge s1)
          | none => none
        else none
      | none => none
    else match aPut n r o.dst undef with
      | some r' => aDrawGo P G callf n ops pb N l (k + 1) r' σ
      | none => none

def aDraw (P : Program) (G : Nat) (callf : FuncId → List Value → AS → Option (Value × AS)) (n : Nat) (ops : Array Oper) (r : Regs) (σ : AS) : Option (Regs × AS) :=
  if drawStatic ops (preds ops) then aDrawGo P G callf n ops (preds ops) ops.size ops.toList 0 r σ else none

theorem fold_bits (acc : List Nat) : ∀ (l : List Nat) (s j : Nat), (l.foldl (fun s e => s ||| 2 ^ e ||| acc.getD e 0) s).testBit j = true → s.testBit j = true ∨ ∃ e ∈ l, j = e ∨ (acc.getD e 0).testBit j = true
  | [], s, j, h => .inl h
  | e :: l, s, j, h => by
    simp only [List.foldl_cons] at h
    rcases fold_bits acc l _ j h with h | ⟨e', he, h⟩
    · rw [Nat.testBit_or, Nat.testBit_or] at h
      simp only [Bool.or_eq_true] at h
      rcases h with (h | h) | h
      · exact .inl h
      · rw [Nat.testBit_two_pow] at h
        exact .inr ⟨e, by simp, (.inl (of_decide_eq_true h).symm)⟩
      · exact .inr ⟨e, by simp, .inr h⟩
    · exact .inr ⟨e', by simp [he], h⟩

theorem predGo_spec {D : Nat → Prop} {all : List Oper} (hD : ∀ k o, all[k]? = some o → D k → ∀ e ∈ bindsOn o, D e) : ∀ (l : List Oper) (acc : List Nat), (∀ i, l[i]? = all[acc.length + i]?) →
    (∀ k o, k < acc.length → all[k]? = some o → (∀ e ∈ bindsOn o, D e) → ∀ j, (acc.getD k 0).testBit j = true → D j) →
    ∀ k o, all[k]? = some o → k < acc.length + l.length → (∀ e ∈ bindsOn o, D e) → ∀ j, ((predGo l acc).getD k 0).testBit j = true → D j
  | [], acc, _, h, k, o, ho, hk, hb, j, hj => h k o (by simpa using hk) ho hb j hj
  | x :: l, acc, hl, h, k, o, ho, hk, hb, j, hj => by
    refine predGo_spec hD l (acc ++ [(bindsOn x).foldl (fun s e => s ||| 2 ^ e ||| acc.getD e 0) 0]) ?_ ?_ k o ho (by simp at hk ⊢; omega) hb j hj
    · intro i
      have := hl (i + 1)
      simp only [List.getElem?_cons_succ] at this
      rw [this]
      simp only [List.length_append, List.length_cons, List.length_nil]
      congr 1; omega
    · intro k o hk ho hb j hj
      rcases Nat.lt_or_ge k acc.length with hlt | hge
      · refine h k o hlt ho hb j ?_
        simpa [List.getD, List.getElem?_append_left hlt] using hj
      · have hke : k = acc.length := by simp at hk; omega
        subst hke
        have hx : x = o := by
          have := hl 0
          simp only [List.getElem?_cons_zero, Nat.add_zero] at this
          rw [ho] at this
          exact Option.some.inj this
        subst hx
        simp only [List.getD, List.getElem?_append_right (Nat.le_refl _), Nat.sub_self, List.getElem?_cons_zero, Option.getD_some] at hj
        rcases fold_bits acc _ _ _ hj with h0 | ⟨e, he, h1⟩
        · simp at h0
        · rcases h1 with rfl | h1
          · exact hb _ he
          · rcases Nat.lt_or_ge e acc.length with hle | hgt
            · cases hoe : all[e]? with
              | none =>
                exfalso
                have h2 := List.getElem?_eq_none_iff.1 hoe
                have h3 := (List.getElem?_eq_some_iff.1 ho).1
                omega
              | some oe => exact h e oe hle hoe (hD e oe hoe (hb e he)) j h1
            · simp [List.getD, List.getElem?_eq_none hgt] at h1

theorem isPred_spec {D : Nat → Prop} {ops : Array Oper} (hD : ∀ k o, ops.toList[k]? = some o → D k → ∀ e ∈ bindsOn o, D e) {k j : Nat} {o : Oper} (ho : ops.toList[k]? = some o)
    (hb : ∀ e ∈ bindsOn o, D e) (hj : isPred (preds ops) k j = true) : D j :=
  predGo_spec hD ops.toList [] (fun i => by simp) (fun k o hk => by simp at hk) k o ho (by simpa using (List.getElem?_eq_some_iff.1 ho).1) hb j hj

theorem zipIdx_all {α : Type} {l : List α} {f : α × Nat → Bool} (h : l.zipIdx.all f = true) {k : Nat} {o : α} (ho : l[k]? = some o) : f (o, k) = true := by
  rw [List.all_eq_true] at h
  refine h (o, k) ?_
  rw [List.mem_iff_getElem?]
  exact ⟨k, by simp [List.getElem?_zipIdx, ho]⟩

structure Static (ops : Array Oper) : Prop where
  back : ∀ (k : Nat) (o : Oper), ops.toList[k]? = some o → ∀ e ∈ bindsOn o, e < k
  uniq : ∀ (k : Nat) (o : Oper) (j : Nat) (o' : Oper) (t : Tmp), ops.toList[k]? = some o → ops.toList[j]? = some o' → o.dst = some t → o'.dst = some t → j = k
  reads : ∀ (k : Nat) (o : Oper) (t : Tmp) (j : Nat) (o' : Oper), ops.toList[k]? = some o → t ∈ o.looksAt ops → ops.toList[j]? = some o' → o'.dst = some t → isPred (preds ops) k j = true ∨ isPred (preds ops) j k = true ∨ j = k

theorem Static.of {ops : Array Oper} (h : drawStatic ops (preds ops) = true) : Static ops := by
  have one : ∀ k o, ops.toList[k]? = some o → drawOne ops (preds ops) o k = true := fun k o ho => zipIdx_all (f := fun (o, k) => drawOne ops (preds ops) o k) h ho
  have uq : ∀ (k : Nat) (o : Oper) (j : Nat) (o' : Oper) (t : Tmp), ops.toList[k]? = some o → ops.toList[j]? = some o' → o.dst = some t → o'.dst = some t → ¬ j < k := by
    intro k o j o' t ho hj hd hd' hlt
    have h1 := one k o ho
    simp only [drawOne, Bool.and_eq_true] at h1
    have h2 := h1.1.2
    rw [hd] at h2
    simp only [List.all_eq_true] at h2
    have := h2 o' (List.mem_of_getElem? (i := j) (by rw [List.getElem?_take_of_lt hlt]; exact hj))
    simp [hd'] at this
  refine ⟨?_, ?_, ?_⟩
  · intro k o ho e he
    have h1 := one k o ho
    simp only [drawOne, Bool.and_eq_true, List.all_eq_true] at h1
    simpa [Nat.blt_eq] using h1.1.1 e he
  · intro k o j o' t ho hj hd hd'
    have a1 := uq k o j o' t ho hj hd hd'
    have a2 := uq j o' k o t hj ho hd' hd
    omega
  · intro k o t j o' ho ht hj hd'
    have h1 := one k o ho
    simp only [drawOne, Bool.and_eq_true] at h1
    have h2 := h1.2
    rw [List.all_eq_true] at h2
    have h3 := zipIdx_all (f := fun (o', j) => !(o'.dst == some t) || isPred (preds ops) k j || isPred (preds ops) j k || j == k) (h2 t ht) hj
    simp only [hd', beq_self_eq_true, Bool.not_true, Bool.false_or, Bool.or_eq_true, beq_iff_eq] at h3
    rcases h3 with (h3 | h3) | h3
    · exact .inl h3
    · exact .inr (.inl h3)
    · exact .inr (.inr h3)

theorem bar_spec {ops : Array Oper} {pb : List Nat} {N k j : Nat} (h : bar ops pb N k = true) (hj : j < N) (hne : j ≠ k) (hbl : blindAt ops j ≠ true) : if j < k then isPred pb k j = true else isPred pb j k = true := by
  unfold bar at h
  rw [List.all_eq_true] at h
  have := h j (List.mem_range.2 hj)
  simp only [Bool.or_eq_true, beq_iff_eq, hne, false_or] at this
  have this := this.resolve_left hbl
  split
  · rename_i hlt; rw [if_pos hlt] at this; exact this
  · rename_i hlt; rw [if_neg hlt] at this; exact this

/-! ### The text's run, laid apart -/

section draw
variable {P : Program} {G : Nat} {callf : FuncId → List Value → AS → Option (Value × AS)} {n : Nat} {ops : Array Oper}

/-- What the run does at operation k. -/
structure At (P : Program) (G : Nat) (callf : FuncId → List Value → AS → Option (Value × AS)) (n : Nat) (ops : Array Oper) (rS : Nat → Regs) (sS : Nat → AS) (vS : Nat → Value) (k : Nat) (o : Oper) : Prop where
  yes : aWanted ops (rS k) o = true → ∃ s1, aStep P G callf (rS k) (sS k).reset o.op = some (vS k, s1) ∧ ((sS k).next ≤ s1.low ∨ bar ops (preds ops) ops.size k = true) ∧ sS (k + 1) = (sS k).merge s1
  no : aWanted ops (rS k) o = false → vS k = undef ∧ sS (k + 1) = sS k
  put : aPut n (rS k) o.dst (vS k) = some (rS (k + 1))

theorem aDrawGo_trace : ∀ (l : List Oper) (k0 : Nat) (r : Regs) (σ : AS) {r' : Regs} {σ' : AS}, aDrawGo P G callf n ops (preds ops) ops.size l k0 r σ = some (r', σ') → (∀ i, l[i]? = ops.toList[k0 + i]?) →
    ∃ rS sS vS, rS k0 = r ∧ sS k0 = σ ∧ rS (k0 + l.length) = r' ∧ sS (k0 + l.length) = σ' ∧ ∀ k o, k0 ≤ k → ops.toList[k]? = some o → At P G callf n ops rS sS vS k o
  | [], k0, r, σ, r', σ', h, hl => by
    cases h
    refine ⟨fun _ => r, fun _ => σ, fun _ => undef, rfl, rfl, rfl, rfl, fun k o hk ho => ?_⟩
    exfalso
    have := hl (k - k0)
    rw [show k0 + (k - k0) = k by omega, ho] at this
    simp at this
  | x :: l, k0, r, σ, r', σ', h, hl => by
    have hx : ops.toList[k0]? = some x := by have := hl 0; simpa using this.symm
    have hl' : ∀ i, l[i]? = ops.toList[k0 + 1 + i]? := fun i => by
      have := hl (i + 1)
      simp only [List.getElem?_cons_succ] at this
      rw [this]; congr 1; omega
    have go : ∀ r1 σ1 v1, aDrawGo P G callf n ops (preds ops) ops.size l (k0 + 1) r1 σ1 = some (r', σ') →
        (∀ rS sS vS, rS k0 = r → sS k0 = σ → vS k0 = v1 → rS (k0 + 1) = r1 → sS (k0 + 1) = σ1 → At P G callf n ops rS sS vS k0 x) →
        ∃ rS sS vS, rS k0 = r ∧ sS k0 = σ ∧ rS (k0 + (x :: l).length) = r' ∧ sS (k0 + (x :: l).length) = σ' ∧ ∀ k o, k0 ≤ k → ops.toList[k]? = some o → At P G callf n ops rS sS vS k o := by
      intro r1 σ1 v1 hgo hat
      obtain ⟨rS, sS, vS, h1, h2, h3, h4, h5⟩ := aDrawGo_trace l (k0 + 1) r1 σ1 hgo hl'
      have key : ∀ {α : Type} (f : Nat → α) (y : α) (k : Nat), k0 + 1 ≤ k → (fun k => if k = k0 then y else f k) k = f k := fun f y k hk => by
        simp only; rw [if_neg (by omega)]
      refine ⟨fun k => if k = k0 then r else rS k, fun k => if k = k0 then σ else sS k, fun k => if k = k0 then v1 else vS k, by simp, by simp, ?_, ?_, ?_⟩
      · rw [key rS r _ (by simp), ← h3]; congr 1; simp; omega
      · rw [key sS σ _ (by simp), ← h4]; congr 1; simp; omega
      · intro k o hk ho
        by_cases e : k = k0
        · subst e
          obtain rfl : x = o := by rw [hx] at ho; exact Option.some.inj ho
          exact hat _ _ _ (by simp) (by simp) (by simp) ((key rS r _ (Nat.le_refl _)).trans h1) ((key sS σ _ (Nat.le_refl _)).trans h2)
        · have hk' : k0 + 1 ≤ k := by omega
          obtain ⟨a1, a2, a3⟩ := h5 k o hk' ho
          refine ⟨?_, ?_, ?_⟩
          · simp only [if_neg e, if_neg (show ¬ k + 1 = k0 by omega)]; exact a1
          · simp only [if_neg e, if_neg (show ¬ k + 1 = k0 by omega)]; exact a2
          · simp only [if_neg e, if_neg (show ¬ k + 1 = k0 by omega)]; exact a3
    simp only [aDrawGo] at h
    split at h
    · rename_i hwt
      split at h
      · rename_i v s1 hst
        split at h
        · rename_i hben
          simp only [Bool.or_eq_true, Nat.ble_eq] at hben
          split at h
          · rename_i r1 hput
            refine go r1 (σ.merge s1) v h fun rS sS vS e1 e2 e3 e4 e5 => ⟨fun _ => ⟨s1, ?_, ?_, ?_⟩, fun hno => ?_, ?_⟩
            · rw [e1, e2, e3]; exact hst
            · rw [e2]; exact hben
            · rw [e5, e2]
            · rw [e1, hwt] at hno; cases hno
            · rw [e1, e3, e4]; exact hput
          · cases h
        · cases h
      · cases h
    · rename_i hwt
      split at h
      · rename_i r1 hput
        refine go r1 σ undef h fun rS sS vS e1 e2 e3 e4 e5 => ⟨fun hy => ?_, fun _ => ⟨e3, by rw [e5, e2]⟩, ?_⟩
        · rw [e1] at hy; exact absurd hy hwt
        · rw [e1, e3, e4]; exact hput
      · cases h

/-! ### Whatever order -/

theorem bindsOn_mem {o : Oper} {e : Nat} : e ∈ bindsOn o ↔ ∃ x ∈ o.after, Region.binds .any x = true ∧ x.on = e := by
  simp only [bindsOn, List.mem_map, List.mem_filter, Array.mem_toList_iff]
  constructor
  · rintro ⟨x, ⟨h1, h2⟩, h3⟩; exact ⟨x, h1, h2, h3⟩
  · rintro ⟨x, h1, h2, h3⟩; exact ⟨x, ⟨h1, h2⟩, h3⟩

variable {ρ : Ren} {w0 : World} {rS : Nat → Regs} {sS : Nat → AS} {vS : Nat → Value} {Q : Exit → Act → World → Prop}

/-- The facts of the text's run. -/
structure Run (P : Program) (G : Nat) (callf : FuncId → List Value → AS → Option (Value × AS)) (n : Nat) (ops : Array Oper) (rS : Nat → Regs) (sS : Nat → AS) (vS : Nat → Value) : Prop where
  st : Static ops
  at_ : ∀ k o, ops.toList[k]? = some o → At P G callf n ops rS sS vS k o
  mono : ∀ k, k < ops.size → AMono (sS k) (sS (k + 1))

def Bn (sS : Nat → AS) (k : Nat) : Prop := ∀ x, x < (sS k).next → (sS (k + 1)).get x = (sS k).get x

theorem get_reset (σ : AS) (i : Nat) : σ.reset.get i = σ.get i := rfl
theorem get_merge (σ s1 : AS) (i : Nat) : (σ.merge s1).get i = s1.get i := rfl

theorem merge_mono {σ s1 : AS} (h : AMono σ.reset s1) : AMono σ (σ.merge s1) where
  nxt := h.nxt
  low := Nat.min_le_left _ _
  keep i hi hl := h.keep i hi (Nat.lt_of_lt_of_le hl (Nat.min_le_right _ _))
  dead i hi h0 := h.dead i hi h0

theorem op_at {k : Nat} (hk : k < ops.size) : ∃ o, ops.toList[k]? = some o := ⟨ops[k], by simp [hk]⟩

theorem Run.of (hcm : CallMono callf) (st : Static ops) (at_ : ∀ k o, ops.toList[k]? = some o → At P G callf n ops rS sS vS k o) : Run P G callf n ops rS sS vS := by
  refine ⟨st, at_, fun k hk => ?_⟩
  obtain ⟨o, ho⟩ := op_at hk
  have A := at_ k o ho
  cases hw : aWanted ops (rS k) o with
  | true =>
    obtain ⟨s1, h1, h2, h3⟩ := A.yes hw
    rw [h3]; exact merge_mono (aStep_mono hcm h1)
  | false => rw [(A.no hw).2]; exact AMono.refl _

section run
variable (T : Run P G callf n ops rS sS vS)
include T

theorem Run.next_le {i j : Nat} (hij : i ≤ j) (hj : j ≤ ops.size) : (sS i).next ≤ (sS j).next := by
  induction hij with
  | refl => exact Nat.le_refl _
  | step _ ih => exact Nat.le_trans (ih (by omega)) (T.mono _ (by omega)).nxt

theorem Run.keeps {i m : Nat} (him : i ≤ m) (hm : m ≤ ops.size) (hb : ∀ j, i ≤ j → j < m → Bn sS j) : ∀ x, x < (sS i).next → (sS m).get x = (sS i).get x := by
  induction him with
  | refl => intro x _; rfl
  | step h ih =>
    intro x hx
    rw [hb _ h (Nat.lt_succ_self _) x (Nat.lt_of_lt_of_le hx (T.next_le h (by omega))), ih (by omega) (fun j h1 h2 => hb j h1 (by omega)) x hx]

theorem Run.bn_or (hcm : CallMono callf) {k : Nat} (hk : k < ops.size) : Bn sS k ∨ bar ops (preds ops) ops.size k = true := by
  obtain ⟨o, ho⟩ := op_at hk
  have A := T.at_ k o ho
  cases hw : aWanted ops (rS k) o with
  | true =>
    obtain ⟨s1, h1, h2, h3⟩ := A.yes hw
    rcases h2 with h2 | h2
    · refine .inl fun x hx => ?_
      rw [h3, get_merge]
      exact (aStep_mono hcm h1).keep x hx (Nat.lt_of_lt_of_le hx h2)
    · exact .inr h2
  | false => exact .inl fun x _ => by rw [(A.no hw).2]

/-- A register at operation k: what its one writer has put there, or what it held. -/
theorem Run.reg_writer {j k : Nat} {o : Oper} {t : Tmp} (ho : ops.toList[j]? = some o) (hd : o.dst = some t) (hjk : j < k) (hk : k ≤ ops.size) : rget (rS k) t = vS j := by
  induction k with
  | zero => omega
  | succ k ih =>
    obtain ⟨ok, hok⟩ := op_at (ops := ops) (k := k) (by omega)
    have hp := (T.at_ k ok hok).put
    by_cases e : k = j
    · subst e
      obtain rfl : o = ok := by rw [ho] at hok; exact Option.some.inj hok
      rw [hd] at hp
      simp only [aPut] at hp
      split at hp
      · rw [← Option.some.inj hp, rget_rput, if_pos rfl]
      · cases hp
    · have hne : ok.dst ≠ some t := fun h => e (T.st.uniq j o k ok t ho hok hd h)
      rw [← ih (by omega) (by omega)]
      cases hdk : ok.dst with
      | none => rw [hdk] at hp; rw [← Option.some.inj hp]
      | some d =>
        rw [hdk] at hp
        simp only [aPut] at hp
        split at hp
        · rw [← Option.some.inj hp, rget_rput, if_neg (fun h => hne (by rw [hdk, h]))]
        · cases hp

theorem Run.reg_rest {k : Nat} {t : Tmp} (h : ∀ (j : Nat) (o : Oper), j < k → ops.toList[j]? = some o → o.dst ≠ some t) (hk : k ≤ ops.size) : rget (rS k) t = rget (rS 0) t := by
  induction k with
  | zero => rfl
  | succ k ih =>
    obtain ⟨ok, hok⟩ := op_at (ops := ops) (k := k) (by omega)
    have hp := (T.at_ k ok hok).put
    rw [← ih (fun j o hj => h j o (by omega)) (by omega)]
    cases hdk : ok.dst with
    | none => rw [hdk] at hp; rw [← Option.some.inj hp]
    | some d =>
      rw [hdk] at hp
      simp only [aPut] at hp
      split at hp
      · rw [← Option.some.inj hp, rget_rput, if_neg (fun e => h k ok (Nat.lt_succ_self _) hok (by rw [hdk, e]))]
      · cases hp

end run

/-- Where a run in some order stands: D what is done. -/
structure DInv (G : Nat) (n : Nat) (ops : Array Oper) (ρ : Ren) (w0 : World) (rS : Nat → Regs) (sS : Nat → AS) (vS : Nat → Value) (D : Nat → Prop) (m : Nat) (π : Ren) (a : Act) (w : World) : Prop where
  mle : m ≤ ops.size
  closed : ∀ k o, ops.toList[k]? = some o → D k → ∀ e ∈ bindsOn o, D e
  above : ∀ k, m ≤ k → D k → blindAt ops k = true
  below : ∀ k, k < m → ¬ D k → Bn sS k
  sim : Sim G ρ (sS 0) w0 π (sS m) w
  gap : ∀ i b, π.bl i = some b → ∀ k, k < m → ¬ D k → ¬ ((sS k).next ≤ i ∧ i < (sS (k + 1)).next)
  size : a.tmps.size = n
  defers : a.defers = []
  rest : ∀ t, (∀ (k : Nat) (o : Oper), ops.toList[k]? = some o → D k → o.dst ≠ some t) → VRel (π.below (sS 0).next) (rget (rS 0) t) (a.tmps.getD t undef)
  done : ∀ (k : Nat) (o : Oper) (t : Tmp), ops.toList[k]? = some o → D k → o.dst = some t → VRel (π.below (sS (k + 1)).next) (vS k) (a.tmps.getD t undef)
  known : ∀ k, k ≤ m → (∀ j, k ≤ j → j < m → Bn sS j) → ∀ i b, (π.below (sS k).next).bl i = some b → BSc (π.below (sS k).next) ((sS k).get i)

theorem DInv.pred {D : Nat → Prop} {m : Nat} {π : Ren} {a : Act} {w : World} (I : DInv G n ops ρ w0 rS sS vS D m π a w) {k j : Nat} {o : Oper} (ho : ops.toList[k]? = some o)
    (hb : ∀ e ∈ bindsOn o, D e) (hj : isPred (preds ops) k j = true) : D j := isPred_spec I.closed ho hb hj

theorem pred_lt (st : Static ops) {k j : Nat} {o : Oper} (ho : ops.toList[k]? = some o) (hj : isPred (preds ops) k j = true) : j < k :=
  isPred_spec (D := fun x => x < k) (fun x ox hx hlt e he => Nat.lt_trans (st.back x ox hx e he) hlt) ho (fun e he => st.back k o ho e he) hj

/-- A register that operation k looks at. -/
theorem DInv.reg (T : Run P G callf n ops rS sS vS) {D : Nat → Prop} {m : Nat} {π : Ren} {a : Act} {w : World} (I : DInv G n ops ρ w0 rS sS vS D m π a w) {k : Nat} {o : Oper}
    (ho : ops.toList[k]? = some o) (hnd : ¬ D k) (hb : ∀ e ∈ bindsOn o, D e) {t : Tmp} (ht : t ∈ o.looksAt ops) : VRel (π.below (sS k).next) (rget (rS k) t) (a.tmps.getD t undef) := by
  have hk : k < ops.size := by have := (List.getElem?_eq_some_iff.1 ho).1; simpa using this
  by_cases h : ∃ (j : Nat) (o' : Oper), ops.toList[j]? = some o' ∧ o'.dst = some t
  · obtain ⟨j, o', hj, hd⟩ := h
    by_cases hp : isPred (preds ops) k j = true
    · have hlt := pred_lt T.st ho hp
      rw [T.reg_writer hj hd hlt (by omega)]
      exact (I.done j o' t hj (I.pred ho hb hp) hd).ext (Ren.below_mono (Ren.le_refl π) (T.next_le (by omega) (by omega)))
    · have hkj : k ≤ j ∧ ¬ D j := by
        rcases T.st.reads k o t j o' ho ht hj hd with h1 | h1 | h1
        · exact absurd h1 hp
        · exact ⟨Nat.le_of_lt (pred_lt T.st hj h1), fun hD => hnd (I.pred hj (I.closed j o' hj hD) h1)⟩
        · subst h1; exact ⟨Nat.le_refl _, hnd⟩
      rw [T.reg_rest (fun x ox hx hox he => by have := T.st.uniq j o' x ox t hj hox hd he; omega) (by omega)]
      refine (I.rest t fun x ox hox hD he => ?_).ext (Ren.below_mono (Ren.le_refl π) (T.next_le (Nat.zero_le _) (by omega)))
      have := T.st.uniq j o' x ox t hj hox hd he
      subst this
      exact hkj.2 hD
  · have h' : ∀ (j : Nat) (o' : Oper), ops.toList[j]? = some o' → o'.dst ≠ some t := fun j o' hj hd => h ⟨j, o', hj, hd⟩
    rw [T.reg_rest (fun j o' _ => h' j o') (by omega)]
    exact (I.rest t fun j o' hj _ => h' j o' hj).ext (Ren.below_mono (Ren.le_refl π) (T.next_le (Nat.zero_le _) (by omega)))

theorem below_iff {π : Ren} {n i b : Nat} : (π.below n).bl i = some b ↔ i < n ∧ π.bl i = some b := by
  simp only [Ren.below]
  split
  · rename_i h; simp [h]
  · rename_i h; simp [h]

theorem le_below {τ : Ren} {n : Nat} (h : ∀ i b, τ.bl i = some b → i < n) : τ.le (τ.below n) := fun i b hi => ⟨below_iff.2 ⟨h i b hi, hi⟩, rfl⟩

theorem R.lift {σ σ' : AS} {w : World} {π : Ren} (h : R G π σ w) (hn : σ.next ≤ σ'.next) (hk : ∀ x, x < σ.next → σ'.get x = σ.get x) : R G π σ' w := by
  refine ⟨?_, ?_, h.glob, Nat.le_trans h.globN hn⟩
  · intro i b hi
    obtain ⟨h1, o, ho, hb⟩ := h.blk i b hi
    exact ⟨Nat.lt_of_lt_of_le h1 hn, o, ho, by rw [hk i h1]; exact hb⟩
  · intro i j b hi hj ki kj
    rw [hk i (h.blk i b hi).1] at ki
    rw [hk j (h.blk j b hj).1] at kj
    exact h.inj i j b hi hj ki kj

/-- The memory below a name, where nothing below has been changed since. -/
theorem R.below {σ σ' : AS} {w : World} {π : Ren} (h : R G π σ w) (hG : G ≤ σ'.next) (hk : ∀ x, x < σ'.next → σ.get x = σ'.get x)
    (hs : ∀ i b, (π.below σ'.next).bl i = some b → BSc (π.below σ'.next) (σ'.get i)) : R G (π.below σ'.next) σ' w := by
  refine ⟨?_, ?_, ?_, hG⟩
  · intro i b hi
    obtain ⟨hlt, hi'⟩ := below_iff.1 hi
    obtain ⟨_, o, ho, hb⟩ := h.blk i b hi'
    rw [hk i hlt] at hb
    exact ⟨hlt, o, ho, hb.back (Ren.below_le π _) rfl (hs i b hi)⟩
  · intro i j b hi hj ki kj
    obtain ⟨h1, hi'⟩ := below_iff.1 hi
    obtain ⟨h2, hj'⟩ := below_iff.1 hj
    exact h.inj i j b hi' hj' (by rw [hk i h1]; exact ki) (by rw [hk j h2]; exact kj)
  · intro g hg
    exact below_iff.2 ⟨by omega, h.glob g hg⟩

section run2
variable (T : Run P G callf n ops rS sS vS) {D : Nat → Prop} {m : Nat} {π : Ren} {a : Act} {w : World}
include T

theorem DInv.lift1 (I : DInv G n ops ρ w0 rS sS vS D m π a w) (hm : m < ops.size) (hb : Bn sS m) : DInv G n ops ρ w0 rS sS vS D (m + 1) π a w where
  mle := hm
  closed := I.closed
  above k hk hd := I.above k (by omega) hd
  below k hk hd := by
    by_cases e : k = m
    · rw [e]; exact hb
    · exact I.below k (by omega) hd
  sim := by
    have M := T.mono m hm
    refine { I.sim with rel := I.sim.rel.lift M.nxt hb, nxt := Nat.le_trans I.sim.nxt M.nxt, newblk := ?_, low := Nat.le_trans M.low I.sim.low, keep := ?_, dead := ?_ }
    · intro i b h1 h2
      rcases I.sim.newblk i b h1 h2 with h | ⟨j, h3, h4, h5⟩
      · exact .inl h
      · exact .inr ⟨j, h3, h4, M.dead j (I.sim.rel.blk j b (I.sim.le j b h3).1).1 h5⟩
    · intro i hi hl
      rw [M.keep i (Nat.lt_of_lt_of_le hi I.sim.nxt) hl, I.sim.keep i hi (Nat.lt_of_lt_of_le hl M.low)]
    · intro i hi h0
      exact M.dead i (Nat.lt_of_lt_of_le hi I.sim.nxt) (I.sim.dead i hi h0)
  gap i b hi k hk hd := by
    by_cases e : k = m
    · subst e
      have := (I.sim.rel.blk i b hi).1
      omega
    · exact I.gap i b hi k (by omega) hd
  size := I.size
  defers := I.defers
  rest := I.rest
  done := I.done
  known k hk hbn i b hi := by
    by_cases e : k = m + 1
    · subst e
      obtain ⟨h1, h2⟩ := below_iff.1 hi
      have h3 := (I.sim.rel.blk i b h2).1
      have h4 := I.known m (Nat.le_refl _) (fun j h1 h2 => by omega) i b (below_iff.2 ⟨h3, h2⟩)
      rw [hb i h3]
      exact h4.ext (Ren.below_mono (Ren.le_refl π) (T.mono m hm).nxt)
    · exact I.known k (by omega) (fun j h1 h2 => hbn j h1 (by omega)) i b hi

theorem DInv.lift (I : DInv G n ops ρ w0 rS sS vS D m π a w) {m' : Nat} (hmm : m ≤ m') (hm : m' ≤ ops.size) (hb : ∀ j, m ≤ j → j < m' → Bn sS j) : DInv G n ops ρ w0 rS sS vS D m' π a w := by
  induction hmm with
  | refl => exact I
  | step h ih => exact (ih (by omega) (fun j h1 h2 => hb j h1 (by omega))).lift1 T (by omega) (hb _ h (Nat.lt_succ_self _))

/-- A step of an operation that looks at registers alone: at any time. -/
theorem DInv.stepR (I : DInv G n ops ρ w0 rS sS vS D m π a w) {k : Nat} {o : Oper} (ho : ops.toList[k]? = some o) (hbl : blindAt ops k = true) (hready : ∀ e ∈ bindsOn o, D e)
    {v' : Value} (hv : VRel (π.below (sS k).next) (vS k) v') (hnx : (sS (k + 1)).next = (sS k).next) (hdst : ∀ d, o.dst = some d → d < n) :
    DInv G n ops ρ w0 rS sS vS (fun x => D x ∨ x = k) m π (a.put o.dst v') w := by
  exact {
    mle := I.mle
    closed := fun x ox hx hd e he => by
      rcases hd with hd | rfl
      · exact .inl (I.closed x ox hx hd e he)
      · obtain rfl : ox = o := by rw [ho] at hx; exact (Option.some.inj hx).symm
        exact .inl (hready e he)
    above := fun x hx hd => by
      rcases hd with hd | rfl
      · exact I.above x hx hd
      · exact hbl
    below := fun x hx hd => I.below x hx fun h => hd (.inl h)
    sim := I.sim
    gap := fun i b hi x hx hd => I.gap i b hi x hx fun h => hd (.inl h)
    size := by rw [put_size]; exact I.size
    defers := by rw [put_defers]; exact I.defers
    rest := fun t ht => by
      have e : (a.put o.dst v').tmps.getD t undef = a.tmps.getD t undef := by
        cases hd : o.dst with
        | none => rfl
        | some d => rw [put_getD (by rw [I.size]; exact hdst d hd), if_neg (fun e => ht k o ho (.inr rfl) (by rw [hd, e]))]
      rw [e]
      exact I.rest t fun x ox hx hD => ht x ox hx (.inl hD)
    done := fun x ox t hx hd ht => by
      by_cases e : x = k
      · subst e
        obtain rfl : ox = o := by rw [ho] at hx; exact (Option.some.inj hx).symm
        rw [ht, put_getD (by rw [I.size]; exact hdst t ht), if_pos rfl, hnx]
        exact hv
      · have hd' := hd.resolve_right e
        have e2 : (a.put o.dst v').tmps.getD t undef = a.tmps.getD t undef := by
          cases hdo : o.dst with
          | none => rfl
          | some d => rw [put_getD (by rw [I.size]; exact hdst d hdo), if_neg (fun e3 => e (T.st.uniq k o x ox t ho hx (by rw [hdo, e3]) ht))]
        rw [e2]
        exact I.done x ox t hx hd' ht
    known := I.known }

/-- A step that changes nothing that lay before it, in any order. -/
theorem DInv.stepB (I : DInv G n ops ρ w0 rS sS vS D m π a w) {k : Nat} {o : Oper} (ho : ops.toList[k]? = some o) (hkm : k < m) (hnd : ¬ D k) (hready : ∀ e ∈ bindsOn o, D e)
    (hbn : ∀ j, k ≤ j → j < m → Bn sS j) {τ : Ren} {s1 : AS} {w' : World} {v' : Value} (hsim : Sim G (π.below (sS k).next) (sS k).reset w τ s1 w') (hv : VRel τ (vS k) v')
    (hnx : (sS (k + 1)).next = s1.next) (hgt : ∀ x, (sS (k + 1)).get x = s1.get x) (hdst : ∀ d, o.dst = some d → d < n) :
    ∃ π', DInv G n ops ρ w0 rS sS vS (fun x => D x ∨ x = k) m π' (a.put o.dst v') w' := by
  have hks : k < ops.size := Nat.lt_of_lt_of_le hkm I.mle
  have hlo : (sS k).next ≤ (sS (k + 1)).next := T.next_le (Nat.le_succ _) hks
  have hhm : (sS (k + 1)).next ≤ (sS m).next := T.next_le hkm I.mle
  have hBk := hbn k (Nat.le_refl _) hkm
  have get_new : ∀ x, x < (sS (k + 1)).next → (sS m).get x = s1.get x := fun x hx => by
    rw [T.keeps hkm I.mle (fun j h1 h2 => hbn j (by omega) h2) x hx, hgt]
  have get_old : ∀ x, x < (sS k).next → (sS m).get x = (sS k).get x := fun x hx => T.keeps (Nat.le_of_lt hkm) I.mle hbn x hx
  have get_s1 : ∀ x, x < (sS k).next → s1.get x = (sS k).get x := fun x hx => by rw [← hgt, hBk x hx]
  let π' : Ren := ⟨fun i => if (sS k).next ≤ i ∧ i < (sS (k + 1)).next then τ.bl i else π.bl i, fun i => if (sS k).next ≤ i ∧ i < (sS (k + 1)).next then τ.sz i else π.sz i⟩
  have bl_in : ∀ i, (sS k).next ≤ i ∧ i < (sS (k + 1)).next → π'.bl i = τ.bl i ∧ π'.sz i = τ.sz i := fun i hi => ⟨if_pos hi, if_pos hi⟩
  have bl_out : ∀ i, ¬ ((sS k).next ≤ i ∧ i < (sS (k + 1)).next) → π'.bl i = π.bl i ∧ π'.sz i = π.sz i := fun i hi => ⟨if_neg hi, if_neg hi⟩
  have le1 : π.le π' := fun i b hi => by
    obtain ⟨e1, e2⟩ := bl_out i (I.gap i b hi k hkm hnd)
    exact ⟨by rw [e1]; exact hi, e2⟩
  have hτlt : ∀ i b, τ.bl i = some b → i < (sS (k + 1)).next := fun i b hi => by rw [hnx]; exact (hsim.rel.blk i b hi).1
  have hτold : ∀ i b, τ.bl i = some b → i < (sS k).next → π.bl i = some b ∧ τ.sz i = π.sz i := fun i b hi hlt => by
    cases hp : (π.below (sS k).next).bl i with
    | none => have := hsim.newid i b hi hp; have h2 : (sS k).reset.next = (sS k).next := rfl; omega
    | some b' =>
      obtain ⟨e1, e2⟩ := hsim.le i b' hp
      rw [hi] at e1; cases e1
      exact ⟨(below_iff.1 hp).2, e2⟩
  have le2 : τ.le π' := fun i b hi => by
    by_cases h : (sS k).next ≤ i ∧ i < (sS (k + 1)).next
    · obtain ⟨e1, e2⟩ := bl_in i h
      exact ⟨by rw [e1]; exact hi, e2⟩
    · have hlt : i < (sS k).next := by have := hτlt i b hi; omega
      obtain ⟨e1, e2⟩ := bl_out i h
      obtain ⟨e3, e4⟩ := hτold i b hi hlt
      exact ⟨by rw [e1]; exact e3, by rw [e2, e4]⟩
  -- a block of w that some name below k lives in is no other's
  have hdead : ∀ b, (∀ i', π.bl i' = some b → ((sS m).get i').kind ≠ 0 → (sS k).next ≤ i') → ∀ i', (π.below (sS k).next).bl i' = some b → ((sS k).reset.get i').kind = 0 := fun b h i' hi' => by
    obtain ⟨h1, h2⟩ := below_iff.1 hi'
    by_cases hz : ((sS k).reset.get i').kind = 0
    · exact hz
    · have := h i' h2 (by rw [get_old i' h1]; exact hz); omega
  have hnewb : ∀ i b, τ.bl i = some b → (sS k).next ≤ i → w.heap.size ≤ b := fun i b hi hge => by
    have hp : (π.below (sS k).next).bl i = none := by
      simp only [Ren.below]; rw [if_neg (by omega)]
    rcases hsim.newblk i b hi hp with h | ⟨j, h1, h2, h3⟩
    · exact h
    · have hj := (below_iff.1 h1).1
      rw [get_s1 j hj] at h3
      exact absurd h3 h2
  have rel : R G π' (sS m) w' := by
    refine ⟨?_, ?_, fun g hg => (le1 g g (I.sim.rel.glob g hg)).1, I.sim.rel.globN⟩
    · intro i b hi
      by_cases h : (sS k).next ≤ i ∧ i < (sS (k + 1)).next
      · rw [(bl_in i h).1] at hi
        obtain ⟨h1, o', h2, h3⟩ := hsim.rel.blk i b hi
        refine ⟨by omega, o', h2, ?_⟩
        rw [get_new i h.2]
        exact h3.ext le2 (bl_in i h).2
      · rw [(bl_out i h).1] at hi
        obtain ⟨h1, o', h2, h3⟩ := I.sim.rel.blk i b hi
        refine ⟨h1, ?_⟩
        by_cases hlt : i < (sS k).next
        · have hτ := (hsim.le i b (below_iff.2 ⟨hlt, hi⟩)).1
          obtain ⟨_, o2, h4, h5⟩ := hsim.rel.blk i b hτ
          refine ⟨o2, h4, ?_⟩
          rw [get_old i hlt, ← get_s1 i hlt]
          exact h5.ext le2 (le2 i b hτ).2
        · by_cases hz : ((sS m).get i).kind = 0
          · have hb := Nat.lt_of_lt_of_le (I.sim.rel.lt hi) hsim.hsz
            refine ⟨w'.heap[b], by simp [hb], ?_⟩
            unfold BRel; rw [hz]; trivial
          · have hfr := hsim.frame b (I.sim.rel.lt hi) (hdead b fun i' h4 h5 => by
              have := I.sim.rel.inj i' i b h4 hi h5 hz
              omega)
            exact ⟨o', by rw [hfr]; exact h2, h3.ext le1 (bl_out i h).2⟩
    · intro i j b hi hj ki kj
      by_cases h1 : (sS k).next ≤ i ∧ i < (sS (k + 1)).next
      · rw [(bl_in i h1).1] at hi
        by_cases h2 : (sS k).next ≤ j ∧ j < (sS (k + 1)).next
        · rw [(bl_in j h2).1] at hj
          rw [get_new i h1.2] at ki
          rw [get_new j h2.2] at kj
          exact hsim.rel.inj i j b hi hj ki kj
        · rw [(bl_out j h2).1] at hj
          have := hnewb i b hi h1.1
          have := I.sim.rel.lt hj
          omega
      · rw [(bl_out i h1).1] at hi
        by_cases h2 : (sS k).next ≤ j ∧ j < (sS (k + 1)).next
        · rw [(bl_in j h2).1] at hj
          have := hnewb j b hj h2.1
          have := I.sim.rel.lt hi
          omega
        · rw [(bl_out j h2).1] at hj
          exact I.sim.rel.inj i j b hi hj ki kj
  have bel : ∀ x, (π.below x).le (π'.below x) := fun x => Ren.below_mono le1 (Nat.le_refl _)
  refine ⟨π', ?_⟩
  exact {
    mle := I.mle
    closed := fun x ox hx hd e he => by
      rcases hd with hd | rfl
      · exact .inl (I.closed x ox hx hd e he)
      · obtain rfl : ox = o := by rw [ho] at hx; exact (Option.some.inj hx).symm
        exact .inl (hready e he)
    above := fun x hx hd => by
      rcases hd with hd | rfl
      · exact I.above x hx hd
      · omega
    below := fun x hx hd => I.below x hx fun h => hd (.inl h)
    sim := {
      base := I.sim.base
      le := Ren.le_trans I.sim.le le1
      rel := rel
      frame := fun b hb hd => by
        rw [hsim.frame b (Nat.lt_of_lt_of_le hb I.sim.hsz) (hdead b fun i' h4 h5 => ?_), I.sim.frame b hb hd]
        exfalso
        cases hρ : ρ.bl i' with
        | some b' =>
          have := (I.sim.le i' b' hρ).1
          rw [h4] at this; cases this
          exact h5 (I.sim.dead i' (I.sim.base.blk i' b hρ).1 (hd i' hρ))
        | none =>
          rcases I.sim.newblk i' b h4 hρ with h | ⟨j, h6, h7, _⟩
          · omega
          · exact h7 (hd j h6)
      hsz := Nat.le_trans I.sim.hsz hsim.hsz
      nxt := I.sim.nxt
      newid := fun i b hi hn => by
        by_cases h : (sS k).next ≤ i ∧ i < (sS (k + 1)).next
        · exact Nat.le_trans (T.next_le (Nat.zero_le _) (Nat.le_of_lt hks)) h.1
        · rw [(bl_out i h).1] at hi; exact I.sim.newid i b hi hn
      newblk := fun i b hi hn => by
        by_cases h : (sS k).next ≤ i ∧ i < (sS (k + 1)).next
        · rw [(bl_in i h).1] at hi
          exact .inl (Nat.le_trans I.sim.hsz (hnewb i b hi h.1))
        · rw [(bl_out i h).1] at hi; exact I.sim.newblk i b hi hn
      low := I.sim.low
      keep := I.sim.keep
      dead := I.sim.dead
      out := ⟨hsim.out.1.trans I.sim.out.1, hsim.out.2.trans I.sim.out.2⟩ }
    gap := fun i b hi x hx hd => by
      by_cases h : (sS k).next ≤ i ∧ i < (sS (k + 1)).next
      · intro h2
        have hne : x ≠ k := fun e => hd (.inr e)
        rcases Nat.lt_or_ge x k with hlt | hge
        · have := T.next_le (i := x + 1) (j := k) hlt (Nat.le_of_lt hks); omega
        · have := T.next_le (i := k + 1) (j := x) (by omega) (Nat.le_trans (Nat.le_of_lt hx) I.mle); omega
      · rw [(bl_out i h).1] at hi
        exact I.gap i b hi x hx fun h => hd (.inl h)
    size := by rw [put_size]; exact I.size
    defers := by rw [put_defers]; exact I.defers
    rest := fun t ht => by
      have e : (a.put o.dst v').tmps.getD t undef = a.tmps.getD t undef := by
        cases hd : o.dst with
        | none => rfl
        | some d => rw [put_getD (by rw [I.size]; exact hdst d hd), if_neg (fun e => ht k o ho (.inr rfl) (by rw [hd, e]))]
      rw [e]
      exact (I.rest t fun x ox hx hD => ht x ox hx (.inl hD)).ext (bel _)
    done := fun x ox t hx hd ht => by
      by_cases e : x = k
      · subst e
        obtain rfl : ox = o := by rw [ho] at hx; exact (Option.some.inj hx).symm
        rw [ht, put_getD (by rw [I.size]; exact hdst t ht), if_pos rfl]
        exact hv.ext (Ren.le_trans (le_below hτlt) (Ren.below_mono le2 (Nat.le_refl _)))
      · have hd' := hd.resolve_right e
        have e2 : (a.put o.dst v').tmps.getD t undef = a.tmps.getD t undef := by
          cases hdo : o.dst with
          | none => rfl
          | some d => rw [put_getD (by rw [I.size]; exact hdst d hdo), if_neg (fun e3 => e (T.st.uniq k o x ox t ho hx (by rw [hdo, e3]) ht))]
        rw [e2]
        exact (I.done x ox t hx hd' ht).ext (bel _)
    known := fun x hx hb i b hi => by
      obtain ⟨h1, h2⟩ := below_iff.1 hi
      by_cases h : (sS k).next ≤ i ∧ i < (sS (k + 1)).next
      · have hkx : k + 1 ≤ x := by
          rcases Nat.lt_or_ge k x with h3 | h3
          · exact h3
          · have := T.next_le (i := x) (j := k) h3 (Nat.le_of_lt hks); omega
        have hxs : x ≤ ops.size := Nat.le_trans hx I.mle
        rw [(bl_in i h).1] at h2
        obtain ⟨_, o', _, h5⟩ := hsim.rel.blk i b h2
        rw [T.keeps hkx hxs (fun j h6 h7 => hbn j (by omega) (by omega)) i h.2, hgt]
        exact h5.sc.ext (Ren.le_trans (le_below hτlt) (Ren.below_mono le2 (T.next_le hkx hxs)))
      · rw [(bl_out i h).1] at h2
        exact (I.known x hx hb i b (below_iff.2 ⟨h1, h2⟩)).ext (bel _) }

/-- A step that changes what lay before it: all before it is done, nothing after it. -/
theorem DInv.stepN (I : DInv G n ops ρ w0 rS sS vS D m π a w) {o : Oper} (ho : ops.toList[m]? = some o) (hall : ∀ j, j < m → D j ∨ (blindAt ops j = true ∧ Bn sS j ∧ (sS (j + 1)).next = (sS j).next)) (hready : ∀ e ∈ bindsOn o, D e)
    (hnb : ¬ Bn sS m) {τ : Ren} {s1 : AS} {w' : World} {v' : Value} (hsim : Sim G π (sS m).reset w τ s1 w') (hv : VRel τ (vS m) v')
    (hnx : (sS (m + 1)).next = s1.next) (hgt : ∀ x, (sS (m + 1)).get x = s1.get x) (hdst : ∀ d, o.dst = some d → d < n) :
    DInv G n ops ρ w0 rS sS vS (fun x => D x ∨ x = m) (m + 1) τ (a.put o.dst v') w' := by
  have hms : m < ops.size := by have := (List.getElem?_eq_some_iff.1 ho).1; simpa using this
  have M := T.mono m hms
  have hrel : R G τ (sS (m + 1)) w' := by
    refine ⟨fun i b hi => ?_, fun i j b hi hj ki kj => ?_, hsim.rel.glob, by rw [hnx]; exact hsim.rel.globN⟩
    · obtain ⟨h1, o', h2, h3⟩ := hsim.rel.blk i b hi
      exact ⟨by rw [hnx]; exact h1, o', h2, by rw [hgt]; exact h3⟩
    · rw [hgt] at ki kj; exact hsim.rel.inj i j b hi hj ki kj
  have hstep : Sim G π (sS m) w τ (sS (m + 1)) w' := {
    base := I.sim.rel
    le := hsim.le
    rel := hrel
    frame := hsim.frame
    hsz := hsim.hsz
    nxt := M.nxt
    newid := hsim.newid
    newblk := fun i b h1 h2 => by
      rcases hsim.newblk i b h1 h2 with h | ⟨j, h3, h4, h5⟩
      · exact .inl h
      · exact .inr ⟨j, h3, h4, by rw [hgt]; exact h5⟩
    low := M.low
    keep := M.keep
    dead := M.dead
    out := hsim.out }
  have hτlt : ∀ i b, τ.bl i = some b → i < (sS (m + 1)).next := fun i b hi => (hrel.blk i b hi).1
  have bel : ∀ x, (π.below x).le (τ.below x) := fun x => Ren.below_mono hsim.le (Nat.le_refl _)
  exact {
    mle := hms
    closed := fun x ox hx hd e he => by
      rcases hd with hd | rfl
      · exact .inl (I.closed x ox hx hd e he)
      · obtain rfl : ox = o := by rw [ho] at hx; exact (Option.some.inj hx).symm
        exact .inl (hready e he)
    above := fun x hx hd => by
      rcases hd with hd | rfl
      · exact I.above x (by omega) hd
      · omega
    below := fun x hx hd => by
      rcases Nat.lt_or_ge x m with h | h
      · exact ((hall x h).resolve_left fun h => hd (.inl h)).2.1
      · exact absurd (.inr (by omega)) hd
    sim := I.sim.trans hstep
    gap := fun i b hi x hx hd => by
      rcases Nat.lt_or_ge x m with h | h
      · have := ((hall x h).resolve_left fun h => hd (.inl h)).2.2
        omega
      · exact absurd (.inr (by omega)) hd
    size := by rw [put_size]; exact I.size
    defers := by rw [put_defers]; exact I.defers
    rest := fun t ht => by
      have e : (a.put o.dst v').tmps.getD t undef = a.tmps.getD t undef := by
        cases hd : o.dst with
        | none => rfl
        | some d => rw [put_getD (by rw [I.size]; exact hdst d hd), if_neg (fun e => ht m o ho (.inr rfl) (by rw [hd, e]))]
      rw [e]
      exact (I.rest t fun x ox hx hD => ht x ox hx (.inl hD)).ext (bel _)
    done := fun x ox t hx hd ht => by
      by_cases e : x = m
      · subst e
        obtain rfl : ox = o := by rw [ho] at hx; exact (Option.some.inj hx).symm
        rw [ht, put_getD (by rw [I.size]; exact hdst t ht), if_pos rfl]
        exact hv.ext (le_below hτlt)
      · have hd' := hd.resolve_right e
        have e2 : (a.put o.dst v').tmps.getD t undef = a.tmps.getD t undef := by
          cases hdo : o.dst with
          | none => rfl
          | some d => rw [put_getD (by rw [I.size]; exact hdst d hdo), if_neg (fun e3 => e (T.st.uniq m o x ox t ho hx (by rw [hdo, e3]) ht))]
        rw [e2]
        exact (I.done x ox t hx hd' ht).ext (bel _)
    known := fun x hx hb i b hi => by
      by_cases e : x = m + 1
      · subst e
        obtain ⟨h1, h2⟩ := below_iff.1 hi
        obtain ⟨_, o', _, h5⟩ := hrel.blk i b h2
        exact h5.sc.ext (le_below hτlt)
      · exact absurd (hb m (by omega) (Nat.lt_succ_self _)) hnb }

end run2

/-- What looks at registers alone answers the same in any memory. -/
theorem blind_sound {r : Regs} {σ σ' : AS} {a : Act} {π : Ren} {o : Oper} {v : Value} (hb : opBlind o.op = true) (h : aStep P G callf r σ o.op = some (v, σ')) (hr : OpRel G π r a o.op.operands) (w : World) :
    σ' = σ ∧ ∃ v', (execOp a.eval o).run P w = .ok (.value v') w ∧ VRel π v v' := by
  obtain ⟨dst, op, ty, pos, aft, guard⟩ := o
  dsimp only at h hr hb
  unfold OpRel at hr
  have valR : ∀ {s : Sem Value} {v' : Value}, s.run P w = .ok v' w → (do pure (.value (← s)) : Sem Next).run P w = .ok (.value v') w := fun {s v'} hs => by simp [hs]
  cases op <;> (try (simp [opBlind] at hb; done)) <;> simp only [aStep, aOp] at h
  case move x =>
    obtain ⟨h, e⟩ := ann_some h
    exact ⟨e, _, rfl, hr x (by simp [Op.operands]) v h⟩
  case assign x =>
    obtain ⟨h, e⟩ := ann_some h
    exact ⟨e, _, rfl, hr x (by simp [Op.operands]) v h⟩
  case pick c x y =>
    split at h
    · rename_i t u1 u2 h1 h2 h3
      cases h
      have hc := vrel_bool.1 (hr c (by simp [Op.operands]) _ h1)
      have hx := hr x (by simp [Op.operands]) _ h2
      have hy := hr y (by simp [Op.operands]) _ h3
      refine ⟨rfl, if t then a.eval x else a.eval y, ?_, ?_⟩
      · simp [execOp, hc, asBool]
      · cases t
        · exact hy
        · exact hx
    · cases h
  case nilCheck x =>
    split at h
    · rename_i y hu
      cases h
      have hx := hr x (by simp [Op.operands]) _ hu
      obtain ⟨b, _, _, e⟩ := vrel_ptr.1 hx
      exact ⟨rfl, a.eval x, by simp [execOp, e], hx⟩
    · rename_i f b c hu
      cases h
      have hx := hr x (by simp [Op.operands]) _ hu
      obtain ⟨_, _, _, _, e⟩ := vrel_func.1 hx
      exact ⟨rfl, a.eval x, by simp [execOp, e], hx⟩
    · rename_i t u hu
      cases h
      have hx := hr x (by simp [Op.operands]) _ hu
      obtain ⟨_, _, e⟩ := vrel_iface.1 hx
      exact ⟨rfl, a.eval x, by simp [execOp, e], hx⟩
    · cases h
  case fieldAddr s x f =>
    split at h
    · rename_i u hu
      obtain ⟨h, e⟩ := ann_some h
      obtain ⟨v', h1, h2⟩ := aField_sound (P := P) (w := w) h (hr x (by simp [Op.operands]) _ hu)
      exact ⟨e, v', valR h1, h2⟩
    · cases h
  case field t x f =>
    split at h
    · rename_i u hu
      obtain ⟨h, e⟩ := ann_some h
      obtain ⟨v', h1, h2⟩ := aFieldOf_sound (P := P) (w := w) h (hr x (by simp [Op.operands]) _ hu)
      exact ⟨e, v', valR h1, h2⟩
    · cases h
  case indexAddr t x ix =>
    split at h
    · rename_i u1 u2 h1 h2
      obtain ⟨h, e⟩ := ann_some h
      obtain ⟨v', h3, h4⟩ := aIndexAddr_sound (P := P) (w := w) h (hr x (by simp [Op.operands]) _ h1) (hr ix (by simp [Op.operands]) _ h2)
      exact ⟨e, v', valR h3, h4⟩
    · cases h
  case index t x ix =>
    split at h
    · rename_i u1 u2 h1 h2
      obtain ⟨h, e⟩ := ann_some h
      obtain ⟨v', h3, h4⟩ := aIndexOf_sound (P := P) (w := w) h (hr x (by simp [Op.operands]) _ h1) (hr ix (by simp [Op.operands]) _ h2)
      exact ⟨e, v', valR h3, h4⟩
    · cases h
  case binOp op t x y yt =>
    split at h
    · rename_i u1 u2 h1 h2
      obtain ⟨h, e⟩ := ann_some h
      obtain ⟨v', h3, h4⟩ := aBin_sound (w := w) h (hr x (by simp [Op.operands]) _ h1) (hr y (by simp [Op.operands]) _ h2)
      exact ⟨e, v', valR h3, h4⟩
    · cases h
  case unOp op t x =>
    split at h
    · rename_i u hu
      split at h
      · rename_i hf
        obtain ⟨h, e⟩ := ann_some h
        obtain ⟨h1, h2⟩ := flatO_some h
        have hx := (vrel_flat hf).1 (hr x (by simp [Op.operands]) _ hu)
        refine ⟨e, v, valR (s := Op.unary op (a.eval x)) ?_, (vrel_flat h2).2 rfl⟩
        rw [hx]; exact asPure_run h1
      · cases h
    · cases h
  case convert s d x =>
    split at h
    · rename_i u hu
      split at h
      · rename_i hf
        obtain ⟨h, e⟩ := ann_some h
        obtain ⟨h1, h2⟩ := flatO_some h
        have hx := (vrel_flat1 hf).1 (hr x (by simp [Op.operands]) _ hu)
        refine ⟨e, v, valR (s := convert s d (a.eval x)) ?_, (vrel_flat h2).2 rfl⟩
        rw [hx]; exact asPure_run h1
      · cases h
    · cases h
  case makeInterface t x =>
    split at h
    · cases h
    · rename_i u d hne hu hd
      cases h
      have hx := hr x (by simp [Op.operands]) _ hu
      refine ⟨rfl, .iface t (a.eval x), valR (s := Instr.makeInterface t (a.eval x)) ?_, vrel_iface.2 ⟨_, hx, rfl⟩⟩
      unfold Instr.makeInterface
      rw [Sem.run_bind, run_underlying' hd, Result.andThen_ok]
      cases d <;> first | rfl | exact (hne _ rfl).elim
    · cases h
  case makeFunc fn first captured =>
    split at h
    · rename_i f c hf hc
      cases h
      have h1 := aevs_rel (ρ := π) (a := a) hf fun x hx => hr x (by simp [Op.operands]; exact .inl (by simpa using hx))
      have h2 := aevs_rel (ρ := π) (a := a) hc fun x hx => hr x (by simp [Op.operands]; exact .inr (by simpa using hx))
      refine ⟨rfl, .func fn (first.map a.eval) (captured.map a.eval), valR (s := Instr.makeFunc fn (first.map a.eval) (captured.map a.eval)) rfl, ?_⟩
      exact vrel_func.2 ⟨_, _, h1, h2, by simp [← Array.toList_map]⟩
    · cases h
  case build t parts =>
    split at h
    · rename_i ps hps
      obtain ⟨h, e⟩ := ann_some h
      have hp := aparts_rel (ρ := π) (a := a) hps fun x hx => hr x.2 (by simp [Op.operands]; exact ⟨_, by simpa using hx⟩)
      obtain ⟨v', h1, h2⟩ := aBuild_sound (P := P) (w := w) (qs := parts.map fun (i, x) => (i, a.eval x)) h (by simpa using hp)
      exact ⟨e, v', valR h1, h2⟩
    · cases h
  case extract t ix =>
    split at h
    · rename_i vs hu
      split at h
      · rename_i u hix
        cases h
        obtain ⟨ds, hl, e⟩ := vrel_tuple.1 (hr t (by simp [Op.operands]) _ hu)
        obtain ⟨u', h1, h2⟩ := hl.get ix (by simpa using hix)
        refine ⟨rfl, u', valR (s := Instr.extract (a.eval t) ix) ?_, h2⟩
        simp [e, Instr.extract, h1]
      · cases h
    · cases h

theorem Run.blind (T : Run P G callf n ops rS sS vS) {k : Nat} (hk : k < ops.size) (hb : blindAt ops k = true) : Bn sS k ∧ (sS (k + 1)).next = (sS k).next := by
  obtain ⟨o, ho⟩ := op_at hk
  have A := T.at_ k o ho
  have hbo : opBlind o.op = true := by
    unfold blindAt at hb
    have : ops[k]? = some o := by simpa using ho
    rw [this] at hb; exact hb
  cases hw : aWanted ops (rS k) o with
  | true =>
    obtain ⟨s1, h1, h2, h3⟩ := A.yes hw
    have e : s1 = (sS k).reset := by
      -- the evaluator's memory is untouched
      revert h1
      generalize o.op = op at hbo ⊢
      intro h1
      cases op <;> (try (simp [opBlind] at hbo; done)) <;> simp only [aStep, aOp] at h1
      all_goals (repeat' split at h1) <;> first | (cases h1; done) | (exact (ann_some h1).2) | (exact (Prod.mk.inj (Option.some.inj h1)).2.symm)
    refine ⟨fun x _ => ?_, ?_⟩
    · rw [h3, e]; rfl
    · rw [h3, e]; rfl
  | false => exact ⟨fun x _ => by rw [(A.no hw).2], by rw [(A.no hw).2]⟩

end draw
end Go.Proofs.Ytbknckiapcafdaa.Abs
