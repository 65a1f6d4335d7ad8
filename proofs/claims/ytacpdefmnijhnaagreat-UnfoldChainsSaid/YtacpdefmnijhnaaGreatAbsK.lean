/- Regions whose order is open: whatever order the tape draws, the end is the text's. -/
import Derived.Test.YtacpdefmnijhnaaGreatAbsN
import Derived.Orders
set_option linter.unusedSimpArgs false
set_option linter.unusedVariables false
namespace Go.Proofs.YtacpdefmnijhnaaGreat.Abs

/-! ### Which operations precede which -/

noncomputable def bindsOn (o : Oper) : List Nat := (o.after.toList.filter (Region.binds .any)).map (·.on)

noncomputable def predGo : List Oper → List Nat → List Nat
  | [], acc => acc
  | o :: l, acc => predGo l (acc ++ [(bindsOn o).foldl (fun s e => s ||| 2 ^ e ||| acc.getD e 0) 0])

noncomputable def preds (ops : Array Oper) : List Nat := predGo ops.toList []
noncomputable def isPred (pb : List Nat) (k j : Nat) : Bool := (pb.getD k 0).testBit j

noncomputable def blindAt (P : Program) (ops : Array Oper) (j : Nat) : Bool := match ops[j]? with | some o => opBlind P o.op | none => false

/-- Operations that read memory and change none. -/
noncomputable def opStill : Op → Bool
  | .load .. | .lookup .. => true
  | _ => false

noncomputable def opCalls : Op → Bool
  | .call c => match c.callee with
    | .value _ => true
    | _ => false
  | _ => false

noncomputable def memb (sj : List Nat) (j : Nat) : Bool := sj.any (Nat.beq j)

noncomputable def stillAt (P : Program) (ops : Array Oper) (sj : List Nat) (j : Nat) : Bool := blindAt P ops j || memb sj j

/-- The readers that stand unordered beside a call. -/
noncomputable def readers (ops : Array Oper) (pb : List Nat) (N : Nat) : List Nat :=
  (List.range N).filter fun j => (match ops[j]? with | some o => opStill o.op | none => false) &&
    (List.range N).any fun k => (match ops[k]? with | some o => opCalls o.op | none => false) && !(isPred pb k j) && !(isPred pb j k)

noncomputable def drawOne (ops : Array Oper) (pb : List Nat) (o : Oper) (k : Nat) : Bool :=
  (bindsOn o).all (fun e => Nat.blt e k) &&
  (match o.dst with | some t => (ops.toList.take k).all (fun o' => !(o'.dst == some t)) | none => true) &&
  (o.looksAt ops).all fun t => ops.toList.zipIdx.all fun (o', j) => !(o'.dst == some t) || isPred pb k j || isPred pb j k || j == k

noncomputable def drawStatic (ops : Array Oper) (pb : List Nat) : Bool := ops.toList.zipIdx.all fun (o, k) => drawOne ops pb o k

noncomputable def AS.reset (σ : AS) : AS := ⟨σ.next, σ.next, σ.heap⟩
noncomputable def AS.merge (σ s1 : AS) : AS := ⟨s1.next, Nat.min σ.low s1.low, s1.heap⟩

/-- No block of a value lies beyond n. -/
noncomputable def vsc (n : Nat) : Nat → Value → Bool
  | 0, _ => false
  | f + 1, v => match v with
    | .pointer (some a) => Nat.blt a.block n
    | .slice (some a) _ _ => a.spot.isSome || Nat.blt a.block n
    | .map (some r) => Nat.blt r n
    | .chan (some k) => Nat.beq (k % 2) 0 || Nat.blt k n
    | .func _ x c => x.toList.all (vsc n f) && c.toList.all (vsc n f)
    | .iface _ x => vsc n f x
    | .agg cs => cs.toList.all (vsc n f)
    | .tuple cs => cs.toList.all (vsc n f)
    | _ => true

noncomputable def veqL (eq : Value → Value → Bool) : List Value → List Value → Bool
  | [], [] => true
  | a :: l, b :: m => eq a b && veqL eq l m
  | _, _ => false

/-- Equality of values, as far as it is told. -/
noncomputable def veq : Nat → Value → Value → Bool
  | 0, _, _ => false
  | f + 1, v, u => match v, u with
    | .int k a, .int k' b => decide (k = k') && decide (a = b)
    | .bool a, .bool b => a == b
    | .string a, .string b => decide (a = b)
    | .pointer a, .pointer b => decide (a = b)
    | .slice a l c, .slice b l' c' => decide (a = b) && Nat.beq l l' && Nat.beq c c'
    | .map a, .map b => decide (a = b)
    | .chan a, .chan b => decide (a = b)
    | .nilFunc, .nilFunc => true
    | .nilIface, .nilIface => true
    | .func (.func g) x c, .func (.func g') x' c' => Nat.beq g g' && veqL (veq f) x.toList x'.toList && veqL (veq f) c.toList c'.toList
    | .iface t x, .iface t' x' => Nat.beq t t' && veq f x x'
    | .agg x, .agg x' => veqL (veq f) x.toList x'.toList
    | .tuple x, .tuple x' => veqL (veq f) x.toList x'.toList
    | _, _ => false

structure Ent where
  s : AS
  r : Regs
  v : Value
  f : Bool

noncomputable def sameVal (x : Option (Value × AS)) (v : Value) : Bool := match x with
  | some (u, _) => veq 9 u v
  | none => false

noncomputable def stateAt (L : List Ent) (σ : AS) (m : Nat) : AS := match L[m]? with
  | some e => e.s
  | none => σ

/-- What an operation may read, of what lay before it. -/
noncomputable def footAt (P : Program) (G : Nat) (ops : Array Oper) (sj : List Nat) (L : List Ent) (j : Nat) : Option (List Nat) :=
  match ops[j]?, L[j]? with
  | some o, some e => bite (stillAt P ops sj j || !aWanted ops e.r o) (some []) (fpOf P G e.r o.op)
  | _, _ => none

noncomputable def writes (L : List Ent) (k : Nat) : Bool := match L[k]? with | some e => e.f | none => false

noncomputable def inTake (F : Option (List Nat)) (x : Nat) : Bool := match F with
  | some (y :: _) => Nat.beq y x
  | some [] => false
  | none => true

/-- Operation q may change block x. -/
noncomputable def wrAt (P : Program) (G : Nat) (ops : Array Oper) (sj : List Nat) (L : List Ent) (σ : AS) (q x : Nat) : Bool :=
  writes L q && Nat.blt x (stateAt L σ q).next && inTake (footAt P G ops sj L q) x

open Classical in
/-- What operation j has made is the same before and after operation k. -/
noncomputable def stays (L : List Ent) (σ : AS) (k j : Nat) : Bool :=
  decide (∀ x, (stateAt L σ j).next ≤ x → x < (stateAt L σ (j + 1)).next → (stateAt L σ (k + 1)).get x = (stateAt L σ k).get x)

noncomputable def clashFree (P : Program) (G : Nat) (ops : Array Oper) (sj : List Nat) (L : List Ent) (σ : AS) (k j : Nat) : Bool :=
  match footAt P G ops sj L k, footAt P G ops sj L j with
  | some [], _ => true
  | some (x :: _), some F => !(memb F x) && !(Nat.ble (stateAt L σ j).next x && Nat.blt x (stateAt L σ (j + 1)).next)
  | none, some [] => Nat.blt k j || (Nat.beq (stateAt L σ j).next (stateAt L σ (j + 1)).next || stays L σ k j)
  | _, none => false
  | none, some (_ :: _) => false

noncomputable def quietOk (P : Program) (G : Nat) (ops : Array Oper) (pb : List Nat) (N : Nat) (sj : List Nat) (L : List Ent) (σ : AS) : Bool :=
  (List.range N).all fun k => !writes L k || (List.range N).all fun j => Nat.beq j k || isPred pb k j || isPred pb j k || clashFree P G ops sj L σ k j

noncomputable def passes (P : Program) (G : Nat) (ops : Array Oper) (pb : List Nat) (N : Nat) (sj : List Nat) (L : List Ent) (σ : AS) (j m x : Nat) : Bool :=
  Nat.ble (stateAt L σ m).next x ||
  (List.range N).any (fun q => isPred pb j q && Nat.ble m q && wrAt P G ops sj L σ q x) ||
  (List.range m).any (fun q => isPred pb q j && wrAt P G ops sj L σ q x)

/-- Operation j reads the same wherever it may stand. -/
noncomputable def steadyOne (P : Program) (G : Nat) (callf : FuncId → List Value → AS → Option (Value × AS)) (ops : Array Oper) (pb : List Nat) (N : Nat) (sj : List Nat) (L : List Ent) (σ : AS) (j : Nat) : Bool :=
  match L[j]?, ops[j]? with
  | some e, some o => opStill o.op && (!aWanted ops e.r o || (vsc e.s.next 9 e.v && (match fpOf P G e.r o.op with
      | some [] => true
      | some [x] => (List.range (N + 1)).all fun m => passes P G ops pb N sj L σ j m x || sameVal (aStep P G callf e.r (stateAt L σ m).reset o.op) e.v
      | _ => false)))
  | _, _ => false

noncomputable def drawOk (P : Program) (G : Nat) (callf : FuncId → List Value → AS → Option (Value × AS)) (ops : Array Oper) (pb : List Nat) (N : Nat) (sj : List Nat) (L : List Ent) (σ : AS) : Bool :=
  bite (L.any (·.f)) (quietOk P G ops pb N sj L σ) true && sj.all (steadyOne P G callf ops pb N sj L σ)

noncomputable def aDrawGo (P : Program) (G : Nat) (callf : FuncId → List Value → AS → Option (Value × AS)) (n : Nat) (ops : Array Oper) (pb : List Nat) (N : Nat) (sj : List Nat) : List Oper → Regs → AS → List Ent → Option (Regs × AS)
  | [], r, σ, acc => bite (drawOk P G callf ops pb N sj acc.reverse σ) (some (r, σ)) none
  | o :: l, r, σ, acc =>
    bite (aWanted ops r o)
      (match aStep P G callf r σ.reset o.op with
      | some (v, s1) => match aPut n r o.dst v with
          | some r' => aDrawGo P G callf n ops pb N sj l r' (σ.merge s1) (⟨σ, r, v, !Nat.ble σ.next s1.low⟩ :: acc)
          | none => none
      | none => none)
      (match aPut n r o.dst undef with
      | some r' => aDrawGo P G callf n ops pb N sj l r' σ (⟨σ, r, undef, false⟩ :: acc)
      | none => none)

noncomputable def aDraw (P : Program) (G : Nat) (callf : FuncId → List Value → AS → Option (Value × AS)) (n : Nat) (ops : Array Oper) (r : Regs) (σ : AS) : Option (Regs × AS) :=
  if drawStatic ops (preds ops) then aDrawGo P G callf n ops (preds ops) ops.size (readers ops (preds ops) ops.size) ops.toList r σ [] else none

theorem vsc_below {π : Ren} {n : Nat} : ∀ (f : Nat) (v v' : Value) (k : Nat), vsc n f v = true → VRelN π k v v' → VRelN (π.below n) k v v'
  | 0, _, _, _, h, _ => by cases h
  | _ + 1, _, _, 0, _, h => h.elim
  | f + 1, v, v', k + 1, h, hv => by
    have hl : ∀ (l l' : List Value), l.all (vsc n f) = true → LRel (VRelN π k) l l' → LRel (VRelN (π.below n) k) l l' := by
      intro l
      induction l with
      | nil => intro l' _ h; cases l' with | nil => trivial | cons => exact h.elim
      | cons a l ih =>
        intro l' h1 h2
        cases l' with
        | nil => exact h2.elim
        | cons b l' =>
          simp only [List.all_cons, Bool.and_eq_true] at h1
          exact ⟨vsc_below f _ _ _ h1.1 h2.1, ih l' h1.2 h2.2⟩
    have hb : ∀ i b, Nat.blt i n = true → π.bl i = some b → (π.below n).bl i = some b := fun i b h1 h2 => by
      rw [Nat.blt_eq] at h1
      simp only [Ren.below]; rw [if_pos h1]; exact h2
    cases v
    case pointer a =>
      cases a with
      | none => exact hv
      | some a => obtain ⟨b, h1, h2, h3⟩ := hv; exact ⟨b, hb _ _ h h1, h2, h3⟩
    case slice a l c =>
      cases a with
      | none => exact hv
      | some a =>
        have h : (a.spot.isSome || Nat.blt a.block n) = true := h
        rcases hv with ⟨b, c', h1, h2, h3, h4⟩ | hv
        · exact Or.inl ⟨b, c', hb _ _ (by rw [h2] at h; exact h) h1, h2, h3, h4⟩
        · exact Or.inr hv
    case map a =>
      cases a with
      | none => exact hv
      | some a => obtain ⟨b, h1, h2⟩ := hv; exact ⟨b, hb _ _ h h1, h2⟩
    case chan a =>
      cases a with
      | none => exact hv
      | some a =>
        have h : (Nat.beq (a % 2) 0 || Nat.blt a n) = true := h
        rcases hv with hv | ⟨x, c, l, z, b, c', h1, h2, h3⟩
        · exact Or.inl hv
        · obtain ⟨g1, g2⟩ := voidCut_ge x c l z
          have hn : Nat.blt x.block n = true := by
            rw [Nat.blt_eq]
            simp only [Bool.or_eq_true, Nat.beq_eq, Nat.blt_eq] at h
            omega
          exact Or.inr ⟨x, c, l, z, b, c', h1, hb _ _ hn h2, h3⟩
    case func g x c =>
      obtain ⟨f', c', h1, h2, h3⟩ := hv
      simp only [vsc, Bool.and_eq_true] at h
      exact ⟨f', c', hl _ _ h.1 h1, hl _ _ h.2 h2, h3⟩
    case iface t x => obtain ⟨x', h1, h2⟩ := hv; exact ⟨x', vsc_below f _ _ _ h h1, h2⟩
    case agg cs => obtain ⟨x', h1, h2⟩ := hv; exact ⟨x', hl _ _ h h1, h2⟩
    case tuple cs => obtain ⟨x', h1, h2⟩ := hv; exact ⟨x', hl _ _ h h1, h2⟩
    all_goals exact hv

theorem veqL_eq {eq : Value → Value → Bool} (he : ∀ a b, eq a b = true → a = b) : ∀ {l m : List Value}, veqL eq l m = true → l = m
  | [], [], _ => rfl
  | a :: l, b :: m, h => by
    simp only [veqL, Bool.and_eq_true] at h
    rw [he _ _ h.1, veqL_eq he h.2]
  | [], _ :: _, h => by cases h
  | _ :: _, [], h => by cases h

theorem veq_eq : ∀ (f : Nat) (v u : Value), veq f v u = true → v = u
  | 0, _, _, h => by cases h
  | f + 1, v, u, h => by
    have hl : ∀ x y : Array Value, veqL (veq f) x.toList y.toList = true → x = y := fun x y h => Array.toList_inj.1 (veqL_eq (veq_eq f) h)
    unfold veq at h
    split at h
    · simp only [Bool.and_eq_true, decide_eq_true_eq] at h; rw [h.1, h.2]
    · rw [beq_iff_eq] at h; rw [h]
    · simp only [decide_eq_true_eq] at h; rw [h]
    · simp only [decide_eq_true_eq] at h; rw [h]
    · simp only [Bool.and_eq_true, decide_eq_true_eq, Nat.beq_eq] at h; rw [h.1.1, h.1.2, h.2]
    · simp only [decide_eq_true_eq] at h; rw [h]
    · simp only [decide_eq_true_eq] at h; rw [h]
    · rfl
    · rfl
    · simp only [Bool.and_eq_true, Nat.beq_eq] at h; rw [h.1.1, hl _ _ h.1.2, hl _ _ h.2]
    · simp only [Bool.and_eq_true, Nat.beq_eq] at h; rw [h.1, veq_eq f _ _ h.2]
    · rw [hl _ _ h]
    · rw [hl _ _ h]
    · cases h

theorem memb_mem {sj : List Nat} {k : Nat} (h : memb sj k = true) : k ∈ sj := by
  unfold memb at h
  rw [List.any_eq_true] at h
  obtain ⟨x, hx, h⟩ := h
  rw [Nat.eq_of_beq_eq_true h]; exact hx

theorem fold_bits (acc : List Nat) : ∀ (l : List Nat) (s j : Nat), (l.foldl (fun s e => s ||| 2 ^ e ||| acc.getD e 0) s).testBit j = true → s.testBit j = true ∨ ∃ e ∈ l, j = e ∨ (acc.getD e 0).testBit j = true
  | [], s, j, h => .inl h
  | e :: l, s, j, h => by
    simp only [List.foldl_cons] at h
    rcases fold_bits acc l _ j h with h | ⟨e', he, h⟩
    · rw [Nat.testBit_or, Nat.testBit_or] at h
      simp only [Bool.or_eq_true] at h
      rcases h with (h | h) | h
      · exact .inl h
      · rw [Nat.testBit_two_pow] at h
        exact .inr ⟨e, by simp, (.inl (of_decide_eq_true h).symm)⟩
      · exact .inr ⟨e, by simp, .inr h⟩
    · exact .inr ⟨e', by simp [he], h⟩

theorem predGo_spec {D : Nat → Prop} {all : List Oper} (hD : ∀ k o, all[k]? = some o → D k → ∀ e ∈ bindsOn o, D e) : ∀ (l : List Oper) (acc : List Nat), (∀ i, l[i]? = all[acc.length + i]?) →
    (∀ k o, k < acc.length → all[k]? = some o → (∀ e ∈ bindsOn o, D e) → ∀ j, (acc.getD k 0).testBit j = true → D j) →
    ∀ k o, all[k]? = some o → k < acc.length + l.length → (∀ e ∈ bindsOn o, D e) → ∀ j, ((predGo l acc).getD k 0).testBit j = true → D j
  | [], acc, _, h, k, o, ho, hk, hb, j, hj => h k o (by simpa using hk) ho hb j hj
  | x :: l, acc, hl, h, k, o, ho, hk, hb, j, hj => by
    refine predGo_spec hD l (acc ++ [(bindsOn x).foldl (fun s e => s ||| 2 ^ e ||| acc.getD e 0) 0]) ?_ ?_ k o ho (by simp at hk ⊢; omega) hb j hj
    · intro i
      have := hl (i + 1)
      simp only [List.getElem?_cons_succ] at this
      rw [this]
      simp only [List.length_append, List.length_cons, List.length_nil]
      congr 1; omega
    · intro k o hk ho hb j hj
      rcases Nat.lt_or_ge k acc.length with hlt | hge
      · refine h k o hlt ho hb j ?_
        simpa [List.getD, List.getElem?_append_left hlt] using hj
      · have hke : k = acc.length := by simp at hk; omega
        subst hke
        have hx : x = o := by
          have := hl 0
          simp only [List.getElem?_cons_zero, Nat.add_zero] at this
          rw [ho] at this
          exact Option.some.inj this
        subst hx
        simp only [List.getD, List.getElem?_append_right (Nat.le_refl _), Nat.sub_self, List.getElem?_cons_zero, Option.getD_some] at hj
        rcases fold_bits acc _ _ _ hj with h0 | ⟨e, he, h1⟩
        · simp at h0
        · rcases h1 with rfl | h1
          · exact hb _ he
          · rcases Nat.lt_or_ge e acc.length with hle | hgt
            · cases hoe : all[e]? with
              | none =>
                exfalso
                have h2 := List.getElem?_eq_none_iff.1 hoe
                have h3 := (List.getElem?_eq_some_iff.1 ho).1
                omega
              | some oe => exact h e oe hle hoe (hD e oe hoe (hb e he)) j h1
            · simp [List.getD, List.getElem?_eq_none hgt] at h1

theorem isPred_spec {D : Nat → Prop} {ops : Array Oper} (hD : ∀ k o, ops.toList[k]? = some o → D k → ∀ e ∈ bindsOn o, D e) {k j : Nat} {o : Oper} (ho : ops.toList[k]? = some o)
    (hb : ∀ e ∈ bindsOn o, D e) (hj : isPred (preds ops) k j = true) : D j :=
  predGo_spec hD ops.toList [] (fun i => by simp) (fun k o hk => by simp at hk) k o ho (by simpa using (List.getElem?_eq_some_iff.1 ho).1) hb j hj

theorem zipIdx_all {α : Type} {l : List α} {f : α × Nat → Bool} (h : l.zipIdx.all f = true) {k : Nat} {o : α} (ho : l[k]? = some o) : f (o, k) = true := by
  rw [List.all_eq_true] at h
  refine h (o, k) ?_
  rw [List.mem_iff_getElem?]
  exact ⟨k, by simp [List.getElem?_zipIdx, ho]⟩

structure Static (ops : Array Oper) : Prop where
  back : ∀ (k : Nat) (o : Oper), ops.toList[k]? = some o → ∀ e ∈ bindsOn o, e < k
  uniq : ∀ (k : Nat) (o : Oper) (j : Nat) (o' : Oper) (t : Tmp), ops.toList[k]? = some o → ops.toList[j]? = some o' → o.dst = some t → o'.dst = some t → j = k
  reads : ∀ (k : Nat) (o : Oper) (t : Tmp) (j : Nat) (o' : Oper), ops.toList[k]? = some o → t ∈ o.looksAt ops → ops.toList[j]? = some o' → o'.dst = some t → isPred (preds ops) k j = true ∨ isPred (preds ops) j k = true ∨ j = k

theorem Static.of {ops : Array Oper} (h : drawStatic ops (preds ops) = true) : Static ops := by
  have one : ∀ k o, ops.toList[k]? = some o → drawOne ops (preds ops) o k = true := fun k o ho => zipIdx_all (f := fun (o, k) => drawOne ops (preds ops) o k) h ho
  have uq : ∀ (k : Nat) (o : Oper) (j : Nat) (o' : Oper) (t : Tmp), ops.toList[k]? = some o → ops.toList[j]? = some o' → o.dst = some t → o'.dst = some t → ¬ j < k := by
    intro k o j o' t ho hj hd hd' hlt
    have h1 := one k o ho
    simp only [drawOne, Bool.and_eq_true] at h1
    have h2 := h1.1.2
    rw [hd] at h2
    simp only [List.all_eq_true] at h2
    have := h2 o' (List.mem_of_getElem? (i := j) (by rw [List.getElem?_take_of_lt hlt]; exact hj))
    simp [hd'] at this
  refine ⟨?_, ?_, ?_⟩
  · intro k o ho e he
    have h1 := one k o ho
    simp only [drawOne, Bool.and_eq_true, List.all_eq_true] at h1
    simpa [Nat.blt_eq] using h1.1.1 e he
  · intro k o j o' t ho hj hd hd'
    have a1 := uq k o j o' t ho hj hd hd'
    have a2 := uq j o' k o t hj ho hd' hd
    omega
  · intro k o t j o' ho ht hj hd'
    have h1 := one k o ho
    simp only [drawOne, Bool.and_eq_true] at h1
    have h2 := h1.2
    rw [List.all_eq_true] at h2
    have h3 := zipIdx_all (f := fun (o', j) => !(o'.dst == some t) || isPred (preds ops) k j || isPred (preds ops) j k || j == k) (h2 t ht) hj
    simp only [hd', beq_self_eq_true, Bool.not_true, Bool.false_or, Bool.or_eq_true, beq_iff_eq] at h3
    rcases h3 with (h3 | h3) | h3
    · exact .inl h3
    · exact .inr (.inl h3)
    · exact .inr (.inr h3)

/-! ### The text's run, laid apart -/

section draw
variable {P : Program} {G : Nat} {callf : FuncId → List Value → AS → Option (Value × AS)} {n : Nat} {ops : Array Oper}

/-- What the run does at operation k. -/
structure At (P : Program) (G : Nat) (callf : FuncId → List Value → AS → Option (Value × AS)) (n : Nat) (ops : Array Oper) (rS : Nat → Regs) (sS : Nat → AS) (vS : Nat → Value) (fS : Nat → Bool) (k : Nat) (o : Oper) : Prop where
  yes : aWanted ops (rS k) o = true → ∃ s1, aStep P G callf (rS k) (sS k).reset o.op = some (vS k, s1) ∧ fS k = (!Nat.ble (sS k).next s1.low) ∧ sS (k + 1) = (sS k).merge s1
  no : aWanted ops (rS k) o = false → vS k = undef ∧ sS (k + 1) = sS k ∧ fS k = false
  put : aPut n (rS k) o.dst (vS k) = some (rS (k + 1))

theorem aDrawGo_trace {sj : List Nat} : ∀ (l : List Oper) (k0 : Nat) (r : Regs) (σ : AS) (acc : List Ent) {r' : Regs} {σ' : AS}, aDrawGo P G callf n ops (preds ops) ops.size sj l r σ acc = some (r', σ') →
    (∀ i, l[i]? = ops.toList[k0 + i]?) →
    ∃ rS sS vS fS, rS k0 = r ∧ sS k0 = σ ∧ rS (k0 + l.length) = r' ∧ sS (k0 + l.length) = σ' ∧ (∀ k o, k0 ≤ k → ops.toList[k]? = some o → At P G callf n ops rS sS vS fS k o) ∧
      drawOk P G callf ops (preds ops) ops.size sj (acc.reverse ++ (List.range l.length).map fun i => ⟨sS (k0 + i), rS (k0 + i), vS (k0 + i), fS (k0 + i)⟩) σ' = true
  | [], k0, r, σ, acc, r', σ', h, hl => by
    simp only [aDrawGo, bite_eq] at h
    split at h
    · rename_i hst
      cases h
      refine ⟨fun _ => r, fun _ => σ, fun _ => undef, fun _ => false, rfl, rfl, rfl, rfl, fun k o hk ho => ?_, ?_⟩
      · exfalso
        have := hl (k - k0)
        rw [show k0 + (k - k0) = k by omega, ho] at this
        simp at this
      · simpa using hst
    · cases h
  | x :: l, k0, r, σ, acc, r', σ', h, hl => by
    have hx : ops.toList[k0]? = some x := by have := hl 0; simpa using this.symm
    have hl' : ∀ i, l[i]? = ops.toList[k0 + 1 + i]? := fun i => by
      have := hl (i + 1)
      simp only [List.getElem?_cons_succ] at this
      rw [this]; congr 1; omega
    have go : ∀ r1 σ1 v1 f1, aDrawGo P G callf n ops (preds ops) ops.size sj l r1 σ1 (⟨σ, r, v1, f1⟩ :: acc) = some (r', σ') →
        (∀ rS sS vS fS, rS k0 = r → sS k0 = σ → vS k0 = v1 → fS k0 = f1 → rS (k0 + 1) = r1 → sS (k0 + 1) = σ1 → At P G callf n ops rS sS vS fS k0 x) →
        ∃ rS sS vS fS, rS k0 = r ∧ sS k0 = σ ∧ rS (k0 + (x :: l).length) = r' ∧ sS (k0 + (x :: l).length) = σ' ∧ (∀ k o, k0 ≤ k → ops.toList[k]? = some o → At P G callf n ops rS sS vS fS k o) ∧
          drawOk P G callf ops (preds ops) ops.size sj (acc.reverse ++ (List.range (x :: l).length).map fun i => ⟨sS (k0 + i), rS (k0 + i), vS (k0 + i), fS (k0 + i)⟩) σ' = true := by
      intro r1 σ1 v1 f1 hgo hat
      obtain ⟨rS, sS, vS, fS, h1, h2, h3, h4, h5, h6⟩ := aDrawGo_trace l (k0 + 1) r1 σ1 _ hgo hl'
      have key : ∀ {α : Type} (f : Nat → α) (y : α) (k : Nat), k0 + 1 ≤ k → (fun k => if k = k0 then y else f k) k = f k := fun f y k hk => by
        simp only; rw [if_neg (by omega)]
      refine ⟨fun k => if k = k0 then r else rS k, fun k => if k = k0 then σ else sS k, fun k => if k = k0 then v1 else vS k, fun k => if k = k0 then f1 else fS k, by simp, by simp, ?_, ?_, ?_, ?_⟩
      · rw [key rS r _ (by simp), ← h3]; congr 1; simp; omega
      · rw [key sS σ _ (by simp), ← h4]; congr 1; simp; omega
      · intro k o hk ho
        by_cases e : k = k0
        · subst e
          obtain rfl : x = o := by rw [hx] at ho; exact Option.some.inj ho
          exact hat _ _ _ _ (by simp) (by simp) (by simp) (by simp) ((key rS r _ (Nat.le_refl _)).trans h1) ((key sS σ _ (Nat.le_refl _)).trans h2)
        · have hk' : k0 + 1 ≤ k := by omega
          obtain ⟨a1, a2, a3⟩ := h5 k o hk' ho
          refine ⟨?_, ?_, ?_⟩
          · simp only [if_neg e, if_neg (show ¬ k + 1 = k0 by omega)]; exact a1
          · simp only [if_neg e, if_neg (show ¬ k + 1 = k0 by omega)]; exact a2
          · simp only [if_neg e, if_neg (show ¬ k + 1 = k0 by omega)]; exact a3
      · have e : (acc.reverse ++ (List.range (x :: l).length).map fun i => (⟨if k0 + i = k0 then σ else sS (k0 + i), if k0 + i = k0 then r else rS (k0 + i), if k0 + i = k0 then v1 else vS (k0 + i), if k0 + i = k0 then f1 else fS (k0 + i)⟩ : Ent))
            = (⟨σ, r, v1, f1⟩ :: acc).reverse ++ (List.range l.length).map fun i => ⟨sS (k0 + 1 + i), rS (k0 + 1 + i), vS (k0 + 1 + i), fS (k0 + 1 + i)⟩ := by
          rw [List.length_cons, List.range_succ_eq_map, List.map_cons, List.map_map, List.reverse_cons, List.append_assoc, List.singleton_append]
          congr 2
          · simp
          · refine List.map_congr_left fun i _ => ?_
            have e1 : k0 + (i + 1) = k0 + 1 + i := by omega
            simp only [Function.comp_apply, Nat.succ_eq_add_one, e1]
            simp only [if_neg (show ¬ k0 + 1 + i = k0 by omega)]
        show drawOk P G callf ops (preds ops) ops.size sj (acc.reverse ++ (List.range (x :: l).length).map fun i => (⟨if k0 + i = k0 then σ else sS (k0 + i), if k0 + i = k0 then r else rS (k0 + i), if k0 + i = k0 then v1 else vS (k0 + i), if k0 + i = k0 then f1 else fS (k0 + i)⟩ : Ent)) σ' = true
        rw [e]; exact h6
    simp only [aDrawGo, bite_eq] at h
    split at h
    · rename_i hwt
      split at h
      · rename_i v s1 hst
        split at h
        · rename_i r1 hput
          refine go r1 (σ.merge s1) v _ h fun rS sS vS fS e1 e2 e3 e6 e4 e5 => ⟨fun _ => ⟨s1, ?_, ?_, ?_⟩, fun hno => ?_, ?_⟩
          · rw [e1, e2, e3]; exact hst
          · rw [e6, e2]
          · rw [e5, e2]
          · rw [e1, hwt] at hno; cases hno
          · rw [e1, e3, e4]; exact hput
        · cases h
      · cases h
    · rename_i hwt
      split at h
      · rename_i r1 hput
        refine go r1 σ undef false h fun rS sS vS fS e1 e2 e3 e6 e4 e5 => ⟨fun hy => ?_, fun _ => ⟨e3, by rw [e5, e2], e6⟩, ?_⟩
        · rw [e1] at hy; exact absurd hy hwt
        · rw [e1, e3, e4]; exact hput
      · cases h

/-! ### Whatever order -/

theorem bindsOn_mem {o : Oper} {e : Nat} : e ∈ bindsOn o ↔ ∃ x ∈ o.after, Region.binds .any x = true ∧ x.on = e := by
  simp only [bindsOn, List.mem_map, List.mem_filter, Array.mem_toList_iff]
  constructor
  · rintro ⟨x, ⟨h1, h2⟩, h3⟩; exact ⟨x, h1, h2, h3⟩
  · rintro ⟨x, h1, h2, h3⟩; exact ⟨x, ⟨h1, h2⟩, h3⟩

theorem blindCall_len {c : Call} (h : blindCall P c = true) : c.callee = .builtin .len ∧ ∃ t d, c.argTypes[0]? = some t ∧ P.underlying t = some d ∧ ((∃ e, d = .slice e) ∨ d = .string ∨ ∃ n e, d = .array n e) := by
  unfold blindCall at h
  split at h
  · rename_i hc
    refine ⟨hc, ?_⟩
    split at h
    · rename_i t ht
      split at h
      · rename_i e he; exact ⟨t, _, ht, he, .inl ⟨e, rfl⟩⟩
      · rename_i he; exact ⟨t, _, ht, he, .inr (.inl rfl)⟩
      · rename_i n e he; exact ⟨t, _, ht, he, .inr (.inr ⟨n, e, rfl⟩)⟩
      · cases h
    · cases h
  · cases h

/-- What looks at registers alone answers the same in any memory. -/
theorem blind_sound {r : Regs} {σ σ' : AS} {a : Act} {π : Ren} {o : Oper} {v : Value} (hb : opBlind P o.op = true) (h : aStep P G callf r σ o.op = some (v, σ')) (hr : OpRel G π r a o.op.operands) (w : World) :
    σ' = σ ∧ ∃ v', (execOp a.eval o).run P w = .ok (.value v') w ∧ VRel π v v' := by
  obtain ⟨dst, op, ty, pos, aft, guard⟩ := o
  dsimp only at h hr hb
  unfold OpRel at hr
  have valR : ∀ {s : Sem Value} {v' : Value}, s.run P w = .ok v' w → (do pure (.value (← s)) : Sem Next).run P w = .ok (.value v') w := fun {s v'} hs => by simp [hs]
  cases op <;> (try (simp [opBlind] at hb; done)) <;> simp only [aStep_eq, aStepOld, aOp, opPick, opAlloc, opBox, opBuild, opBuildSlice, opLoad, opStore, opNil, opBin, opUn, opConvert, opIface, opFunc, opMapR, opMakeSlice, opSlice, opFieldAddr, opField, opIndexAddr, opIndex, opLookup, opUpdate, opExtract, opCall] at h
  case move x =>
    obtain ⟨h, e⟩ := ann_some h
    exact ⟨e, _, rfl, hr x (by simp [Op.operands]) v h⟩
  case assign x =>
    obtain ⟨h, e⟩ := ann_some h
    exact ⟨e, _, rfl, hr x (by simp [Op.operands]) v h⟩
  case pick c x y =>
    split at h
    · rename_i t u1 u2 h1 h2 h3
      cases h
      have hc := vrel_bool.1 (hr c (by simp [Op.operands]) _ h1)
      have hx := hr x (by simp [Op.operands]) _ h2
      have hy := hr y (by simp [Op.operands]) _ h3
      refine ⟨rfl, if t then a.eval x else a.eval y, ?_, ?_⟩
      · simp [execOp, hc, asBool]
      · cases t
        · exact hy
        · exact hx
    · cases h
  case nilCheck x =>
    split at h
    · rename_i y hu
      cases h
      have hx := hr x (by simp [Op.operands]) _ hu
      obtain ⟨b, _, _, e⟩ := vrel_ptr.1 hx
      exact ⟨rfl, a.eval x, by simp [execOp, e], hx⟩
    · rename_i f b c hu
      cases h
      have hx := hr x (by simp [Op.operands]) _ hu
      obtain ⟨_, _, _, _, e⟩ := vrel_func.1 hx
      exact ⟨rfl, a.eval x, by simp [execOp, e], hx⟩
    · rename_i t u hu
      cases h
      have hx := hr x (by simp [Op.operands]) _ hu
      obtain ⟨_, _, e⟩ := vrel_iface.1 hx
      exact ⟨rfl, a.eval x, by simp [execOp, e], hx⟩
    · cases h
  case call c =>
    obtain ⟨callee, args, ts⟩ := c
    obtain ⟨hc, t, d, ht, hd, hkind⟩ := blindCall_len (c := ⟨callee, args, ts⟩) hb
    dsimp only at hc ht
    subst hc
    simp only [] at h
    split at h
    · rename_i vs hvs
      obtain ⟨e, x, t', rfl, ht', hl⟩ := aBuiltin_len h
      obtain rfl : t' = t := by rw [ht] at ht'; exact (Option.some.inj ht').symm
      have h1 := aevs_rel (ρ := π) (a := a) hvs fun x hx => hr x (by simp [Op.operands, Call.operands]; simpa using hx)
      refine ⟨e, ?_⟩
      have hargs : args.map a.eval = (List.map a.eval args.toList).toArray := by simp [← Array.toList_map]
      have e2 : execOp a.eval ⟨dst, .call ⟨.builtin .len, args, ts⟩, ty, pos, aft, guard⟩ = builtin .len ts ty (args.map fun | .const _ => true | _ => false) (args.map a.eval) := rfl
      rw [e2, hargs]
      match hm : List.map a.eval args.toList, h1 with
      | [x'], h1 =>
        have hx := h1.1
        have key : ∃ v', (Builtin.len_ ts ty #[x']).run P w = .ok v' w ∧ VRel π v v' := by
          unfold aLen at hl
          rw [hd] at hl
          rcases hkind with ⟨e, rfl⟩ | rfl | ⟨n, e, rfl⟩
          · cases x with
            | slice base n c =>
              cases hl
              cases base with
              | none =>
                obtain rfl := vrel_slice_none.1 hx
                exact ⟨goInt n, by simp [Builtin.len_, ht, run_underlying' hd], vrel_int.2 rfl⟩
              | some y =>
                obtain ⟨_, _, rfl, _⟩ := vrel_slice_shape hx
                exact ⟨goInt n, by simp [Builtin.len_, ht, run_underlying' hd], vrel_int.2 rfl⟩
            | chan r =>
              cases r with
              | none => cases hl
              | some k =>
                cases hl
                obtain ⟨a, c, rfl⟩ := vrel_chan hx
                exact ⟨goInt 0, by simp [Builtin.len_, ht, run_underlying' hd], vrel_int.2 rfl⟩
            | _ => cases hl
          · cases x with
            | string s =>
              cases hl
              have e := vrel_string.1 hx
              subst e
              exact ⟨goInt s.size, by simp [Builtin.len_, ht, run_underlying' hd], vrel_int.2 rfl⟩
            | _ => cases hl
          · cases hl
            exact ⟨goInt n, by simp [Builtin.len_, ht, run_underlying' hd], vrel_int.2 rfl⟩
        obtain ⟨v', h3, h4⟩ := key
        exact ⟨v', valR (s := Builtin.len_ ts ty #[x']) h3, h4⟩
    · cases h
  case fieldAddr s x f =>
    split at h
    · rename_i u hu
      obtain ⟨h, e⟩ := ann_some h
      obtain ⟨v', h1, h2⟩ := aField_sound (P := P) (w := w) h (hr x (by simp [Op.operands]) _ hu)
      exact ⟨e, v', valR h1, h2⟩
    · cases h
  case field t x f =>
    split at h
    · rename_i u hu
      obtain ⟨h, e⟩ := ann_some h
      obtain ⟨v', h1, h2⟩ := aFieldOf_sound (P := P) (w := w) h (hr x (by simp [Op.operands]) _ hu)
      exact ⟨e, v', valR h1, h2⟩
    · cases h
  case indexAddr t x ix =>
    split at h
    · rename_i u1 u2 h1 h2
      obtain ⟨h, e⟩ := ann_some h
      obtain ⟨v', h3, h4⟩ := aIndexAddr_sound (P := P) (w := w) h (hr x (by simp [Op.operands]) _ h1) (hr ix (by simp [Op.operands]) _ h2)
      exact ⟨e, v', valR h3, h4⟩
    · cases h
  case index t x ix =>
    split at h
    · rename_i u1 u2 h1 h2
      obtain ⟨h, e⟩ := ann_some h
      obtain ⟨v', h3, h4⟩ := aIndexOf_sound (P := P) (w := w) h (hr x (by simp [Op.operands]) _ h1) (hr ix (by simp [Op.operands]) _ h2)
      exact ⟨e, v', valR h3, h4⟩
    · cases h
  case binOp op t x y yt =>
    split at h
    · rename_i u1 u2 h1 h2
      obtain ⟨h, e⟩ := ann_some h
      obtain ⟨v', h3, h4⟩ := aBin_sound (w := w) h (hr x (by simp [Op.operands]) _ h1) (hr y (by simp [Op.operands]) _ h2)
      exact ⟨e, v', valR h3, h4⟩
    · cases h
  case unOp op t x =>
    split at h
    · rename_i u hu
      split at h
      · rename_i hf
        obtain ⟨h, e⟩ := ann_some h
        obtain ⟨h1, h2⟩ := flatO_some h
        have hx := (vrel_flat hf).1 (hr x (by simp [Op.operands]) _ hu)
        refine ⟨e, v, valR (s := Op.unary op (a.eval x)) ?_, (vrel_flat h2).2 rfl⟩
        rw [hx]; exact asPure_run h1
      · cases h
    · cases h
  case convert s d x =>
    split at h
    · rename_i u hu
      split at h
      · rename_i hf
        obtain ⟨h, e⟩ := ann_some h
        obtain ⟨h1, h2⟩ := flatO_some h
        have hx := (vrel_flat1 hf).1 (hr x (by simp [Op.operands]) _ hu)
        refine ⟨e, v, valR (s := convert s d (a.eval x)) ?_, (vrel_flat h2).2 rfl⟩
        rw [hx]; exact asPure_run h1
      · have hb : isBytes P s d = false := by simpa [opBlind] using hb
        rw [hb] at h
        simp at h
    · cases h
  case makeInterface t x =>
    split at h
    · cases h
    · rename_i u d hne hu hd
      cases h
      have hx := hr x (by simp [Op.operands]) _ hu
      refine ⟨rfl, .iface t (a.eval x), valR (s := Instr.makeInterface t (a.eval x)) ?_, vrel_iface.2 ⟨_, hx, rfl⟩⟩
      unfold Instr.makeInterface
      rw [Sem.run_bind, run_underlying' hd, Result.andThen_ok]
      cases d <;> first | rfl | exact (hne _ rfl).elim
    · cases h
  case makeFunc fn first captured =>
    split at h
    · rename_i f c hf hc
      cases h
      have h1 := aevs_rel (ρ := π) (a := a) hf fun x hx => hr x (by simp [Op.operands]; exact .inl (by simpa using hx))
      have h2 := aevs_rel (ρ := π) (a := a) hc fun x hx => hr x (by simp [Op.operands]; exact .inr (by simpa using hx))
      refine ⟨rfl, .func fn (first.map a.eval) (captured.map a.eval), valR (s := Instr.makeFunc fn (first.map a.eval) (captured.map a.eval)) rfl, ?_⟩
      exact vrel_func.2 ⟨_, _, h1, h2, by simp [← Array.toList_map]⟩
    · cases h
  case build t parts =>
    split at h
    · rename_i ps hps
      obtain ⟨h, e⟩ := ann_some h
      have hp := aparts_rel (ρ := π) (a := a) hps fun x hx => hr x.2 (by simp [Op.operands]; exact ⟨_, by simpa using hx⟩)
      obtain ⟨v', h1, h2⟩ := aBuild_sound (P := P) (w := w) (qs := parts.map fun (i, x) => (i, a.eval x)) h (by simpa using hp)
      exact ⟨e, v', valR h1, h2⟩
    · cases h
  case extract t ix =>
    split at h
    · rename_i vs hu
      split at h
      · rename_i u hix
        cases h
        obtain ⟨ds, hl, e⟩ := vrel_tuple.1 (hr t (by simp [Op.operands]) _ hu)
        obtain ⟨u', h1, h2⟩ := hl.get ix (by simpa using hix)
        refine ⟨rfl, u', valR (s := Instr.extract (a.eval t) ix) ?_, h2⟩
        simp [e, Instr.extract, h1]
      · cases h
    · cases h

theorem blind_same {r : Regs} {σ σ' : AS} {op : Op} {v : Value} (hbo : opBlind P op = true) (h1 : aStep P G callf r σ op = some (v, σ')) : σ' = σ := by
  by_cases hcall : ∃ c, op = .call c
  · obtain ⟨c, rfl⟩ := hcall
    obtain ⟨callee, args, ts⟩ := c
    obtain ⟨hc, _⟩ := blindCall_len (c := ⟨callee, args, ts⟩) hbo
    dsimp only at hc
    subst hc
    simp only [aStep_eq, aStepOld, aOp, opCall] at h1
    split at h1
    · exact (aBuiltin_len h1).1
    · cases h1
  cases op <;> (try (exact absurd ⟨_, rfl⟩ hcall)) <;> (try (simp [opBlind] at hbo; done)) <;> simp only [aStep_eq, aStepOld, aOp, opPick, opAlloc, opBox, opBuild, opBuildSlice, opLoad, opStore, opNil, opBin, opUn, opConvert, opIface, opFunc, opMapR, opMakeSlice, opSlice, opFieldAddr, opField, opIndexAddr, opIndex, opLookup, opUpdate, opExtract, opCall] at h1
  all_goals (repeat' split at h1) <;> first | (cases h1; done) | (exact (ann_some h1).2) | (exact (Prod.mk.inj (Option.some.inj h1)).2.symm)

/-- What reads memory changes none. -/
theorem still_same {r : Regs} {σ σ' : AS} {op : Op} {v : Value} (hb : opStill op = true) (h : aStep P G callf r σ op = some (v, σ')) : σ' = σ := by
  cases op <;> (try (simp [opStill] at hb; done)) <;> simp only [aStep_eq, aStepOld, aOp, opPick, opAlloc, opBox, opBuild, opBuildSlice, opLoad, opStore, opNil, opBin, opUn, opConvert, opIface, opFunc, opMapR, opMakeSlice, opSlice, opFieldAddr, opField, opIndexAddr, opIndex, opLookup, opUpdate, opExtract, opCall] at h
  all_goals (repeat' split at h) <;> first | (cases h; done) | (exact (ann_some h).2)

theorem still_sound {r : Regs} {σ σ' : AS} {a : Act} {π : Ren} {o : Oper} {v : Value} {w : World} (hb : opStill o.op = true) (h : aStep P G callf r σ o.op = some (v, σ')) (hr : OpRel G π r a o.op.operands) (hR : R G π σ w) :
    ∃ v', (execOp a.eval o).run P w = .ok (.value v') w ∧ VRel π v v' := by
  obtain ⟨dst, op, ty, pos, aft, guard⟩ := o
  dsimp only at h hr hb
  unfold OpRel at hr
  have valR : ∀ {s : Sem Value} {v' : Value}, s.run P w = .ok v' w → (do pure (.value (← s)) : Sem Next).run P w = .ok (.value v') w := fun {s v'} hs => by simp [hs]
  cases op <;> (try (simp [opStill] at hb; done)) <;> simp only [aStep_eq, aStepOld, aOp, opPick, opAlloc, opBox, opBuild, opBuildSlice, opLoad, opStore, opNil, opBin, opUn, opConvert, opIface, opFunc, opMapR, opMakeSlice, opSlice, opFieldAddr, opField, opIndexAddr, opIndex, opLookup, opUpdate, opExtract, opCall] at h
  case load t x =>
    split at h
    · rename_i u hu
      obtain ⟨hq, rfl⟩ := ann_some h
      obtain ⟨v', h1, h2⟩ := aLoad_sound (P := P) hq hR (hr x (by simp [Op.operands]) _ hu)
      exact ⟨v', valR h1, h2⟩
    · cases h
  case lookup t x ix ok =>
    split at h
    · rename_i u1 u2 h1 h2
      obtain ⟨hq, rfl⟩ := ann_some h
      obtain ⟨v', h3, h4⟩ := aLookup_sound (P := P) (w := w) hq hR (hr x (by simp [Op.operands]) _ h1) (hr ix (by simp [Op.operands]) _ h2)
      exact ⟨v', valR h3, h4⟩
    · cases h

/-- The blocks that a reader reads have names. -/
theorem fpOf_named {r : Regs} {σ σ' : AS} {a : Act} {π : Ren} {o : Oper} {v : Value} {F : List Nat} (hr : OpRel G π r a o.op.operands) (hf : fpOf P G r o.op = some F) (hb : opStill o.op = true)
    (h : aStep P G callf r σ o.op = some (v, σ')) : ∀ x ∈ F, ∃ b, π.bl x = some b := by
  have named : ∀ {u u' : Value}, (∀ a n c, u ≠ .slice (some a) n c) → VRel π u u' → ∀ x ∈ fpV u, ∃ b, π.bl x = some b := fun {u u'} hns hu x hx => by
    unfold fpV at hx
    split at hx
    · obtain ⟨b, hb, _⟩ := vrel_ptr.1 hu
      exact ⟨b, by rw [List.mem_singleton.1 hx]; exact hb⟩
    · exact absurd rfl (hns _ _ _)
    · obtain ⟨b, hb, _⟩ := vrel_map.1 hu
      exact ⟨b, by rw [List.mem_singleton.1 hx]; exact hb⟩
    · cases hx
  obtain ⟨dst, op, ty, pos, aft, guard⟩ := o
  dsimp only at h hr hb hf
  unfold OpRel at hr
  cases op <;> (try (simp [opStill] at hb; done)) <;> simp only [fpOf] at hf
  case load t x =>
    cases hx : aev G r x with
    | none => rw [hx] at hf; cases hf
    | some u =>
      obtain rfl := fpO_some hx hf
      refine named (fun a n c e => ?_) (hr x (by simp [Op.operands]) _ hx)
      subst e
      rw [aStep_eq] at h
      simp only [aStepOld, aOp, opLoad, hx] at h
      cases h
  case lookup t x ix ok =>
    cases hx : aev G r x with
    | none => rw [hx] at hf; cases hf
    | some u =>
      obtain rfl := fpO_some hx hf
      refine named (fun a n c e => ?_) (hr x (by simp [Op.operands]) _ hx)
      subst e
      rw [aStep_eq] at h
      have hl : ∀ i, aLookup P σ t (.slice (some a) n c) i ok = none := fun i => by
        unfold aLookup
        split
        · split <;> rfl
        · rfl
      simp only [aStepOld, aOp, opLookup, hx] at h
      split at h
      · rename_i e _
        cases e
        rw [hl] at h
        cases h
      · cases h

end draw
end Go.Proofs.YtacpdefmnijhnaaGreat.Abs
