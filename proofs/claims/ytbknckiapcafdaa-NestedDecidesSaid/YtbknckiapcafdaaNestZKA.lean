/- Drawn regions in which some writers change blocks of their own. -/
import Derived.Test.YtbknckiapcafdaaNestZH
set_option linter.unusedSimpArgs false
set_option linter.unusedVariables false
namespace Go.Proofs.Ytbknckiapcafdaa.Abs

section
variable {P : Program} {K : Tbl} {G n : Nat} {r : Regs} {σ : AS}
section draws
variable {ops : Array Oper} {Y Z : List Nat} {Q : Regs → AS → Prop} {l : List Oper} {r' : Regs} {σ' : AS} {d : Code} {id : Nat}

/-- k is ordered against all writers of Y, or looks at registers alone. -/
noncomputable def sepAt (P : Program) (ops : Array Oper) (Y : List Nat) (k : Nat) : Bool :=
  stillAt P ops [] k || Y.all fun j => Nat.beq k j || isPred (preds ops) k j || isPred (preds ops) j k

/-- What is asked of a step: it changes nothing that lay before it, or stands as a bar, or is of Y and changes a block of Z alone; if it is not ordered against the writers, it leaves the blocks of Z alone. -/
def StepZ (P : Program) (G : Nat) (ops : Array Oper) (Y Z : List Nat) (k : Nat) (r : Regs) (σ : AS) (o : Oper) (v : Value) (s1 : AS) : Prop :=
  (σ.next ≤ s1.low ∨ barAt P ops [] k = true ∨ (memb Y k = true ∧ ∃ x F, fpOf P G r o.op = some (x :: F) ∧ x ∈ Z)) ∧
  (sepAt P ops Y k = true ∨ ∃ F, fpOf P G r o.op = some F ∧ ∀ x ∈ F, x ∉ Z)

/-- A run of such a region, from operation k on. -/
def Lz (P : Program) (K : Tbl) (G n : Nat) (ops : Array Oper) (Y Z : List Nat) : Nat → List Oper → Regs → AS → (Regs → AS → Prop) → Prop
  | _, [], r, σ, Q => Q r σ
  | k, o :: l, r, σ, Q => (aWanted ops r o = true → O P K G r σ.reset o.op fun v s1 => StepZ P G ops Y Z k r σ o v s1 ∧ ∃ r', aPut n r o.dst v = some r' ∧ Lz P K G n ops Y Z (k + 1) l r' (σ.merge s1) Q) ∧
    (aWanted ops r o = false → ∃ r', aPut n r o.dst undef = some r' ∧ Lz P K G n ops Y Z (k + 1) l r' σ Q)

/-- What such a run does at operation k, with fuel enough. -/
structure AtZ (P : Program) (K : Tbl) (G n : Nat) (ops : Array Oper) (Y Z : List Nat) (M : Nat) (rS : Nat → Regs) (sS : Nat → AS) (vS : Nat → Value) (fS : Nat → Bool) (k : Nat) (o : Oper) : Prop where
  yes : aWanted ops (rS k) o = true → ∃ s1, (∀ fuel, M ≤ fuel → aStep P G (aCall P K G fuel) (rS k) (sS k).reset o.op = some (vS k, s1)) ∧ fS k = (!Nat.ble (sS k).next s1.low) ∧ sS (k + 1) = (sS k).merge s1 ∧
    StepZ P G ops Y Z k (rS k) (sS k) o (vS k) s1
  no : aWanted ops (rS k) o = false → vS k = undef ∧ sS (k + 1) = sS k ∧ fS k = false
  put : aPut n (rS k) o.dst (vS k) = some (rS (k + 1))

theorem AtZ.up {M M' : Nat} {rS : Nat → Regs} {sS : Nat → AS} {vS : Nat → Value} {fS : Nat → Bool} {k : Nat} {o : Oper} (h : AtZ P K G n ops Y Z M rS sS vS fS k o) (hm : M ≤ M') : AtZ P K G n ops Y Z M' rS sS vS fS k o :=
  ⟨fun hw => by obtain ⟨s1, h1, h2⟩ := h.yes hw; exact ⟨s1, fun fuel hf => h1 fuel (Nat.le_trans hm hf), h2⟩, h.no, h.put⟩

theorem Lz_trace : ∀ (l : List Oper) (k0 : Nat) (r : Regs) (σ : AS), Lz P K G n ops Y Z k0 l r σ Q → (∀ i, l[i]? = ops.toList[k0 + i]?) →
    ∃ rS sS vS fS M, rS k0 = r ∧ sS k0 = σ ∧ Q (rS (k0 + l.length)) (sS (k0 + l.length)) ∧ ∀ k o, k0 ≤ k → ops.toList[k]? = some o → AtZ P K G n ops Y Z M rS sS vS fS k o
  | [], k0, r, σ, h, hl => ⟨fun _ => r, fun _ => σ, fun _ => undef, fun _ => false, 0, rfl, rfl, h, fun k o hk ho => by
      exfalso
      have := hl (k - k0)
      rw [show k0 + (k - k0) = k by omega, ho] at this
      simp at this⟩
  | x :: l, k0, r, σ, h, hl => by
    have hx : ops.toList[k0]? = some x := by have := hl 0; simpa using this.symm
    have hl' : ∀ i, l[i]? = ops.toList[k0 + 1 + i]? := fun i => by
      have := hl (i + 1)
      simp only [List.getElem?_cons_succ] at this
      rw [this]; congr 1; omega
    have go : ∀ r1 σ1 v1 f1 M1, Lz P K G n ops Y Z (k0 + 1) l r1 σ1 Q →
        (∀ rS sS vS fS, rS k0 = r → sS k0 = σ → vS k0 = v1 → fS k0 = f1 → rS (k0 + 1) = r1 → sS (k0 + 1) = σ1 → AtZ P K G n ops Y Z M1 rS sS vS fS k0 x) →
        ∃ rS sS vS fS M, rS k0 = r ∧ sS k0 = σ ∧ Q (rS (k0 + (x :: l).length)) (sS (k0 + (x :: l).length)) ∧ ∀ k o, k0 ≤ k → ops.toList[k]? = some o → AtZ P K G n ops Y Z M rS sS vS fS k o := by
      intro r1 σ1 v1 f1 M1 hgo hat
      obtain ⟨rS, sS, vS, fS, M, h1, h2, h3, h5⟩ := Lz_trace l (k0 + 1) r1 σ1 hgo hl'
      refine ⟨fun k => if k = k0 then r else rS k, fun k => if k = k0 then σ else sS k, fun k => if k = k0 then v1 else vS k, fun k => if k = k0 then f1 else fS k, max M M1, by simp, by simp, ?_, ?_⟩
      · have e : k0 + (x :: l).length = k0 + 1 + l.length := by simp; omega
        simp only [e, if_neg (show ¬ k0 + 1 + l.length = k0 by omega)]
        exact h3
      · intro k o hk ho
        by_cases e : k = k0
        · subst e
          obtain rfl : x = o := by rw [hx] at ho; exact Option.some.inj ho
          exact (hat _ _ _ _ (by simp) (by simp) (by simp) (by simp) (by simp [h1]) (by simp [h2])).up (Nat.le_max_right _ _)
        · obtain ⟨a1, a2, a3⟩ := (h5 k o (by omega) ho).up (Nat.le_max_left M M1)
          refine ⟨?_, ?_, ?_⟩
          · simp only [if_neg e, if_neg (show ¬ k + 1 = k0 by omega)]; exact a1
          · simp only [if_neg e, if_neg (show ¬ k + 1 = k0 by omega)]; exact a2
          · simp only [if_neg e, if_neg (show ¬ k + 1 = k0 by omega)]; exact a3
    cases hw : aWanted ops r x with
    | true =>
      obtain ⟨v, s1, N, h1, h2, r1, h3, h4⟩ := h.1 hw
      refine go r1 (σ.merge s1) v (!Nat.ble σ.next s1.low) N h4 fun rS sS vS fS e1 e2 e3 e6 e4 e5 => ⟨fun _ => ⟨s1, ?_, ?_, ?_, ?_⟩, fun hno => ?_, ?_⟩
      · rw [e1, e2, e3]; exact h1
      · rw [e6, e2]
      · rw [e5, e2]
      · rw [e1, e2, e3]; exact h2
      · rw [e1, hw] at hno; cases hno
      · rw [e1, e3, e4]; exact h3
    | false =>
      obtain ⟨r1, h3, h4⟩ := h.2 hw
      refine go r1 σ undef false 0 h4 fun rS sS vS fS e1 e2 e3 e6 e4 e5 => ⟨fun hy => ?_, fun _ => ⟨e3, by rw [e5, e2], e6⟩, ?_⟩
      · rw [e1, hw] at hy; cases hy
      · rw [e1, e3, e4]; exact h3

theorem traceZ_go {M fuel : Nat} {rS : Nat → Regs} {sS : Nat → AS} {vS : Nat → Value} {fS : Nat → Bool} (hf : M ≤ fuel) : ∀ (l : List Oper) (k0 : Nat) (acc : List Ent), (∀ i, l[i]? = ops.toList[k0 + i]?) →
    (∀ k o, k0 ≤ k → ops.toList[k]? = some o → AtZ P K G n ops Y Z M rS sS vS fS k o) →
    drawOk P G (aCall P K G fuel) ops (preds ops) ops.size [] (acc.reverse ++ (List.range l.length).map fun i => ⟨sS (k0 + i), rS (k0 + i), vS (k0 + i), fS (k0 + i)⟩) (sS (k0 + l.length)) = true →
    aDrawGo P G (aCall P K G fuel) n ops (preds ops) ops.size [] l (rS k0) (sS k0) acc = some (rS (k0 + l.length), sS (k0 + l.length))
  | [], k0, acc, hl, hat, hok => by
    simp only [aDrawGo, bite_eq]
    rw [if_pos (by simpa using hok)]
    rfl
  | x :: l, k0, acc, hl, hat, hok => by
    have hx : ops.toList[k0]? = some x := by have := hl 0; simpa using this.symm
    have hl' : ∀ i, l[i]? = ops.toList[k0 + 1 + i]? := fun i => by
      have := hl (i + 1)
      simp only [List.getElem?_cons_succ] at this
      rw [this]; congr 1; omega
    have A := hat k0 x (Nat.le_refl _) hx
    have e0 : k0 + (x :: l).length = k0 + 1 + l.length := by simp; omega
    have go := traceZ_go hf l (k0 + 1) (⟨sS k0, rS k0, vS k0, fS k0⟩ :: acc) hl' (fun k o hk ho => hat k o (by omega) ho) (by
      rw [← e0]
      have e : (acc.reverse ++ (List.range (x :: l).length).map fun i => (⟨sS (k0 + i), rS (k0 + i), vS (k0 + i), fS (k0 + i)⟩ : Ent))
          = (⟨sS k0, rS k0, vS k0, fS k0⟩ :: acc).reverse ++ (List.range l.length).map fun i => ⟨sS (k0 + 1 + i), rS (k0 + 1 + i), vS (k0 + 1 + i), fS (k0 + 1 + i)⟩ := by
        rw [List.length_cons, List.range_succ_eq_map, List.map_cons, List.map_map, List.reverse_cons, List.append_assoc, List.singleton_append]
        congr 2
        refine List.map_congr_left fun i _ => ?_
        have e1 : k0 + (i + 1) = k0 + 1 + i := by omega
        simp only [Function.comp_apply, Nat.succ_eq_add_one, e1]
      rw [← e]; exact hok)
    rw [e0, ← go]
    simp only [aDrawGo, bite_eq]
    cases hw : aWanted ops (rS k0) x with
    | true =>
      obtain ⟨s1, h1, h2, h3, _⟩ := A.yes hw
      rw [if_pos rfl, h1 fuel hf]
      dsimp only
      rw [A.put]
      dsimp only
      rw [h2, h3]
    | false =>
      obtain ⟨h1, h2, h3⟩ := A.no hw
      rw [if_neg (by simp)]
      have hp := A.put
      rw [h1] at hp
      rw [hp]
      dsimp only
      rw [h1, h2, h3]

theorem W_drwZ {Q : Nat → Regs → AS → Prop} (Y Z : List Nat) (hZ : ∀ x ∈ Z, x < σ.next) (hst : drawStatic ops (preds ops) = true) (hsj : readers ops (preds ops) ops.size = []) (h : Lz P K G n ops Y Z 0 ops.toList r σ fun r' σ' => W P K G n d r' σ' Q) :
    W P K G n (.seq (.region id ops true) d) r σ Q := by
  obtain ⟨rS, sS, vS, fS, M, e1, e2, hQ, hat⟩ := Lz_trace ops.toList 0 r σ h (fun i => by simp)
  simp only [Nat.zero_add, Array.length_toList] at hQ
  refine W_seq (W_draw hst hsj ⟨rS ops.size, sS ops.size, M, fun fuel hf => ?_, fun _ => hQ, fun h => absurd rfl h⟩)
  have hat : ∀ k o, ops.toList[k]? = some o → AtZ P K G n ops Y Z M rS sS vS fS k o := fun k o ho => hat k o (Nat.zero_le _) ho
  have key : drawOk P G (aCall P K G fuel) ops (preds ops) ops.size [] ((List.range ops.size).map fun i => ⟨sS i, rS i, vS i, fS i⟩) (sS ops.size) = true := by
    generalize hL : ((List.range ops.size).map fun i => (⟨sS i, rS i, vS i, fS i⟩ : Ent)) = L
    have hLk : ∀ m, m < ops.size → L[m]? = some ⟨sS m, rS m, vS m, fS m⟩ := fun m hm => by
      rw [← hL, List.getElem?_map, List.getElem?_range hm]; rfl
    have hN : ∀ m, m ≤ ops.size → stateAt L (sS ops.size) m = sS m := fun m hm => by
      unfold stateAt
      rcases Nat.lt_or_ge m ops.size with h | h
      · rw [hLk m h]
      · obtain rfl : m = ops.size := by omega
        rw [List.getElem?_eq_none (by rw [← hL]; simp)]
    have st := Static.of hst
    have hmono : ∀ k, k < ops.size → AMono (sS k) (sS (k + 1)) := fun k hk => by
      obtain ⟨o, ho⟩ := op_at hk
      have A := hat k o ho
      cases hw : aWanted ops (rS k) o with
      | true => obtain ⟨s1, h1, h0, h3, _⟩ := A.yes hw; rw [h3]; exact merge_mono (aStep_mono callf_mono (h1 fuel hf))
      | false => rw [(A.no hw).2.1]; exact AMono.refl _
    have hle : ∀ i j, i ≤ j → j ≤ ops.size → (sS i).next ≤ (sS j).next := fun i j hij => by
      induction hij with
      | refl => intro _; exact Nat.le_refl _
      | step _ ih => intro hj; exact Nat.le_trans (ih (by omega)) (hmono _ (by omega)).nxt
    have hwr : ∀ k, k < ops.size → writes L k = fS k := fun k hk => by unfold writes; rw [hLk k hk]
    have hfoot : ∀ k o, ops.toList[k]? = some o → footAt P G ops [] L k = bite (stillAt P ops [] k || !aWanted ops (rS k) o) (some []) (fpOf P G (rS k) o.op) := fun k o ho => by
      have hk : k < ops.size := by have := (List.getElem?_eq_some_iff.1 ho).1; simpa using this
      have ho' : ops[k]? = some o := by simpa using ho
      unfold footAt
      rw [ho', hLk k hk]
    have hstill : ∀ k o, ops.toList[k]? = some o → stillAt P ops [] k = true → fS k = false ∧ (sS (k + 1)).next = (sS k).next := fun k o ho h => by
      have A := hat k o ho
      have ho' : ops[k]? = some o := by simpa using ho
      cases hw : aWanted ops (rS k) o with
      | true =>
        obtain ⟨s1, h1, h0, h3, _⟩ := A.yes hw
        have e : s1 = (sS k).reset := by
          unfold stillAt at h
          rw [Bool.or_eq_true] at h
          rcases h with h | h
          · have hbo : opBlind P o.op = true := by
              unfold blindAt at h
              rw [ho'] at h; exact h
            exact blind_same hbo (h1 fuel hf)
          · obtain ⟨_, o', ho2, hs⟩ := readers_mem (by rw [hsj]; exact memb_mem h)
            rw [ho'] at ho2; cases ho2
            exact still_same hs (h1 fuel hf)
        refine ⟨?_, by rw [h3, e]; rfl⟩
        rw [h0, e]; simp [AS.reset]
      | false => exact ⟨(A.no hw).2.2, by rw [(A.no hw).2.1]⟩
    unfold drawOk
    rw [Bool.and_eq_true, bite_eq]
    refine ⟨?_, rfl⟩
    split
    · unfold quietOk
      rw [List.all_eq_true]
      intro k hk
      rw [List.mem_range] at hk
      rw [hwr k hk]
      cases hfk : fS k with
      | false => rfl
      | true =>
        simp only [Bool.not_true, Bool.false_or]
        obtain ⟨o, ho⟩ := op_at hk
        have A := hat k o ho
        have hw : aWanted ops (rS k) o = true := by
          cases hw : aWanted ops (rS k) o with
          | true => rfl
          | false => rw [(A.no hw).2.2] at hfk; cases hfk
        obtain ⟨s1, h1, h0, h3, h4, _⟩ := A.yes hw
        rw [List.all_eq_true]
        intro j hjr
        rw [List.mem_range] at hjr
        obtain ⟨oj, hoj⟩ := op_at hjr
        have still : stillAt P ops [] j = true → clashFree P G ops [] L (sS ops.size) k j = true := fun hb => by
          obtain ⟨_, hnx⟩ := hstill j oj hoj hb
          have hfj : footAt P G ops [] L j = some [] := by rw [hfoot j oj hoj, hb]; rfl
          unfold clashFree
          rw [hfj, hN j (by omega), hN (j + 1) (by omega)]
          split
          · rfl
          · rename_i x t F hF1 hF2
            cases hF2
            simp only [Bool.and_eq_true, Bool.not_eq_true']
            refine ⟨rfl, ?_⟩
            rw [hnx]
            cases h5 : Nat.ble (sS j).next x with
            | false => rfl
            | true =>
              have := Nat.le_of_ble_eq_true h5
              cases h6 : Nat.blt x (sS j).next with
              | false => rfl
              | true => rw [Nat.blt_eq] at h6; omega
          · rw [hnx]; simp
          · first | contradiction | simp_all
          · first | contradiction | simp_all
        rcases h4 with h4 | hbar | ⟨hY, x, F, hF, hxZ⟩
        · rw [h0, Nat.ble_eq_true_of_le h4] at hfk; cases hfk
        · have hb := List.all_eq_true.1 hbar j (List.mem_range.2 hjr)
          simp only [Bool.or_eq_true] at hb ⊢
          rcases hb with (hb | hb) | hb
          · exact .inl hb
          rotate_left
          · refine .inr ?_
            unfold newAt at hb
            simp only [Bool.and_eq_true] at hb
            obtain ⟨⟨hkj, hb1⟩, hb2⟩ := hb
            have hoj' : ops[j]? = some oj := by simpa using hoj
            have ho' : ops[k]? = some o := by simpa using ho
            rw [hoj'] at hb1
            rw [ho'] at hb2
            have hfj : footAt P G ops [] L j = some [] := by
              rw [hfoot j oj hoj, bite_eq]
              split
              · rfl
              · dsimp only at hb1
                split at hb1
                · rename_i t ht; rw [ht]; rfl
                · cases hb1
            have hfk2 : footAt P G ops [] L k = some [] ∨ footAt P G ops [] L k = none := by
              rw [hfoot k o ho, bite_eq]
              split
              · exact .inl rfl
              · dsimp only at hb2
                split at hb2
                · rename_i c hc
                  split at hb2
                  · rename_i x hx
                    right
                    rw [hc]
                    unfold fpOf
                    simp only [hx]
                  · cases hb2
                · cases hb2
            unfold clashFree
            rcases hfk2 with e | e <;> rw [e, hfj]
            simp only [hkj, Bool.true_or]
          · exact .inr (still hb)
        · -- a writer of its own blocks
          have hns : stillAt P ops [] k = false := by
            cases h : stillAt P ops [] k with
            | false => rfl
            | true => rw [(hstill k o ho h).1] at hfk; cases hfk
          have hfk2 : footAt P G ops [] L k = some (x :: F) := by rw [hfoot k o ho, hns, hw, hF]; rfl
          simp only [Bool.or_eq_true]
          by_cases hord : (Nat.beq j k = true ∨ isPred (preds ops) k j = true) ∨ isPred (preds ops) j k = true
          · exact .inl hord
          refine .inr ?_
          cases hsj2 : stillAt P ops [] j with
          | true => exact still hsj2
          | false =>
            have hx0 : x < (sS j).next := Nat.lt_of_lt_of_le (by rw [e2]; exact hZ x hxZ) (hle 0 j (Nat.zero_le _) (by omega))
            have fin : ∀ F', footAt P G ops [] L j = some F' → x ∉ F' → clashFree P G ops [] L (sS ops.size) k j = true := fun F' hF' hnx => by
              unfold clashFree
              rw [hfk2, hF', hN j (by omega), hN (j + 1) (by omega)]
              simp only [Bool.and_eq_true, Bool.not_eq_true']
              refine ⟨?_, ?_⟩
              · cases h : memb F' x with
                | false => rfl
                | true => exact absurd (memb_mem h) hnx
              · cases h5 : Nat.ble (sS j).next x with
                | false => rfl
                | true => have := Nat.le_of_ble_eq_true h5; omega
            cases hwj : aWanted ops (rS j) oj with
            | false => exact fin [] (by rw [hfoot j oj hoj, hwj, hsj2]; rfl) (by simp)
            | true =>
              obtain ⟨s2, g1, g0, g3, g4, g5⟩ := (hat j oj hoj).yes hwj
              rcases g5 with g5 | ⟨F', hF', hZ'⟩
              · exfalso
                unfold sepAt at g5
                rw [hsj2, Bool.false_or] at g5
                have := List.all_eq_true.1 g5 k (memb_mem hY)
                simp only [Bool.or_eq_true] at this
                rcases this with (h | h) | h
                · exact hord (.inl (.inl h))
                · exact hord (.inr h)
                · exact hord (.inl (.inr h))
              · exact fin F' (by rw [hfoot j oj hoj, hwj, hsj2, hF']; rfl) (fun h => hZ' x h hxZ)
    · rfl
  have := traceZ_go (P := P) (K := K) (G := G) (n := n) (Y := Y) (Z := Z) hf ops.toList 0 [] (fun i => by simp) (fun k o _ ho => hat k o ho) (by simpa using key)
  simp only [Nat.zero_add, Array.length_toList] at this
  rw [← e1, ← e2]; exact this

/-- Operations that are ordered against the writers of Y and change nothing that lay before them. -/
theorem Lz_pre {k0 : Nat} (k : Nat) (hsep : ((List.range k).all fun i => sepAt P ops Y (k0 + i)) = true) (h : ∀ callf, aQ P G callf n ops [] [] k0 (l.take k) r σ = some (r', σ')) (hl : Lz P K G n ops Y Z (k0 + (l.take k).length) (l.drop k) r' σ' Q) : Lz P K G n ops Y Z k0 l r σ Q := by
  have app : ∀ (l1 l2 : List Oper) (k0 : Nat) (r : Regs) (σ : AS), (∀ i, i < l1.length → sepAt P ops Y (k0 + i) = true) → (∀ callf, aQ P G callf n ops [] [] k0 l1 r σ = some (r', σ')) → Lz P K G n ops Y Z (k0 + l1.length) l2 r' σ' Q → Lz P K G n ops Y Z k0 (l1 ++ l2) r σ Q := by
    intro l1
    induction l1 with
    | nil =>
      intro l2 k0 r σ _ h1 h2
      have := h1 (fun _ _ _ => none)
      cases this
      exact h2
    | cons o l1 ih =>
      intro l2 k0 r σ hs h1 h2
      have h2 : Lz P K G n ops Y Z (k0 + 1 + l1.length) l2 r' σ' Q := by
        have e : k0 + (o :: l1).length = k0 + 1 + l1.length := by simp; omega
        rw [← e]; exact h2
      have hs0 : sepAt P ops Y k0 = true := hs 0 (by simp)
      have hs1 : ∀ i, i < l1.length → sepAt P ops Y (k0 + 1 + i) = true := fun i hi => by
        have := hs (i + 1) (by simp; omega)
        rw [show k0 + 1 + i = k0 + (i + 1) by omega]; exact this
      refine ⟨fun hw => ?_, fun hw => ?_⟩
      · have h3 := h1 (fun _ _ _ => none)
        simp only [aQ, bite_eq, hw, if_true] at h3
        split at h3
        · rename_i v s1 hss
          split at h3
          · rename_i hb
            simp only [Bool.and_eq_true, Bool.or_eq_true, Bool.not_eq_true'] at hb
            split at h3
            · rename_i r1 hp
              have hle : ∀ callf, CLe (fun _ _ _ => none) callf := fun callf _ _ _ _ h => (nomatch h)
              refine O_mem (v := v) (σ' := s1) (fun callf => aStep_more (hle callf) hss) ⟨⟨.inl (Nat.le_of_ble_eq_true hb.1), .inl hs0⟩, r1, hp, ih l2 (k0 + 1) r1 _ hs1 (fun callf => ?_) h2⟩
              have h4 := h1 callf
              simp only [aQ, bite_eq, hw, if_true, aStep_more (hle callf) hss, hp] at h4
              rw [if_pos (by simp only [Bool.and_eq_true, Bool.or_eq_true, Bool.not_eq_true']; exact hb)] at h4
              exact h4
            · cases h3
          · cases h3
        · cases h3
      · have h3 := h1 (fun _ _ _ => none)
        simp only [aQ, bite_eq, hw, Bool.false_eq_true, if_false] at h3
        split at h3
        · rename_i r1 hp
          refine ⟨r1, hp, ih l2 (k0 + 1) r1 _ hs1 (fun callf => ?_) h2⟩
          have h4 := h1 callf
          simp only [aQ, bite_eq, hw, Bool.false_eq_true, if_false, hp] at h4
          exact h4
        · cases h3
  have := app (l.take k) (l.drop k) k0 r σ (fun i hi => List.all_eq_true.1 hsep i (List.mem_range.2 (by rw [List.length_take] at hi; omega))) h hl
  rw [List.take_append_drop] at this
  exact this

/-- A load that is not ordered against the writers. -/
theorem Lz_load {k0 d b off : Nat} {t : TypeId} {a : Operand} {ty : TypeId} {pos : String} {aft : Array Edge} {v : Value} (ha : aev G r a = some (.pointer (some ⟨b, off, none⟩)))
    (hl : aLoad P σ.reset t (.pointer (some ⟨b, off, none⟩)) = some v) (hZ : b ∉ Z) (hd : d < n)
    (h : Lz P K G n ops Y Z (k0 + 1) l (rput r d v) (σ.merge σ.reset) Q) : Lz P K G n ops Y Z k0 (⟨some d, .load t a, ty, pos, aft, none⟩ :: l) r σ Q := by
  refine ⟨fun _ => ⟨v, σ.reset, 0, fun fuel _ => ?_, ⟨.inl (Nat.le_refl _), .inr ⟨[b], ?_, fun x hx => by rw [List.mem_singleton.1 hx]; exact hZ⟩⟩, _, ?_, h⟩, fun h => (nomatch h)⟩
  · simp only [aStep_eq, aStepOld, aOp, opLoad, ha, hl, ann]
  · simp only [fpOf, ha, fpO, fpV]
  · simp only [aPut, bite_eq]; rw [if_pos (by rw [Nat.blt_eq]; exact hd)]

/-- A writer of Y. -/
theorem Lz_wr {k0 d x : Nat} {F : List Nat} {op : Op} {ty : TypeId} {pos : String} {aft : Array Edge} {v : Value} {s1 : AS} (hs : ∀ callf, aStep P G callf r σ.reset op = some (v, s1)) (hd : d < n) (hY : memb Y k0 = true) (hF : fpOf P G r op = some (x :: F)) (hx : x ∈ Z) (hsep : sepAt P ops Y k0 = true)
    (h : Lz P K G n ops Y Z (k0 + 1) l (rput r d v) (σ.merge s1) Q) : Lz P K G n ops Y Z k0 (⟨some d, op, ty, pos, aft, none⟩ :: l) r σ Q := by
  refine ⟨fun _ => ⟨v, s1, 0, fun fuel _ => hs _, ⟨.inr (.inr ⟨hY, x, F, hF, hx⟩), .inl hsep⟩, _, ?_, h⟩, fun h => (nomatch h)⟩
  simp only [aPut, bite_eq]; rw [if_pos (by rw [Nat.blt_eq]; exact hd)]

/-- A store as a bar. -/
theorem Lz_st {k0 : Nat} {op : Op} {ty : TypeId} {pos : String} {aft : Array Edge} {v : Value} {s1 : AS} (hs : ∀ callf, aStep P G callf r σ.reset op = some (v, s1)) (hbar : barAt P ops [] k0 = true) (hsep : sepAt P ops Y k0 = true)
    (h : Lz P K G n ops Y Z (k0 + 1) l r (σ.merge s1) Q) : Lz P K G n ops Y Z k0 (⟨none, op, ty, pos, aft, none⟩ :: l) r σ Q :=
  ⟨fun _ => ⟨v, s1, 0, fun fuel _ => hs _, ⟨.inr (.inl hbar), .inl hsep⟩, _, rfl, h⟩, fun h => (nomatch h)⟩
end draws
end
end Go.Proofs.Ytbknckiapcafdaa.Abs
