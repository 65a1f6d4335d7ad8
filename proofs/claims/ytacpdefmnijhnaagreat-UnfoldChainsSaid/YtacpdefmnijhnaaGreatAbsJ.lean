/- What the evaluator keeps of the abstract memory; the registers; regions in the text's order. -/
import Derived.Test.YtacpdefmnijhnaaGreatAbsI
set_option linter.unusedSimpArgs false
set_option linter.unusedVariables false
namespace Go.Proofs.YtacpdefmnijhnaaGreat.Abs

structure AMono (σ σ' : AS) : Prop where
  nxt : σ.next ≤ σ'.next
  low : σ'.low ≤ σ.low
  keep : ∀ i, i < σ.next → i < σ'.low → σ'.get i = σ.get i
  dead : ∀ i, i < σ.next → (σ.get i).kind = 0 → (σ'.get i).kind = 0
  ro : ∀ n, n ≤ σ.next → n ≤ σ.low → (∀ i, i < n → (σ.get i).kind = 0 ∨ (σ.get i).kind = 5) → n ≤ σ'.low ∧ ∀ i, i < n → σ'.get i = σ.get i

theorem AMono.refl (σ : AS) : AMono σ σ := ⟨Nat.le_refl _, Nat.le_refl _, fun _ _ _ => rfl, fun _ _ h => h, fun _ _ h _ => ⟨h, fun _ _ => rfl⟩⟩

theorem AMono.trans {σ σ' σ'' : AS} (h : AMono σ σ') (k : AMono σ' σ'') : AMono σ σ'' where
  nxt := Nat.le_trans h.nxt k.nxt
  low := Nat.le_trans k.low h.low
  keep i hi hl := by rw [k.keep i (Nat.lt_of_lt_of_le hi h.nxt) hl, h.keep i hi (Nat.lt_of_lt_of_le hl k.low)]
  dead i hi h0 := k.dead i (Nat.lt_of_lt_of_le hi h.nxt) (h.dead i hi h0)
  ro n hn hl hk := by
    obtain ⟨h1, h2⟩ := h.ro n hn hl hk
    obtain ⟨h3, h4⟩ := k.ro n (Nat.le_trans hn h.nxt) h1 fun i hi => by rw [h2 i hi]; exact hk i hi
    exact ⟨h3, fun i hi => by rw [h4 i hi, h2 i hi]⟩

theorem AMono.new (σ : AS) (b : Blk) : AMono σ (σ.new b) where
  nxt := Nat.le_succ _
  low := Nat.le_refl _
  keep i hi _ := by rw [AS.get_new, if_neg (by omega)]
  dead i hi h0 := by rw [AS.get_new, if_neg (by omega)]; exact h0
  ro n hn hl _ := ⟨hl, fun i hi => by rw [AS.get_new, if_neg (by omega)]⟩

theorem AMono.put {σ : AS} {i : Nat} (b : Blk) (hk : (σ.get i).kind ≠ 0 ∧ (σ.get i).kind ≠ 5) : AMono σ (σ.put i b) where
  nxt := Nat.le_refl _
  low := Nat.min_le_left _ _
  keep j hj hl := by
    rw [AS.get_put, if_neg]
    intro e; subst e
    exact absurd hl (Nat.not_lt.2 (Nat.min_le_right _ _))
  dead j hj h0 := by
    rw [AS.get_put, if_neg, h0]
    intro e; subst e; exact hk.1 h0
  ro n hn hl hall := by
    have hge : n ≤ i := by
      rcases Nat.lt_or_ge i n with h | h
      · have := hall i h; omega
      · exact h
    exact ⟨Nat.le_min.2 ⟨hl, hge⟩, fun j hj => by rw [AS.get_put, if_neg (by omega)]⟩

section mono
variable {P : Program} {G : Nat} {σ σ' : AS} {r : Regs}

theorem aWrite_mono {x : Addr} {cs : List Value} (h : aWrite σ x cs = some σ') : AMono σ σ' := by
  unfold aWrite at h
  split at h
  · rename_i hk
    simp only [Bool.and_eq_true] at hk
    cases cs with
    | nil => cases h; exact AMono.refl _
    | cons c0 cs0 =>
    cases h
    refine AMono.put _ ?_
    have := isCells_iff.1 hk.1.1
    omega
  · cases h

theorem aWriteS_mono {x : Addr} {cs : List Value} (h : aWriteS σ x cs = some σ') : AMono σ σ' := by
  unfold aWriteS at h
  split at h
  · exact aWrite_mono h
  · cases cs with
    | nil => cases h; exact AMono.refl _
    | cons => cases h

theorem aStore_mono {t : TypeId} {x p : Value} (h : aStore P σ t x p = some σ') : AMono σ σ' := by
  unfold aStore at h
  split at h
  · split at h
    · cases h
    · split at h
      · exact aWrite_mono h
      · cases h
  · cases h

theorem aUpdate_mono {t : TypeId} {m k v : Value} (h : aUpdate P σ t m k v = some σ') : AMono σ σ' := by
  unfold aUpdate at h
  split at h
  · split at h
    · split at h
      · rename_i hc
        simp only [Nat.beq_eq] at hc
        split at h
        · cases h; exact AMono.put _ (by omega)
        · cases h; exact AMono.put _ (by omega)
        · cases h
      · cases h
    · cases h
  · cases h

theorem aEntry_mono {t : TypeId} {m k v : Value} (h : aEntry P σ t m k = some (v, σ')) : AMono σ σ' := by
  unfold aEntry at h
  split at h
  · split at h
    · split at h
      · rename_i hc
        simp only [Nat.beq_eq] at hc
        split at h
        · split at h
          · split at h
            · cases h; exact AMono.put _ (by omega)
            · cases h
          · cases h
        · split at h
          · split at h
            · split at h
              · cases h; exact AMono.put _ (by omega)
              · cases h
            · cases h
          · cases h
        · cases h
      · cases h
    · cases h
  · cases h

theorem aEntryStore_mono {m s v : Value} (h : aEntryStore σ m s v = some σ') : AMono σ σ' := by
  unfold aEntryStore at h
  split at h
  · split at h
    · rename_i hc
      simp only [Nat.beq_eq] at hc
      split at h
      · split at h
        · cases h; exact AMono.put _ (by omega)
        · cases h
      · cases h
    · cases h
  · cases h

theorem aDelete_mono {t : TypeId} {m k : Value} (h : aDelete P σ t m k = some σ') : AMono σ σ' := by
  unfold aDelete at h
  split at h
  · split at h
    · split at h
      · rename_i hc
        simp only [Nat.beq_eq] at hc
        split at h
        · cases h; exact AMono.put _ (by omega)
        · cases h; exact AMono.refl _
        · cases h
      · cases h
    · cases h
  · split at h
    · split at h
      · cases h; exact AMono.refl _
      · cases h
    · cases h
  · cases h

theorem aAppend_mono {at_ : Array TypeId} {s x v : Value} (h : aAppend P σ at_ s x = some (v, σ')) : AMono σ σ' := by
  unfold aAppend at h
  split at h
  · split at h
    · split at h
      · split at h
        · split at h
          · cases h
          · split at h
            · dsimp only at h
              split at h
              · cases h
              · split at h
                · split at h
                  · split at h
                    · cases h
                    · rename_i hk
                      simp only [Bool.not_eq_true', Bool.not_eq_false, Bool.and_eq_true, Nat.beq_eq] at hk
                      split at h
                      · split at h
                        · rename_i hw; cases h; exact aWrite_mono hw
                        · cases h
                      · split at h
                        · cases h
                          exact (AMono.put _ (by omega)).trans (AMono.new _ _)
                        · cases h
                  · cases h
                · split at h
                  · split at h
                    · split at h
                      · rename_i hw; cases h; exact aWriteS_mono hw
                      · cases h
                    · split at h
                      · cases h; exact AMono.refl _
                      · cases h
                  · split at h
                    · split at h
                      · cases h; exact AMono.new _ _
                      · cases h
                    · cases h
            · cases h
        · cases h
      · cases h
    · cases h
  · cases h

theorem aCopyM_mono {at_ : Array TypeId} {s x v : Value} (h : aCopyM P σ at_ s x = some (v, σ')) : AMono σ σ' := by
  unfold aCopyM at h
  split at h
  · split at h
    · split at h
      · split at h
        · dsimp only at h
          split at h
          · split at h
            · split at h
              · rename_i hw; cases h; exact aWriteS_mono hw
              · cases h
            · cases h; exact AMono.refl _
          · cases h
        · cases h
      · cases h
    · cases h
  · cases h

theorem aCopy_mono {at_ : Array TypeId} {s x v : Value} (h : aCopy P σ at_ s x = some (v, σ')) : AMono σ σ' := by
  unfold aCopy at h
  split at h
  · split at h
    · split at h
      · split at h
        · cases h; exact AMono.refl _
        · cases h
      · cases h
    · cases h
  · exact aCopyM_mono h

theorem aClear_mono {t : TypeId} {x : Value} (h : aClear P σ t x = some σ') : AMono σ σ' := by
  unfold aClear at h
  split at h
  · cases h; exact AMono.refl _
  · split at h
    · cases h; exact AMono.refl _
    · split at h
      · split at h
        · split at h
          · exact aWrite_mono h
          · cases h
        · cases h
      · cases h
  · cases h

theorem aBuiltin_mono {b : Builtin} {at_ : Array TypeId} {args : List Value} {v : Value} (h : aBuiltin P σ b at_ args = some (v, σ')) : AMono σ σ' := by
  unfold aBuiltin at h
  split at h
  · split at h
    · split at h
      · cases h; exact AMono.refl _
      · cases h
    · cases h
  · split at h
    · split at h
      · cases h; exact AMono.refl _
      · cases h
    · cases h
  · exact aAppend_mono h
  · exact aCopy_mono h
  · split at h
    · split at h
      · rename_i hd; cases h; exact aDelete_mono hd
      · cases h
    · cases h
  · split at h
    · split at h
      · rename_i hd; cases h; exact aClear_mono hd
      · cases h
    · cases h
  · split at h
    · cases h; exact AMono.refl _
    · cases h
  · split at h
    · cases h; exact AMono.refl _
    · cases h
  · cases h

theorem ann_mono {o : Option Value} {v : Value} (h : ann σ o = some (v, σ')) : AMono σ σ' := by
  obtain ⟨_, rfl⟩ := ann_some h; exact AMono.refl _

theorem aOp_mono {op : Op} {v : Value} (h : aOp P G r σ op = some (v, σ')) : AMono σ σ' := by
  cases op <;> try (cases h; done)
  case move x => exact ann_mono h
  case assign x => exact ann_mono h
  case pick c x y =>
    simp only [aOp, opPick, opAlloc, opBox, opBuild, opBuildSlice, opLoad, opStore, opNil, opBin, opUn, opConvert, opIface, opFunc, opMapR, opMakeSlice, opSlice, opFieldAddr, opField, opIndexAddr, opIndex, opLookup, opUpdate, opExtract, opCall] at h
    split at h
    · cases h; exact AMono.refl _
    · cases h
  case alloc elem =>
    simp only [aOp, opPick, opAlloc, opBox, opBuild, opBuildSlice, opLoad, opStore, opNil, opBin, opUn, opConvert, opIface, opFunc, opMapR, opMakeSlice, opSlice, opFieldAddr, opField, opIndexAddr, opIndex, opLookup, opUpdate, opExtract, opCall] at h
    split at h
    · split at h
      · split at h
        · cases h; exact AMono.new _ _
        · cases h
      · cases h
    · cases h
  case box elem x =>
    simp only [aOp, opPick, opAlloc, opBox, opBuild, opBuildSlice, opLoad, opStore, opNil, opBin, opUn, opConvert, opIface, opFunc, opMapR, opMakeSlice, opSlice, opFieldAddr, opField, opIndexAddr, opIndex, opLookup, opUpdate, opExtract, opCall] at h
    split at h
    · cases h; exact AMono.new _ _
    · cases h
  case build t parts =>
    simp only [aOp, opPick, opAlloc, opBox, opBuild, opBuildSlice, opLoad, opStore, opNil, opBin, opUn, opConvert, opIface, opFunc, opMapR, opMakeSlice, opSlice, opFieldAddr, opField, opIndexAddr, opIndex, opLookup, opUpdate, opExtract, opCall] at h
    split at h
    · exact ann_mono h
    · cases h
  case buildSlice t len parts =>
    simp only [aOp, opPick, opAlloc, opBox, opBuild, opBuildSlice, opLoad, opStore, opNil, opBin, opUn, opConvert, opIface, opFunc, opMapR, opMakeSlice, opSlice, opFieldAddr, opField, opIndexAddr, opIndex, opLookup, opUpdate, opExtract, opCall] at h
    split at h
    · unfold aBuildSlice at h
      split at h
      · split at h
        · split at h
          · split at h
            · split at h
              · cases h; exact AMono.new _ _
              · cases h
            · cases h
          · cases h
        · cases h
      · cases h
    · cases h
  case load t x =>
    simp only [aOp, opPick, opAlloc, opBox, opBuild, opBuildSlice, opLoad, opStore, opNil, opBin, opUn, opConvert, opIface, opFunc, opMapR, opMakeSlice, opSlice, opFieldAddr, opField, opIndexAddr, opIndex, opLookup, opUpdate, opExtract, opCall] at h
    split at h
    · exact ann_mono h
    · cases h
  case store t x y =>
    simp only [aOp, opPick, opAlloc, opBox, opBuild, opBuildSlice, opLoad, opStore, opNil, opBin, opUn, opConvert, opIface, opFunc, opMapR, opMakeSlice, opSlice, opFieldAddr, opField, opIndexAddr, opIndex, opLookup, opUpdate, opExtract, opCall] at h
    split at h
    · obtain ⟨h, _⟩ := unn_some h; exact aStore_mono h
    · cases h
  case nilCheck x =>
    simp only [aOp, opPick, opAlloc, opBox, opBuild, opBuildSlice, opLoad, opStore, opNil, opBin, opUn, opConvert, opIface, opFunc, opMapR, opMakeSlice, opSlice, opFieldAddr, opField, opIndexAddr, opIndex, opLookup, opUpdate, opExtract, opCall] at h
    split at h <;> cases h <;> exact AMono.refl _
  case binOp op t x y yt =>
    simp only [aOp, opPick, opAlloc, opBox, opBuild, opBuildSlice, opLoad, opStore, opNil, opBin, opUn, opConvert, opIface, opFunc, opMapR, opMakeSlice, opSlice, opFieldAddr, opField, opIndexAddr, opIndex, opLookup, opUpdate, opExtract, opCall] at h
    split at h
    · exact ann_mono h
    · cases h
  case unOp op t x =>
    simp only [aOp, opPick, opAlloc, opBox, opBuild, opBuildSlice, opLoad, opStore, opNil, opBin, opUn, opConvert, opIface, opFunc, opMapR, opMakeSlice, opSlice, opFieldAddr, opField, opIndexAddr, opIndex, opLookup, opUpdate, opExtract, opCall] at h
    split at h
    · split at h
      · exact ann_mono h
      · cases h
    · cases h
  case convert s d x =>
    simp only [aOp, opPick, opAlloc, opBox, opBuild, opBuildSlice, opLoad, opStore, opNil, opBin, opUn, opConvert, opIface, opFunc, opMapR, opMakeSlice, opSlice, opFieldAddr, opField, opIndexAddr, opIndex, opLookup, opUpdate, opExtract, opCall] at h
    split at h
    · split at h
      · exact ann_mono h
      · split at h
        · exact ann_mono h
        · cases h
    · cases h
  case makeInterface t x =>
    simp only [aOp, opPick, opAlloc, opBox, opBuild, opBuildSlice, opLoad, opStore, opNil, opBin, opUn, opConvert, opIface, opFunc, opMapR, opMakeSlice, opSlice, opFieldAddr, opField, opIndexAddr, opIndex, opLookup, opUpdate, opExtract, opCall] at h
    split at h
    · cases h
    · cases h; exact AMono.refl _
    · cases h
  case makeFunc fn first captured =>
    simp only [aOp, opPick, opAlloc, opBox, opBuild, opBuildSlice, opLoad, opStore, opNil, opBin, opUn, opConvert, opIface, opFunc, opMapR, opMakeSlice, opSlice, opFieldAddr, opField, opIndexAddr, opIndex, opLookup, opUpdate, opExtract, opCall] at h
    split at h
    · cases h; exact AMono.refl _
    · cases h
  case makeMap t res =>
    cases res with
    | none => cases h; exact AMono.new _ _
    | some x =>
      simp only [aOp, opPick, opAlloc, opBox, opBuild, opBuildSlice, opLoad, opStore, opNil, opBin, opUn, opConvert, opIface, opFunc, opMapR, opMakeSlice, opSlice, opFieldAddr, opField, opIndexAddr, opIndex, opLookup, opUpdate, opExtract, opCall] at h
      split at h
      · cases h; exact AMono.new _ _
      · cases h
  case makeSlice t l c =>
    simp only [aOp, opPick, opAlloc, opBox, opBuild, opBuildSlice, opLoad, opStore, opNil, opBin, opUn, opConvert, opIface, opFunc, opMapR, opMakeSlice, opSlice, opFieldAddr, opField, opIndexAddr, opIndex, opLookup, opUpdate, opExtract, opCall] at h
    split at h
    · unfold aMakeSlice at h
      split at h
      · split at h
        · split at h
          · split at h
            · cases h; exact AMono.new _ _
            · cases h
          · cases h
        · cases h
      · cases h
    · cases h
  case slice t x lo hi mx =>
    simp only [aOp, opPick, opAlloc, opBox, opBuild, opBuildSlice, opLoad, opStore, opNil, opBin, opUn, opConvert, opIface, opFunc, opMapR, opMakeSlice, opSlice, opFieldAddr, opField, opIndexAddr, opIndex, opLookup, opUpdate, opExtract, opCall] at h
    split at h
    · exact ann_mono h
    · cases h
  case fieldAddr s x f =>
    simp only [aOp, opPick, opAlloc, opBox, opBuild, opBuildSlice, opLoad, opStore, opNil, opBin, opUn, opConvert, opIface, opFunc, opMapR, opMakeSlice, opSlice, opFieldAddr, opField, opIndexAddr, opIndex, opLookup, opUpdate, opExtract, opCall] at h
    split at h
    · exact ann_mono h
    · cases h
  case field t x f =>
    simp only [aOp, opPick, opAlloc, opBox, opBuild, opBuildSlice, opLoad, opStore, opNil, opBin, opUn, opConvert, opIface, opFunc, opMapR, opMakeSlice, opSlice, opFieldAddr, opField, opIndexAddr, opIndex, opLookup, opUpdate, opExtract, opCall] at h
    split at h
    · exact ann_mono h
    · cases h
  case indexAddr t x ix =>
    simp only [aOp, opPick, opAlloc, opBox, opBuild, opBuildSlice, opLoad, opStore, opNil, opBin, opUn, opConvert, opIface, opFunc, opMapR, opMakeSlice, opSlice, opFieldAddr, opField, opIndexAddr, opIndex, opLookup, opUpdate, opExtract, opCall] at h
    split at h
    · exact ann_mono h
    · cases h
  case index t x ix =>
    simp only [aOp, opPick, opAlloc, opBox, opBuild, opBuildSlice, opLoad, opStore, opNil, opBin, opUn, opConvert, opIface, opFunc, opMapR, opMakeSlice, opSlice, opFieldAddr, opField, opIndexAddr, opIndex, opLookup, opUpdate, opExtract, opCall] at h
    split at h
    · exact ann_mono h
    · cases h
  case lookup t x ix ok =>
    simp only [aOp, opPick, opAlloc, opBox, opBuild, opBuildSlice, opLoad, opStore, opNil, opBin, opUn, opConvert, opIface, opFunc, opMapR, opMakeSlice, opSlice, opFieldAddr, opField, opIndexAddr, opIndex, opLookup, opUpdate, opExtract, opCall] at h
    split at h
    · exact ann_mono h
    · cases h
  case mapUpdate t m k x =>
    simp only [aOp, opPick, opAlloc, opBox, opBuild, opBuildSlice, opLoad, opStore, opNil, opBin, opUn, opConvert, opIface, opFunc, opMapR, opMakeSlice, opSlice, opFieldAddr, opField, opIndexAddr, opIndex, opLookup, opUpdate, opExtract, opCall] at h
    split at h
    · obtain ⟨h, _⟩ := unn_some h; exact aUpdate_mono h
    · cases h
  case insert t m k x =>
    simp only [aOp, opPick, opAlloc, opBox, opBuild, opBuildSlice, opLoad, opStore, opNil, opBin, opUn, opConvert, opIface, opFunc, opMapR, opMakeSlice, opSlice, opFieldAddr, opField, opIndexAddr, opIndex, opLookup, opUpdate, opExtract, opCall] at h
    split at h
    · obtain ⟨h, _⟩ := unn_some h; exact aUpdate_mono h
    · cases h
  case mapEntry t m k =>
    simp only [aOp, opEntry] at h
    split at h
    · exact aEntry_mono h
    · cases h
  case entryStore t m s x =>
    simp only [aOp, opEntryStore] at h
    split at h
    · obtain ⟨h, _⟩ := unn_some h; exact aEntryStore_mono h
    · cases h
  case extract t ix =>
    simp only [aOp, opPick, opAlloc, opBox, opBuild, opBuildSlice, opLoad, opStore, opNil, opBin, opUn, opConvert, opIface, opFunc, opMapR, opMakeSlice, opSlice, opFieldAddr, opField, opIndexAddr, opIndex, opLookup, opUpdate, opExtract, opCall] at h
    split at h
    · split at h
      · cases h; exact AMono.refl _
      · cases h
    · cases h
  case range t x =>
    simp only [aOp, opRange] at h
    split at h
    · cases h; exact AMono.new _ _
    · cases h
  case next it s =>
    simp only [aOp, opNext] at h
    split at h
    · split at h
      · rename_i hk
        simp only [Bool.and_eq_true, Nat.beq_eq] at hk
        split at h
        · split at h
          · cases h; exact AMono.put _ (by omega)
          · cases h; exact AMono.refl _
        · cases h
      · cases h
    · cases h
  case call c =>
    obtain ⟨callee, args, argTypes⟩ := c
    simp only [aOp, opPick, opAlloc, opBox, opBuild, opBuildSlice, opLoad, opStore, opNil, opBin, opUn, opConvert, opIface, opFunc, opMapR, opMakeSlice, opSlice, opFieldAddr, opField, opIndexAddr, opIndex, opLookup, opUpdate, opExtract, opCall] at h
    cases callee with
    | builtin b =>
      simp only [] at h
      split at h
      · exact aBuiltin_mono h
      · cases h
    | value f => cases h
    | invoke x m => cases h

def CallMono (callf : FuncId → List Value → AS → Option (Value × AS)) : Prop := ∀ f args σ v σ', callf f args σ = some (v, σ') → AMono σ σ'

theorem aStep_mono {callf : FuncId → List Value → AS → Option (Value × AS)} (hc : CallMono callf) {op : Op} {v : Value} (h : aStep P G callf r σ op = some (v, σ')) : AMono σ σ' := by
  rw [aStep_eq] at h
  unfold aStepOld at h
  split at h
  · split at h
    · unfold opEnter at h
      split at h
      · split at h
        · exact hc _ _ _ _ _ h
        · cases h
      · cases h
    · exact aOp_mono h
  · exact aOp_mono h

end mono

/-! ### A step of the evaluator is a step of the program -/

def CallSound (P : Program) (G : Nat) (callf : FuncId → List Value → AS → Option (Value × AS)) : Prop :=
  ∀ f args σ v σ' ρ w args', callf f args σ = some (v, σ') → R G ρ σ w → LRel (VRel ρ) args args' →
    (callFunc f args'.toArray).run P w = .ok (.enter f args'.toArray) w ∧
    Calls P f args'.toArray w (fun e w' => ∃ v' τ, e = .returned v' ∧ VRel τ v v' ∧ Sim G ρ σ w τ σ' w')

section steps
variable {P : Program} {G : Nat} {ρ : Ren} {σ σ' : AS} {w : World} {r r' : Regs} {a : Act} {callf : FuncId → List Value → AS → Option (Value × AS)} {Q : Exit → Act → World → Prop}

theorem aStep_wp (hc : CallSound P G callf) {o : Oper} {v : Value} (h : aStep P G callf r σ o.op = some (v, σ')) (hR : R G ρ σ w) (hr : OpRel G ρ r a o.op.operands)
    {next : Act → World → Prop} (hn : ∀ v' τ w', VRel τ v v' → Sim G ρ σ w τ σ' w' → next (a.put o.dst v') w') : o.wp P a w next Q := by
  have viaOp : aOp P G r σ o.op = some (v, σ') → o.wp P a w next Q := fun h => by
    obtain ⟨v', τ, w', h1, h2, h3⟩ := aOp_sound h hR hr
    unfold Oper.wp
    rcases h1 with h1 | ⟨h1, rfl⟩
    · rw [h1, Oper.upon_value]; exact hn v' τ w' h2 h3
    · rw [h1, Oper.upon_skip]; exact hn undef τ w' h2 h3
  rw [aStep_eq] at h
  unfold aStepOld at h
  split at h
  · rename_i c hop
    split at h
    · rename_i f hcal
      unfold opEnter at h
      split at h
      · rename_i _ fid first captured hf
        split at h
        · rename_i vs hvs
          have hmem : f ∈ o.op.operands.toList ∧ ∀ x ∈ c.args.toList, x ∈ o.op.operands.toList := by
            rw [hop]
            simp only [Op.operands, Call.operands, hcal]
            exact ⟨by simp, fun x hx => by simp; exact .inr (by simpa using hx)⟩
          obtain ⟨f', c', hf1, hc1, e⟩ := vrel_func.1 (hr f hmem.1 _ hf)
          have hvs' := aevs_rel (ρ := ρ) (a := a) hvs fun x hx => hr x (hmem.2 x hx)
          obtain ⟨h1, h2⟩ := hc fid _ σ v σ' ρ w _ h hR ((hf1.append hvs').append hc1)
          have hexec : (execOp a.eval o).run P w = .ok (.enter fid (f' ++ c.args.toList.map a.eval ++ c').toArray) w := by
            unfold execOp
            rw [hop]
            simp only []
            have e2 : resolve a.eval c o.type = pure { target := .fn (.func fid) c'.toArray, args := f'.toArray ++ c.args.map a.eval } := by
              unfold resolve
              rw [hcal]
              simp only [e, Deferred.ofValue]
            rw [e2]
            have e3 : ((f'.toArray ++ c.args.map a.eval) ++ c'.toArray) = (f' ++ c.args.toList.map a.eval ++ c').toArray := by
              apply Array.ext'; simp
            simp only [pure_bind, invoke, e3]
            exact h1
          unfold Oper.wp
          rw [hexec, Oper.upon_enter]
          refine h2.mono fun e w' ⟨v', τ, he, hv, hs⟩ => ?_
          subst he
          exact hn v' τ w' hv hs
        · cases h
      · cases h
    · exact viaOp h
  · exact viaOp h

theorem vrel_bool_inv {v : Value} {b : Bool} (h : VRel ρ v (.bool b)) : v = .bool b := by
  cases v
  case bool c => have := vrel_bool.1 h; cases this; rfl
  case agg cs => obtain ⟨_, _, e⟩ := vrel_agg.1 h; cases e
  case tuple cs => obtain ⟨_, _, e⟩ := vrel_tuple.1 h; cases e
  case pointer a => cases a with
    | none => have := vrel_ptr_none.1 h; cases this
    | some a => obtain ⟨_, _, _, e⟩ := vrel_ptr.1 h; cases e
  case slice a l c => cases a with
    | none => have := vrel_slice_none.1 h; cases this
    | some a => obtain ⟨_, _, e, _⟩ := vrel_slice_shape h; cases e
  case map a => cases a with
    | none => have := vrel_map_none.1 h; cases this
    | some a => obtain ⟨_, _, e⟩ := vrel_map.1 h; cases e
  case func => obtain ⟨_, _, _, _, e⟩ := vrel_func.1 h; cases e
  case iface => obtain ⟨_, _, e⟩ := vrel_iface.1 h; cases e
  case chan => obtain ⟨_, _, e⟩ := vrel_chan h; cases e
  case int => have := vrel_int.1 h; cases this
  case float => have := vrel_float.1 h; cases this
  case complex => have := vrel_complex.1 h; cases this
  case string => have := vrel_string.1 h; cases this
  case nilFunc => have := vrel_nilFunc.1 h; cases this
  case nilIface => have := vrel_nilIface.1 h; cases this

theorem aWanted_eq {ops : Array Oper} {o : Oper} (h : ∀ j b t, o.guard = some (j, b) → (ops[j]?).bind (·.dst) = some t → VRel ρ (rget r t) (a.tmps.getD t undef)) :
    aWanted ops r o = Region.wanted o (yielded ops a.tmps) := by
  unfold aWanted Region.wanted
  cases hg : o.guard with
  | none => rfl
  | some g =>
    obtain ⟨j, want⟩ := g
    simp only []
    unfold yielded
    cases hd : (ops[j]?).bind (·.dst) with
    | none => simp
    | some t =>
      have hv := h j want t hg hd
      simp only [Option.bind_some]
      rcases Nat.lt_or_ge t a.tmps.size with hlt | hge
      · have e1 : a.tmps.getD t undef = a.tmps[t] := by simp [Array.getD, hlt]
        have e2 : a.tmps[t]? = some a.tmps[t] := by simp [hlt]
        rw [e1] at hv
        rw [e2]
        cases hb : a.tmps[t] with
        | bool b =>
          rw [hb] at hv
          rw [vrel_bool_inv hv]
          simp [Bool.beq_comm]
        | _ =>
          have hnb : ∀ b, rget r t ≠ .bool b := fun b e => by
            rw [e] at hv
            have := vrel_bool.1 hv
            rw [hb] at this
            cases this
          simp
          try (split <;> first | (rename_i e; exact absurd e (hnb _)) | rfl)
      · have e1 : a.tmps.getD t undef = undef := by simp [Array.getD, Nat.not_lt.2 hge]
        have e2 : a.tmps[t]? = none := by simp [hge]
        rw [e1] at hv
        rw [e2]
        have hnb : ∀ b, rget r t ≠ .bool b := fun b e => by
          rw [e] at hv
          have := vrel_bool.1 hv
          cases this
        simp
        try (split <;> first | (rename_i e; exact absurd e (hnb _)) | rfl)

theorem put_size (a : Act) (dst : Option Tmp) (v : Value) : (a.put dst v).tmps.size = a.tmps.size := by
  cases dst <;> simp [Act.put]
theorem put_defers (a : Act) (dst : Option Tmp) (v : Value) : (a.put dst v).defers = a.defers := by cases dst <;> rfl

theorem put_getD {a : Act} {d t : Nat} {v : Value} (hd : d < a.tmps.size) : (a.put (some d) v).tmps.getD t undef = if d = t then v else a.tmps.getD t undef := by
  simp only [Act.put, Array.getD_eq_getD_getElem?, Array.getElem?_setIfInBounds]
  split
  · rename_i e; subst e; simp [hd]
  · rfl

theorem aPut_rel {n : Nat} {dst : Option Tmp} {v v' : Value} (h : aPut n r dst v = some r') (hr : RegsRel ρ r a.tmps) (hv : VRel ρ v v') (hn : a.tmps.size = n) : RegsRel ρ r' (a.put dst v').tmps := by
  cases dst with
  | none => cases h; exact hr
  | some d =>
    simp only [aPut, bite_eq] at h
    split at h
    · rename_i hd
      have hd : d < a.tmps.size := by rw [hn]; simpa [Nat.blt_eq] using hd
      cases h
      intro t
      rw [rget_rput, put_getD hd]
      split
      · exact hv
      · exact hr t
    · cases h

theorem aOps_wp (hc : CallSound P G callf) {n : Nat} {ops : Array Oper} {ds : List Deferred} : ∀ (l : List Oper) (r : Regs) (σ : AS) (ρ : Ren) (w : World) (a : Act), aOps P G callf n ops l r σ = some (r', σ') →
    R G ρ σ w → RegsRel ρ r a.tmps → a.tmps.size = n → a.defers = ds →
    (∀ τ a' w', RegsRel τ r' a'.tmps → a'.tmps.size = n → a'.defers = ds → Sim G ρ σ w τ σ' w' → Q .normal a' w') → wpList P ops Q l a w
  | [], r, σ, ρ, w, a, h, hR, hr, hn, hd, hQ => by cases h; exact hQ ρ a w hr hn hd (Sim.refl hR)
  | o :: l, r, σ, ρ, w, a, h, hR, hr, hn, hd, hQ => by
    simp only [aOps, bite_eq] at h
    have hw : aWanted ops r o = Region.wanted o (yielded ops a.tmps) := aWanted_eq fun _ _ t _ _ => hr t
    unfold wpList
    rw [← hw]
    split at h
    · rename_i hwt
      rw [if_pos hwt]
      split at h
      · rename_i v σ1 hst
        split at h
        · rename_i r1 hput
          refine .inl (aStep_wp hc hst hR (OpRel.of_regs hR hr) fun v' τ w' hv hs => ?_)
          exact aOps_wp hc l r1 σ1 τ w' _ h hs.rel (aPut_rel hput (hr.ext hs.le) hv hn) (by rw [put_size]; exact hn) (by rw [put_defers]; exact hd)
            fun τ' a' w'' h1 h2 h3 h4 => hQ τ' a' w'' h1 h2 h3 (hs.trans h4)
        · cases h
      · cases h
    · rename_i hwt
      rw [if_neg hwt]
      split at h
      · rename_i r1 hput
        exact aOps_wp hc l r1 σ ρ w _ h hR (aPut_rel hput hr vrel_undef hn) (by rw [put_size]; exact hn) (by rw [put_defers]; exact hd) hQ
      · cases h

theorem aOps_mono (hc : CallMono callf) {n : Nat} {ops : Array Oper} : ∀ (l : List Oper) (r : Regs) (σ : AS), aOps P G callf n ops l r σ = some (r', σ') → AMono σ σ'
  | [], r, σ, h => by cases h; exact AMono.refl _
  | o :: l, r, σ, h => by
    simp only [aOps, bite_eq] at h
    split at h
    · split at h
      · rename_i v σ1 hst
        split at h
        · exact (aStep_mono hc hst).trans (aOps_mono hc l _ _ h)
        · cases h
      · cases h
    · split at h
      · exact aOps_mono hc l _ _ h
      · cases h

end steps
end Go.Proofs.YtacpdefmnijhnaaGreat.Abs
