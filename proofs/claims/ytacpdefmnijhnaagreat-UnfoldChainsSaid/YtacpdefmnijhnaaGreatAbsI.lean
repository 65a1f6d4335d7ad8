/- The operations as one; regions whose order is the text's. -/
import Derived.Test.YtacpdefmnijhnaaGreatAbsH
set_option linter.unusedSimpArgs false
set_option linter.unusedVariables false
namespace Go.Proofs.YtacpdefmnijhnaaGreat.Abs

section ops
variable {P : Program} {G : Nat} {ρ : Ren} {σ σ' : AS} {w : World} {r : Regs} {a : Act}

/-- The operands' values, related. -/
def OpRel (G : Nat) (ρ : Ren) (r : Regs) (a : Act) (xs : Array Operand) : Prop := ∀ x ∈ xs.toList, ∀ v, aev G r x = some v → VRel ρ v (a.eval x)

theorem OpRel.of_regs {xs : Array Operand} (hR : R G ρ σ w) (hr : RegsRel ρ r a.tmps) : OpRel G ρ r a xs := fun _ _ _ h => aev_sound h hR hr

theorem aevs_rel : ∀ {l : List Operand} {vs : List Value}, aevs G r l = some vs → (∀ x ∈ l, ∀ v, aev G r x = some v → VRel ρ v (a.eval x)) → LRel (VRel ρ) vs (l.map a.eval)
  | [], vs, h, _ => by cases h; trivial
  | x :: l, vs, h, hr => by
    simp only [aevs] at h
    split at h
    · cases h
    · rename_i v hv
      split at h
      · cases h
      · rename_i us hu
        cases h
        exact ⟨hr x (by simp) v hv, aevs_rel hu fun y hy => hr y (by simp [hy])⟩

theorem aparts_rel : ∀ {l : List (Nat × Operand)} {vs : List (Nat × Value)}, aparts G r l = some vs → (∀ x ∈ l, ∀ v, aev G r x.2 = some v → VRel ρ v (a.eval x.2)) →
    LRel (fun p q => p.1 = q.1 ∧ VRel ρ p.2 q.2) vs (l.map fun x => (x.1, a.eval x.2))
  | [], vs, h, _ => by cases h; trivial
  | x :: l, vs, h, hr => by
    simp only [aparts] at h
    split at h
    · cases h
    · rename_i v hv
      split at h
      · cases h
      · rename_i us hu
        cases h
        exact ⟨⟨rfl, hr x (by simp) v hv⟩, aparts_rel hu fun y hy => hr y (by simp [hy])⟩

theorem aopt_rel {x : Option Operand} {v : Option Value} (h : aopt G r x = some v) (hr : ∀ y, x = some y → ∀ v, aev G r y = some v → VRel ρ v (a.eval y)) : optRel ρ v (x.map a.eval) := by
  cases x with
  | none => cases h; trivial
  | some x =>
    simp only [aopt] at h
    split at h
    · cases h
    · rename_i u hu
      cases h
      exact hr x rfl u hu

theorem aOp_sound {o : Oper} {v : Value} (h : aOp P G r σ o.op = some (v, σ')) (hR : R G ρ σ w) (hr : OpRel G ρ r a o.op.operands) : OpOk P G ρ σ w v σ' (execOp a.eval o) := by
  obtain ⟨dst, op, ty, pos, aft, guard⟩ := o
  dsimp only at h hr
  unfold OpRel at hr
  cases op <;> try (cases h; done)
  case move x =>
    obtain ⟨hq, rfl⟩ := ann_some h
    exact ⟨a.eval x, ρ, w, .inl rfl, hr x (by simp [Op.operands]) v hq, .refl hR⟩
  case assign x =>
    obtain ⟨hq, rfl⟩ := ann_some h
    exact ⟨a.eval x, ρ, w, .inl rfl, hr x (by simp [Op.operands]) v hq, .refl hR⟩
  case pick c x y =>
    simp only [aOp, opPick, opAlloc, opBox, opBuild, opBuildSlice, opLoad, opStore, opNil, opBin, opUn, opConvert, opIface, opFunc, opMapR, opMakeSlice, opSlice, opFieldAddr, opField, opIndexAddr, opIndex, opLookup, opUpdate, opExtract, opCall] at h
    split at h
    · rename_i t u1 u2 h1 h2 h3
      cases h
      have hc := vrel_bool.1 (hr c (by simp [Op.operands]) _ h1)
      have hx := hr x (by simp [Op.operands]) _ h2
      have hy := hr y (by simp [Op.operands]) _ h3
      refine ⟨if t then a.eval x else a.eval y, ρ, w, .inl ?_, ?_, .refl hR⟩
      · simp [execOp, hc, asBool]
      · cases t
        · exact hy
        · exact hx
    · cases h
  case alloc elem =>
    simp only [aOp, opPick, opAlloc, opBox, opBuild, opBuildSlice, opLoad, opStore, opNil, opBin, opUn, opConvert, opIface, opFunc, opMapR, opMakeSlice, opSlice, opFieldAddr, opField, opIndexAddr, opIndex, opLookup, opUpdate, opExtract, opCall] at h
    split at h
    · rename_i inf hi
      split at h
      · rename_i z hz
        split at h
        · rename_i hf
          cases h
          obtain ⟨τ, h1, h2, h3⟩ := newRow_sound (P := P) (elem := elem) hR (flat_self (ρ := ρ) hf)
          refine ⟨_, τ, _, .inl ?_, vrel_ptr.2 ⟨_, h3, rfl, rfl⟩, h2⟩
          simp [execOp, Instr.alloc, run_zeroValue' hi hz, newVar, h1]
        · cases h
      · cases h
    · cases h
  case box elem x =>
    simp only [aOp, opPick, opAlloc, opBox, opBuild, opBuildSlice, opLoad, opStore, opNil, opBin, opUn, opConvert, opIface, opFunc, opMapR, opMakeSlice, opSlice, opFieldAddr, opField, opIndexAddr, opIndex, opLookup, opUpdate, opExtract, opCall] at h
    split at h
    · rename_i u hu
      cases h
      have hx := hr x (by simp [Op.operands]) _ hu
      obtain ⟨τ, h1, h2, h3⟩ := newRow_sound (P := P) (elem := elem) hR hx.cells
      refine ⟨_, τ, _, .inl ?_, vrel_ptr.2 ⟨_, h3, rfl, rfl⟩, h2⟩
      simp [execOp, Instr.box, newVar, h1]
    · cases h
  case build t parts =>
    simp only [aOp, opPick, opAlloc, opBox, opBuild, opBuildSlice, opLoad, opStore, opNil, opBin, opUn, opConvert, opIface, opFunc, opMapR, opMakeSlice, opSlice, opFieldAddr, opField, opIndexAddr, opIndex, opLookup, opUpdate, opExtract, opCall] at h
    split at h
    · rename_i ps hps
      obtain ⟨hq, rfl⟩ := ann_some h
      have hp := aparts_rel (ρ := ρ) (a := a) hps fun x hx => hr x.2 (by simp [Op.operands]; exact ⟨_, by simpa using hx⟩)
      obtain ⟨v', h1, h2⟩ := aBuild_sound (P := P) (w := w) (qs := parts.map fun (i, x) => (i, a.eval x)) hq (by simpa using hp)
      exact .same hR h1 h2
    · cases h
  case buildSlice t len parts =>
    simp only [aOp, opPick, opAlloc, opBox, opBuild, opBuildSlice, opLoad, opStore, opNil, opBin, opUn, opConvert, opIface, opFunc, opMapR, opMakeSlice, opSlice, opFieldAddr, opField, opIndexAddr, opIndex, opLookup, opUpdate, opExtract, opCall] at h
    split at h
    · rename_i ps hps
      have hp := aparts_rel (ρ := ρ) (a := a) hps fun x hx => hr x.2 (by simp [Op.operands]; exact ⟨_, by simpa using hx⟩)
      obtain ⟨v', τ, w', h1, h2, h3⟩ := aBuildSlice_sound (P := P) (w := w) (qs := parts.map fun (i, x) => (i, a.eval x)) h hR (by simpa using hp)
      exact .val h1 h2 h3
    · cases h
  case load t x =>
    simp only [aOp, opPick, opAlloc, opBox, opBuild, opBuildSlice, opLoad, opStore, opNil, opBin, opUn, opConvert, opIface, opFunc, opMapR, opMakeSlice, opSlice, opFieldAddr, opField, opIndexAddr, opIndex, opLookup, opUpdate, opExtract, opCall] at h
    split at h
    · rename_i u hu
      obtain ⟨hq, rfl⟩ := ann_some h
      obtain ⟨v', h1, h2⟩ := aLoad_sound (P := P) hq hR (hr x (by simp [Op.operands]) _ hu)
      exact .same hR h1 h2
    · cases h
  case store t x y =>
    simp only [aOp, opPick, opAlloc, opBox, opBuild, opBuildSlice, opLoad, opStore, opNil, opBin, opUn, opConvert, opIface, opFunc, opMapR, opMakeSlice, opSlice, opFieldAddr, opField, opIndexAddr, opIndex, opLookup, opUpdate, opExtract, opCall] at h
    split at h
    · rename_i p u hp hu
      obtain ⟨hq, rfl⟩ := unn_some h
      obtain ⟨w', h1, h2⟩ := aStore_sound (P := P) hq hR (hr x (by simp [Op.operands]) _ hp) (hr y (by simp [Op.operands]) _ hu)
      exact .unit h1 h2
    · cases h
  case nilCheck x =>
    simp only [aOp, opPick, opAlloc, opBox, opBuild, opBuildSlice, opLoad, opStore, opNil, opBin, opUn, opConvert, opIface, opFunc, opMapR, opMakeSlice, opSlice, opFieldAddr, opField, opIndexAddr, opIndex, opLookup, opUpdate, opExtract, opCall] at h
    split at h
    · rename_i y hu
      cases h
      have hx := hr x (by simp [Op.operands]) _ hu
      obtain ⟨b, _, _, e⟩ := vrel_ptr.1 hx
      exact ⟨a.eval x, ρ, w, .inl (by simp [execOp, e]), hx, .refl hR⟩
    · rename_i f b c hu
      cases h
      have hx := hr x (by simp [Op.operands]) _ hu
      obtain ⟨_, _, _, _, e⟩ := vrel_func.1 hx
      exact ⟨a.eval x, ρ, w, .inl (by simp [execOp, e]), hx, .refl hR⟩
    · rename_i t u hu
      cases h
      have hx := hr x (by simp [Op.operands]) _ hu
      obtain ⟨_, _, e⟩ := vrel_iface.1 hx
      exact ⟨a.eval x, ρ, w, .inl (by simp [execOp, e]), hx, .refl hR⟩
    · cases h
  case binOp op t x y yt =>
    simp only [aOp, opPick, opAlloc, opBox, opBuild, opBuildSlice, opLoad, opStore, opNil, opBin, opUn, opConvert, opIface, opFunc, opMapR, opMakeSlice, opSlice, opFieldAddr, opField, opIndexAddr, opIndex, opLookup, opUpdate, opExtract, opCall] at h
    split at h
    · rename_i u1 u2 h1 h2
      obtain ⟨hq, rfl⟩ := ann_some h
      obtain ⟨v', h3, h4⟩ := aBin_sound (w := w) hq (hr x (by simp [Op.operands]) _ h1) (hr y (by simp [Op.operands]) _ h2)
      exact .same hR h3 h4
    · cases h
  case unOp op t x =>
    simp only [aOp, opPick, opAlloc, opBox, opBuild, opBuildSlice, opLoad, opStore, opNil, opBin, opUn, opConvert, opIface, opFunc, opMapR, opMakeSlice, opSlice, opFieldAddr, opField, opIndexAddr, opIndex, opLookup, opUpdate, opExtract, opCall] at h
    split at h
    · rename_i u hu
      split at h
      · rename_i hf
        obtain ⟨hq, rfl⟩ := ann_some h
        obtain ⟨h1, h2⟩ := flatO_some hq
        have hx := (vrel_flat hf).1 (hr x (by simp [Op.operands]) _ hu)
        refine .same (v' := v) (s := Op.unary op (a.eval x)) hR ?_ ((vrel_flat h2).2 rfl)
        rw [hx]; exact asPure_run h1
      · cases h
    · cases h
  case convert s d x =>
    simp only [aOp, opPick, opAlloc, opBox, opBuild, opBuildSlice, opLoad, opStore, opNil, opBin, opUn, opConvert, opIface, opFunc, opMapR, opMakeSlice, opSlice, opFieldAddr, opField, opIndexAddr, opIndex, opLookup, opUpdate, opExtract, opCall] at h
    split at h
    · rename_i u hu
      split at h
      · rename_i hf
        obtain ⟨hq, rfl⟩ := ann_some h
        obtain ⟨h1, h2⟩ := flatO_some hq
        have hx := (vrel_flat1 hf).1 (hr x (by simp [Op.operands]) _ hu)
        refine .same (v' := v) (s := convert s d (a.eval x)) hR ?_ ((vrel_flat h2).2 rfl)
        rw [hx]; exact asPure_run h1
      · split at h
        · rename_i hby
          obtain ⟨hq, rfl⟩ := ann_some h
          obtain ⟨v', h3, h4, h5⟩ := aBytes_sound (P := P) (w := w) hq hR (hr x (by simp [Op.operands]) _ hu)
          exact .same (s := convert s d (a.eval x)) hR (by rw [isBytes_run hby h5]; exact h3) h4
        · cases h
    · cases h
  case makeInterface t x =>
    simp only [aOp, opPick, opAlloc, opBox, opBuild, opBuildSlice, opLoad, opStore, opNil, opBin, opUn, opConvert, opIface, opFunc, opMapR, opMakeSlice, opSlice, opFieldAddr, opField, opIndexAddr, opIndex, opLookup, opUpdate, opExtract, opCall] at h
    split at h
    · cases h
    · rename_i u d hne hu hd
      cases h
      have hx := hr x (by simp [Op.operands]) _ hu
      refine .same (v' := .iface t (a.eval x)) (s := Instr.makeInterface t (a.eval x)) hR ?_ (vrel_iface.2 ⟨_, hx, rfl⟩)
      unfold Instr.makeInterface
      rw [Sem.run_bind, run_underlying' hd, Result.andThen_ok]
      cases d <;> first | rfl | exact (hne _ rfl).elim
    · cases h
  case makeFunc fn first captured =>
    simp only [aOp, opPick, opAlloc, opBox, opBuild, opBuildSlice, opLoad, opStore, opNil, opBin, opUn, opConvert, opIface, opFunc, opMapR, opMakeSlice, opSlice, opFieldAddr, opField, opIndexAddr, opIndex, opLookup, opUpdate, opExtract, opCall] at h
    split at h
    · rename_i f c hf hc
      cases h
      have h1 := aevs_rel (ρ := ρ) (a := a) hf fun x hx => hr x (by simp [Op.operands]; exact .inl (by simpa using hx))
      have h2 := aevs_rel (ρ := ρ) (a := a) hc fun x hx => hr x (by simp [Op.operands]; exact .inr (by simpa using hx))
      refine .same (v' := .func fn (first.map a.eval) (captured.map a.eval)) (s := Instr.makeFunc fn (first.map a.eval) (captured.map a.eval)) hR rfl ?_
      exact vrel_func.2 ⟨_, _, h1, h2, by simp [← Array.toList_map]⟩
    · cases h
  case range t x =>
    simp only [aOp, opRange] at h
    split at h
    · rename_i s hd hu
      cases h
      have hx := vrel_string.1 (hr x (by simp [Op.operands]) _ hu)
      have hb : BRel (ρ.add σ.next w.heap.size (0, 0)) σ.next ⟨4, 0, 0, [.string s], []⟩ (.stringIter s 0) := ⟨s, rfl, rfl⟩
      refine .val (s := Instr.range t (a.eval x)) (v' := .pointer (some ⟨w.heap.size, 0, none⟩)) ?_ (vrel_ptr.2 ⟨w.heap.size, by simp [Ren.add], rfl, rfl⟩) (Sim.alloc hR (0, 0) hb)
      simp [Instr.range, run_underlying' hd, hx]
    · cases h
  case next it st =>
    simp only [aOp, opNext] at h
    split at h
    · rename_i p hu
      split at h
      · rename_i hk
        simp only [Bool.and_eq_true, Nat.beq_eq] at hk
        split at h
        · rename_i s hs
          obtain ⟨b, hb, _, he⟩ := vrel_ptr.1 (hr it (by simp [Op.operands]) _ hu)
          obtain ⟨_, o, ho, hB⟩ := hR.blk _ b hb
          unfold BRel at hB
          rw [hk.2] at hB
          obtain ⟨s', h1, rfl⟩ := hB
          rw [hs] at h1
          obtain rfl : s = s' := by simpa using h1
          have hget : (getObj b).run P w = .ok (.stringIter s (σ.get p.block).esz) w := by simp [getObj, Sem.run, ho]
          have hset : ∀ o', (setObj b o').run P w = .ok () { w with heap := w.heap.setIfInBounds b o' } := fun o' => by simp [setObj, Sem.run, ho]
          split at h
          · rename_i hlt
            rw [Nat.blt_eq] at hlt
            cases h
            refine .val (s := Instr.next (a.eval it) true ty) (v' := .tuple #[.bool true, goInt (σ.get p.block).esz, .int .i32 (Utf8.decode s (σ.get p.block).esz).1]) (w' := { w with heap := w.heap.setIfInBounds b (.stringIter s ((σ.get p.block).esz + (Utf8.decode s (σ.get p.block).esz).2)) }) ?_
              ((vrel_flat rfl).2 rfl) (Sim.put hR hb (by omega) rfl ⟨rfl, rfl⟩ ⟨s, rfl, rfl⟩)
            rw [he]
            simp [Instr.next, hk.1, hget, hset, hlt]
          · rename_i hlt
            rw [Nat.blt_eq] at hlt
            cases h
            refine .same (s := Instr.next (a.eval it) true ty) (v' := .tuple #[.bool false]) hR ?_ ((vrel_flat rfl).2 rfl)
            rw [he]
            simp [Instr.next, hk.1, hget, hlt]
        · cases h
      · cases h
    · cases h
  case makeMap t res =>
    have hb : BRel (ρ.add σ.next w.heap.size (0, 0)) σ.next ⟨3, 0, 0, [], []⟩ (.map #[] 0) := ⟨#[], 0, rfl, trivial, rfl, rfl⟩
    have fin : OpOk P G ρ σ w (.map (some σ.next)) (σ.new ⟨3, 0, 0, [], []⟩) (do pure (.value (.map (some (← newObj (.map #[] 0)))))) :=
      ⟨_, _, _, .inl (by simp), vrel_map.2 ⟨w.heap.size, by simp [Ren.add], rfl⟩, Sim.alloc hR (0, 0) hb⟩
    cases res with
    | none =>
      cases h
      obtain ⟨v', τ, w', h1, h2, h3⟩ := fin
      exact ⟨v', τ, w', by simpa [execOp, Instr.makeMap] using h1, h2, h3⟩
    | some x =>
      simp only [aOp, opPick, opAlloc, opBox, opBuild, opBuildSlice, opLoad, opStore, opNil, opBin, opUn, opConvert, opIface, opFunc, opMapR, opMakeSlice, opSlice, opFieldAddr, opField, opIndexAddr, opIndex, opLookup, opUpdate, opExtract, opCall] at h
      split at h
      · rename_i k e kk n hd hu
        cases h
        have hx := vrel_int.1 (hr x (by simp [Op.operands]) _ hu)
        obtain ⟨v', τ, w', h1, h2, h3⟩ := fin
        exact ⟨v', τ, w', by simpa [execOp, Instr.makeMap, run_underlying' hd, asInt, asIntOf, hx] using h1, h2, h3⟩
      · cases h
  case makeSlice t l c =>
    simp only [aOp, opPick, opAlloc, opBox, opBuild, opBuildSlice, opLoad, opStore, opNil, opBin, opUn, opConvert, opIface, opFunc, opMapR, opMakeSlice, opSlice, opFieldAddr, opField, opIndexAddr, opIndex, opLookup, opUpdate, opExtract, opCall] at h
    split at h
    · rename_i u1 u2 h1 h2
      obtain ⟨v', τ, w', h3, h4, h5⟩ := aMakeSlice_sound (P := P) (w := w) h hR (hr l (by simp [Op.operands]) _ h1) (hr c (by simp [Op.operands]) _ h2)
      exact .val h3 h4 h5
    · cases h
  case slice t x lo hi mx =>
    simp only [aOp, opPick, opAlloc, opBox, opBuild, opBuildSlice, opLoad, opStore, opNil, opBin, opUn, opConvert, opIface, opFunc, opMapR, opMakeSlice, opSlice, opFieldAddr, opField, opIndexAddr, opIndex, opLookup, opUpdate, opExtract, opCall] at h
    split at h
    · rename_i u l hh m hu h1 h2 h3
      obtain ⟨hq, rfl⟩ := ann_some h
      obtain ⟨v', h4, h5⟩ := aSlice_sound (P := P) (w := w) hq hR (hr x (by simp [Op.operands]) _ hu)
        (aopt_rel h1 fun y hy => hr y (by simp [Op.operands, hy])) (aopt_rel h2 fun y hy => hr y (by simp [Op.operands, hy])) (aopt_rel h3 fun y hy => hr y (by simp [Op.operands, hy]))
      exact .same hR h4 h5
    · cases h
  case fieldAddr s x f =>
    simp only [aOp, opPick, opAlloc, opBox, opBuild, opBuildSlice, opLoad, opStore, opNil, opBin, opUn, opConvert, opIface, opFunc, opMapR, opMakeSlice, opSlice, opFieldAddr, opField, opIndexAddr, opIndex, opLookup, opUpdate, opExtract, opCall] at h
    split at h
    · rename_i u hu
      obtain ⟨hq, rfl⟩ := ann_some h
      obtain ⟨v', h1, h2⟩ := aField_sound (P := P) (w := w) hq (hr x (by simp [Op.operands]) _ hu)
      exact .same hR h1 h2
    · cases h
  case field t x f =>
    simp only [aOp, opPick, opAlloc, opBox, opBuild, opBuildSlice, opLoad, opStore, opNil, opBin, opUn, opConvert, opIface, opFunc, opMapR, opMakeSlice, opSlice, opFieldAddr, opField, opIndexAddr, opIndex, opLookup, opUpdate, opExtract, opCall] at h
    split at h
    · rename_i u hu
      obtain ⟨hq, rfl⟩ := ann_some h
      obtain ⟨v', h1, h2⟩ := aFieldOf_sound (P := P) (w := w) hq (hr x (by simp [Op.operands]) _ hu)
      exact .same hR h1 h2
    · cases h
  case indexAddr t x ix =>
    simp only [aOp, opPick, opAlloc, opBox, opBuild, opBuildSlice, opLoad, opStore, opNil, opBin, opUn, opConvert, opIface, opFunc, opMapR, opMakeSlice, opSlice, opFieldAddr, opField, opIndexAddr, opIndex, opLookup, opUpdate, opExtract, opCall] at h
    split at h
    · rename_i u1 u2 h1 h2
      obtain ⟨hq, rfl⟩ := ann_some h
      obtain ⟨v', h3, h4⟩ := aIndexAddr_sound (P := P) (w := w) hq (hr x (by simp [Op.operands]) _ h1) (hr ix (by simp [Op.operands]) _ h2)
      exact .same hR h3 h4
    · cases h
  case index t x ix =>
    simp only [aOp, opPick, opAlloc, opBox, opBuild, opBuildSlice, opLoad, opStore, opNil, opBin, opUn, opConvert, opIface, opFunc, opMapR, opMakeSlice, opSlice, opFieldAddr, opField, opIndexAddr, opIndex, opLookup, opUpdate, opExtract, opCall] at h
    split at h
    · rename_i u1 u2 h1 h2
      obtain ⟨hq, rfl⟩ := ann_some h
      obtain ⟨v', h3, h4⟩ := aIndexOf_sound (P := P) (w := w) hq (hr x (by simp [Op.operands]) _ h1) (hr ix (by simp [Op.operands]) _ h2)
      exact .same hR h3 h4
    · cases h
  case lookup t x ix ok =>
    simp only [aOp, opPick, opAlloc, opBox, opBuild, opBuildSlice, opLoad, opStore, opNil, opBin, opUn, opConvert, opIface, opFunc, opMapR, opMakeSlice, opSlice, opFieldAddr, opField, opIndexAddr, opIndex, opLookup, opUpdate, opExtract, opCall] at h
    split at h
    · rename_i u1 u2 h1 h2
      obtain ⟨hq, rfl⟩ := ann_some h
      obtain ⟨v', h3, h4⟩ := aLookup_sound (P := P) (w := w) hq hR (hr x (by simp [Op.operands]) _ h1) (hr ix (by simp [Op.operands]) _ h2)
      exact .same hR h3 h4
    · cases h
  case mapUpdate t m k x =>
    simp only [aOp, opPick, opAlloc, opBox, opBuild, opBuildSlice, opLoad, opStore, opNil, opBin, opUn, opConvert, opIface, opFunc, opMapR, opMakeSlice, opSlice, opFieldAddr, opField, opIndexAddr, opIndex, opLookup, opUpdate, opExtract, opCall] at h
    split at h
    · rename_i u1 u2 u3 h1 h2 h3
      obtain ⟨hq, rfl⟩ := unn_some h
      obtain ⟨w', h4, h5⟩ := aUpdate_sound (P := P) (w := w) hq hR (hr m (by simp [Op.operands]) _ h1) (hr k (by simp [Op.operands]) _ h2) (hr x (by simp [Op.operands]) _ h3)
      exact .unit h4 h5
    · cases h
  case insert t m k x =>
    simp only [aOp, opPick, opAlloc, opBox, opBuild, opBuildSlice, opLoad, opStore, opNil, opBin, opUn, opConvert, opIface, opFunc, opMapR, opMakeSlice, opSlice, opFieldAddr, opField, opIndexAddr, opIndex, opLookup, opUpdate, opExtract, opCall] at h
    split at h
    · rename_i u1 u2 u3 h1 h2 h3
      obtain ⟨hq, rfl⟩ := unn_some h
      obtain ⟨w', h4, h5⟩ := aUpdate_sound (P := P) (w := w) hq hR (hr m (by simp [Op.operands]) _ h1) (hr k (by simp [Op.operands]) _ h2) (hr x (by simp [Op.operands]) _ h3)
      exact .unit h4 h5
    · cases h
  case mapEntry t m k =>
    simp only [aOp, opEntry] at h
    split at h
    · rename_i u1 u2 h1 h2
      obtain ⟨v', w', h3, h4, h5⟩ := aEntry_sound (P := P) (w := w) h hR (hr m (by simp [Op.operands]) _ h1) (hr k (by simp [Op.operands]) _ h2)
      exact .val h3 h4 h5
    · cases h
  case entryStore t m s x =>
    simp only [aOp, opEntryStore] at h
    split at h
    · rename_i u1 u2 u3 h1 h2 h3
      obtain ⟨hq, rfl⟩ := unn_some h
      obtain ⟨w', h4, h5⟩ := aEntryStore_sound (P := P) (w := w) (t := t) hq hR (hr m (by simp [Op.operands]) _ h1) (hr s (by simp [Op.operands]) _ h2) (hr x (by simp [Op.operands]) _ h3)
      exact .unit h4 h5
    · cases h
  case extract t ix =>
    simp only [aOp, opPick, opAlloc, opBox, opBuild, opBuildSlice, opLoad, opStore, opNil, opBin, opUn, opConvert, opIface, opFunc, opMapR, opMakeSlice, opSlice, opFieldAddr, opField, opIndexAddr, opIndex, opLookup, opUpdate, opExtract, opCall] at h
    split at h
    · rename_i vs hu
      split at h
      · rename_i u hix
        cases h
        obtain ⟨ds, hl, e⟩ := vrel_tuple.1 (hr t (by simp [Op.operands]) _ hu)
        obtain ⟨u', h1, h2⟩ := hl.get ix (by simpa using hix)
        refine .same (v' := u') (s := Instr.extract (a.eval t) ix) hR ?_ h2
        simp [e, Instr.extract, h1]
      · cases h
    · cases h
  case call c =>
    obtain ⟨callee, args, argTypes⟩ := c
    simp only [aOp, opPick, opAlloc, opBox, opBuild, opBuildSlice, opLoad, opStore, opNil, opBin, opUn, opConvert, opIface, opFunc, opMapR, opMakeSlice, opSlice, opFieldAddr, opField, opIndexAddr, opIndex, opLookup, opUpdate, opExtract, opCall] at h
    cases callee with
    | builtin b =>
      simp only [] at h
      split at h
      · rename_i vs hvs
        have h1 := aevs_rel (ρ := ρ) (a := a) hvs fun x hx => hr x (by simp [Op.operands, Call.operands]; simpa using hx)
        have h2 := aBuiltin_sound (ty := ty) (consts := args.map fun | .const _ => true | _ => false) h hR h1
        obtain ⟨v', τ, w', h3, h4, h5⟩ := h2
        refine ⟨v', τ, w', ?_, h4, h5⟩
        have e : execOp a.eval ⟨dst, .call ⟨.builtin b, args, argTypes⟩, ty, pos, aft, guard⟩ = builtin b argTypes ty (args.map fun | .const _ => true | _ => false) (args.map a.eval) := rfl
        rw [e]
        have e2 : (List.map a.eval args.toList).toArray = args.map a.eval := by simp [← Array.toList_map]
        rw [e2] at h3
        exact h3
      · cases h
    | value f => cases h
    | invoke x m => cases h

end ops
end Go.Proofs.YtacpdefmnijhnaaGreat.Abs
