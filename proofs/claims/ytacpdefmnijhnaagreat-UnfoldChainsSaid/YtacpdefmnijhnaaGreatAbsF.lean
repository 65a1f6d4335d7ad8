/- The operations on maps; append; what builds structs and slices; comparisons; the builtins. -/
import Derived.Test.YtacpdefmnijhnaaGreatAbsE
set_option linter.unusedSimpArgs false
set_option linter.unusedVariables false
namespace Go.Proofs.YtacpdefmnijhnaaGreat.Abs

theorem LRel.modify {α β : Type} {R : α → β → Prop} {f : β → β} {a : α} : ∀ (i : Nat) {l : List α} {m : List β}, LRel R l m → (∀ b, m[i]? = some b → R a (f b)) → LRel R (l.set i a) (m.modify i f)
  | _, [], [], _, _ => by simp [LRel]
  | 0, _ :: _, b :: _, h, hf => ⟨hf b (by simp), h.2⟩
  | i + 1, _ :: _, _ :: _, h, hf => ⟨h.1, LRel.modify i h.2 fun b hb => hf b (by simpa using hb)⟩
  | _, [], _ :: _, h, _ => h.elim
  | _, _ :: _, [], h, _ => h.elim

theorem LRel.erase {α β : Type} {R : α → β → Prop} : ∀ (i : Nat) {l : List α} {m : List β}, LRel R l m → LRel R (l.eraseIdx i) (m.eraseIdx i)
  | _, [], [], _ => by simp [LRel]
  | 0, _ :: _, _ :: _, h => h.2
  | i + 1, _ :: _, _ :: _, h => ⟨h.1, LRel.erase i h.2⟩
  | _, [], _ :: _, h => h.elim
  | _, _ :: _, [], h => h.elim

section ops
variable {P : Program} {G : Nat} {ρ : Ren} {σ σ' : AS} {w : World} {r : Regs} {a : Act}

theorem sameNow_flat {d : TypeDesc} {k x : Value} {b : Bool} (h : Instr.sameNow d k x = some b) : flat1 k = true ∧ flat1 x = true := by
  unfold Instr.sameNow at h
  split at h <;> first | exact ⟨rfl, rfl⟩ | cases h

theorem bytes_eq {s t : ByteArray} (h : (s == t) = true) : s = t := by
  cases s; cases t
  have h : ByteArray.beq (ByteArray.mk _) (ByteArray.mk _) = true := h
  unfold ByteArray.beq at h
  simp at h
  rw [h]

theorem bytes_refl (s : ByteArray) : (s == s) = true := by
  have h : ByteArray.beq s s = true := by unfold ByteArray.beq; simp
  exact h

theorem sameNow_true {d : TypeDesc} {k x : Value} (h : Instr.sameNow d k x = some true) : ∀ n, Instr.sameBits n x k = true := by
  intro n
  unfold Instr.sameNow at h
  split at h
  · split at h
    · rename_i e
      subst e
      simp only [Option.some.injEq, beq_iff_eq] at h
      subst h
      cases n <;> simp [Instr.sameBits]
    · cases h
  · simp only [Option.some.injEq] at h
    obtain rfl := bytes_eq h
    cases n <;> simp [Instr.sameBits, bytes_refl]
  · simp only [Option.some.injEq, beq_iff_eq] at h
    subst h
    cases n <;> simp [Instr.sameBits]
  · cases h

theorem aFind_none {d : TypeDesc} {k k' : Value} : ∀ {l : List (Value × Value)} {m : List MapEntry} {i : Nat}, aFind d k l i = some none → LRel (ERel ρ) l m → VRel ρ k k' →
    Instr.findNow d k' m i = some none
  | [], [], _, _, _, _ => rfl
  | e :: l, f :: m, i, h, hl, hk => by
    simp only [aFind] at h
    split at h
    · cases h
    · rename_i hs
      obtain ⟨f1, f2⟩ := sameNow_flat hs
      obtain rfl := (vrel_flat1 f1).1 hk
      have e2 := (vrel_flat1 f2).1 hl.1.1
      simp only [Instr.findNow, e2, hs]
      exact aFind_none h hl.2 hk
    · cases h
  | [], _ :: _, _, _, h, _ => h.elim
  | _ :: _, [], _, _, h, _ => h.elim

theorem aFind_some {d : TypeDesc} {k k' v : Value} {j : Nat} : ∀ {l : List (Value × Value)} {m : List MapEntry} {i : Nat}, aFind d k l i = some (some (j, v)) → LRel (ERel ρ) l m → VRel ρ k k' →
    ∃ v' e, Instr.findNow d k' m i = some (some (j, v')) ∧ VRel ρ v v' ∧ i ≤ j ∧ m[j - i]? = some e ∧ k' = k ∧ (∀ n, Instr.sameBits n e.key k = true)
  | [], _, _, h, _, _ => by cases h
  | e :: l, f :: m, i, h, hl, hk => by
    simp only [aFind] at h
    split at h
    · rename_i hs
      obtain ⟨f1, f2⟩ := sameNow_flat hs
      obtain rfl := (vrel_flat1 f1).1 hk
      have e2 := (vrel_flat1 f2).1 hl.1.1
      cases h
      refine ⟨f.val, f, ?_, hl.1.2, Nat.le_refl _, by simp, rfl, ?_⟩
      · simp only [Instr.findNow, e2, hs]
      · rw [e2]; exact sameNow_true hs
    · rename_i hs
      obtain ⟨f1, f2⟩ := sameNow_flat hs
      obtain rfl := (vrel_flat1 f1).1 hk
      have e2 := (vrel_flat1 f2).1 hl.1.1
      obtain ⟨v', e', h1, h2, h3, h4, h5, h6⟩ := aFind_some h hl.2 hk
      refine ⟨v', e', ?_, h2, by omega, ?_, rfl, h6⟩
      · simp only [Instr.findNow, e2, hs]; exact h1
      · rw [show j - i = (j - (i + 1)) + 1 from by omega]; simpa using h4
    · cases h
  | _ :: _, [], _, _, h, _ => h.elim

theorem run_checkKey {d : TypeDesc} {t : TypeId} {e : Bool} {k : Value} (hd : P.underlying t = some d) (hb : basicKey d = true) : (Instr.checkKey e 10000 t k).run P w = .ok () w := by
  show (Instr.checkKey e (9999 + 1) t k).run P w = _
  rw [Instr.checkKey.eq_2]
  rw [Sem.run_bind, run_underlying' hd, Result.andThen_ok]
  cases d <;> simp [basicKey] at hb <;> rfl

theorem run_findKey {d : TypeDesc} {t : TypeId} {k : Value} {es : List MapEntry} {x : Option (Nat × Value)} (hd : P.underlying t = some d) (h : Instr.findNow d k es 0 = some x) :
    (Instr.findKey t k es).run P w = .ok x w := by
  unfold Instr.findKey
  rw [Sem.run_bind, run_underlying' hd, Result.andThen_ok, h]
  rfl

theorem aFindC_none {t : TypeId} {k : Value} : ∀ {l : List (Value × Value)} {m : List MapEntry} {i : Nat}, aFindC P t k l i = some none → LRel (ERel ρ) l m → ∀ w : World,
    (Instr.findAsking t k m i).run P w = .ok none w
  | [], [], _, _, _, _ => rfl
  | e :: l, f :: m, i, h, hl, w => by
    simp only [aFindC] at h
    split at h
    · rename_i hf
      have e2 := (vrel_flat hf).1 hl.1.1
      split at h
      · split at h <;> cases h
      · rename_i hs
        rw [Instr.findAsking, e2, Sem.run_bind, asPure_run hs, Result.andThen_ok]
        exact aFindC_none h hl.2 w
      · cases h
    · cases h
  | [], _ :: _, _, _, h, _ => h.elim
  | _ :: _, [], _, _, h, _ => h.elim

theorem aFindC_some {t : TypeId} {k v : Value} {j : Nat} : ∀ {l : List (Value × Value)} {m : List MapEntry} {i : Nat}, aFindC P t k l i = some (some (j, v)) → LRel (ERel ρ) l m →
    ∃ v' e, (∀ w : World, (Instr.findAsking t k m i).run P w = .ok (some (j, v')) w) ∧ VRel ρ v v' ∧ i ≤ j ∧ m[j - i]? = some e ∧ Instr.sameBits 10000 e.key k = true
  | [], _, _, h, _ => by cases h
  | e :: l, f :: m, i, h, hl => by
    simp only [aFindC] at h
    split at h
    · rename_i hf
      have e2 := (vrel_flat hf).1 hl.1.1
      split at h
      · rename_i hs
        split at h
        · rename_i hb
          cases h
          refine ⟨f.val, f, fun w => ?_, hl.1.2, Nat.le_refl _, by simp, by rw [e2]; exact hb⟩
          rw [Instr.findAsking, e2, Sem.run_bind, asPure_run hs, Result.andThen_ok]
          rfl
        · cases h
      · rename_i hs
        obtain ⟨v', e', h1, h2, h3, h4, h5⟩ := aFindC_some h hl.2
        refine ⟨v', e', fun w => ?_, h2, by omega, ?_, h5⟩
        · rw [Instr.findAsking, e2, Sem.run_bind, asPure_run hs, Result.andThen_ok]
          exact h1 w
        · rw [show j - i = (j - (i + 1)) + 1 from by omega]; simpa using h4
      · cases h
    · cases h
  | _ :: _, [], _, _, h => h.elim

theorem findKey_agg {t : TypeId} {d : TypeDesc} {k : Value} {m : List MapEntry} {x : Option (Nat × Value)} (hd : P.underlying t = some d) (ha : aisAgg d = true)
    (h : (Instr.findAsking t k m 0).run P w = .ok x w) : (Instr.findKey t k m).run P w = .ok x w := by
  unfold Instr.findKey
  rw [Sem.run_bind, run_underlying' hd, Result.andThen_ok]
  cases m with
  | nil => exact h
  | cons e m =>
    have hs : Instr.sameNow d k e.key = none := by cases d <;> simp [aisAgg] at ha <;> rfl
    simp only [Instr.findNow, hs]
    exact h

theorem keyOk_run {t : TypeId} {k : Value} (h : keyOk P t k = true) : flat k = true ∧ ∀ (e : Bool) (w : World), (Instr.checkKey e 10000 t k).run P w = .ok () w := by
  unfold keyOk at h
  simp only [Bool.and_eq_true] at h
  obtain ⟨⟨h1, h2⟩, h3⟩ := h
  obtain ⟨u, hu⟩ := Option.isSome_iff_exists.1 h2
  obtain ⟨v, hv⟩ := Option.isSome_iff_exists.1 h3
  refine ⟨h1, fun e w => ?_⟩
  cases e
  · exact asPure_run hv
  · exact asPure_run hu

theorem aFindK_none {t : TypeId} {d : TypeDesc} {k k' : Value} {l : List (Value × Value)} {m : List MapEntry} (h : aFindK P t d k l = some none) (hd : P.underlying t = some d)
    (hl : LRel (ERel ρ) l m) (hk : VRel ρ k k') :
    (∀ (e : Bool) (w : World), (Instr.checkKey e 10000 t k').run P w = .ok () w) ∧ ∀ w : World, (Instr.findKey t k' m).run P w = .ok none w := by
  unfold aFindK at h
  split at h
  · rename_i hb
    exact ⟨fun e w => run_checkKey hd hb, fun w => run_findKey hd (aFind_none h hl hk)⟩
  · split at h
    · rename_i hc
      simp only [Bool.and_eq_true] at hc
      obtain ⟨hf, hr⟩ := keyOk_run hc.2
      obtain rfl := (vrel_flat hf).1 hk
      exact ⟨hr, fun w => findKey_agg hd hc.1 (aFindC_none h hl w)⟩
    · cases h

theorem aFindK_some {t : TypeId} {d : TypeDesc} {k k' v : Value} {j : Nat} {l : List (Value × Value)} {m : List MapEntry} (h : aFindK P t d k l = some (some (j, v))) (hd : P.underlying t = some d)
    (hl : LRel (ERel ρ) l m) (hk : VRel ρ k k') :
    ∃ v' e, (∀ (e : Bool) (w : World), (Instr.checkKey e 10000 t k').run P w = .ok () w) ∧ (∀ w : World, (Instr.findKey t k' m).run P w = .ok (some (j, v')) w) ∧ VRel ρ v v' ∧ m[j]? = some e ∧
      Instr.sameBits 10000 e.key k' = true := by
  unfold aFindK at h
  split at h
  · rename_i hb
    obtain ⟨v', e, h1, h2, _, h4, h5, h6⟩ := aFind_some h hl hk
    exact ⟨v', e, fun e w => run_checkKey hd hb, fun w => run_findKey hd h1, h2, by simpa using h4, by rw [h5]; exact h6 _⟩
  · split at h
    · rename_i hc
      simp only [Bool.and_eq_true] at hc
      obtain ⟨hf, hr⟩ := keyOk_run hc.2
      obtain rfl := (vrel_flat hf).1 hk
      obtain ⟨v', e, h1, h2, _, h4, h5⟩ := aFindC_some h hl
      exact ⟨v', e, hr, fun w => findKey_agg hd hc.1 (h1 w), h2, by simpa using h4, h5⟩
    · cases h

theorem map_of {i b : Nat} (hR : R G ρ σ w) (hi : ρ.bl i = some b) (hk : (σ.get i).kind = 3) :
    ∃ es clock, w.heap[b]? = some (.map es clock) ∧ LRel (ERel ρ) (σ.get i).ents es.toList ∧ clock = (σ.get i).esz ∧ (σ.get i).vals = es.toList.map fun e => Value.int .i64 (e.born : Int) := by
  obtain ⟨_, o, ho, hb⟩ := hR.blk i b hi
  unfold BRel at hb
  rw [hk] at hb
  obtain ⟨es, clock, rfl, h⟩ := hb
  exact ⟨es, clock, ho, h⟩

theorem run_getObj_map {b clock : Nat} {es : Array MapEntry} (h : w.heap[b]? = some (.map es clock)) : (getObj b).run P w = .ok (.map es clock) w := by
  simp [getObj, Sem.run, h]

theorem aLookup_sound {t : TypeId} {m m' k k' v : Value} {ok : Bool} (h : aLookup P σ t m k ok = some v) (hR : R G ρ σ w) (hm : VRel ρ m m') (hk : VRel ρ k k') :
    ∃ v', (Instr.lookup t m' k' ok).run P w = .ok v' w ∧ VRel ρ v v' := by
  unfold aLookup at h
  split at h
  · rename_i key elem hd
    split at h
    · rename_i d hkd
      split at h
      · rename_i es hes
        have hent : ∃ fs : Array MapEntry, ((m' = .map none ∧ fs = #[]) ∨ ∃ b cl, m' = .map (some b) ∧ w.heap[b]? = some (.map fs cl)) ∧ LRel (ERel ρ) es fs.toList := by
          unfold aEnts at hes
          split at hes
          · cases hes
            obtain rfl := vrel_map_none.1 hm
            exact ⟨#[], .inl ⟨rfl, rfl⟩, trivial⟩
          · rename_i i
            obtain ⟨b, hb, rfl⟩ := vrel_map.1 hm
            split at hes
            · rename_i hk3
              cases hes
              obtain ⟨fs, cl, h1, h2, _⟩ := map_of hR hb (Nat.eq_of_beq_eq_true hk3)
              exact ⟨fs, .inr ⟨b, cl, rfl, h1⟩, h2⟩
            · cases hes
          · cases hes
        obtain ⟨fs, hf1, hf2⟩ := hent
        have hrun : ∀ x, (∀ (e : Bool) (w : World), (Instr.checkKey e 10000 key k').run P w = .ok () w) → (∀ w : World, (Instr.findKey key k' fs.toList).run P w = .ok x w) →
            (Instr.lookup t m' k' ok).run P w =
            (match x with
              | some (_, v) => .ok (if ok then .tuple #[v, .bool true] else v) w
              | none => ((zeroValue elem).run P w).andThen fun v w => .ok (if ok then .tuple #[v, .bool false] else v) w : Result Value) := by
          intro x hc hx
          rcases hf1 with ⟨rfl, rfl⟩ | ⟨b, cl, rfl, hb⟩
          · have hx' : ∀ w : World, (Instr.findKey key k' []).run P w = .ok x w := hx
            simp [Instr.lookup, run_underlying' hd, hc, hx']
            cases x <;> simp
          · simp [Instr.lookup, run_underlying' hd, run_getObj_map hb, hc, hx]
            cases x <;> simp
        split at h
        · rename_i j u hfind
          obtain ⟨v', e, hc, h1, h2, _⟩ := aFindK_some hfind hkd hf2 hk
          cases h
          rw [hrun _ hc h1]
          cases ok
          · exact ⟨v', by simp, by simpa using h2⟩
          · exact ⟨.tuple #[v', .bool true], by simp, vrel_tuple.2 ⟨[v', .bool true], ⟨h2, vrel_bool.2 rfl, trivial⟩, rfl⟩⟩
        · rename_i hfind
          obtain ⟨hc, h1⟩ := aFindK_none hfind hkd hf2 hk
          split at h
          · rename_i inf hi
            split at h
            · rename_i z hz
              split at h
              · rename_i hfz
                cases h
                rw [hrun _ hc h1]
                cases ok
                · exact ⟨z, by simp [run_zeroValue' hi hz], by simpa using (vrel_flat hfz).2 rfl⟩
                · exact ⟨.tuple #[z, .bool false], by simp [run_zeroValue' hi hz], vrel_tuple.2 ⟨[z, .bool false], ⟨(vrel_flat hfz).2 rfl, vrel_bool.2 rfl, trivial⟩, rfl⟩⟩
              · cases h
            · cases h
          · cases h
        · cases h
      · cases h
    · cases h
  · cases h

theorem run_setObj_map {b clock : Nat} {es : Array MapEntry} {o : Obj} (h : w.heap[b]? = some (.map es clock)) :
    (setObj b o).run P w = .ok () { w with heap := w.heap.setIfInBounds b o } := by
  simp [setObj, Sem.run, h]

theorem map_modify_same {α β : Type} (g : α → β) (f : α → α) : ∀ (l : List α) (i : Nat), (∀ a, g (f a) = g a) → (l.modify i f).map g = l.map g := fun l i h => by
  apply List.ext_getElem?
  intro j
  rw [List.getElem?_map, List.getElem?_map, List.getElem?_modify]
  cases l[j]? with
  | none => rfl
  | some a => by_cases e : i = j <;> simp [e, h]

theorem List.map_eraseIdx' {α β : Type} (g : α → β) : ∀ (l : List α) (i : Nat), (l.map g).eraseIdx i = (l.eraseIdx i).map g
  | [], _ => rfl
  | _ :: _, 0 => rfl
  | a :: l, i + 1 => by simp [List.map_eraseIdx' g l i]

theorem grown_rel {i : Nat} {b : Blk} {es : Array MapEntry} {cl : Nat} {k k' v v' : Value} (hk3 : b.kind = 3) (h2 : LRel (ERel ρ) b.ents es.toList) (hcl : cl = b.esz)
    (hbo : b.vals = es.toList.map fun e => Value.int .i64 (e.born : Int)) (hk : VRel ρ k k') (hv : VRel ρ v v') : BRel ρ i (grown b k v) (.map (es.push { key := k', val := v', born := cl }) (cl + 1)) := by
  unfold BRel grown
  simp only [hk3]
  refine ⟨_, _, rfl, ?_, by rw [hcl], ?_⟩
  · rw [Array.toList_push]
    exact h2.append ⟨⟨hk, hv⟩, trivial⟩
  · rw [Array.toList_push, List.map_append, hbo, hcl]; rfl

theorem aUpdate_sound {t : TypeId} {m m' k k' v v' : Value} (h : aUpdate P σ t m k v = some σ') (hR : R G ρ σ w) (hm : VRel ρ m m') (hk : VRel ρ k k') (hv : VRel ρ v v') :
    ∃ w', (Instr.mapUpdate t m' k' v').run P w = .ok () w' ∧ Sim G ρ σ w ρ σ' w' := by
  unfold aUpdate at h
  split at h
  · rename_i key elem i hd
    obtain ⟨b, hb, rfl⟩ := vrel_map.1 hm
    split at h
    · rename_i d hkd
      split at h
      · rename_i hk3
        have hk3 := Nat.eq_of_beq_eq_true hk3
        obtain ⟨es, cl, h1, h2, hcl, hbo⟩ := map_of hR hb hk3
        have hne : (σ.get i).kind ≠ 0 := by omega
        have hrun : ∀ x, (∀ (e : Bool) (w : World), (Instr.checkKey e 10000 key k').run P w = .ok () w) → (∀ w : World, (Instr.findKey key k' es.toList).run P w = .ok x w) →
            (Instr.mapUpdate t (.map (some b)) k' v').run P w =
            ((match x with
              | some (i, _) => do
                let key ← Instr.keyThatStays (((es[i]?).map (·.key)).getD k') k'
                setObj b (.map (es.modify i fun e => { e with key, val := v' }) cl)
              | none => setObj b (.map (es.push { key := k', val := v', born := cl }) (cl + 1)) : Sem Unit)).run P w := by
          intro x hc hx
          unfold Instr.mapUpdate
          rw [Sem.run_bind, run_underlying' hd, Result.andThen_ok]
          simp only []
          rw [Sem.run_bind, run_getObj_map h1, Result.andThen_ok]
          simp only []
          rw [Sem.run_bind, hc, Result.andThen_ok, Sem.run_bind, hx, Result.andThen_ok]
          rcases x with _ | ⟨j, u⟩ <;> rfl
        split at h
        · rename_i j u hfind
          obtain ⟨v0, e, hc, f1, f2, f4, f6⟩ := aFindK_some hfind hkd h2 hk
          cases h
          rw [hrun _ hc f1]
          simp only [Array.getElem?_toList] at f4
          refine ⟨{ w with heap := w.heap.setIfInBounds b (.map (es.modify j fun e => { e with key := k', val := v' }) cl) }, ?_, ?_⟩
          · simp [f4, Instr.keyThatStays, f6, run_setObj_map h1]
          · refine Sim.put hR hb hne rfl ⟨rfl, rfl⟩ ?_
            unfold BRel; simp only [hk3]
            refine ⟨_, _, rfl, ?_, hcl, ?_⟩
            · rw [Array.toList_modify]
              exact h2.modify j fun e he => ⟨hk, hv⟩
            · rw [Array.toList_modify]; refine hbo.trans (map_modify_same _ _ _ _ ?_).symm; exact fun _ => rfl
        · rename_i hfind
          obtain ⟨hc, f1⟩ := aFindK_none hfind hkd h2 hk
          cases h
          rw [hrun _ hc f1]
          refine ⟨_, run_setObj_map h1, ?_⟩
          refine Sim.put hR hb hne rfl ⟨rfl, rfl⟩ ?_
          exact grown_rel hk3 h2 hcl hbo hk hv
        · cases h
      · cases h
    · cases h
  · cases h

theorem aEntry_sound {t : TypeId} {m m' k k' v : Value} (h : aEntry P σ t m k = some (v, σ')) (hR : R G ρ σ w) (hm : VRel ρ m m') (hk : VRel ρ k k') :
    ∃ v' w', (Instr.mapEntry t m' k').run P w = .ok v' w' ∧ VRel ρ v v' ∧ Sim G ρ σ w ρ σ' w' := by
  unfold aEntry at h
  split at h
  · rename_i key elem i hd
    obtain ⟨b, hb, rfl⟩ := vrel_map.1 hm
    split at h
    · rename_i d hkd
      split at h
      · rename_i hk3
        have hk3 := Nat.eq_of_beq_eq_true hk3
        obtain ⟨es, cl, h1, h2, hcl, hbo⟩ := map_of hR hb hk3
        have hne : (σ.get i).kind ≠ 0 := by omega
        have hrun : ∀ x, (∀ (e : Bool) (w : World), (Instr.checkKey e 10000 key k').run P w = .ok () w) → (∀ w : World, (Instr.findKey key k' es.toList).run P w = .ok x w) →
            (Instr.mapEntry t (.map (some b)) k').run P w =
            ((match x with
              | some (i, v) => do
                let key ← Instr.keyThatStays (((es[i]?).map (·.key)).getD k') k'
                setObj b (.map (es.modify i fun e => { e with key }) cl)
                pure (.tuple #[v, goInt (((es[i]?).map (·.born)).getD 0)])
              | none => do
                let zero ← zeroValue elem
                setObj b (.map (es.push { key := k', val := zero, born := cl }) (cl + 1))
                pure (.tuple #[zero, goInt cl]) : Sem Value)).run P w := by
          intro x hc hx
          unfold Instr.mapEntry
          rw [Sem.run_bind, run_underlying' hd, Result.andThen_ok]
          simp only []
          rw [Sem.run_bind, run_getObj_map h1, Result.andThen_ok]
          simp only []
          rw [Sem.run_bind, hc, Result.andThen_ok, Sem.run_bind, hx, Result.andThen_ok]
          rcases x with _ | ⟨j, u⟩ <;> rfl
        split at h
        · rename_i j u hfind
          obtain ⟨v0, e, hc, f1, f2, f4, f6⟩ := aFindK_some hfind hkd h2 hk
          split at h
          · rename_i s hs
            split at h
            · rename_i e0 he0
              cases h
              rw [hrun _ hc f1]
              have f5 : es[j]? = some e := by simpa using f4
              refine ⟨.tuple #[v0, goInt e.born], { w with heap := w.heap.setIfInBounds b (.map (es.modify j fun e => { e with key := k' }) cl) }, ?_, ?_, ?_⟩
              · simp [f5, Instr.keyThatStays, f6, run_setObj_map h1]
              · refine vrel_tuple.2 ⟨[v0, goInt e.born], ⟨f2, ?_, trivial⟩, rfl⟩
                rw [hbo, List.getElem?_map, f4] at hs
                cases hs
                exact vrel_int.2 rfl
              · refine Sim.put hR hb hne rfl ⟨rfl, rfl⟩ ?_
                unfold BRel; simp only [hk3]
                refine ⟨_, _, rfl, ?_, hcl, ?_⟩
                · rw [Array.toList_modify]
                  refine h2.modify j fun e' he' => ⟨hk, ?_⟩
                  obtain ⟨y, hy, hr⟩ := h2.get j he0
                  rw [he'] at hy
                  cases hy
                  exact hr.2
                · rw [Array.toList_modify]; refine hbo.trans (map_modify_same _ _ _ _ ?_).symm; exact fun _ => rfl
            · cases h
          · cases h
        · rename_i hfind
          obtain ⟨hc, f1⟩ := aFindK_none hfind hkd h2 hk
          split at h
          · rename_i inf hi
            split at h
            · rename_i z hz
              split at h
              · rename_i hfz
                cases h
                rw [hrun _ hc f1]
                refine ⟨.tuple #[z, goInt cl], { w with heap := w.heap.setIfInBounds b (.map (es.push { key := k', val := z, born := cl }) (cl + 1)) }, ?_, ?_, ?_⟩
                · simp [run_zeroValue' hi hz, run_setObj_map h1]
                · exact vrel_tuple.2 ⟨[z, goInt cl], ⟨(vrel_flat hfz).2 rfl, by rw [hcl]; exact vrel_int.2 rfl, trivial⟩, rfl⟩
                · refine Sim.put hR hb hne rfl ⟨rfl, rfl⟩ ?_
                  exact grown_rel hk3 h2 hcl hbo hk ((vrel_flat hfz).2 rfl)
              · cases h
            · cases h
          · cases h
        · cases h
      · cases h
    · cases h
  · cases h

theorem aIdx_find {z : Int} : ∀ (l : List MapEntry) (n : Nat), aIdx z (l.map fun e => Value.int .i64 (e.born : Int)) n = (l.findIdx? fun e => (e.born : Int) == z).map (· + n)
  | [], n => rfl
  | e :: l, n => by
    rw [List.map_cons, aIdx, List.findIdx?_cons, ieq_eq, aIdx_find l (n + 1)]
    cases hz : ((e.born : Int) == z)
    · simp only [Bool.false_eq_true, if_false, Option.map_map]
      congr 1
      funext x
      simp only [Function.comp]
      omega
    · simp

theorem aEntryStore_sound {t : TypeId} {m m' s s' v v' : Value} (h : aEntryStore σ m s v = some σ') (hR : R G ρ σ w) (hm : VRel ρ m m') (hs : VRel ρ s s') (hv : VRel ρ v v') :
    ∃ w', (Instr.entryStore t m' s' v').run P w = .ok () w' ∧ Sim G ρ σ w ρ σ' w' := by
  unfold aEntryStore at h
  split at h
  · rename_i i kk z
    obtain ⟨b, hb, rfl⟩ := vrel_map.1 hm
    obtain rfl := vrel_int.1 hs
    split at h
    · rename_i hk3
      have hk3 := Nat.eq_of_beq_eq_true hk3
      obtain ⟨es, cl, h1, h2, hcl, hbo⟩ := map_of hR hb hk3
      have hne : (σ.get i).kind ≠ 0 := by omega
      split at h
      · rename_i j hj
        split at h
        · rename_i e0 he0
          cases h
          rw [hbo, aIdx_find] at hj
          have hj' : es.findIdx? (fun e => (e.born : Int) == z) = some j := by
            rw [show es.findIdx? (fun e => (e.born : Int) == z) = es.toList.findIdx? (fun e => (e.born : Int) == z) by cases es; simp]
            cases hq : es.toList.findIdx? (fun e => (e.born : Int) == z) with
            | none => rw [hq] at hj; cases hj
            | some q => rw [hq] at hj; simpa using hj
          refine ⟨{ w with heap := w.heap.setIfInBounds b (.map (es.modify j fun e => { e with val := v' }) cl) }, ?_, ?_⟩
          · simp [Instr.entryStore, run_getObj_map h1, asInt, asIntOf, hj', run_setObj_map h1]
          · refine Sim.put hR hb hne rfl ⟨rfl, rfl⟩ ?_
            unfold BRel; simp only [hk3]
            refine ⟨_, _, rfl, ?_, hcl, ?_⟩
            · rw [Array.toList_modify]
              refine h2.modify j fun e' he' => ⟨?_, hv⟩
              obtain ⟨y, hy, hr⟩ := h2.get j he0
              rw [he'] at hy
              cases hy
              exact hr.1
            · rw [Array.toList_modify]; refine hbo.trans (map_modify_same _ _ _ _ ?_).symm; exact fun _ => rfl
        · cases h
      · cases h
    · cases h
  · cases h

theorem aLen_sound {t : TypeId} {x x' v : Value} (h : aLen P σ t x = some v) (hR : R G ρ σ w) (hx : VRel ρ x x') {at_ : Array TypeId} (hat : at_[0]? = some t) (ty : TypeId) :
    ∃ v', (Builtin.len_ at_ ty #[x']).run P w = .ok v' w ∧ VRel ρ v v' := by
  unfold aLen at h
  split at h
  · rename_i s hd
    obtain rfl := vrel_string.1 hx
    cases h
    exact ⟨goInt s.size, by simp [Builtin.len_, hat, run_underlying' hd], vrel_int.2 rfl⟩
  · rename_i n e hd
    cases h
    exact ⟨goInt n, by simp [Builtin.len_, hat, run_underlying' hd], vrel_int.2 rfl⟩
  · rename_i e base n c hd
    cases h
    cases base with
    | none =>
      obtain rfl := vrel_slice_none.1 hx
      exact ⟨goInt n, by simp [Builtin.len_, hat, run_underlying' hd], vrel_int.2 rfl⟩
    | some y =>
      obtain ⟨_, _, rfl, _⟩ := vrel_slice_shape hx
      exact ⟨goInt n, by simp [Builtin.len_, hat, run_underlying' hd], vrel_int.2 rfl⟩
  · rename_i e k hd
    cases h
    obtain ⟨a, c, rfl⟩ := vrel_chan hx
    exact ⟨goInt 0, by simp [Builtin.len_, hat, run_underlying' hd], vrel_int.2 rfl⟩
  · rename_i k e hd
    obtain rfl := vrel_map_none.1 hx
    cases h
    exact ⟨goInt 0, by simp [Builtin.len_, hat, run_underlying' hd], vrel_int.2 rfl⟩
  · rename_i k e i hd
    obtain ⟨b, hb, rfl⟩ := vrel_map.1 hx
    split at h
    · rename_i hk3
      cases h
      obtain ⟨es, cl, h1, h2, _⟩ := map_of hR hb (Nat.eq_of_beq_eq_true hk3)
      refine ⟨goInt es.size, ?_, vrel_int.2 ?_⟩
      · simp [Builtin.len_, hat, run_underlying' hd, run_getObj_map h1]
      · have := h2.length; simp at this; simp [goInt, this]
    · cases h
  · cases h

theorem aDelete_sound {t : TypeId} {m m' k k' : Value} (h : aDelete P σ t m k = some σ') (hR : R G ρ σ w) (hm : VRel ρ m m') (hk : VRel ρ k k')
    {at_ : Array TypeId} (hat : at_[0]? = some t) (ty : TypeId) :
    ∃ w', (Builtin.delete_ at_ ty #[m', k']).run P w = .ok (.tuple #[]) w' ∧ Sim G ρ σ w ρ σ' w' := by
  unfold aDelete at h
  split at h
  · rename_i key elem i hd
    obtain ⟨b, hb, rfl⟩ := vrel_map.1 hm
    split at h
    · rename_i d hkd
      split at h
      · rename_i hk3
        have hk3 := Nat.eq_of_beq_eq_true hk3
        obtain ⟨es, cl, h1, h2, hcl, hbo⟩ := map_of hR hb hk3
        have hne : (σ.get i).kind ≠ 0 := by omega
        have hrun : ∀ x, (∀ (e : Bool) (w : World), (Instr.checkKey e 10000 key k').run P w = .ok () w) → (∀ w : World, (Instr.findKey key k' es.toList).run P w = .ok x w) → (Builtin.delete_ at_ ty #[.map (some b), k']).run P w =
            ((do
              match x with
                | some (i, _) => setObj b (.map (es.eraseIdxIfInBounds i) cl)
                | none => setObj b (.map es cl)
              pure (.tuple #[]) : Sem Value)).run P w := by
          intro x hc hx
          unfold Builtin.delete_
          simp only [hat, Array.getElem?_eq_getElem, List.size_toArray, List.length_cons, List.length_nil, Nat.zero_add, Nat.reduceAdd, Nat.reduceLT, List.getElem_toArray, List.getElem_cons_zero, List.getElem_cons_succ]
          rw [Sem.run_bind, run_underlying' hd, Result.andThen_ok]
          simp [run_getObj_map h1, hc, hx]
          cases x <;> rfl
        split at h
        · rename_i j u hfind
          obtain ⟨v0, e, hc, f1, f2, f4, f6⟩ := aFindK_some hfind hkd h2 hk
          cases h
          rw [hrun _ hc f1]
          refine ⟨{ w with heap := w.heap.setIfInBounds b (.map (es.eraseIdxIfInBounds j) cl) }, ?_, ?_⟩
          · simp [run_setObj_map h1]
          · refine Sim.put hR hb hne rfl ⟨rfl, rfl⟩ ?_
            unfold BRel; simp only [hk3]
            refine ⟨_, _, rfl, ?_, hcl, ?_⟩
            · rw [Array.toList_eraseIdxIfInBounds]
              exact h2.erase j
            · rw [Array.toList_eraseIdxIfInBounds, hbo, List.map_eraseIdx']
        · rename_i hfind
          obtain ⟨hc, f1⟩ := aFindK_none hfind hkd h2 hk
          cases h
          rw [hrun _ hc f1]
          refine ⟨{ w with heap := w.heap.setIfInBounds b (.map es cl) }, by simp [run_setObj_map h1], ?_⟩
          refine Sim.of_heap (w' := w) ?_ ⟨rfl, rfl⟩ (Sim.refl hR)
          apply Array.ext_getElem?
          intro c
          rw [heap_set_get h1]
          split
          · rename_i e; subst e; exact h1.symm
          · rfl
        · cases h
      · cases h
    · cases h
  · rename_i key elem hd
    obtain rfl := vrel_map_none.1 hm
    split at h
    · rename_i d hkd
      split at h
      · rename_i hbk
        cases h
        refine ⟨w, ?_, Sim.refl hR⟩
        unfold Builtin.delete_
        simp [hat, run_underlying' hd, run_checkKey hkd hbk]
      · cases h
    · cases h
  · cases h

end ops
end Go.Proofs.YtacpdefmnijhnaaGreat.Abs
