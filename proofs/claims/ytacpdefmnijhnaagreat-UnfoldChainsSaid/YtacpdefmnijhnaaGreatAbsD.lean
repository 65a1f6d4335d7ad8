/- Each operation of the evaluator is what the model's operation does, whatever the tape answers. -/
import Derived.Test.YtacpdefmnijhnaaGreatAbsC
set_option linter.unusedSimpArgs false
set_option linter.unusedVariables false
namespace Go.Proofs.YtacpdefmnijhnaaGreat.Abs

section runs
variable {P : Program} {w : World}

theorem run_underlying' {t : TypeId} {d : TypeDesc} (h : P.underlying t = some d) : (underlying t).run P w = .ok d w := by
  simp [underlying, h]
theorem run_typeInfo' {t : TypeId} {i : TypeInfo} (h : P.info? t = some i) : (typeInfo t).run P w = .ok i w := by
  simp [typeInfo, h]
theorem run_sizeOf' {t : TypeId} {i : TypeInfo} (h : P.info? t = some i) : (sizeOf t).run P w = .ok i.size w := by
  simp [sizeOf, run_typeInfo' h]
theorem run_zeroValue' {t : TypeId} {i : TypeInfo} {z : Value} (h : P.info? t = some i) (hz : i.zero = some z) : (zeroValue t).run P w = .ok z w := by
  simp [zeroValue, run_typeInfo' h, hz]
theorem run_isAgg' {t : TypeId} {d : TypeDesc} (h : P.underlying t = some d) : (isAgg t).run P w = .ok (aisAgg d) w := by
  unfold isAgg
  rw [Sem.run_bind, run_underlying' h]
  cases d <;> rfl
end runs

theorem addr_add (b off n : Nat) : (⟨b, off, none⟩ : Addr).add n = ⟨b, off + n, none⟩ := by
  unfold Addr.add; split
  · rename_i h; subst h; rfl
  · rfl

theorem addr_add' {a : Addr} (h : a.spot = none) (n : Nat) : a.add n = ⟨a.block, a.off + n, none⟩ := by
  obtain ⟨b, o, s⟩ := a
  cases h
  exact addr_add b o n

theorem asPure_run {α : Type} {P : Program} {w : World} : ∀ {s : Sem α} {a : α}, asPure P s = some a → s.run P w = .ok a w
  | .pure _, _, h => by simp only [asPure, Option.some.injEq] at h; subst h; rfl
  | .program k, _, h => by simp only [asPure] at h; exact asPure_run (s := k P) h
  | .load _ _ _, _, h => by simp [asPure] at h
  | .store _ _ _ _, _, h => by simp [asPure] at h
  | .new _ _, _, h => by simp [asPure] at h
  | .shape _ _, _, h => by simp [asPure] at h
  | .freeze _ _ _, _, h => by simp [asPure] at h
  | .frozen _ _, _, h => by simp [asPure] at h
  | .getObj _ _, _, h => by simp [asPure] at h
  | .setObj _ _ _, _, h => by simp [asPure] at h
  | .choose _ _, _, h => by simp [asPure] at h
  | .sys _ _, _, h => by simp [asPure] at h
  | .mark _ _, _, h => by simp [asPure] at h
  | .halt _, _, h => by simp [asPure] at h

def RegsRel (ρ : Ren) (r : Regs) (tmps : Array Value) : Prop := ∀ t, VRel ρ (rget r t) (tmps.getD t undef)

theorem RegsRel.ext {ρ τ : Ren} {r : Regs} {tmps : Array Value} (hle : ρ.le τ) (h : RegsRel ρ r tmps) : RegsRel τ r tmps := fun t => (h t).ext hle

theorem isCells_iff {b : Blk} : isCells b = true ↔ b.kind = 1 ∨ b.kind = 2 := by
  simp only [isCells, Bool.or_eq_true, Nat.beq_eq]

section ops
variable {P : Program} {G : Nat} {ρ : Ren} {σ σ' : AS} {w : World} {r : Regs} {a : Act}

theorem aev_sound {x : Operand} {v : Value} (h : aev G r x = some v) (hR : R G ρ σ w) (hr : RegsRel ρ r a.tmps) : VRel ρ v (a.eval x) := by
  cases x with
  | tmp t => cases h; exact hr t
  | const c =>
    simp only [aev] at h
    split at h
    · rename_i hf; cases h; exact (vrel_flat hf).2 rfl
    · cases h
  | global g =>
    simp only [aev] at h
    split at h
    · rename_i hg; cases h; exact vrel_ptr.2 ⟨g, hR.glob g hg, rfl, rfl⟩
    · cases h
  | func f => cases h; exact vrel_func.2 ⟨[], [], trivial, trivial, rfl⟩

theorem aevs_sound : ∀ {l : List Operand} {vs : List Value}, aevs G r l = some vs → R G ρ σ w → RegsRel ρ r a.tmps → LRel (VRel ρ) vs (l.map a.eval)
  | [], vs, h, _, _ => by cases h; trivial
  | x :: l, vs, h, hR, hr => by
    simp only [aevs] at h
    split at h
    · cases h
    · rename_i v hv
      split at h
      · cases h
      · rename_i us hu
        cases h
        exact ⟨aev_sound hv hR hr, aevs_sound hu hR hr⟩

theorem aparts_sound : ∀ {l : List (Nat × Operand)} {vs : List (Nat × Value)}, aparts G r l = some vs → R G ρ σ w → RegsRel ρ r a.tmps →
    LRel (fun p q => p.1 = q.1 ∧ VRel ρ p.2 q.2) vs (l.map fun (i, x) => (i, a.eval x))
  | [], vs, h, _, _ => by cases h; trivial
  | x :: l, vs, h, hR, hr => by
    simp only [aparts] at h
    split at h
    · cases h
    · rename_i v hv
      split at h
      · cases h
      · rename_i us hu
        cases h
        exact ⟨⟨rfl, aev_sound hv hR hr⟩, aparts_sound hu hR hr⟩

/-- The computation ends well, in a related world, with a related value. -/
def OpOk (P : Program) (G : Nat) (ρ : Ren) (σ : AS) (w : World) (v : Value) (σ' : AS) (s : Sem Next) : Prop :=
  ∃ v' τ w', (s.run P w = .ok (.value v') w' ∨ (s.run P w = .ok .skip w' ∧ v' = undef)) ∧ VRel τ v v' ∧ Sim G ρ σ w τ σ' w'

theorem OpOk.val {v : Value} {s : Sem Value} {v' : Value} {τ : Ren} {w' : World} (hs : s.run P w = .ok v' w') (hv : VRel τ v v') (hm : Sim G ρ σ w τ σ' w') :
    OpOk P G ρ σ w v σ' (do pure (.value (← s))) :=
  ⟨v', τ, w', .inl (by simp [hs]), hv, hm⟩

theorem OpOk.unit {s : Sem Unit} {τ : Ren} {w' : World} (hs : s.run P w = .ok () w') (hm : Sim G ρ σ w τ σ' w') : OpOk P G ρ σ w undef σ' (do s; pure .skip) :=
  ⟨undef, τ, w', .inr ⟨by simp [hs], rfl⟩, vrel_undef, hm⟩

/-- The same world: a value alone. -/
theorem OpOk.same {v : Value} {s : Sem Value} {v' : Value} (hR : R G ρ σ w) (hs : s.run P w = .ok v' w) (hv : VRel ρ v v') : OpOk P G ρ σ w v σ (do pure (.value (← s))) :=
  .val hs hv (.refl hR)

theorem ann_some {σ σ' : AS} {o : Option Value} {v : Value} (h : ann σ o = some (v, σ')) : o = some v ∧ σ' = σ := by
  cases o with
  | none => cases h
  | some u => cases h; exact ⟨rfl, rfl⟩

theorem unn_some {σ' : AS} {o : Option AS} {v : Value} (h : unn o = some (v, σ')) : o = some σ' ∧ v = undef := by
  cases o with
  | none => cases h
  | some u => cases h; exact ⟨rfl, rfl⟩

/-- A row of cells is laid. -/
theorem newRow_sound {elem : TypeId} {cs : List Value} {ds : Array Value} (hR : R G ρ σ w) (hc : LRel (VRel ρ) cs ds.toList) :
    ∃ τ, (newRow elem ds).run P w = .ok ⟨w.heap.size, 0, none⟩ (w.alloc (.cells ds elem)) ∧ Sim G ρ σ w τ (aRow σ elem cs) (w.alloc (.cells ds elem)) ∧ τ.bl σ.next = some w.heap.size := by
  refine ⟨ρ.add σ.next w.heap.size (0, 0), by simp [newRow], Sim.alloc hR (0, 0) ?_, by simp [Ren.add]⟩
  exact ⟨ds, (0, 0), rfl, .inl rfl, hc.mono fun _ _ h => h.ext (Ren.le_add hR.fresh)⟩

theorem newRow_ok {elem : TypeId} {cs : List Value} {ds : Array Value} (hR : R G ρ σ w) (hc : LRel (VRel ρ) cs ds.toList) :
    OpOk P G ρ σ w (.pointer (some ⟨σ.next, 0, none⟩)) (aRow σ elem cs) (do pure (.value (.pointer (some (← newRow elem ds))))) := by
  obtain ⟨τ, h1, h2, h3⟩ := newRow_sound (P := P) (elem := elem) hR hc
  exact ⟨_, τ, _, .inl (by simp [h1]), vrel_ptr.2 ⟨_, h3, rfl, rfl⟩, h2⟩

theorem cells_of {i b : Nat} (hR : R G ρ σ w) (hi : ρ.bl i = some b) (hk : isCells (σ.get i) = true) :
    ∃ c fr pre post, w.heap[b]? = some (.cells c (σ.get i).elem fr) ∧ (fr = (0, 0) ∨ c.size ≤ fr.1) ∧ c.toList = pre ++ post ∧ LRel (VRel ρ) (σ.get i).vals pre ∧
      ((σ.get i).kind = 1 → post = []) ∧ ((σ.get i).kind = 2 → ρ.sz i = (c.size, (σ.get i).esz)) := by
  obtain ⟨_, o, ho, hb⟩ := hR.blk i b hi
  unfold BRel at hb
  rw [isCells_iff] at hk
  rcases hk with hk | hk <;> rw [hk] at hb
  · obtain ⟨c, fr, rfl, h2, h3⟩ := hb
    exact ⟨c, fr, c.toList, [], ho, h2, by simp, h3, (fun _ => rfl), (fun h => by rw [hk] at h; cases h)⟩
  · obtain ⟨c, fr, p, q, rfl, h2, h3, h4, h5⟩ := hb
    exact ⟨c, fr, p, q, ho, h2, h3, h4, (fun h => by rw [hk] at h; cases h), fun _ => h5⟩

theorem aCells_sound {x : Addr} {n b : Nat} {cs : List Value} (h : aCells σ x n = some cs) (hR : R G ρ σ w) (hi : ρ.bl x.block = some b) :
    ∃ ds, LRel (VRel ρ) cs ds ∧ ds.length = n ∧ ∀ j v, ds[j]? = some v → w.cell? ⟨b, x.off + j, none⟩ = some v := by
  unfold aCells at h
  rw [hasLen_eq] at h
  split at h
  · rename_i hc
    simp only [Bool.and_eq_true, Nat.ble_eq] at hc
    cases h
    obtain ⟨c, fr, pre, post, hw, _, hl, hr, _, _⟩ := cells_of hR hi hc.1
    refine ⟨(pre.drop x.off).take n, (hr.drop _).take _, ?_, ?_⟩
    · rw [List.length_take, List.length_drop, ← hr.length]; omega
    · intro j v hj
      have hjn : j < n := by
        rcases Nat.lt_or_ge j n with h | h
        · exact h
        · rw [List.getElem?_eq_none (by rw [List.length_take]; omega)] at hj; cases hj
      rw [List.getElem?_take_of_lt hjn, List.getElem?_drop] at hj
      unfold World.cell?
      simp only [hw]
      have : c.toList[x.off + j]? = some v := by
        rw [hl, List.getElem?_append_left]
        · exact hj
        · rcases Nat.lt_or_ge (x.off + j) pre.length with h | h
          · exact h
          · rw [List.getElem?_eq_none h] at hj; cases hj
      simpa using this
  · split at h
    · rename_i hc
      simp only [Bool.and_eq_true, Nat.ble_eq, Nat.beq_eq] at hc
      cases h
      obtain ⟨_, o, ho, hb⟩ := hR.blk _ b hi
      unfold BRel at hb
      rw [hc.1.1] at hb
      obtain ⟨c, fr, rfl, hcell⟩ := hb
      have key : ∀ (cs : List Value) (off : Nat), (∀ j v, cs[j]? = some v → (σ.get x.block).vals[off + j]? = some v) → cs.all known = true → ∃ ds, LRel (VRel ρ) cs ds ∧ ds.length = cs.length ∧ ∀ j v, ds[j]? = some v → w.cell? ⟨b, off + j, none⟩ = some v := by
        intro cs
        induction cs with
        | nil => intro off _ _; exact ⟨[], trivial, rfl, fun j v h => by simp at h⟩
        | cons v cs ih =>
          intro off hat hall
          simp only [List.all_cons, Bool.and_eq_true] at hall
          obtain ⟨u, h1, h2⟩ := hcell (off + 0) v (hat 0 v rfl) hall.1
          obtain ⟨ds, h3, h4, h5⟩ := ih (off + 1) (fun j u hj => by rw [show off + 1 + j = off + (j + 1) by omega]; exact hat (j + 1) u (by simpa using hj)) hall.2
          refine ⟨u :: ds, ⟨h2, h3⟩, by simp [h4], fun j u' hj => ?_⟩
          cases j with
          | zero =>
            simp only [List.getElem?_cons_zero, Option.some.injEq] at hj
            subst hj
            unfold World.cell?
            simp only [ho]
            simpa using h1
          | succ j =>
            rw [show off + (j + 1) = off + 1 + j by omega]
            exact h5 j u' (by simpa using hj)
      obtain ⟨ds, h1, h2, h3⟩ := key _ x.off (fun j v hj => by
        have hjn : j < n := by
          rcases Nat.lt_or_ge j n with h | h
          · exact h
          · rw [List.getElem?_eq_none (by rw [List.length_take]; omega)] at hj; cases hj
        rw [List.getElem?_take_of_lt hjn, List.getElem?_drop] at hj
        exact hj) hc.2
      refine ⟨ds, h1, ?_, h3⟩
      rw [h2, List.length_take, List.length_drop]
      have := hc.1.2
      omega
    · cases h

theorem loadCells_sound {x : Addr} {n b : Nat} {cs : List Value} (h : aCells σ x n = some cs) (hR : R G ρ σ w) (hi : ρ.bl x.block = some b) :
    ∃ ds, LRel (VRel ρ) cs ds ∧ (loadCells ⟨b, x.off, none⟩ n).run P w = .ok ds.toArray w := by
  obtain ⟨ds, h1, h2, h3⟩ := aCells_sound h hR hi
  refine ⟨ds, h1, ?_⟩
  subst h2
  exact run_loadCells_list w _ ds fun j v hj => by rw [addr_add]; exact h3 j v hj

theorem aLoad_sound {t : TypeId} {p p' v : Value} (h : aLoad P σ t p = some v) (hR : R G ρ σ w) (hp : VRel ρ p p') :
    ∃ v', (Instr.loadAt t p').run P w = .ok v' w ∧ VRel ρ v v' := by
  unfold aLoad at h
  split at h
  · rename_i x
    obtain ⟨b, hb, hs, rfl⟩ := vrel_ptr.1 hp
    split at h
    · cases h
    · rename_i d hd
      split at h
      · rename_i hag
        split at h
        · cases h
        · rename_i i hi
          split at h
          · cases h
          · rename_i cs hc
            cases h
            obtain ⟨ds, h1, h2⟩ := loadCells_sound (P := P) hc hR hb
            exact ⟨.agg ds.toArray, by simp [Instr.loadAt, Instr.sureAddr, loadVar, run_isAgg' hd, hag, run_sizeOf' hi, h2], vrel_agg.2 ⟨ds, h1, rfl⟩⟩
      · rename_i hag
        split at h
        · rename_i u hc
          cases h
          obtain ⟨ds, h1, h2, h3⟩ := aCells_sound hc hR hb
          match ds, h1, h2 with
          | [d], h1, _ =>
            have hcell := h3 0 d rfl
            simp only [Nat.add_zero] at hcell
            exact ⟨d, by simp [Instr.loadAt, Instr.sureAddr, loadVar, run_isAgg' hd, hag, hcell], h1.1⟩
        · cases h
  · cases h

theorem oneR {v v' : Value} (h : VRel ρ v v') : one v' = one v := by
  cases v
  case agg cs => obtain ⟨_, _, rfl⟩ := vrel_agg.1 h; rfl
  case tuple cs => obtain ⟨_, _, rfl⟩ := vrel_tuple.1 h; rfl
  case pointer a => cases a with
    | none => obtain rfl := vrel_ptr_none.1 h; rfl
    | some a => obtain ⟨_, _, _, rfl⟩ := vrel_ptr.1 h; rfl
  case slice a l c => cases a with
    | none => obtain rfl := vrel_slice_none.1 h; rfl
    | some a => obtain ⟨_, _, rfl, _⟩ := vrel_slice_shape h; rfl
  case map a => cases a with
    | none => obtain rfl := vrel_map_none.1 h; rfl
    | some a => obtain ⟨_, _, rfl⟩ := vrel_map.1 h; rfl
  case func => obtain ⟨_, _, _, _, rfl⟩ := vrel_func.1 h; rfl
  case iface => obtain ⟨_, _, rfl⟩ := vrel_iface.1 h; rfl
  case chan => obtain ⟨_, _, rfl⟩ := vrel_chan h; rfl
  case bool b => obtain rfl := vrel_bool.1 h; rfl
  case int b => obtain rfl := vrel_int.1 h; rfl
  case float b => obtain rfl := vrel_float.1 h; rfl
  case complex b => obtain rfl := vrel_complex.1 h; rfl
  case string b => obtain rfl := vrel_string.1 h; rfl
  case nilFunc => obtain rfl := vrel_nilFunc.1 h; rfl
  case nilIface => obtain rfl := vrel_nilIface.1 h; rfl

theorem all_oneR : ∀ {l l' : List Value}, LRel (VRel ρ) l l' → l.all one = true → l'.all one = true
  | [], [], _, _ => rfl
  | _ :: _, _ :: _, h, h' => by
    simp only [List.all_cons, Bool.and_eq_true] at h' ⊢
    exact ⟨by rw [oneR h.1]; exact h'.1, all_oneR h.2 h'.2⟩
  | [], _ :: _, h, _ => h.elim
  | _ :: _, [], h, _ => h.elim

theorem aWrite_sound {x : Addr} {b : Nat} {cs ds : List Value} (h : aWrite σ x cs = some σ') (hR : R G ρ σ w) (hi : ρ.bl x.block = some b) (hc : LRel (VRel ρ) cs ds) :
    ∃ w', (storeCells ⟨b, x.off, none⟩ ds).run P w = .ok () w' ∧ Sim G ρ σ w ρ σ' w' := by
  unfold aWrite at h
  rw [hasLen_eq] at h
  split at h
  · rename_i hk
    simp only [Bool.and_eq_true, Nat.ble_eq] at hk
    obtain ⟨⟨hk, hn⟩, ho⟩ := hk
    cases cs with
    | nil =>
      cases h
      cases ds with
      | cons _ _ => exact hc.elim
      | nil => exact ⟨w, rfl, Sim.refl hR⟩
    | cons c0 cs0 =>
    cases h
    show ∃ w', (storeCells ⟨b, x.off, none⟩ ds).run P w = .ok () w' ∧ Sim G ρ σ w ρ (σ.put x.block { σ.get x.block with vals := lsplice (σ.get x.block).vals x.off (c0 :: cs0) }) w'
    generalize c0 :: cs0 = cs at hc hn ho ⊢
    obtain ⟨c, fr, pre, post, hw, hf, hl, hr, h1, h2⟩ := cells_of hR hi hk
    have hsz : c.size = pre.length + post.length := by rw [← List.length_append, ← hl]; simp
    obtain ⟨w', hrun, hheap, hout⟩ := run_storeCells P (e := (σ.get x.block).elem) (b := b) (off := x.off) ds 0 c w hw hf (by rw [← hc.length, hsz, ← hr.length]; omega) (all_oneR hc ho)
    refine ⟨w', hrun, ?_⟩
    have hkz : (σ.get x.block).kind ≠ 0 := by
      intro h0; rw [isCells_iff, h0] at hk; omega
    refine Sim.put hR hi hkz hheap hout ?_
    have hsp : lsplice c.toList (x.off + 0) ds = lsplice pre x.off ds ++ post := by
      rw [hl, Nat.add_zero, lsplice_append]
      rw [← hc.length, ← hr.length]; exact hn
    have hlen : (lsplice c.toList (x.off + 0) ds).toArray.size = c.size := by simp [lsplice_length]
    rw [isCells_iff] at hk
    unfold BRel
    rcases hk with hk | hk
    · simp only [hk]
      refine ⟨_, fr, rfl, by rw [hlen]; exact hf, ?_⟩
      rw [h1 hk] at hsp
      simp only [hsp, List.append_nil]
      exact hr.splice _ hc
    · simp only [hk]
      refine ⟨_, fr, _, post, rfl, by rw [hlen]; exact hf, by simp only [hsp], hr.splice _ hc, ?_⟩
      rw [hlen]; exact h2 hk
  · cases h

theorem aStore_sound {t : TypeId} {p p' x x' : Value} (h : aStore P σ t x p = some σ') (hR : R G ρ σ w) (hp : VRel ρ p p') (hx : VRel ρ x x') :
    ∃ w', (Instr.storeAt t p' x').run P w = .ok () w' ∧ Sim G ρ σ w ρ σ' w' := by
  unfold aStore at h
  split at h
  · rename_i y
    obtain ⟨b, hb, hs, rfl⟩ := vrel_ptr.1 hp
    split at h
    · cases h
    · rename_i i hi
      split at h
      · rename_i hsz
        have hsz := Nat.eq_of_beq_eq_true hsz
        have hcs := hx.cells
        obtain ⟨w', h1, h2⟩ := aWrite_sound (P := P) h hR hb hcs
        refine ⟨w', ?_, h2⟩
        have hz : x'.cells.size = i.size := by
          rw [← hsz, ← Array.length_toList, ← Array.length_toList, hcs.length]
        simp [Instr.storeAt, Instr.sureAddr, storeVar, run_sizeOf' hi, hz, h1]
      · cases h
  · cases h

theorem aField_sound {s : TypeId} {f : Nat} {p p' v : Value} (h : aField P s f p = some v) (hp : VRel ρ p p') :
    ∃ v', (Instr.fieldAt s p' f).run P w = .ok v' w ∧ VRel ρ v v' := by
  unfold aField at h
  split at h
  · rename_i x
    obtain ⟨b, hb, hs, rfl⟩ := vrel_ptr.1 hp
    split at h
    · rename_i fields hd
      split at h
      · rename_i fd hf
        split at h
        · rename_i i hi
          split at h
          · cases h
          · rename_i hz
            cases h
            have hz' : ¬ i.size = 0 := by simpa using hz
            refine ⟨.pointer (some ⟨b, x.off + fd.offset, none⟩), ?_, ?_⟩
            · simp [Instr.fieldAt, Instr.sureAddr, run_underlying' hd, hf, fieldPlace, run_sizeOf' hi, hz', addr_add]
            · rw [addr_add' hs]; exact vrel_ptr.2 ⟨b, hb, rfl, rfl⟩
        · cases h
      · cases h
    · cases h
  · cases h

theorem aIndexAddr_sound {t : TypeId} {x x' ix ix' v : Value} (h : aIndexAddr P t x ix = some v) (hx : VRel ρ x x') (hix : VRel ρ ix ix') :
    ∃ v', (Instr.indexAt t x' ix').run P w = .ok v' w ∧ VRel ρ v v' := by
  unfold aIndexAddr at h
  split at h
  · rename_i k i
    obtain rfl := vrel_int.1 hix
    split at h
    · rename_i len elem y hd
      obtain ⟨b, hb, hs, rfl⟩ := vrel_ptr.1 hx
      split at h
      · rename_i inf hi
        split at h
        · rename_i hr
          cases h
          refine ⟨.pointer (some ⟨b, y.off + i.toNat * inf.size, none⟩), ?_, ?_⟩
          · simp [Instr.indexAt, asIntOf, Instr.sureAddr, run_underlying' hd, hr, run_sizeOf' hi, addr_add]
          · rw [addr_add' hs]; exact vrel_ptr.2 ⟨b, hb, rfl, rfl⟩
        · cases h
      · cases h
    · rename_i elem y len cp hd
      rcases vrel_slice.1 hx with ⟨b, c', hb, hs, hc, rfl⟩ | ⟨hs, rfl, rfl, rfl⟩
      rotate_left
      · split at h
        · split at h
          · rename_i hr
            have hr := (inR_iff _ _).1 hr
            exact absurd hr (by omega)
          · cases h
        · cases h
      split at h
      · rename_i inf hi
        split at h
        · rename_i hr
          have hr := (inR_iff _ _).1 hr
          cases h
          refine ⟨.pointer (some ⟨b, y.off + i.toNat * inf.size, none⟩), ?_, ?_⟩
          · simp [Instr.indexAt, asIntOf, Instr.sureAddr, run_underlying' hd, hr, run_sizeOf' hi, addr_add]
          · rw [addr_add' hs]; exact vrel_ptr.2 ⟨b, hb, rfl, rfl⟩
        · cases h
      · cases h
    · cases h
  · cases h

theorem aPart_sound {t : TypeId} {cs ds : List Value} {off : Nat} {v : Value} (h : aPart P t cs off = some v) (hc : LRel (VRel ρ) cs ds) :
    ∃ v', (part t ds.toArray off).run P w = .ok v' w ∧ VRel ρ v v' := by
  unfold aPart at h
  split at h
  · cases h
  · rename_i d hd
    split at h
    · rename_i hag
      split at h
      · cases h
      · rename_i i hi
        cases h
        refine ⟨.agg (ds.toArray.extract off (off + i.size)), by simp [part, run_isAgg' hd, hag, run_sizeOf' hi], ?_⟩
        refine vrel_agg.2 ⟨(ds.take (off + i.size)).drop off, (hc.take _).drop _, ?_⟩
        congr 1
        apply Array.ext'
        simp [Array.toList_extract, List.extract_eq_take_drop, List.drop_take]
    · rename_i hag
      obtain ⟨u, hu, hr⟩ := hc.get off h
      exact ⟨u, by simp [part, run_isAgg' hd, hag, hu], hr⟩

theorem aFieldOf_sound {t : TypeId} {f : Nat} {x x' v : Value} (h : aFieldOf P t f x = some v) (hx : VRel ρ x x') :
    ∃ v', (Instr.field t x' f).run P w = .ok v' w ∧ VRel ρ v v' := by
  unfold aFieldOf at h
  split at h
  · rename_i cs
    obtain ⟨ds, hc, rfl⟩ := vrel_agg.1 hx
    split at h
    · rename_i fields hd
      split at h
      · rename_i fd hf
        obtain ⟨v', h1, h2⟩ := aPart_sound (P := P) (w := w) h hc
        exact ⟨v', by simp [Instr.field, run_underlying' hd, hf, asAgg, h1], h2⟩
      · cases h
    · cases h
  · cases h

theorem aIndexOf_sound {t : TypeId} {x x' ix ix' v : Value} (h : aIndexOf P t x ix = some v) (hx : VRel ρ x x') (hix : VRel ρ ix ix') :
    ∃ v', (Instr.index t x' ix').run P w = .ok v' w ∧ VRel ρ v v' := by
  unfold aIndexOf at h
  split at h
  · rename_i k i
    obtain rfl := vrel_int.1 hix
    split at h
    · rename_i len elem cs hd
      obtain ⟨ds, hc, rfl⟩ := vrel_agg.1 hx
      split at h
      · rename_i inf hi
        split at h
        · rename_i hr
          obtain ⟨v', h1, h2⟩ := aPart_sound (P := P) (w := w) h hc
          exact ⟨v', by simp [Instr.index, asIntOf, run_underlying' hd, hr, run_sizeOf' hi, h1], h2⟩
        · cases h
      · cases h
    · rename_i s hd
      obtain rfl := vrel_string.1 hx
      split at h
      · rename_i h0
        split at h
        · rename_i b hb
          cases h
          exact ⟨_, by simp [Instr.index, asIntOf, run_underlying' hd, h0, hb], vrel_int.2 rfl⟩
        · cases h
      · cases h
    · cases h
  · cases h

end ops
end Go.Proofs.YtacpdefmnijhnaaGreat.Abs
