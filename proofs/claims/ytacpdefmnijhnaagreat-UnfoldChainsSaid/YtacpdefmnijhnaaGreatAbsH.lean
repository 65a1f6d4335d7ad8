/- copy, make, the building of structs, comparisons, the builtins; the operations as one. -/
import Derived.Test.YtacpdefmnijhnaaGreatAbsG
set_option linter.unusedSimpArgs false
set_option linter.unusedVariables false
namespace Go.Proofs.YtacpdefmnijhnaaGreat.Abs

section ops
variable {P : Program} {G : Nat} {ρ : Ren} {σ σ' : AS} {w : World} {r : Regs} {a : Act}

theorem LRel.setI {α β : Type} {R : α → β → Prop} {l : List α} {m : List β} {x : α} {y : β} (i : Nat) (h : LRel R l m) (r : R x y) : LRel R (l.set i x) (m.set i y) := h.set i r

/-- fill, on related cells and parts. -/
theorem fold_set_rel : ∀ (cs ds : List Value) (off j : Nat) (c d : Array Value), LRel (VRel ρ) cs ds → LRel (VRel ρ) c.toList d.toList →
    LRel (VRel ρ) ((cs.zipIdx j).foldl (fun cs (x, j) => cs.setIfInBounds (off + j) x) c).toList ((ds.zipIdx j).foldl (fun cs (x, j) => cs.setIfInBounds (off + j) x) d).toList
  | [], [], _, _, _, _, _, h => h
  | x :: cs, y :: ds, off, j, c, d, h, hc => by
    simp only [List.zipIdx_cons, List.foldl_cons]
    refine fold_set_rel cs ds off (j + 1) _ _ h.2 ?_
    simp only [Array.toList_setIfInBounds]
    exact hc.set _ h.1
  | [], _ :: _, _, _, _, _, h, _ => h.elim
  | _ :: _, [], _, _, _, _, h, _ => h.elim

theorem fold_zip_array (off : Nat) (a c : Array Value) :
    a.zipIdx.foldl (fun cs (x, j) => cs.setIfInBounds (off + j) x) c = (a.toList.zipIdx).foldl (fun cs (x, j) => cs.setIfInBounds (off + j) x) c := by
  rw [← Array.foldl_toList, Array.toList_zipIdx]

theorem fill_rel {place : Nat → Option (Nat × Nat)} : ∀ {ps qs : List (Nat × Value)} {c d : Array Value} {c' : Array Value},
    Instr.fill place c ps = some c' → LRel (fun p q => p.1 = q.1 ∧ VRel ρ p.2 q.2) ps qs → LRel (VRel ρ) c.toList d.toList →
    ∃ d', Instr.fill place d qs = some d' ∧ LRel (VRel ρ) c'.toList d'.toList
  | [], [], c, d, c', h, _, hc => by cases h; exact ⟨d, rfl, hc⟩
  | (i, v) :: ps, (k, u) :: qs, c, d, c', h, hp, hc => by
    obtain ⟨⟨hik, hv⟩, hp⟩ := hp
    dsimp only at hik hv
    subst hik
    simp only [Instr.fill] at h ⊢
    split at h
    · cases h
    · rename_i off size hpl
      have hcs := hv.cells
      have hsz : u.cells.size = v.cells.size := by rw [← Array.length_toList, ← Array.length_toList, hcs.length]
      have hds : d.size = c.size := by rw [← Array.length_toList, ← Array.length_toList, hc.length]
      rw [hsz, hds]
      split at h
      · cases h
      · rename_i hn
        rw [if_neg hn]
        refine fill_rel h hp ?_
        rw [fold_zip_array, fold_zip_array]
        exact fold_set_rel _ _ _ _ _ _ hcs hc
  | [], _ :: _, _, _, _, _, h, _ => h.elim
  | _ :: _, [], _, _, _, _, h, _ => h.elim

theorem mapM_places (P : Program) (w : World) : ∀ (fs : List Field) (places : List (Nat × Nat)), fs.mapM (fun f => (P.info? f.type).map fun i => (f.offset, i.size)) = some places →
    (fs.mapM fun f => (do pure (f.offset, ← sizeOf f.type) : Sem (Nat × Nat))).run P w = .ok places w
  | [], _, h => by cases h; rfl
  | f :: fs, places, h => by
    rw [List.mapM_cons] at h ⊢
    cases hi : P.info? f.type with
    | none => rw [hi] at h; cases h
    | some i =>
      rw [hi] at h
      cases hr : fs.mapM (fun f => (P.info? f.type).map fun i => (f.offset, i.size)) with
      | none => rw [hr] at h; cases h
      | some ps =>
        rw [hr] at h
        cases h
        have ih := mapM_places P w fs ps hr
        simp only [Sem.run_bind, run_sizeOf' hi, Result.andThen_ok, Sem.run_pure, ih]

theorem aBuild_sound {t : TypeId} {ps : List (Nat × Value)} {qs : Array (Nat × Value)} {v : Value} (h : aBuild P t ps = some v) (hp : LRel (fun p q => p.1 = q.1 ∧ VRel ρ p.2 q.2) ps qs.toList) :
    ∃ v', (Instr.build t qs).run P w = .ok v' w ∧ VRel ρ v v' := by
  unfold aBuild at h
  split at h
  · rename_i inf hi
    split at h
    · rename_i z hz
      split at h
      · rename_i hf
        split at h
        · rename_i fields hd
          split at h
          · rename_i places hpl
            split at h
            · rename_i cells hfill
              cases h
              obtain ⟨d', h1, h2⟩ := fill_rel hfill hp (flat_self (ρ := ρ) hf)
              have hm : (fields.mapM fun f => (do pure (f.offset, ← sizeOf f.type) : Sem (Nat × Nat))).run P w = .ok places.toArray w := by
                rw [Array.mapM_eq_mapM_toList, Sem.run_map, mapM_places P w _ _ hpl]
                rfl
              refine ⟨.agg d', ?_, vrel_agg.2 ⟨d'.toList, h2, by simp⟩⟩
              simp only [Instr.build, Sem.run_bind, run_zeroValue' hi hz, Result.andThen_ok, run_underlying' hd]
              rw [hm]
              simp only [Result.andThen_ok, h1, Sem.run_pure]
            · cases h
          · cases h
        · rename_i len elem hd
          split at h
          · rename_i i hie
            split at h
            · rename_i cells hfill
              cases h
              obtain ⟨d', h1, h2⟩ := fill_rel hfill hp (flat_self (ρ := ρ) hf)
              refine ⟨.agg d', ?_, vrel_agg.2 ⟨d'.toList, h2, by simp⟩⟩
              simp only [Instr.build, Sem.run_bind, run_zeroValue' hi hz, Result.andThen_ok, run_underlying' hd, run_sizeOf' hie, h1, Sem.run_pure]
            · cases h
          · cases h
        · cases h
      · cases h
    · cases h
  · cases h

theorem aBuildSlice_sound {t : TypeId} {len : Nat} {ps : List (Nat × Value)} {qs : Array (Nat × Value)} {v : Value} (h : aBuildSlice P σ t len ps = some (v, σ')) (hR : R G ρ σ w)
    (hp : LRel (fun p q => p.1 = q.1 ∧ VRel ρ p.2 q.2) ps qs.toList) : ∃ v' τ w', (Instr.buildSlice t len qs).run P w = .ok v' w' ∧ VRel τ v v' ∧ Sim G ρ σ w τ σ' w' := by
  unfold aBuildSlice at h
  split at h
  · rename_i elem hd
    split at h
    · rename_i inf hi
      split at h
      · rename_i hc
        simp only [Bool.and_eq_true, Nat.ble_eq, Nat.blt_eq] at hc
        obtain ⟨hc1, hc2⟩ := hc
        have hlim : ¬ (len * inf.size > 2 ^ 24) := by omega
        have fin : ∀ zero : Array Value, LRel (VRel ρ) zero.toList zero.toList → ((len * inf.size = 0 ∧ zero = #[]) ∨ (len * inf.size ≠ 0 ∧ 0 < zero.size ∧ ∃ z, inf.zero = some z ∧ zero = z.cells)) →
            (match Instr.fill (fun i => some (i * inf.size, inf.size)) ((Array.range (len * inf.size)).map (zero[· % zero.size]!)) ps with
              | some cells => some (Value.slice (some ⟨σ.next, 0, none⟩) len len, aRow σ elem cells.toList)
              | none => none) = some (v, σ') → ∃ v' τ w', (Instr.buildSlice t len qs).run P w = .ok v' w' ∧ VRel τ v v' ∧ Sim G ρ σ w τ σ' w' := by
          intro zero hz0 hz1 h
          split at h
          · rename_i cells hfill
            cases h
            obtain ⟨d', h1, h2⟩ := fill_rel hfill hp (modCells_rel hz0 (fun hh => hz1.elim (fun h => absurd h.1 hh) (fun h => h.2.1)))
            obtain ⟨τ, hn, hsim, hb⟩ := newRow_sound (P := P) (elem := elem) hR h2
            refine ⟨.slice (some ⟨w.heap.size, 0, none⟩) len len, τ, _, ?_, vrel_slice_mk ⟨_, len, hb, rfl, by unfold CapRel; rw [if_pos hc2], rfl⟩, hsim⟩
            unfold Instr.buildSlice
            rw [Sem.run_bind, run_underlying' hd, Result.andThen_ok]
            simp only []
            rw [Sem.run_bind, run_sizeOf' hi, Result.andThen_ok, Sem.run_ite, if_neg hlim, Sem.run_ite]
            rcases hz1 with ⟨h0, rfl⟩ | ⟨h0, _, z, hz, rfl⟩
            · rw [if_pos h0, Sem.run_bind, Sem.run_pure, Result.andThen_ok]
              simp only [h1]
              rw [Sem.run_bind, hn, Result.andThen_ok]
              rfl
            · rw [if_neg h0, Sem.run_bind, run_zeroValue' hi hz, Result.andThen_ok, Sem.run_bind, Sem.run_pure, Result.andThen_ok]
              simp only [h1]
              rw [Sem.run_bind, hn, Result.andThen_ok]
              rfl
          · cases h
        split at h
        · rename_i zero hzero
          split at hzero
          · rename_i h0
            have h0 : len * inf.size = 0 := Nat.eq_of_beq_eq_true h0
            cases hzero
            exact fin #[] trivial (.inl ⟨h0, rfl⟩) h
          · rename_i h0
            have h0 : ¬ len * inf.size = 0 := fun e => h0 (by rw [e]; rfl)
            split at hzero
            · rename_i z hz
              split at hzero
              · rename_i hf
                simp only [Bool.and_eq_true, Nat.blt_eq] at hf
                cases hzero
                exact fin z.cells (flat_self hf.1) (.inr ⟨h0, hf.2, z, hz, rfl⟩) h
              · cases hzero
            · cases hzero
        · cases h
      · cases h
    · cases h
  · cases h

theorem aMakeSlice_sound {t : TypeId} {l l' c c' v : Value} (h : aMakeSlice P σ t l c = some (v, σ')) (hR : R G ρ σ w) (hl : VRel ρ l l') (hc : VRel ρ c c') :
    ∃ v' τ w', (Instr.makeSlice t l' c').run P w = .ok v' w' ∧ VRel τ v v' ∧ Sim G ρ σ w τ σ' w' := by
  unfold aMakeSlice at h
  split at h
  · rename_i elem k1 l k2 c hd
    obtain rfl := vrel_int.1 hl
    obtain rfl := vrel_int.1 hc
    split at h
    · rename_i inf hi
      split at h
      · rename_i z hz
        split at h
        · rename_i hcond
          obtain ⟨c1, c2, c3, c4, c5, c6⟩ := hcond
          cases h
          obtain ⟨n, rfl⟩ := Int.eq_ofNat_of_zero_le c1
          obtain ⟨m, rfl⟩ := Int.eq_ofNat_of_zero_le (show 0 ≤ c from by omega)
          have hwn := wrap_small (n := n) (by omega)
          have hwm := wrap_small (n := m) (by omega)
          simp only [Int.toNat_natCast]
          have hmb : m < OPENCAP := by unfold OPENCAP; omega
          have hcells := modCells_rel (ρ := ρ) (z := z.cells) (n := m * inf.size) (flat_self c5) (fun _ => c6)
          obtain ⟨τ, hn, hsim, hb⟩ := newRow_sound (P := P) (elem := elem) hR hcells
          refine ⟨.slice (some ⟨w.heap.size, 0, none⟩) n m, τ, _, ?_, vrel_slice_mk ⟨_, m, hb, rfl, by unfold CapRel; rw [if_pos hmb], rfl⟩, hsim⟩
          have hbad : ¬ ((decide ((m : Int) < 0) || decide ((inf.bytes : Int) * (m : Int) > 2 ^ 48)) || decide ((n : Int) < 0) || decide ((n : Int) > (m : Int))) = true := by
            simp only [Bool.or_eq_true, decide_eq_true_eq]
            omega
          unfold Instr.makeSlice
          rw [Sem.run_bind, run_underlying' hd, Result.andThen_ok]
          simp only []
          rw [Sem.run_bind, show (asInt (.int k1 (n : Int))).run P w = .ok (n : Int) w from rfl, Result.andThen_ok, Sem.run_bind, show (asInt (.int k2 (m : Int))).run P w = .ok (m : Int) w from rfl, Result.andThen_ok,
            Sem.run_bind, run_typeInfo' hi, Result.andThen_ok]
          simp only [hwn, hwm]
          rw [Sem.run_ite, if_neg hbad, Sem.run_bind, run_askRoom, Result.andThen_ok, Sem.run_bind, run_sizeOf' hi, Result.andThen_ok]
          simp only [Int.toNat_natCast]
          rw [Sem.run_ite]
          by_cases h0 : m * inf.size = 0
          · rw [if_pos h0, Sem.run_bind, Sem.run_pure, Result.andThen_ok]
            have e : ∀ zz : Array Value, (Array.range (m * inf.size)).map (zz[· % zz.size]!) = #[] := fun zz => by rw [h0]; simp
            rw [e z.cells] at hn
            rw [e #[], e z.cells, Sem.run_bind, hn, Result.andThen_ok]
            rfl
          · rw [if_neg h0, Sem.run_bind, run_zeroValue' hi hz, Result.andThen_ok, Sem.run_bind, Sem.run_pure, Result.andThen_ok, Sem.run_bind, hn, Result.andThen_ok]
            rfl
        · cases h
      · cases h
    · cases h
  · cases h

theorem aCopyM_sound {at_ : Array TypeId} {ty : TypeId} {d d' s s' v : Value} (h : aCopyM P σ at_ d s = some (v, σ')) (hR : R G ρ σ w) (hd : VRel ρ d d') (hs : VRel ρ s s') :
    ∃ v' w', (Builtin.copy_ at_ ty #[d', s']).run P w = .ok v' w' ∧ VRel ρ v v' ∧ Sim G ρ σ w ρ σ' w' := by
  unfold aCopyM at h
  split at h
  · rename_i dt base dLen dc h0
    split at h
    · rename_i elem hdt
      split at h
      · rename_i inf hi
        split at h
        · rename_i m hm
          dsimp only at h
          split at h
          · rename_i cs hcs
            have hlen : (Builtin.lenOf s').run P w = .ok m w := by
              refine lenOf_run ?_ hs
              split at hm
              · cases hm; rfl
              · split at hm
                · cases hm; rfl
                · cases hm
              · cases hm
            have hnew : ∃ new' : Array Value, LRel (VRel ρ) cs new'.toList ∧ (Builtin.firstCells inf.size (Nat.min m dLen) s').run P w = .ok new' w := by
              split at hcs
              · obtain rfl := vrel_slice_none.1 hs
                cases hcs
                exact ⟨#[], trivial, rfl⟩
              · rcases vrel_slice.1 hs with ⟨b, c', hb, hsp, hc, rfl⟩ | ⟨hsp, _, _, rfl⟩
                · rw [aCellsS_eq hsp] at hcs
                  obtain ⟨ds, h1, h2⟩ := loadCells_sound (P := P) hcs hR hb
                  exact ⟨ds.toArray, h1, h2⟩
                · obtain ⟨h0, rfl⟩ := aCellsS_lit hsp hcs
                  refine ⟨#[], trivial, ?_⟩
                  simp only [Builtin.firstCells, h0]
                  exact run_loadCells_list (P := P) w _ [] fun j v hj => by simp at hj
              · obtain rfl := vrel_string.1 hs
                cases hcs
                refine ⟨_, ?_, rfl⟩
                rw [Array.toList_map]
                exact bytes_rel _
              · cases hcs
            obtain ⟨new', hn1, hn2⟩ := hnew
            split at h
            · rename_i y
              rcases vrel_slice.1 hd with ⟨b, c', hb, hsp, hc, rfl⟩ | ⟨hsp, rfl, rfl, rfl⟩
              rotate_left
              · split at h
                · rename_i σ1 hw
                  cases h
                  obtain ⟨hnil, rfl⟩ := aWriteS_lit hsp hw
                  have hnew0 : new'.toList = [] := by
                    rw [hnil] at hn1
                    cases hq : new'.toList with
                    | nil => rfl
                    | cons a l => rw [hq] at hn1; exact hn1.elim
                  have hrun : (storeCells (litA y) new'.toList).run P w = .ok () w := by rw [hnew0]; rfl
                  refine ⟨goInt (Nat.min m 0 : Nat), w, ?_, vrel_int.2 rfl, Sim.refl hR⟩
                  unfold Builtin.copy_
                  simp only [h0, List.getElem?_toArray, List.getElem?_cons_zero, List.getElem?_cons_succ]
                  rw [Sem.run_bind, run_underlying' hdt, Result.andThen_ok]
                  simp only []
                  rw [Sem.run_bind, hlen, Result.andThen_ok, Sem.run_bind, run_sizeOf' hi, Result.andThen_ok, Sem.run_bind, hn2, Result.andThen_ok, Sem.run_bind, hrun]
                  rfl
                · cases h
              rw [aWriteS_eq hsp] at h
              split at h
              · rename_i σ1 hw
                cases h
                obtain ⟨w', hrun, hsim⟩ := aWrite_sound (P := P) hw hR hb hn1
                refine ⟨goInt (Nat.min m dLen : Nat), w', ?_, vrel_int.2 rfl, hsim⟩
                unfold Builtin.copy_
                simp only [h0, List.getElem?_toArray, List.getElem?_cons_zero, List.getElem?_cons_succ]
                rw [Sem.run_bind, run_underlying' hdt, Result.andThen_ok]
                simp only []
                rw [Sem.run_bind, hlen, Result.andThen_ok, Sem.run_bind, run_sizeOf' hi, Result.andThen_ok, Sem.run_bind, hn2, Result.andThen_ok, Sem.run_bind, hrun]
                rfl
              · cases h
            · obtain rfl := vrel_slice_none.1 hd
              cases h
              refine ⟨goInt (Nat.min m dLen : Nat), w, ?_, vrel_int.2 rfl, Sim.refl hR⟩
              unfold Builtin.copy_
              simp only [h0, List.getElem?_toArray, List.getElem?_cons_zero, List.getElem?_cons_succ]
              rw [Sem.run_bind, run_underlying' hdt, Result.andThen_ok]
              simp only []
              rw [Sem.run_bind, hlen, Result.andThen_ok, Sem.run_bind, run_sizeOf' hi, Result.andThen_ok, Sem.run_bind, hn2, Result.andThen_ok]
              rfl
          · cases h
        · cases h
      · cases h
    · cases h
  · cases h

theorem sliceLike_rel {v v' : Value} (h : sliceLike v = true) (hr : VRel ρ v v') : ∃ a l c, v' = .slice a l c ∧ (isVoid v = true → l = 0) := by
  cases v <;> try (cases h; done)
  case slice a l c =>
    cases a with
    | none => obtain rfl := vrel_slice_none.1 hr; exact ⟨_, _, _, rfl, fun h => (nomatch h)⟩
    | some a =>
      rcases vrel_slice.1 hr with ⟨b, c', hb, hsp, hc, rfl⟩ | ⟨hsp, _, _, rfl⟩
      · exact ⟨_, _, _, rfl, fun h => (nomatch h)⟩
      · exact ⟨_, _, _, rfl, fun h => (nomatch h)⟩
  case chan r =>
    obtain ⟨a, c, rfl⟩ := vrel_chan hr
    exact ⟨_, _, _, rfl, fun _ => rfl⟩

theorem aCopy_sound {at_ : Array TypeId} {ty : TypeId} {d d' s s' v : Value} (h : aCopy P σ at_ d s = some (v, σ')) (hR : R G ρ σ w) (hd : VRel ρ d d') (hs : VRel ρ s s') :
    ∃ v' w', (Builtin.copy_ at_ ty #[d', s']).run P w = .ok v' w' ∧ VRel ρ v v' ∧ Sim G ρ σ w ρ σ' w' := by
  unfold aCopy at h
  split at h
  · rename_i hc
    simp only [Bool.and_eq_true, Bool.or_eq_true] at hc
    obtain ⟨⟨hv, h1⟩, h2⟩ := hc
    obtain ⟨a, l, c, rfl, hl⟩ := sliceLike_rel h1 hd
    obtain ⟨a', l', c', rfl, hl'⟩ := sliceLike_rel h2 hs
    split at h
    · rename_i dt h0
      split at h
      · rename_i elem hdt
        split at h
        · rename_i inf hi
          cases h
          have hn : Nat.min l' l = 0 := by
            rcases hv with hv | hv
            · rw [hl hv]; exact Nat.min_zero _
            · rw [hl' hv]; exact Nat.zero_min _
          have hnew : (Builtin.firstCells inf.size 0 (.slice a' l' c')).run P w = .ok #[] w := by
            cases a' with
            | none => rfl
            | some a' =>
              simp only [Builtin.firstCells, Nat.zero_mul]
              exact run_loadCells_list (P := P) w _ [] fun j v hj => by simp at hj
          refine ⟨goInt 0, w, ?_, vrel_int.2 rfl, Sim.refl hR⟩
          have hlen : (Builtin.lenOf (.slice a' l' c')).run P w = .ok l' w := rfl
          unfold Builtin.copy_
          simp only [h0, List.getElem?_toArray, List.getElem?_cons_zero, List.getElem?_cons_succ]
          rw [Sem.run_bind, run_underlying' hdt, Result.andThen_ok]
          simp only []
          rw [Sem.run_bind, hlen, Result.andThen_ok, Sem.run_bind, run_sizeOf' hi, Result.andThen_ok, Sem.run_bind, hn, hnew, Result.andThen_ok]
          cases a with
          | none => rfl
          | some a => rfl
        · cases h
      · cases h
    · cases h
  · exact aCopyM_sound h hR hd hs

theorem aCap_sound {t : TypeId} {x x' v : Value} (h : aCap P t x = some v) (hx : VRel ρ x x') {at_ : Array TypeId} (hat : at_[0]? = some t) (ty : TypeId) :
    ∃ v', (Builtin.cap_ at_ ty #[x']).run P w = .ok v' w ∧ VRel ρ v v' := by
  unfold aCap at h
  split at h
  · rename_i e base n c hd
    split at h
    · rename_i hc
      have hc : c < OPENCAP := by simpa [Nat.blt_eq] using hc
      cases h
      cases base with
      | none =>
        obtain rfl := vrel_slice_none.1 hx
        exact ⟨goInt c, by simp [Builtin.cap_, hat, run_underlying' hd], vrel_int.2 rfl⟩
      | some y =>
        obtain ⟨a', c', rfl, hcc⟩ := vrel_slice_shape hx
        obtain rfl := hcc hc
        exact ⟨goInt c', by simp [Builtin.cap_, hat, run_underlying' hd], vrel_int.2 rfl⟩
    · cases h
  · rename_i n e hd
    cases h
    exact ⟨goInt n, by simp [Builtin.cap_, hat, run_underlying' hd], vrel_int.2 rfl⟩
  · cases h

theorem flatO_some {o : Option Value} {v : Value} (h : flatO o = some v) : o = some v ∧ flat v = true := by
  cases o with
  | none => cases h
  | some u =>
    simp only [flatO] at h
    split at h
    · rename_i hf; cases h; exact ⟨rfl, hf⟩
    · cases h

theorem run_equal {d : TypeDesc} {t : TypeId} {x x' y y' : Value} {b : Bool} (hd : P.underlying t = some d) (h : aNilEq d x y = some b) (hx : VRel ρ x x') (hy : VRel ρ y y') :
    (Op.equal t x' y').run P w = .ok b w ∧ (∀ op xo yo, (eqGuard op t xo yo x' y').run P w = .ok () w) ∧
      (binOp .eql t x' y' = (do pure (.bool (← Op.equal t x' y')))) ∧ (binOp .neq t x' y' = (do pure (.bool (!(← Op.equal t x' y'))))) := by
  have key : (Op.equal t x' y') = Op.equalIn (9999 + 1) t x' y' := rfl
  rw [key, Op.equalIn.eq_2, Sem.run_bind, run_underlying' hd, Result.andThen_ok]
  unfold aNilEq at h
  split at h
  · cases h
    obtain ⟨_, _, rfl, _⟩ := vrel_slice_shape hx
    obtain rfl := vrel_slice_none.1 hy
    exact ⟨rfl, fun op xo yo => by cases op <;> rfl, rfl, rfl⟩
  · cases h
    obtain ⟨_, _, rfl, _⟩ := vrel_slice_shape hy
    obtain rfl := vrel_slice_none.1 hx
    exact ⟨rfl, fun op xo yo => by cases op <;> rfl, rfl, rfl⟩
  · cases h
    obtain ⟨_, _, rfl⟩ := vrel_map.1 hx
    obtain rfl := vrel_map_none.1 hy
    exact ⟨rfl, fun op xo yo => by cases op <;> rfl, rfl, rfl⟩
  · cases h
    obtain ⟨_, _, rfl⟩ := vrel_map.1 hy
    obtain rfl := vrel_map_none.1 hx
    exact ⟨rfl, fun op xo yo => by cases op <;> rfl, rfl, rfl⟩
  · cases h
    obtain ⟨_, _, _, rfl⟩ := vrel_ptr.1 hx
    obtain rfl := vrel_ptr_none.1 hy
    exact ⟨rfl, fun op xo yo => by cases op <;> rfl, rfl, rfl⟩
  · cases h
    obtain ⟨_, _, _, rfl⟩ := vrel_ptr.1 hy
    obtain rfl := vrel_ptr_none.1 hx
    exact ⟨rfl, fun op xo yo => by cases op <;> rfl, rfl, rfl⟩
  · cases h
    obtain ⟨_, _, _, _, rfl⟩ := vrel_func.1 hx
    obtain rfl := vrel_nilFunc.1 hy
    exact ⟨rfl, fun op xo yo => by cases op <;> rfl, rfl, rfl⟩
  · cases h
    obtain ⟨_, _, _, _, rfl⟩ := vrel_func.1 hy
    obtain rfl := vrel_nilFunc.1 hx
    exact ⟨rfl, fun op xo yo => by cases op <;> rfl, rfl, rfl⟩
  · cases h
    obtain ⟨_, _, rfl⟩ := vrel_iface.1 hx
    obtain rfl := vrel_nilIface.1 hy
    exact ⟨rfl, fun op xo yo => by cases op <;> rfl, rfl, rfl⟩
  · cases h
    obtain ⟨_, _, rfl⟩ := vrel_iface.1 hy
    obtain rfl := vrel_nilIface.1 hx
    exact ⟨rfl, fun op xo yo => by cases op <;> rfl, rfl, rfl⟩
  · cases h

theorem aInts_sound {op : BinOp} {t : TypeId} {xo yo : Operand} {x x' y y' v : Value} (h : aInts op x y = some v) (hx : VRel ρ x x') (hy : VRel ρ y y') :
    (do eqGuard op t xo yo x' y'; binOp op t x' y' : Sem Value).run P w = .ok v w ∧ VRel ρ v v := by
  unfold aInts at h
  split at h
  · rename_i k a k' b
    obtain rfl := vrel_int.1 hx
    obtain rfl := vrel_int.1 hy
    split at h
    · rename_i e
      subst e
      have hg : ∀ op, (eqGuard op t xo yo (.int k a) (.int k b)).run P w = .ok () w := fun op => by cases op <;> rfl
      rw [Sem.run_bind, hg, Result.andThen_ok]
      rw [aInt_eq] at h
      cases op <;> dsimp only at h <;> first | (cases h; done) | skip
      all_goals
        cases h
        first
          | exact ⟨by simp [binOp, Op.intArith], vrel_int.2 rfl⟩
          | exact ⟨by simp [binOp, Op.intCmp], vrel_bool.2 rfl⟩
    · cases h
  · cases h

theorem aBin_sound {op : BinOp} {t : TypeId} {xo yo : Operand} {x x' y y' v : Value} (h : aBin P op t xo yo x y = some v) (hx : VRel ρ x x') (hy : VRel ρ y y') :
    ∃ v', (do eqGuard op t xo yo x' y'; binOp op t x' y' : Sem Value).run P w = .ok v' w ∧ VRel ρ v v' := by
  unfold aBin at h
  split at h
  · rename_i u hu
    cases h
    obtain ⟨h1, h2⟩ := aInts_sound (P := P) (w := w) (t := t) (xo := xo) (yo := yo) hu hx hy
    exact ⟨v, h1, h2⟩
  unfold aBinSlow at h
  split at h
  · rename_i hf
    simp only [Bool.and_eq_true] at hf
    obtain rfl := (vrel_flat hf.1).1 hx
    obtain rfl := (vrel_flat hf.2).1 hy
    obtain ⟨h1, h2⟩ := flatO_some h
    exact ⟨v, asPure_run h1, (vrel_flat h2).2 rfl⟩
  · split at h
    · rename_i d hd _
      cases hn : aNilEq d x y with
      | none => rw [hn] at h; cases h
      | some b =>
        rw [hn] at h
        cases h
        obtain ⟨h1, h2, h3, _⟩ := run_equal (P := P) (w := w) hd hn hx hy
        exact ⟨.bool b, by rw [Sem.run_bind, h2, Result.andThen_ok, h3, Sem.run_bind, h1]; rfl, vrel_bool.2 rfl⟩
    · rename_i d hd _
      cases hn : aNilEq d x y with
      | none => rw [hn] at h; cases h
      | some b =>
        rw [hn] at h
        cases h
        obtain ⟨h1, h2, _, h3⟩ := run_equal (P := P) (w := w) hd hn hx hy
        exact ⟨.bool (!b), by rw [Sem.run_bind, h2, Result.andThen_ok, h3, Sem.run_bind, h1]; rfl, vrel_bool.2 rfl⟩
    · cases h

theorem aMinMax_sound {f : Value → Value → Sem Value} {args args' : List Value} {v : Value} (h : aMinMax f P args = some v) (ha : LRel (VRel ρ) args args') :
    ∃ x l, args' = x :: l ∧ (l.foldlM f x).run P w = .ok v w ∧ VRel ρ v v := by
  unfold aMinMax at h
  split at h
  · rename_i hf
    obtain rfl := (lrel_flat1 hf).1 ha
    split at h
    · cases h
    · rename_i x l
      obtain ⟨h1, h2⟩ := flatO_some h
      exact ⟨x, l, rfl, asPure_run h1, (vrel_flat h2).2 rfl⟩
  · cases h

theorem aClear_sound {t : TypeId} {x x' : Value} (h : aClear P σ t x = some σ') (hR : R G ρ σ w) (hx : VRel ρ x x') {at_ : Array TypeId} (hat : at_[0]? = some t) (ty : TypeId) :
    ∃ w', (Builtin.clear_ at_ ty #[x']).run P w = .ok (.tuple #[]) w' ∧ Sim G ρ σ w ρ σ' w' := by
  unfold aClear at h
  split at h
  · rename_i e m c hd
    obtain rfl := vrel_slice_none.1 hx
    cases h
    refine ⟨w, ?_, Sim.refl hR⟩
    unfold Builtin.clear_
    simp [hat, run_underlying' hd]
  · rename_i elem y m c hd
    rcases vrel_slice.1 hx with ⟨b, c', hb, _, _, rfl⟩ | ⟨hsp, rfl, rfl, rfl⟩
    rotate_left
    · rw [if_pos (show Nat.beq 0 0 = true from rfl)] at h
      cases h
      refine ⟨w, ?_, Sim.refl hR⟩
      unfold Builtin.clear_
      simp [hat, run_underlying' hd]
    split at h
    · rename_i hm
      obtain rfl := Nat.eq_of_beq_eq_true hm
      cases h
      refine ⟨w, ?_, Sim.refl hR⟩
      unfold Builtin.clear_
      simp [hat, run_underlying' hd]
    · rename_i hm
      have hm : m ≠ 0 := fun e => hm (by rw [e]; rfl)
      split at h
      · rename_i inf hi
        split at h
        · rename_i z hz
          split at h
          · rename_i hf
            obtain ⟨w', h1, h2⟩ := aWrite_sound (P := P) h hR hb (zeroCells_rel (ρ := ρ) (n := m) hf)
            refine ⟨w', ?_, h2⟩
            unfold Builtin.clear_
            cases m with
            | zero => exact absurd rfl hm
            | succ m =>
              simp only [hat, Array.getElem?_eq_getElem, List.size_toArray, List.length_cons, List.length_nil, Nat.zero_add, Nat.reduceLT, List.getElem_toArray, List.getElem_cons_zero]
              rw [Sem.run_bind, run_underlying' hd, Result.andThen_ok]
              simp only []
              rw [Sem.run_bind, run_zeroValue' hi hz, Result.andThen_ok, Sem.run_bind, h1, Result.andThen_ok]
              rfl
          · cases h
        · cases h
      · cases h
  · cases h

theorem aBuiltin_sound {b : Builtin} {at_ : Array TypeId} {ty : TypeId} {consts : Array Bool} {args args' : List Value} {v : Value} (h : aBuiltin P σ b at_ args = some (v, σ')) (hR : R G ρ σ w)
    (ha : LRel (VRel ρ) args args') : OpOk P G ρ σ w v σ' (builtin b at_ ty consts args'.toArray) := by
  unfold aBuiltin at h
  split at h
  · -- len
    rename_i x
    match args', ha with
    | [x'], ha =>
      split at h
      · rename_i t ht
        split at h
        · rename_i u hu
          cases h
          obtain ⟨v', h1, h2⟩ := aLen_sound hu hR ha.1 ht ty
          exact .same hR h1 h2
        · cases h
      · cases h
  · -- cap
    rename_i x
    match args', ha with
    | [x'], ha =>
      split at h
      · rename_i t ht
        split at h
        · rename_i u hu
          cases h
          obtain ⟨v', h1, h2⟩ := aCap_sound (w := w) hu ha.1 ht ty
          exact .same hR h1 h2
        · cases h
      · cases h
  · -- append
    rename_i s x
    match args', ha with
    | [s', x'], ha =>
      obtain ⟨v', τ, w', h1, h2, h3⟩ := aAppend_sound (ty := ty) h hR ha.1 ha.2.1
      exact .val h1 h2 h3
  · -- copy
    rename_i d s
    match args', ha with
    | [d', s'], ha =>
      obtain ⟨v', w', h1, h2, h3⟩ := aCopy_sound (ty := ty) h hR ha.1 ha.2.1
      exact .val h1 h2 h3
  · -- delete
    rename_i m k
    match args', ha with
    | [m', k'], ha =>
      split at h
      · rename_i t ht
        split at h
        · rename_i σ1 hd
          cases h
          obtain ⟨w', h1, h2⟩ := aDelete_sound hd hR ha.1 ha.2.1 ht ty
          exact .val h1 (vrel_tuple.2 ⟨[], trivial, rfl⟩) h2
        · cases h
      · cases h
  · -- clear
    rename_i x
    match args', ha with
    | [x'], ha =>
      split at h
      · rename_i t ht
        split at h
        · rename_i σ1 hd
          cases h
          obtain ⟨w', h1, h2⟩ := aClear_sound hd hR ha.1 ht ty
          exact .val h1 (vrel_tuple.2 ⟨[], trivial, rfl⟩) h2
        · cases h
      · cases h
  · -- min
    split at h
    · rename_i u hu
      cases h
      obtain ⟨x, l, rfl, h1, h2⟩ := aMinMax_sound (w := w) hu ha
      exact .same hR h1 h2
    · cases h
  · -- max
    split at h
    · rename_i u hu
      cases h
      obtain ⟨x, l, rfl, h1, h2⟩ := aMinMax_sound (w := w) hu ha
      exact .same hR h1 h2
    · cases h
  · cases h

theorem bytes_forIn (f : Value → ByteArray → Sem (ForInStep ByteArray)) (hf : ∀ n s w, (f (.int .u8 n) s).run P w = .ok (.yield (s.push (UInt8.ofNat n.toNat))) w) :
    ∀ (cs ds : List Value) (s s' : ByteArray), bytesOf cs s = some s' → LRel (VRel ρ) cs ds → (forIn ds s f).run P w = .ok s' w
  | [], [], s, s', h, _ => by cases h; rfl
  | c :: cs, e :: ds, s, s', h, hl => by
    cases c with
    | int k n =>
      cases k <;> first | (cases h; done) | skip
      obtain rfl := vrel_int.1 hl.1
      rw [List.forIn_cons, Sem.run_bind, hf, Result.andThen_ok]
      exact bytes_forIn f hf cs ds _ s' h hl.2
    | _ => cases h
  | [], _ :: _, _, _, _, h => h.elim
  | _ :: _, [], _, _, _, h => h.elim

theorem aBytes_sound {x x' v : Value} (h : aBytes σ x = some v) (hR : R G ρ σ w) (hx : VRel ρ x x') : ∃ v', (Conv.bytesToString x').run P w = .ok v' w ∧ VRel ρ v v' ∧ ∃ b n c, x' = .slice (some b) n c := by
  unfold aBytes at h
  split at h
  · rename_i y n c
    split at h
    · rename_i cs hcs
      obtain ⟨a', c', ds, rfl, h1, h2⟩ : ∃ a' c' ds, x' = .slice (some a') n c' ∧ LRel (VRel ρ) cs ds ∧ (loadCells a' n).run P w = .ok ds.toArray w := by
        rcases vrel_slice.1 hx with ⟨b, c', hb, hsp, _, rfl⟩ | ⟨hsp, rfl, rfl, rfl⟩
        · rw [aCellsS_eq hsp] at hcs
          obtain ⟨ds, h1, h2⟩ := loadCells_sound (P := P) hcs hR hb
          exact ⟨_, _, ds, rfl, h1, h2⟩
        · obtain ⟨_, rfl⟩ := aCellsS_lit hsp hcs
          exact ⟨_, _, [], rfl, trivial, run_loadCells_list (P := P) w (litA y) [] fun j v hj => by simp at hj⟩
      split at h
      · rename_i s hs
        cases h
        refine ⟨.string s, ?_, vrel_string.2 rfl, _, _, _, rfl⟩
        unfold Conv.bytesToString
        dsimp only
        rw [Sem.run_bind, h2, Result.andThen_ok, List.forIn_toArray, Sem.run_bind, bytes_forIn _ (fun n s w => rfl) cs ds _ s hs h1, Result.andThen_ok]
        rfl
      · cases h
    · cases h
  · cases h

theorem isBytes_run {s d : TypeId} {x : Value} (h : isBytes P s d = true) (hx : ∃ b n c, x = .slice (some b) n c) : (convert s d x).run P w = (Conv.bytesToString x).run P w := by
  obtain ⟨b, n, c, rfl⟩ := hx
  unfold isBytes at h
  split at h
  · rename_i e hs hd
    split at h
    · rename_i he
      unfold convert
      rw [Sem.run_bind, run_underlying' hs, Result.andThen_ok, Sem.run_bind, run_underlying' hd, Result.andThen_ok]
      dsimp only
      rw [Sem.run_bind, run_underlying' he, Result.andThen_ok]
    · cases h
  · cases h

end ops
end Go.Proofs.YtacpdefmnijhnaaGreat.Abs
