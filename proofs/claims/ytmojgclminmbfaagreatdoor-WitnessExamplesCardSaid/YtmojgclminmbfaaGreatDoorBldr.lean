/- strings.Builder: copyCheck and String, walked in the machine. -/
import Derived.Test.YtmojgclminmbfaaGreatDoorProg
import Derived.Test.YtmojgclminmbfaaGreatDoorAbsU
import Derived.Lib.Builder
import Derived.Lib.UnsafeStr
import Derived.Lib.Walk
import Derived.Laws.Externs
import Derived.WalkKit
set_option linter.unusedVariables false
set_option linter.unusedSimpArgs false
namespace Go.Proofs.YtmojgclminmbfaaGreatDoor.Bldr
open Go.RowKit

set_option maxHeartbeats 1000000 in
set_option maxRecDepth 100000 in
theorem check_used (b : Nat) (w : World) (h0 : w.cell? ⟨b, 0, none⟩ = some (.pointer (some ⟨b, 0, none⟩))) :
    Calls Tryz.prog 136 #[.pointer (some ⟨b, 0, none⟩)] w fun e w' => e = .returned (.tuple #[]) ∧ w' = w := by
  obtain ⟨j, hj, _⟩ := Option.map_eq_some_iff.1 (show (Tryz.prog.info? 157).map (·.size) = some 2 by kernel_rfl)
  go_enter Tryz.func136, Tryz.ntmps136
  go_wp2
  rw [Lib.run_neq_ptr_same w _ Tryz.underlying155 hj]
  go_wp2
  go_end0
  exact ⟨rfl, rfl⟩

set_option maxHeartbeats 1000000 in
set_option maxRecDepth 100000 in
theorem check_fresh (b : Nat) (w : World) (h0 : w.cell? ⟨b, 0, none⟩ = some (.pointer none)) (hsh : w.shape? b = some (157, 2)) (hfz : w.frozen? ⟨b, 0, none⟩ = false) :
    Calls Tryz.prog 136 #[.pointer (some ⟨b, 0, none⟩)] w fun e w' => e = .returned (.tuple #[]) ∧ w' = w.setCell ⟨b, 0, none⟩ (.pointer (some ⟨b, 0, none⟩)) := by
  obtain ⟨j, hj, hjs⟩ := Option.map_eq_some_iff.1 (show (Tryz.prog.info? 157).map (·.size) = some 2 by kernel_rfl)
  go_enter Tryz.func136, Tryz.ntmps136
  go_wp2
  rw [Lib.run_to_unsafe w ⟨b, 0, none⟩ Tryz.underlying155 Tryz.underlying244 hj (by rw [hjs]; decide) hsh (Nat.zero_lt_succ 1)]
  simp only [Result.andThen]
  rw [Oper.upon_value]
  go_wp2
  rw [run_callFunc_extern Tryz.func194 (by kernel_rfl) (by kernel_rfl) (by kernel_rfl) (e := Extern.AbiNoEscape.same) (by kernel_rfl)]
  rw [Lib.run_noEscape]
  simp only [Result.andThen]
  rw [Oper.upon_value]
  go_wp2
  rw [Lib.run_from_unsafe w ⟨b, 0, none⟩ Tryz.underlying244 Tryz.underlying155 hj hsh (by kernel_rfl)]
  simp only [Result.andThen]
  rw [Oper.upon_value]
  go_wp2
  go_end0
  exact ⟨rfl, rfl⟩

set_option maxHeartbeats 2000000 in
set_option maxRecDepth 100000 in
theorem string_of (b g cap : Nat) (l : List UInt8) (w : World) {p : Value} {cur : Array Value} {e : TypeId} {fr fr' : Nat × Nat} (hbk : w.heap[b]? = some (.cells #[p, .slice (some ⟨g, 0, none⟩) l.length cap] e fr)) (h0 : l ≠ []) (hc0 : cap ≠ 0)
    (hg : w.heap[g]? = some (.cells cur 5 fr')) (hcur : l.length ≤ cur.size) (h63 : l.length ≤ 9223372036854775807) (hcell : ∀ (j : Nat) (x : UInt8), l[j]? = some x → cur[j]? = some (Value.int .u8 x.toNat)) :
    Calls Tryz.prog 88 #[.pointer (some ⟨b, 0, none⟩)] w fun e w' => e = .returned (.string ⟨l.toArray⟩) ∧ w'.heap = (w.freeze ⟨g, 0, none⟩ l.length).heap ∧ w'.os = w.os ∧ w'.output = w.output := by
  have hl0 : l.length ≠ 0 := by simpa using h0
  have c1 : w.drew.cell? ⟨b, 1, none⟩ = some (.slice (some ⟨g, 0, none⟩) l.length cap) := by
    have : w.drew.heap[b]? = some (.cells #[p, .slice (some ⟨g, 0, none⟩) l.length cap] e fr) := hbk
    rw [Lib.cell_of_heap this]; rfl
  have hSD : (Builtin.unsafeSliceData_ #[98] 200 #[.slice (some ⟨g, 0, none⟩) l.length cap]).run Tryz.prog w.drew = .ok (.pointer (some ⟨g, 0, none⟩)) w.drew :=
    Lib.run_unsafeSliceData_row _ _ _ _ _ _ hc0
  have hUS : (Builtin.unsafeString_ #[200, 3] 9 #[.pointer (some ⟨g, 0, none⟩), .int .i64 l.length]).run Tryz.prog w.drew = .ok (.string ⟨l.toArray⟩) (w.drew.freeze ⟨g, 0, none⟩ l.length) := by
    refine Lib.run_unsafeString_row w.drew 200 3 9 5 Tryz.underlying200 (by kernel_rfl) g cur.size (by have hg' : w.drew.heap[g]? = some (.cells cur 5 fr') := hg; simp [World.shape?, hg']) l h0 hcur h63 ?_
    intro j x hx
    have hg' : w.drew.heap[g]? = some (.cells cur 5 fr') := hg
    have e2 : ((⟨g, 0, none⟩ : Addr).add j) = ⟨g, j, none⟩ := by
      unfold Addr.add; split
      · rename_i h; subst h; rfl
      · simp
    rw [e2, Lib.cell_of_heap hg', hcell j x hx]
  go_enter Tryz.func88, Tryz.ntmps88
  go_wp2
  go_region
  all_goals (go_wp2; go_ret; exact ⟨rfl, by unfold World.freeze; split <;> rfl, by unfold World.freeze; split <;> rfl, by unfold World.freeze; split <;> rfl⟩)

/-! ### Both as known calls of the evaluator -/
open Abs

noncomputable def check (T : TypeId) (σ : AS) : List Value → Option (Value × AS)
  | [.pointer (some a)] => if Nat.beq (σ.get a.block).kind 1 && Nat.beq a.off 0 && Nat.beq (σ.get a.block).elem T then match (σ.get a.block).vals with
      | [.pointer none, q] => some (undef, σ.put a.block ⟨1, T, 0, [.pointer (some ⟨a.block, 0, none⟩), q], []⟩)
      | [.pointer (some x), _] => if Nat.beq x.block a.block && Nat.beq x.off 0 then some (undef, σ) else none
      | _ => none
    else none
  | _ => none

noncomputable def bytesL : List Value → Option (List UInt8)
  | [] => some []
  | .int .u8 n :: l => if decide (0 ≤ n) && decide (n < 256) then match bytesL l with
      | some m => some (UInt8.ofNat n.toNat :: m)
      | none => none
    else none
  | _ => none

noncomputable def str (T E : TypeId) (σ : AS) : List Value → Option (Value × AS)
  | [.pointer (some a)] => if Nat.beq (σ.get a.block).kind 1 && Nat.beq a.off 0 then match (σ.get a.block).vals with
      | [_, .slice (some g) n cp] => if Nat.beq g.off 0 && Nat.blt 0 n && Nat.ble n 9223372036854775807 && isCells (σ.get g.block) && Nat.beq (σ.get g.block).elem E && !Nat.beq cp 0 && !Nat.beq cp OPENCAP then match aCells σ g n with
          | some cs => match bytesL cs with
            | some s => some (.string ⟨s.toArray⟩, σ.put g.block Blk.dead)
            | none => none
          | none => none
        else none
      | _ => none
    else none
  | _ => none

theorem check_mono {T : TypeId} {σ σ' : AS} {xs : List Value} {v : Value} (h : check T σ xs = some (v, σ')) : AMono σ σ' := by
  unfold check at h
  split at h
  · split at h
    · rename_i hc
      simp only [Bool.and_eq_true, Nat.beq_eq] at hc
      split at h
      · cases h; exact AMono.put _ (by omega)
      · split at h
        · cases h; exact AMono.refl _
        · cases h
      · cases h
    · cases h
  · cases h

theorem str_mono {T E : TypeId} {σ σ' : AS} {xs : List Value} {v : Value} (h : str T E σ xs = some (v, σ')) : AMono σ σ' := by
  unfold str at h
  split at h
  · split at h
    · split at h
      · split at h
        · rename_i hc
          simp only [Bool.and_eq_true, isCells, Bool.or_eq_true, Nat.beq_eq] at hc
          split at h
          · split at h
            · cases h; exact AMono.put _ (by omega)
            · cases h
          · cases h
        · cases h
      · cases h
    · cases h
  · cases h

theorem setCell_heap {w : World} {b : Nat} {c : Array Value} {e : TypeId} {fr : Nat × Nat} (hb : w.heap[b]? = some (.cells c e fr)) (i : Nat) (v : Value) :
    (w.setCell ⟨b, i, none⟩ v).heap = w.heap.setIfInBounds b (.cells (c.setIfInBounds i v) e fr) := by
  apply Array.ext_getElem?
  intro j
  rw [heap_set_get hb]
  simp only [World.setCell, Array.getElem?_modify]
  split
  · rename_i h; subst h; simp [hb]
  · rfl

theorem freeze_heap {w : World} {b : Nat} {c : Array Value} {e : TypeId} {fr : Nat × Nat} (hb : w.heap[b]? = some (.cells c e fr)) {n : Nat} (hn : n ≠ 0) :
    ∃ o, (w.freeze ⟨b, 0, none⟩ n).heap = w.heap.setIfInBounds b o := by
  obtain ⟨lo, hi⟩ := fr
  refine ⟨.cells c e (if lo == hi then (0, 0 + n) else (min lo 0, max hi (0 + n))), ?_⟩
  apply Array.ext_getElem?
  intro j
  rw [heap_set_get hb]
  simp only [World.freeze, if_neg hn, Array.getElem?_modify]
  split
  · rename_i h; subst h; simp [hb]
  · rfl

theorem ptr_arg {ρ : Abs.Ren} {a : Addr} {xs' : List Value} (h : LRel (VRel ρ) [.pointer (some a)] xs') : ∃ b, ρ.bl a.block = some b ∧ a.spot = none ∧ xs' = [.pointer (some ⟨b, a.off, none⟩)] := by
  match xs', h with
  | [x], h =>
    obtain ⟨b, h1, h2, rfl⟩ := vrel_ptr.1 h.1
    exact ⟨b, h1, h2, rfl⟩
  | [], h => exact h.elim
  | _ :: _ :: _, h => exact h.2.elim

theorem two {ρ : Abs.Ren} {p q : Value} {c : Array Value} (h : LRel (VRel ρ) [p, q] c.toList) : ∃ p' q', c = #[p', q'] ∧ VRel ρ p p' ∧ VRel ρ q q' := by
  obtain ⟨l⟩ := c
  match l, h with
  | [p', q'], h => exact ⟨p', q', rfl, h.1, h.2.1⟩
  | [], h => exact h.elim
  | [_], h => exact h.2.elim
  | _ :: _ :: _ :: _, h => exact h.2.2.elim

theorem bytesL_rel {ρ : Abs.Ren} : ∀ {cs ds : List Value} {l : List UInt8}, bytesL cs = some l → LRel (VRel ρ) cs ds → l.length = ds.length ∧ ∀ (j : Nat) (x : UInt8), l[j]? = some x → ds[j]? = some (.int .u8 x.toNat)
  | [], [], l, h, _ => by cases h; exact ⟨rfl, fun j x h => by simp at h⟩
  | c :: cs, d :: ds, l, h, hr => by
    cases c with
    | int k n =>
      cases k <;> first | (cases h; done) | skip
      simp only [bytesL] at h
      split at h
      · rename_i hc
        simp only [Bool.and_eq_true, decide_eq_true_eq] at hc
        split at h
        · rename_i m hm
          cases h
          obtain ⟨h1, h2⟩ := bytesL_rel hm hr.2
          refine ⟨by simp [h1], fun j x hx => ?_⟩
          cases j with
          | zero =>
            simp only [List.getElem?_cons_zero, Option.some.injEq] at hx ⊢
            rw [vrel_int.1 hr.1, ← hx, UInt8.toNat_ofNat']
            congr 1
            have : n.toNat % 2 ^ 8 = n.toNat := Nat.mod_eq_of_lt (by omega)
            rw [this]; omega
          | succ j => exact h2 j x (by simpa using hx)
        · cases h
      · cases h
    | _ => cases h
  | [], _ :: _, _, _, h => h.elim
  | _ :: _, [], _, _, h => h.elim

theorem enters {P : Program} {f : FuncId} {fn : Func} {c : Code} (hf : P.funcs[f]? = some fn) (hname : (fn.name == "runtime.NumGoroutine") = false) (hb : fn.body = some c) (args : Array Value) (w : World) :
    (callFunc f args).run P w = .ok (.enter f args) w := by
  have h1 : fn.name ≠ "runtime.NumGoroutine" := by simpa using hname
  simp [callFunc, hf, h1, hb]

theorem check_sound (G : Nat) {σ σ' : AS} {xs xs' : List Value} {v : Value} {ρ : Abs.Ren} {w : World} (h : check 157 σ xs = some (v, σ')) (hR : R G ρ σ w) (hx : LRel (VRel ρ) xs xs') :
    Calls Tryz.prog 136 xs'.toArray w fun e w' => ∃ v' τ, e = .returned v' ∧ VRel τ v v' ∧ Sim G ρ σ w τ σ' w' := by
  unfold check at h
  split at h
  · rename_i a
    obtain ⟨b, hb, _, rfl⟩ := ptr_arg hx
    split at h
    · rename_i hc
      simp only [Bool.and_eq_true, Nat.beq_eq] at hc
      obtain ⟨⟨hk, ho⟩, he⟩ := hc
      obtain ⟨_, o, hw, hB⟩ := hR.blk _ b hb
      unfold BRel at hB
      rw [hk] at hB
      obtain ⟨c, fr, rfl, hfr, hl⟩ := hB
      rw [he] at hw
      have hne : (σ.get a.block).kind ≠ 0 := by omega
      rw [ho]
      split at h
      · rename_i q hv
        cases h
        rw [hv] at hl
        obtain ⟨p', q', rfl, h1, h2⟩ := two hl
        obtain rfl := vrel_ptr_none.1 h1
        have h0 : w.cell? ⟨b, 0, none⟩ = some (.pointer none) := by simp [World.cell?, hw]
        refine (check_fresh b w h0 (by simp [World.shape?, hw]) (frozen_of hw hfr (by simp))).mono ?_
        rintro e w' ⟨rfl, rfl⟩
        refine ⟨_, ρ, rfl, vrel_undef, Sim.put hR hb hne (setCell_heap hw 0 _) ⟨rfl, rfl⟩ ?_⟩
        exact ⟨#[.pointer (some ⟨b, 0, none⟩), q'], fr, rfl, hfr, vrel_ptr.2 ⟨b, hb, rfl, rfl⟩, h2, trivial⟩
      · rename_i x q hv
        split at h
        · rename_i hq
          simp only [Bool.and_eq_true, Nat.beq_eq] at hq
          cases h
          rw [hv] at hl
          obtain ⟨p', q', rfl, h1, h2⟩ := two hl
          obtain ⟨b2, hb2, _, rfl⟩ := vrel_ptr.1 h1
          rw [hq.1, hb] at hb2
          cases hb2
          rw [hq.2] at hw
          have h0 : w.cell? ⟨b, 0, none⟩ = some (.pointer (some ⟨b, 0, none⟩)) := by simp [World.cell?, hw]
          refine (check_used b w h0).mono ?_
          rintro e w' ⟨rfl, rfl⟩
          exact ⟨_, ρ, rfl, vrel_undef, Sim.refl hR⟩
        · cases h
      · cases h
    · cases h
  · cases h

theorem str_sound (G : Nat) {σ σ' : AS} {xs xs' : List Value} {v : Value} {ρ : Abs.Ren} {w : World} (h : str 157 5 σ xs = some (v, σ')) (hR : R G ρ σ w) (hx : LRel (VRel ρ) xs xs') :
    Calls Tryz.prog 88 xs'.toArray w fun e w' => ∃ v' τ, e = .returned v' ∧ VRel τ v v' ∧ Sim G ρ σ w τ σ' w' := by
  unfold str at h
  split at h
  · rename_i a
    obtain ⟨b, hb, _, rfl⟩ := ptr_arg hx
    split at h
    · rename_i hc
      simp only [Bool.and_eq_true, Nat.beq_eq] at hc
      obtain ⟨hk, ho⟩ := hc
      obtain ⟨_, o, hw, hB⟩ := hR.blk _ b hb
      unfold BRel at hB
      rw [hk] at hB
      obtain ⟨c, fr, rfl, hfr, hl⟩ := hB
      rw [ho]
      split at h
      · rename_i p g n cp hv
        split at h
        · rename_i hq
          simp only [Bool.and_eq_true, Nat.beq_eq, Nat.blt_eq, Nat.ble_eq, Bool.not_eq_true'] at hq
          obtain ⟨⟨⟨⟨⟨⟨g0, n0⟩, n63⟩, gk⟩, ge⟩, c0⟩, c1⟩ := hq
          split at h
          · rename_i cs hcs
            split at h
            · rename_i l hbl
              cases h
              rw [hv] at hl
              obtain ⟨p', q', rfl, h1, h2⟩ := two hl
              rcases vrel_slice.1 h2 with ⟨gb, c', hg, _, hcap, rfl⟩ | ⟨_, hz, _⟩
              · obtain ⟨cur, fr', pre, post, hgw, _, hgl, hgr, _, _⟩ := cells_of hR hg gk
                obtain ⟨ds, d1, d2, d3⟩ := aCells_sound hcs hR hg
                obtain ⟨e1, e2⟩ := bytesL_rel hbl d1
                have hln : l.length = n := by rw [e1, d2]
                rw [ge] at hgw
                rw [g0] at hw d3
                have hcell : ∀ (j : Nat) (x : UInt8), l[j]? = some x → cur[j]? = some (Value.int .u8 x.toNat) := fun j x hj => by
                  have := d3 j _ (e2 j x hj)
                  rw [Nat.zero_add] at this
                  simpa [World.cell?, hgw] using this
                have hcs' : l.length ≤ cur.size := by
                  rcases Nat.lt_or_ge cur.size l.length with hlt | hge
                  · have : l[cur.size]? = some l[cur.size] := by simp [hlt]
                    have := hcell _ _ this
                    simp at this
                  · exact hge
                have c0' : cp ≠ 0 := fun e => by rw [e] at c0; cases c0
                have c1' : cp ≠ OPENCAP := fun e => by rw [e, Nat.beq_refl] at c1; cases c1
                have hc' : c' ≠ 0 := by
                  unfold CapRel at hcap
                  split at hcap
                  · omega
                  · omega
                rw [← hln] at hw
                refine (string_of b gb c' l w hw (by intro e; rw [e] at hln; simp at hln; omega) hc' hgw hcs' (by omega) hcell).mono ?_
                rintro e w' ⟨rfl, k1, k2, k3⟩
                obtain ⟨o, k4⟩ := freeze_heap hgw (n := l.length) (by omega)
                refine ⟨_, ρ, rfl, vrel_string.2 rfl, Sim.put hR hg ?_ (k1.trans k4) ⟨k2, k3⟩ trivial⟩
                simp only [isCells, Bool.or_eq_true, Nat.beq_eq] at gk
                omega
              · omega
            · cases h
          · cases h
        · cases h
      · cases h
    · cases h
  · cases h

/-- The table with strings.Builder. -/
noncomputable def withBldr (K : Tbl) : Tbl where
  ask := fun g xs σ => bite (Nat.beq g 136) (check 157 σ xs) (bite (Nat.beq g 88) (str 157 5 σ xs) (K.ask g xs σ))
  mono := fun g xs σ v σ' h => by
    dsimp only at h
    rw [bite_eq, bite_eq] at h
    split at h
    · exact check_mono h
    · split at h
      · exact str_mono h
      · exact K.mono _ _ _ _ _ h

theorem withBldr_ok {K : Tbl} (hk : KOk Tryz.prog K) : KOk Tryz.prog (withBldr K) := by
  intro G g xs σ v σ' ρ w xs' hu hR hx
  unfold withBldr at hu
  dsimp only at hu
  rw [bite_eq, bite_eq] at hu
  split at hu
  · rename_i hc
    obtain rfl := Nat.eq_of_beq_eq_true hc
    exact ⟨enters Tryz.func136 (by kernel_rfl) rfl _ _, check_sound G hu hR hx⟩
  · split at hu
    · rename_i hc
      obtain rfl := Nat.eq_of_beq_eq_true hc
      exact ⟨enters Tryz.func88 (by kernel_rfl) rfl _ _, str_sound G hu hR hx⟩
    · exact hk G g xs σ v σ' ρ w xs' hu hR hx
end Go.Proofs.YtmojgclminmbfaaGreatDoor.Bldr
