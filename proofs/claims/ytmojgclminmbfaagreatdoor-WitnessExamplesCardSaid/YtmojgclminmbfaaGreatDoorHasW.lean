/- cspcheckgen3.has (whether a row has an arc with the event) as a known call: its answer is read off the memory. -/
import Derived.Test.YtmojgclminmbfaaGreatDoorAbsT
import Derived.Test.YtmojgclminmbfaaGreatDoorAbsU
import Derived.Test.YtmojgclminmbfaaGreatDoorProg
set_option linter.unusedSimpArgs false
set_option linter.unusedVariables false
namespace Go.Proofs.YtmojgclminmbfaaGreatDoor.HasW
open Abs

/-- Whether one of the next k arcs from number i on has event e. -/
noncomputable def scan (σ : AS) (b : Nat) (e : Int) : Nat → Nat → Option Bool
  | 0, _ => some false
  | k + 1, i => match aCells σ ⟨b, i * 2, none⟩ 1 with
    | some [.int .i64 x] => if ieq x e then some true else scan σ b e k (i + 1)
    | _ => none

theorem fld0 {b off : Nat} : aField Tryz.prog 23 0 (.pointer (some ⟨b, off, none⟩)) = some (.pointer (some ⟨b, off, none⟩)) :=
  aField_ptr (fd := ⟨"Event", 3, 0, false, "", "", 0⟩) (inf := (Tryz.prog.info? 3).get!) Tryz.underlying23 rfl (by kernel_rfl) (by kernel_rfl)
theorem ixR {b off i len cap : Nat} (h : i < len) : aIndexAddr Tryz.prog 24 (.slice (some ⟨b, off, none⟩) len cap) (.int .i64 (i : Int)) = some (.pointer (some ⟨b, off + i * 2, none⟩)) :=
  aIndexAddr_slice (inf := (Tryz.prog.info? 23).get!) Tryz.underlying24 (by kernel_rfl) (by kernel_rfl) h

set_option maxHeartbeats 2000000 in
theorem has_c {K : Tbl} {G : Nat} {σ : AS} {b n c : Nat} {e : Int} {v : Bool} (hk : K.ask 71 [.slice (some ⟨b, 0, none⟩) n c, .int .i64 e] σ = none) (hn : n ≤ 2 ^ 62) (h : scan σ b e n 0 = some v) :
    C Tryz.prog K G 71 [.slice (some ⟨b, 0, none⟩) n c, .int .i64 e] σ fun u σ' => u = .bool v ∧ σ' = σ := by
  refine C_of hk Tryz.func71 rfl (Nat.le_of_ble_eq_true rfl) ?_
  show W _ _ _ 19 _ _ _ _
  unfold Tryz.f71
  dsimp only
  repeat apply W_assoc
  apply W_reg
  · intro callf
    simp +decide only [aOps, rinit, aWanted, ↓bite_eq, ↓reduceIte, aStep_eq, aStepOld, aOp, opBox, opBin, opUn, opCall, opIndexAddr, opFieldAddr, opLoad, opStore, opPick, opExtract, opSlice, opBuildSlice, opBuild, aRow, aev, aevs, aparts, ann, unn, aPut, if_true, if_false, rget_rput, flat, flat1, Nat.blt_eq, aBuiltin, aLen, List.getElem?_toArray, List.getElem?_cons_zero, List.getElem?_cons_succ, Nat.zero_add, Option.bind_some, beq_self_eq_true, Bool.not_true, Bool.not_false, Bool.true_beq, Bool.false_beq]
    rfl
  repeat apply W_assoc
  apply W_reg
  · intro callf
    simp +decide only [aOps, rinit, aWanted, ↓bite_eq, ↓reduceIte, aStep_eq, aStepOld, aOp, opBox, opBin, opUn, opCall, opIndexAddr, opFieldAddr, opLoad, opStore, opPick, opExtract, opSlice, opBuildSlice, opBuild, aRow, aev, aevs, aparts, ann, unn, aPut, if_true, if_false, rget_rput, flat, flat1, Nat.blt_eq, aBuiltin, aLen, List.getElem?_toArray, List.getElem?_cons_zero, List.getElem?_cons_succ, Nat.zero_add, Option.bind_some, beq_self_eq_true, Bool.not_true, Bool.not_false, Bool.true_beq, Bool.false_beq]
    rfl
  repeat apply W_assoc
  refine W_for (fun (i : Nat) r σ' => i ≤ n ∧ σ' = σ ∧ rget r 0 = .slice (some ⟨b, 0, none⟩) n c ∧ rget r 1 = .int .i64 e ∧ rget r 5 = .int .i64 (i : Int) ∧ scan σ b e (n - i) i = some v)
    (fun i => n - i) ?_ 0 ?_
  rotate_left
  · simp +decide only [rget_rput, if_true, if_false]
    exact ⟨Nat.zero_le _, trivial, trivial, trivial, rfl, h⟩
  rintro i r σ' ⟨hi, rfl, h0, h1, h5, hs⟩
  repeat apply W_assoc
  apply W_reg
  · intro callf
    simp +decide only [aOps, rinit, aWanted, ↓bite_eq, ↓reduceIte, aStep_eq, aStepOld, aOp, opBox, opBin, opUn, opCall, opIndexAddr, opFieldAddr, opLoad, opStore, opPick, opExtract, opSlice, opBuildSlice, opBuild, aRow, aev, aevs, aparts, ann, unn, aPut, if_true, if_false, rget_rput, flat, flat1, Nat.blt_eq, aBuiltin, aLen, List.getElem?_toArray, List.getElem?_cons_zero, List.getElem?_cons_succ, Nat.zero_add, Option.bind_some, beq_self_eq_true, Bool.not_true, Bool.not_false, Bool.true_beq, Bool.false_beq, h0, h5, goInt, Tryz.underlying24, aBin, aInts, aInt_eq]
    rfl
  repeat apply W_assoc
  refine W_if (b := decide ((i : Int) < (n : Int))) ?_ ?_ ?_
  · simp +decide only [aevs, aev, aResults, rget_rput, if_true, if_false]
  rotate_left
  · intro hb
    have hb : i = n := by
      have := of_decide_eq_false hb
      omega
    subst hb
    rw [Nat.sub_self] at hs
    simp only [scan, Option.some.injEq] at hs
    refine W_exitq ⟨fun h => (nomatch h), fun _ => ?_, fun h1 h2 => absurd rfl h2⟩
    repeat apply W_assoc
    apply W_reg
    · intro callf
      simp +decide only [aOps, rinit, aWanted, ↓bite_eq, ↓reduceIte, aStep_eq, aStepOld, aOp, opBox, opBin, opUn, opCall, opIndexAddr, opFieldAddr, opLoad, opStore, opPick, opExtract, opSlice, opBuildSlice, opBuild, aRow, aev, aevs, aparts, ann, unn, aPut, if_true, if_false, rget_rput, flat, flat1, Nat.blt_eq, aBuiltin, aLen, List.getElem?_toArray, List.getElem?_cons_zero, List.getElem?_cons_succ, Nat.zero_add, Option.bind_some, beq_self_eq_true, Bool.not_true, Bool.not_false, Bool.true_beq, Bool.false_beq]
      rfl
    refine W_ret ⟨Nat.le_refl _, [.bool false], ?_, ?_, rfl⟩
    · simp +decide only [aevs, aev, aResults, rget_rput, if_true, if_false]
    · rw [← hs]; rfl
  intro hb
  have hb : i < n := by
    have := of_decide_eq_true hb
    omega
  apply W_skipq
  obtain ⟨k, hk'⟩ : ∃ k, n - i = k + 1 := ⟨n - i - 1, by omega⟩
  rw [hk'] at hs
  simp only [scan] at hs
  split at hs
  rotate_left
  · cases hs
  rename_i x hc
  have L : aLoad Tryz.prog σ' 3 (.pointer (some ⟨b, i * 2, none⟩)) = some (.int .i64 x) := load1 Tryz.underlying3 rfl hc
  refine W_blk ?_
  repeat apply W_assoc
  apply W_reg
  · intro callf
    simp +decide only [aOps, rinit, aWanted, ↓bite_eq, ↓reduceIte, aStep_eq, aStepOld, aOp, opBox, opBin, opUn, opCall, opIndexAddr, opFieldAddr, opLoad, opStore, opPick, opExtract, opSlice, opBuildSlice, opBuild, aRow, aev, aevs, aparts, ann, unn, aPut, if_true, if_false, rget_rput, flat, flat1, Nat.blt_eq, aBuiltin, aLen, List.getElem?_toArray, List.getElem?_cons_zero, List.getElem?_cons_succ, Nat.zero_add, Option.bind_some, beq_self_eq_true, Bool.not_true, Bool.not_false, Bool.true_beq, Bool.false_beq, h0, h1, h5, ixR hb, fld0, L, aBin, aInts, aInt_eq]
    rfl
  refine W_tail ?_
  repeat apply W_assoc
  refine W_if (b := (x == e)) ?_ ?_ ?_
  · simp +decide only [aevs, aev, aResults, rget_rput, if_true, if_false]
  · intro hx
    rw [ieq_eq, hx, if_pos rfl] at hs
    repeat apply W_assoc
    apply W_reg
    · intro callf
      simp +decide only [aOps, rinit, aWanted, ↓bite_eq, ↓reduceIte, aStep_eq, aStepOld, aOp, opBox, opBin, opUn, opCall, opIndexAddr, opFieldAddr, opLoad, opStore, opPick, opExtract, opSlice, opBuildSlice, opBuild, aRow, aev, aevs, aparts, ann, unn, aPut, if_true, if_false, rget_rput, flat, flat1, Nat.blt_eq, aBuiltin, aLen, List.getElem?_toArray, List.getElem?_cons_zero, List.getElem?_cons_succ, Nat.zero_add, Option.bind_some, beq_self_eq_true, Bool.not_true, Bool.not_false, Bool.true_beq, Bool.false_beq]
      rfl
    refine W_retq ⟨fun h => ?_, fun _ _ => ?_⟩
    · exact h.elim (fun h => nomatch h) (fun h => nomatch h)
    · refine ⟨fun h => (nomatch h), fun h => (nomatch h), fun _ _ => ⟨Nat.le_refl _, [.bool true], ?_, ?_, rfl⟩⟩
      · simp +decide only [aevs, aev, aResults, rget_rput, if_true, if_false]
      · cases hs; rfl
  intro hx
  rw [ieq_eq, hx, if_neg (by decide)] at hs
  apply W_skipq
  refine W_skip ⟨fun _ => ?_, fun h => absurd rfl h⟩
  refine W_tail ?_
  repeat apply W_assoc
  apply W_reg
  · intro callf
    simp +decide only [aOps, rinit, aWanted, ↓bite_eq, ↓reduceIte, aStep_eq, aStepOld, aOp, opBox, opBin, opUn, opCall, opIndexAddr, opFieldAddr, opLoad, opStore, opPick, opExtract, opSlice, opBuildSlice, opBuild, aRow, aev, aevs, aparts, ann, unn, aPut, if_true, if_false, rget_rput, flat, flat1, Nat.blt_eq, aBuiltin, aLen, List.getElem?_toArray, List.getElem?_cons_zero, List.getElem?_cons_succ, Nat.zero_add, Option.bind_some, beq_self_eq_true, Bool.not_true, Bool.not_false, Bool.true_beq, Bool.false_beq, h5, aBin, aInts, aInt_eq]
    rfl
  refine W_skip ⟨fun _ => ⟨i + 1, by omega, hb, rfl, ?_⟩, fun h => absurd h (by decide), fun h => absurd rfl h⟩
  simp +decide only [rget_rput, if_true, if_false, h0, h1]
  refine ⟨trivial, trivial, ?_, ?_⟩
  · rw [wrap64_id _ (by omega) (by omega)]; rfl
  · rw [show n - (i + 1) = k by omega]; exact hs

theorem has_nil {G : Nat} {σ : AS} {e : Int} : aCall Tryz.prog K0 G 20 71 [.slice none 0 0, .int .i64 e] σ = some (.bool false, σ) := by kernel_rfl

noncomputable def hasA (σ : AS) : List Value → Option (Value × AS)
  | [.slice (some a) n c, .int .i64 e] => match a.spot with
    | none => if Nat.beq a.off 0 && Nat.ble n 1000000 then match scan σ a.block e n 0 with
        | some v => some (.bool v, σ)
        | none => none
      else none
    | some _ => none
  | [.slice none n c, .int .i64 e] => if Nat.beq n 0 && Nat.beq c 0 then some (.bool false, σ) else none
  | _ => none

theorem hasA_sound (hp : ProgOk Tryz.prog) (G : Nat) {σ σ' : AS} {xs : List Value} {v : Value} (h : hasA σ xs = some (v, σ')) : σ' = σ ∧ ∃ N, aCall Tryz.prog K0 G N 71 xs σ = some (v, σ') := by
  unfold hasA at h
  split at h
  · rename_i a n c e
    obtain ⟨b, off, sp⟩ := a
    split at h
    · rename_i hs
      split at h
      · rename_i hc
        simp only [Bool.and_eq_true, Nat.beq_eq, Nat.ble_eq] at hc
        split at h
        · rename_i u hu
          cases h
          dsimp only at hs hc hu
          obtain ⟨rfl, hn⟩ := hc
          subst hs
          obtain ⟨v, s1, N, h1, rfl, rfl⟩ := has_c (K := K0) (G := G) (c := c) rfl (by omega) hu
          exact ⟨rfl, N, h1 N (Nat.le_refl _)⟩
        · cases h
      · cases h
    · cases h
  · rename_i n c e
    split at h
    · rename_i hc
      simp only [Bool.and_eq_true, Nat.beq_eq] at hc
      obtain ⟨rfl, rfl⟩ := hc
      cases h
      exact ⟨rfl, 20, has_nil⟩
    · cases h
  · cases h

/-- The table with has. -/
noncomputable def withHas (K : Tbl) : Tbl where
  ask := fun g xs σ => bite (Nat.beq g 71) (hasA σ xs) (K.ask g xs σ)
  mono := fun g xs σ v σ' h => by
    dsimp only at h
    rw [bite_eq] at h
    split at h
    · unfold hasA at h
      split at h
      · split at h
        · split at h
          · split at h
            · cases h; exact AMono.refl _
            · cases h
          · cases h
        · cases h
      · split at h
        · cases h; exact AMono.refl _
        · cases h
      · cases h
    · exact K.mono _ _ _ _ _ h

theorem withHas_ok (hp : ProgOk Tryz.prog) {K : Tbl} (hk : KOk Tryz.prog K) : KOk Tryz.prog (withHas K) := by
  intro G g xs σ v σ' ρ w xs' hu hR hx
  unfold withHas at hu
  dsimp only at hu
  rw [bite_eq] at hu
  split at hu
  · rename_i hc
    obtain rfl := Nat.eq_of_beq_eq_true hc
    obtain ⟨_, N, h1⟩ := hasA_sound hp G hu
    exact aCall_sound hp (K0_ok _) N _ xs σ v σ' ρ w xs' h1 hR hx
  · exact hk G g xs σ v σ' ρ w xs' hu hR hx

end Go.Proofs.YtmojgclminmbfaaGreatDoor.HasW
