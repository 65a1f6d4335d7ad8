/- The two functions that range over a map, as known calls: meaning.finish and alphabet.Close. -/
import Derived.Test.YtnjljcbmmechcaaGreatMapR
import Derived.Test.YtnjljcbmmechcaaGreatProg
import Derived.KernelRfl
set_option linter.unusedVariables false
namespace Go.Proofs.YtnjljcbmmechcaaGreat.Den
open Abs

theorem names_all : (Tryz.prog.funcs.toList.all fun fn => !(fn.name == "runtime.NumGoroutine")) = true := by kernel_rfl

theorem progOk : ProgOk Tryz.prog where
  mixed := by kernel_rfl
  names f fn h := by
    have h1 := List.all_eq_true.1 names_all fn (List.mem_of_getElem? (i := f) (by simpa using h))
    simpa using h1

noncomputable def cFst : Code → Code | .seq a _ => a | c => c
noncomputable def cSnd : Code → Code | .seq _ b => b | c => c
noncomputable def cIn : Code → Code | .block _ c => c | .loop c => c | c => c
noncomputable def cOps : Code → Array Oper | .region _ o _ => o | _ => #[]
noncomputable def bodyOf (f : Func) : Code := match f.body with | some c => c | none => .skip

/-- The parts of a loop over a map: ((A ; B[L[(N ; (IF ; B[(E ; M)]))]]) ; Z). -/
noncomputable def pA (c : Code) : Array Oper := cOps (cFst (cFst c))
noncomputable def pL (c : Code) : Code := cIn (cIn (cSnd (cFst c)))
noncomputable def pN (c : Code) : Array Oper := cOps (cFst (pL c))
noncomputable def pE (c : Code) : Array Oper := cOps (cFst (cIn (cSnd (cSnd (pL c)))))
noncomputable def pM (c : Code) : Code := cSnd (cIn (cSnd (cSnd (pL c))))

noncomputable def finC : Code := bodyOf Tryz.f52
noncomputable def finAsk (args : List Value) (σ : AS) : Option (Value × AS) :=
  rangeAsk Tryz.prog K0 36 300 [] (pA finC) ((pA finC).toList.take 4) 7 8 (pN finC) ((pN finC).toList.drop 1) 9 8 10 (pE finC) ((pE finC).toList.drop 1) 11 (pM finC) 1 (cSnd finC) [] args σ

set_option maxRecDepth 100000 in
theorem fin_sound {G : Nat} {args args' : List Value} {σ σc : AS} {v : Value} {ρ : Ren} {w : World} (h : finAsk args σ = some (v, σc)) (hR : R G ρ σ w) (ha : LRel (VRel ρ) args args') :
    (callFunc 52 args'.toArray).run Tryz.prog w = .ok (.enter 52 args'.toArray) w ∧
    Calls Tryz.prog 52 args'.toArray w (fun e w' => ∃ v' τ, e = .returned v' ∧ VRel τ v v' ∧ Sim G ρ σ w τ σc w') :=
  rangeAsk_sound (n := 36) (fuel := 300) (fronts := []) (opsA := pA finC) (pre := (pA finC).toList.take 4) (x := 7) (t := 8) (ops := pN finC) (rest := (pN finC).toList.drop 1) (d := 9) (c := 10) (opsE := pE finC) (restE := (pE finC).toList.drop 1) (dE := 11) (Mc := pM finC) (id := 0) (id2 := 1) (Z := cSnd finC) (results := [])
    progOk (K0_ok _) Tryz.func52 (ra := 0) (rid := 1) (re := 2) (by kernel_rfl) (by kernel_rfl) (by kernel_rfl) rfl Tryz.underlying57 rfl rfl (by decide) (by decide) (by decide) h hR ha

noncomputable def cloC0 : Code := bodyOf Tryz.f70
noncomputable def cloC : Code := cSnd (cSnd (cSnd (cSnd cloC0)))
noncomputable def cloF : List Code := [cFst cloC0, cFst (cSnd cloC0), cFst (cSnd (cSnd cloC0)), cFst (cSnd (cSnd (cSnd cloC0)))]
noncomputable def cloAsk (args : List Value) (σ : AS) : Option (Value × AS) :=
  rangeAsk Tryz.prog K0 68 300 cloF (pA cloC) ((pA cloC).toList.take 1) 40 41 (pN cloC) ((pN cloC).toList.drop 1) 42 41 43 (pE cloC) ((pE cloC).toList.drop 1) 44 (pM cloC) 3 (cSnd cloC) Tryz.f70.results.toList args σ

set_option maxRecDepth 100000 in
theorem clo_sound {G : Nat} {args args' : List Value} {σ σc : AS} {v : Value} {ρ : Ren} {w : World} (h : cloAsk args σ = some (v, σc)) (hR : R G ρ σ w) (ha : LRel (VRel ρ) args args') :
    (callFunc 70 args'.toArray).run Tryz.prog w = .ok (.enter 70 args'.toArray) w ∧
    Calls Tryz.prog 70 args'.toArray w (fun e w' => ∃ v' τ, e = .returned v' ∧ VRel τ v v' ∧ Sim G ρ σ w τ σc w') :=
  rangeAsk_sound (n := 68) (fuel := 300) (fronts := cloF) (opsA := pA cloC) (pre := (pA cloC).toList.take 1) (x := 40) (t := 41) (ops := pN cloC) (rest := (pN cloC).toList.drop 1) (d := 42) (c := 43) (opsE := pE cloC) (restE := (pE cloC).toList.drop 1) (dE := 44) (Mc := pM cloC) (id := 2) (id2 := 3) (Z := cSnd cloC) (results := Tryz.f70.results.toList)
    progOk (K0_ok _) Tryz.func70 (ra := 10) (rid := 11) (re := 12) (by kernel_rfl) (by kernel_rfl) rfl rfl Tryz.underlying177 rfl rfl (by decide) (by decide) (by decide) h hR ha

/-- The table with both. -/
noncomputable def K1 : Tbl where
  ask := fun g xs σ => bite (Nat.beq g 52) (finAsk xs σ) (bite (Nat.beq g 70) (cloAsk xs σ) none)
  mono := fun g xs σ v σ' h => by
    dsimp only at h
    rw [bite_eq, bite_eq] at h
    split at h
    · exact rangeAsk_mono h
    · split at h
      · exact rangeAsk_mono h
      · cases h

theorem K1_ok : KOk Tryz.prog K1 := by
  intro G g xs σ v σ' ρ w xs' hu hR hx
  unfold K1 at hu
  dsimp only at hu
  rw [bite_eq, bite_eq] at hu
  split at hu
  · rename_i hc
    obtain rfl := Nat.eq_of_beq_eq_true hc
    exact fin_sound hu hR hx
  · split at hu
    · rename_i hc
      obtain rfl := Nat.eq_of_beq_eq_true hc
      exact clo_sound hu hR hx
    · cases hu
end Go.Proofs.YtnjljcbmmechcaaGreat.Den
