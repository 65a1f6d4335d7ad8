/- The law CertificateExamples returns true, whatever the tape answers. No condition. The walk is one closed run of the evaluator of the texts Abs, which is proved right there for any program. -/
import Derived.Test.YtkgiampemlkgjaaGreatRows
import Derived.Test.YtkgiampemlkgjaaGreatAbsM
import Derived.WalkKit
import Derived.ProofKit
import Derived.OpenShut
namespace Go.Proofs.YtkgiampemlkgjaaGreat.certificateExamples
open Go.ChangeShapes Go.WideShapes Go.ChangeAt Go.RowKit Go.Proofs.YtkgiampemlkgjaaGreat.Abs
set_option linter.unusedVariables false

theorem own : ownKnob Tryz.prog.godebug = none := by kernel_rfl

theorem names_all : (Tryz.prog.funcs.toList.all fun fn => !(fn.name == "runtime.NumGoroutine")) = true := by kernel_rfl

theorem progOk : ProgOk Tryz.prog where
  mixed := by kernel_rfl
  names f fn h := by
    have h1 := List.all_eq_true.1 names_all fn (List.mem_of_getElem? (i := f) (by simpa using h))
    simpa using h1

noncomputable def yes (o : Option (Value × AS)) : Bool := match o with | some (.bool true, _) => true | _ => false

theorem yes_some {o : Option (Value × AS)} (h : yes o = true) : ∃ σ, o = some (.bool true, σ) := by
  unfold yes at h
  split at h
  · exact ⟨_, rfl⟩
  · cases h

/-- The law's run. -/
theorem ran : yes (aCall Tryz.prog 0 1000 3 [] ⟨0, 0, .e⟩) = true := by kernel_rfl

theorem walk (w : World) : Calls Tryz.prog 3 #[] w fun e w' => e = .returned (.bool true) ∧ ∀ may, w.keptBut w' may := by
  obtain ⟨σ, h⟩ := yes_some ran
  exact closed_calls progOk h rfl w

set_option maxRecDepth 100000 in
theorem lifted (os : Os) (started : os.Started) (H : Type) (enc : TypeId × Value → H) :
    ReturnsInHanded {} Tryz.checked os 3 .any (Rows.certificateExamplesSpec.pre6 enc Tryz.prog Tryz.f3 Rows.certificateExamplesRow.domain false) (Rows.certificateExamplesSpec.post enc Tryz.prog Tryz.f3 false true false false) := by
  refine returnsInHanded_of_change (C := Tryz.checked) own started (by kernel_rfl) Tryz.func3
    (ChangeSpec.witness6 (enc := enc) (C := Tryz.checked) false ⟨#[], #[], []⟩ 8 (by kernel_rfl) (by kernel_rfl) (by kernel_rfl) (by kernel_rfl)) ?_
  intro W base args ds gs before hval0 hW hcnd _
  have hW' := hW
  obtain ⟨p, q, hA0, hV, rfl, hfz, hnd⟩ := hW
  have hA : DataW.TrodAll enc Tryz.prog W 0 (fun _ => true) true Tryz.f3.params.toList args.toList ds p := hA0
  rw [Tryz.params3] at hA
  obtain ⟨rfl, rfl, rfl⟩ := trodAll_none hA
  obtain ⟨rfl, rfl⟩ := trodVars_none hV
  clear hA0 hval0
  refine (walk W).mono fun e W' ⟨he, hg⟩ => ?_
  subst he
  exact ⟨_, rfl, [], [], [], [], [], [], hW', trodAll_cons_mk (shut_bool Tryz.underlying4 _) trodAll_mk0, trodAll_mk0, rfl, hg _, fun h => by cases h⟩

theorem over : Rows.certificateExamplesRow.holds Tryz.pinned (OpenSpec.ofChange Rows.certificateExamplesSpec) :=
  OpenClaim.holds_of_wide 3 Tryz.f3 rfl rfl rfl rfl rfl rfl rfl ⟨rfl, rfl, rfl, rfl, rfl⟩ rfl rfl rfl rfl rfl (by kernel_rfl) Tryz.func3 (by kernel_rfl)
    (of_decide_eq_true (by kernel_rfl)) (by unfold Func.isWrapper; first | (rw [if_pos (by decide +kernel)]; kernel_rfl) | (rw [if_neg (by decide +kernel)]; exact ⟨rfl, rfl⟩))
    (fun os started H enc _ => lifted os started H enc)

theorem proved : Rows.CertificateExamplesSaid := over
#print axioms proved
end Go.Proofs.YtkgiampemlkgjaaGreat.certificateExamples
