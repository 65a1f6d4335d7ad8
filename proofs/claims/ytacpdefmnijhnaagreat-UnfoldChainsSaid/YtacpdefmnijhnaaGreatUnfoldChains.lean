/- The law UnfoldChains returns true, whatever it is handed; what it was handed reads as it did. No condition. The code is run over an abstract memory by an evaluator that is proved right for any program (the texts Abs), by contracts of the functions over a chain of calls, by runs over known memories for what they call. -/
import Derived.Test.YtacpdefmnijhnaaGreatRows
import Derived.Test.YtacpdefmnijhnaaGreatVP
import Derived.Carry
import Derived.SizedLaws
import Derived.ChangeArms
import Derived.Test.YtacpdefmnijhnaaGreatChnE
import Derived.WalkKit
import Derived.ProofKit
import Derived.OpenShut
namespace Go.Proofs.YtacpdefmnijhnaaGreat.unfoldChains
open Go.ChangeShapes Go.WideShapes Go.ChangeAt Go.RowKit Go.Proofs.YtacpdefmnijhnaaGreat.Abs Go.Proofs.YtacpdefmnijhnaaGreat.U Go.Proofs.YtacpdefmnijhnaaGreat.U18
set_option linter.unusedVariables false

theorem own : ownKnob Tryz.prog.godebug = none := by kernel_rfl

section
variable {H : Type} {enc : TypeId × Value → H}

set_option maxRecDepth 100000 in
theorem walk {W : World} {base : Nat} {tv kv : Value} {d0 d1 : DataW H} {p0 p1 : List MemPlace}
    (h0 : DataW.Trod enc Tryz.prog W 0 (fun _ => true) true 5 tv d0 p0) (h1 : DataW.Trod enc Tryz.prog W 0 (fun _ => true) true 5 kv d1 p1)
    (k0 : Value.okWide Tryz.prog W .any base 5 tv) (k1 : Value.okWide Tryz.prog W .any base 5 kv) :
    Calls Tryz.prog 3 #[tv, kv] W fun e W' => e = .returned (.bool true) ∧ (∀ b, b < W.heap.size → W'.heap[b]? = W.heap[b]?) ∧ W.heap.size ≤ W'.heap.size ∧ W'.os = W.os ∧ W'.output = W.output := by
  obtain ⟨nd, rfl, -, -, hn⟩ := open_int (k := .u8) Tryz.underlying5 k0 h0
  obtain ⟨kd, rfl, -, -, hwf⟩ := open_int (k := .u8) Tryz.underlying5 k1 h1
  have n0 : 0 ≤ nd := by
    unfold Lit.wf at hn
    rw [Bool.and_eq_true] at hn
    exact of_decide_eq_true hn.1
  have b0 : 0 ≤ kd := by
    unfold Lit.wf at hwf
    rw [Bool.and_eq_true] at hwf
    exact of_decide_eq_true hwf.1
  have b1 : kd < 256 := by
    unfold Lit.wf at hwf
    rw [Bool.and_eq_true] at hwf
    have := of_decide_eq_true hwf.2
    have hm : IntKind.u8.max = 255 := by decide
    omega
  refine mirror_calls (args := [.int .u8 nd, .int .u8 kd]) progOk K2_ok (fun v hv => ?_) ((law_c n0 b0 b1).mono fun v s h => h.1)
  simp only [List.mem_cons, List.not_mem_nil, or_false] at hv
  rcases hv with rfl | rfl <;> exact vrel_int.2 rfl

end

set_option maxRecDepth 100000 in
theorem lifted (os : Os) (started : os.Started) (H : Type) (enc : TypeId × Value → H) :
    ReturnsInHanded {} Tryz.checked os 3 .any (Rows.unfoldChainsSpec.pre6 enc Tryz.prog Tryz.f3 Rows.unfoldChainsRow.domain false) (Rows.unfoldChainsSpec.post enc Tryz.prog Tryz.f3 false true false false) := by
  refine returnsInHanded_of_change_sized (C := Tryz.checked) own started (by kernel_rfl) Tryz.func3
    (ChangeSpec.witness6 (enc := enc) (C := Tryz.checked) false ⟨#[], #[.int .u8 0, .int .u8 0], []⟩ 8 (by kernel_rfl) (by kernel_rfl) (by kernel_rfl) (by kernel_rfl)) ?_
  intro W base args ds gs before hval0 hW hcnd hwt _
  have hW' := hW
  have hlt := hW.lt
  obtain ⟨p, q, hA0, hV, rfl, hfz, hnd⟩ := hW
  have hA : DataW.TrodAll enc Tryz.prog W 0 (fun _ => true) true Tryz.f3.params.toList args.toList ds p := hA0
  rw [Tryz.params3] at hA
  obtain ⟨tv, kv, d0, d1, p0, p1, rfl, rfl, rfl, h0, h1⟩ := trodAll_two hA
  obtain ⟨rfl, rfl⟩ := trodVars_none hV
  have k0 := hval0 0 5 tv rfl rfl
  have k1 := hval0 1 5 kv rfl rfl
  refine (walk h0 h1 k0 k1).mono fun e W' ⟨he, hg, hsz, hos, hout⟩ => ?_
  subst he
  have same : ∀ x : MemPlace, x.block < W.heap.size → W.sameAt W' x := fun x hx => by
    cases x with
    | cell b o => exact World.cell?_of_block (w := W) (hg b hx)
    | map b => exact hg b hx
  have stay : ∀ {t : TypeId} {v : Value} {d : DataW H} {ps : List MemPlace}, Tryz.prog.readableRec t = true → t < Tryz.prog.types.size → DataW.Trod enc Tryz.prog W 0 (fun _ => true) true t v d ps → (∀ x ∈ ps, x.block < W.heap.size) →
      DataW.Trod enc Tryz.prog W' 0 (fun b => decide (b < W.heap.size)) true t v d ps := fun hr hrow h hl =>
    Go.WideElems.Trod_stays j1 hr hrow h (fun x hx => same x (hl x hx)) (fun x hx => by simpa using hl x hx)
  have t0 := stay (t := 5) (by kernel_rfl) (of_decide_eq_true (by kernel_rfl)) h0 fun x hx => hlt x (by simp [hx])
  have t1 := stay (t := 5) (by kernel_rfl) (of_decide_eq_true (by kernel_rfl)) h1 fun x hx => hlt x (by simp [hx])
  have ta := trodAll_mk2 t0 t1
  have hk : ∀ may, W.keptBut W' may := fun may => ⟨hos, hout, fun i hi => by
    rw [hg i hi]
    cases W.heap[i]? with
    | none => rfl
    | some o => cases o <;> simp⟩
  exact ⟨_, rfl, [d0, d1], [], _, [], _, [], hW', trodAll_cons_mk (shut_bool Tryz.underlying4 _) trodAll_mk0, ta, rfl, hk _, fun h => by cases h⟩

theorem over : Rows.unfoldChainsRow.holds Tryz.pinned (OpenSpec.ofChange Rows.unfoldChainsSpec) :=
  OpenClaim.holds_of_wide 3 Tryz.f3 rfl rfl rfl rfl rfl rfl rfl ⟨rfl, rfl, rfl, rfl, rfl⟩ rfl rfl rfl rfl rfl named_eq Tryz.func3 facts
    (of_decide_eq_true (by kernel_rfl)) (by unfold Func.isWrapper; first | (rw [if_pos (by decide +kernel)]; kernel_rfl) | (rw [if_neg (by decide +kernel)]; exact ⟨rfl, rfl⟩))
    (fun os started H enc _ => lifted os started H enc)

theorem proved : Rows.UnfoldChainsSaid := over
#print axioms proved

end Go.Proofs.YtacpdefmnijhnaaGreat.unfoldChains
