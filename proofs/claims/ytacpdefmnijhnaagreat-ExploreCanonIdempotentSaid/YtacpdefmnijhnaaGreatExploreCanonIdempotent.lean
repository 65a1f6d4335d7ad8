/- The law ExploreCanonIdempotent returns true, whatever it is handed; what it was handed reads as it did. No condition. The code is run over an abstract memory by an evaluator that is proved right for any program (the texts Abs), by a contract for each function; the plain law stands in the texts CanLaw. -/
import Derived.Test.YtacpdefmnijhnaaGreatRows
import Derived.Test.YtacpdefmnijhnaaGreatUS
import Derived.Test.YtacpdefmnijhnaaGreatBri
import Derived.Test.YtacpdefmnijhnaaGreatCanE
import Derived.WalkKit
import Derived.ProofKit
import Derived.OpenShut
namespace Go.Proofs.YtacpdefmnijhnaaGreat.exploreCanonIdempotent
open Go.ChangeShapes Go.WideShapes Go.ChangeAt Go.RowKit Go.Proofs.YtacpdefmnijhnaaGreat.Abs Go.Proofs.YtacpdefmnijhnaaGreat.U
set_option linter.unusedVariables false

theorem own : ownKnob Tryz.prog.godebug = none := by kernel_rfl

section
variable {H : Type} {enc : TypeId × Value → H}

set_option maxRecDepth 100000 in
theorem walk {W : World} {base : Nat} {tv : Value} {d0 : DataW H} {p0 : List MemPlace}
    (h0 : DataW.Trod enc Tryz.prog W 0 (fun _ => true) true 40 tv d0 p0) (k0 : Value.okWide Tryz.prog W .any base 40 tv)
    (hw : ∀ m ∈ DataW.weightsEach Tryz.prog [40] [d0], m ≤ reachBytes) :
    Calls Tryz.prog 5 #[tv] W fun e W' => e = .returned (.bool true) ∧ (∀ b, b < W.heap.size → W'.heap[b]? = W.heap[b]?) ∧ W.heap.size ≤ W'.heap.size ∧ W'.os = W.os ∧ W'.output = W.output := by
  obtain ⟨s0, c0⟩ := ok_self (P := Tryz.prog) (W := W) (T := 40) (E := 3) (base := base) (v := tv) Tryz.underlying40 k0
  obtain ⟨n0, h0⟩ := h0
  rw [c0] at h0
  have hwe : ∀ {j : Nat} {t : TypeId} {d : DataW H}, ([40] : List TypeId)[j]? = some t → [d0][j]? = some d → ∀ m ∈ d.weights Tryz.prog t, m ≤ reachBytes := fun ht hd m hm => hw m (DataW.weights_mem_each ht hd m hm)
  obtain ⟨v0, ints, e0, r0, -, b0⟩ := ints_trod h0 (hwe (j := 0) rfl rfl)
  obtain rfl := (List.cons.inj e0).1
  rw [seen_self s0] at r0
  have hrb := reachBytes_lt
  have hself : ∀ v ∈ [tv], VRel (idRen W.heap.size) v v := by
    intro v hv
    rw [List.mem_singleton.1 hv]
    exact s0
  exact mirror_calls progOk KA_ok (args := [tv]) hself (law_c r0 (by omega))

end

set_option maxRecDepth 100000 in
theorem lifted (os : Os) (started : os.Started) (H : Type) (enc : TypeId × Value → H) :
    ReturnsInHanded {} Tryz.checked os 5 .any (Rows.exploreCanonIdempotentSpec.pre6 enc Tryz.prog Tryz.f5 Rows.exploreCanonIdempotentRow.domain false) (Rows.exploreCanonIdempotentSpec.post enc Tryz.prog Tryz.f5 false true false false) := by
  refine returnsInHanded_of_change_sized (C := Tryz.checked) own started (by kernel_rfl) Tryz.func5
    (ChangeSpec.witness6 (enc := enc) (C := Tryz.checked) false ⟨#[], #[.slice none 0 0], []⟩ 8 (by kernel_rfl) (by kernel_rfl) (by kernel_rfl) (by kernel_rfl)) ?_
  intro W base args ds gs before hval0 hW hcnd hwt _
  have hW' := hW
  have hlt := hW.lt
  obtain ⟨p, q, hA0, hV, rfl, hfz, hnd⟩ := hW
  have hA : DataW.TrodAll enc Tryz.prog W 0 (fun _ => true) true Tryz.f5.params.toList args.toList ds p := hA0
  rw [Tryz.params5] at hA
  obtain ⟨tv, d0, rfl, rfl, h0⟩ := trodAll_one hA
  obtain ⟨rfl, rfl⟩ := trodVars_none hV
  have k0 := hval0 0 40 tv rfl rfl
  refine (walk h0 k0 fun m hm => ?_).mono fun e W' ⟨he, hg, hsz, hos, hout⟩ => ?_
  · have hwt2 : (DataW.weightsEach Tryz.prog (Tryz.f5.params.toList ++ []) ([d0] ++ [])).all (· ≤ reachBytes) = true := hwt
    rw [Tryz.params5] at hwt2
    have := List.all_eq_true.1 hwt2 m hm
    simpa using this
  subst he
  have same : ∀ x : MemPlace, x.block < W.heap.size → W.sameAt W' x := fun x hx => by
    cases x with
    | cell b o => exact World.cell?_of_block (w := W) (hg b hx)
    | map b => exact hg b hx
  have stay : ∀ {t : TypeId} {v : Value} {d : DataW H} {ps : List MemPlace}, Tryz.prog.readableRec t = true → t < Tryz.prog.types.size → DataW.Trod enc Tryz.prog W 0 (fun _ => true) true t v d ps → (∀ x ∈ ps, x.block < W.heap.size) →
      DataW.Trod enc Tryz.prog W' 0 (fun b => decide (b < W.heap.size)) true t v d ps := fun hr hrow h hl =>
    Go.WideElems.Trod_stays j1 hr hrow h (fun x hx => same x (hl x hx)) (fun x hx => by simpa using hl x hx)
  have t0 := stay (t := 40) (by kernel_rfl) (of_decide_eq_true (by kernel_rfl)) h0 fun x hx => hlt x (by simp [hx])
  have ta := trodAll_mk1 t0
  have hk : ∀ may, W.keptBut W' may := fun may => ⟨hos, hout, fun i hi => by
    rw [hg i hi]
    cases W.heap[i]? with
    | none => rfl
    | some o => cases o <;> simp⟩
  exact ⟨_, rfl, [d0], [], _, [], _, [], hW', trodAll_cons_mk (shut_bool Tryz.underlying4 _) trodAll_mk0, ta, rfl, hk _, fun h => by cases h⟩

theorem over : Rows.exploreCanonIdempotentRow.holds Tryz.pinned (OpenSpec.ofChange Rows.exploreCanonIdempotentSpec) :=
  OpenClaim.holds_of_wide 5 Tryz.f5 rfl rfl rfl rfl rfl rfl rfl ⟨rfl, rfl, rfl, rfl, rfl⟩ rfl rfl rfl rfl rfl named_eq Tryz.func5 facts
    (of_decide_eq_true (by kernel_rfl)) (by unfold Func.isWrapper; first | (rw [if_pos (by decide +kernel)]; kernel_rfl) | (rw [if_neg (by decide +kernel)]; exact ⟨rfl, rfl⟩))
    (fun os started H enc _ => lifted os started H enc)

theorem proved : Rows.ExploreCanonIdempotentSaid := over
#print axioms proved

end Go.Proofs.YtacpdefmnijhnaaGreat.exploreCanonIdempotent
