/- The law SosUnguarded returns true, whatever it is handed; what it was handed reads as it did. No condition. The code is run over an abstract memory by an evaluator that is proved right for any program (the texts Abs), by a contract for each function up to the core that is generated, over a known memory behind it. -/
import Derived.Test.YtacpdefmnijhnaaGreatRows
import Derived.Test.YtacpdefmnijhnaaGreatSI
import Derived.Test.YtacpdefmnijhnaaGreatBri
import Derived.Test.YtacpdefmnijhnaaGreatSosE
import Derived.WalkKit
import Derived.ProofKit
import Derived.OpenShut
namespace Go.Proofs.YtacpdefmnijhnaaGreat.sosUnguarded
open Go.ChangeShapes Go.WideShapes Go.ChangeAt Go.RowKit Go.Proofs.YtacpdefmnijhnaaGreat.Abs Go.Proofs.YtacpdefmnijhnaaGreat.U
set_option linter.unusedVariables false

theorem own : ownKnob Tryz.prog.godebug = none := by kernel_rfl

section
variable {H : Type} {enc : TypeId × Value → H}

set_option maxRecDepth 100000 in
theorem walk {W : World} {base : Nat} {tv kv : Value} {d0 d1 : DataW H} {p0 p1 : List MemPlace}
    (h0 : DataW.Trod enc Tryz.prog W 0 (fun _ => true) true 40 tv d0 p0) (h1 : DataW.Trod enc Tryz.prog W 0 (fun _ => true) true 5 kv d1 p1)
    (k0 : Value.okWide Tryz.prog W .any base 40 tv) (k1 : Value.okWide Tryz.prog W .any base 5 kv)
    (hw : ∀ m ∈ DataW.weightsEach Tryz.prog [40, 5] [d0, d1], m ≤ reachBytes) :
    Calls Tryz.prog 4 #[tv, kv] W fun e W' => e = .returned (.bool true) ∧ (∀ b, b < W.heap.size → W'.heap[b]? = W.heap[b]?) ∧ W.heap.size ≤ W'.heap.size ∧ W'.os = W.os ∧ W'.output = W.output := by
  obtain ⟨kd, rfl, -, -, hwf⟩ := open_int (k := .u8) Tryz.underlying5 k1 h1
  have hk : 0 ≤ kd := by
    unfold Lit.wf at hwf
    rw [Bool.and_eq_true] at hwf
    exact of_decide_eq_true hwf.1
  obtain ⟨s0, c0⟩ := ok_self (P := Tryz.prog) (W := W) (T := 40) (E := 3) (base := base) (v := tv) Tryz.underlying40 k0
  obtain ⟨n0, h0⟩ := h0
  rw [c0] at h0
  have hwe : ∀ {j : Nat} {t : TypeId} {d : DataW H}, ([40, 5] : List TypeId)[j]? = some t → [d0, d1][j]? = some d → ∀ m ∈ d.weights Tryz.prog t, m ≤ reachBytes := fun ht hd m hm => hw m (DataW.weights_mem_each ht hd m hm)
  obtain ⟨v0, ints, e0, r0, -, b0⟩ := ints_trod h0 (hwe (j := 0) rfl rfl)
  obtain rfl := (List.cons.inj e0).1
  rw [seen_self s0] at r0
  have hrb := reachBytes_lt
  obtain ⟨sb, sc, rfl, -⟩ := id r0
  exact law_calls s0 r0 (by omega) hk

end

set_option maxRecDepth 100000 in
theorem lifted (os : Os) (started : os.Started) (H : Type) (enc : TypeId × Value → H) :
    ReturnsInHanded {} Tryz.checked os 4 .any (Rows.sosUnguardedSpec.pre6 enc Tryz.prog Tryz.f4 Rows.sosUnguardedRow.domain false) (Rows.sosUnguardedSpec.post enc Tryz.prog Tryz.f4 false true false false) := by
  refine returnsInHanded_of_change_sized (C := Tryz.checked) own started (by kernel_rfl) Tryz.func4
    (ChangeSpec.witness6 (enc := enc) (C := Tryz.checked) false ⟨#[], #[.slice none 0 0, .int .u8 0], []⟩ 8 (by kernel_rfl) (by kernel_rfl) (by kernel_rfl) (by kernel_rfl)) ?_
  intro W base args ds gs before hval0 hW hcnd hwt _
  have hW' := hW
  have hlt := hW.lt
  obtain ⟨p, q, hA0, hV, rfl, hfz, hnd⟩ := hW
  have hA : DataW.TrodAll enc Tryz.prog W 0 (fun _ => true) true Tryz.f4.params.toList args.toList ds p := hA0
  rw [Tryz.params4] at hA
  obtain ⟨tv, kv, d0, d1, p0, p1, rfl, rfl, rfl, h0, h1⟩ := trodAll_two hA
  obtain ⟨rfl, rfl⟩ := trodVars_none hV
  have k0 := hval0 0 40 tv rfl rfl
  have k1 := hval0 1 5 kv rfl rfl
  refine (walk h0 h1 k0 k1 fun m hm => ?_).mono fun e W' ⟨he, hg, hsz, hos, hout⟩ => ?_
  · have hwt2 : (DataW.weightsEach Tryz.prog (Tryz.f4.params.toList ++ []) ([d0, d1] ++ [])).all (· ≤ reachBytes) = true := hwt
    rw [Tryz.params4] at hwt2
    have := List.all_eq_true.1 hwt2 m hm
    simpa using this
  subst he
  have same : ∀ x : MemPlace, x.block < W.heap.size → W.sameAt W' x := fun x hx => by
    cases x with
    | cell b o => exact World.cell?_of_block (w := W) (hg b hx)
    | map b => exact hg b hx
  have stay : ∀ {t : TypeId} {v : Value} {d : DataW H} {ps : List MemPlace}, Tryz.prog.readableRec t = true → t < Tryz.prog.types.size → DataW.Trod enc Tryz.prog W 0 (fun _ => true) true t v d ps → (∀ x ∈ ps, x.block < W.heap.size) →
      DataW.Trod enc Tryz.prog W' 0 (fun b => decide (b < W.heap.size)) true t v d ps := fun hr hrow h hl =>
    Go.WideElems.Trod_stays j1 hr hrow h (fun x hx => same x (hl x hx)) (fun x hx => by simpa using hl x hx)
  have t0 := stay (t := 40) (by kernel_rfl) (of_decide_eq_true (by kernel_rfl)) h0 fun x hx => hlt x (by simp [hx])
  have t1 := stay (t := 5) (by kernel_rfl) (of_decide_eq_true (by kernel_rfl)) h1 fun x hx => hlt x (by simp [hx])
  have ta := trodAll_mk2 t0 t1
  have hk : ∀ may, W.keptBut W' may := fun may => ⟨hos, hout, fun i hi => by
    rw [hg i hi]
    cases W.heap[i]? with
    | none => rfl
    | some o => cases o <;> simp⟩
  exact ⟨_, rfl, [d0, d1], [], _, [], _, [], hW', trodAll_cons_mk (shut_bool Tryz.underlying4 _) trodAll_mk0, ta, rfl, hk _, fun h => by cases h⟩

theorem over : Rows.sosUnguardedRow.holds Tryz.pinned (OpenSpec.ofChange Rows.sosUnguardedSpec) :=
  OpenClaim.holds_of_wide 4 Tryz.f4 rfl rfl rfl rfl rfl rfl rfl ⟨rfl, rfl, rfl, rfl, rfl⟩ rfl rfl rfl rfl rfl named_eq Tryz.func4 facts
    (of_decide_eq_true (by kernel_rfl)) (by unfold Func.isWrapper; first | (rw [if_pos (by decide +kernel)]; kernel_rfl) | (rw [if_neg (by decide +kernel)]; exact ⟨rfl, rfl⟩))
    (fun os started H enc _ => lifted os started H enc)

theorem proved : Rows.SosUnguardedSaid := over
#print axioms proved

end Go.Proofs.YtacpdefmnijhnaaGreat.sosUnguarded
