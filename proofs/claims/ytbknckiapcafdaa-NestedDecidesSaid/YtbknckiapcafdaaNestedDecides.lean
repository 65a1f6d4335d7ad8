/- The law NestedDecides returns true, whatever it is handed; what it was handed reads as it did. No condition. The code is run over an abstract memory by an evaluator that is proved right for any program (the texts Abs), by a contract for each function (the texts Nest). -/
import Derived.Test.YtbknckiapcafdaaRows
import Derived.Test.YtbknckiapcafdaaNestY
import Derived.Test.YtbknckiapcafdaaNestZZ
import Derived.WalkKit
import Derived.ProofKit
import Derived.OpenShut
namespace Go.Proofs.Ytbknckiapcafdaa.nestedDecides
open Go.ChangeShapes Go.WideShapes Go.ChangeAt Go.RowKit Go.Proofs.Ytbknckiapcafdaa.Abs Go.Proofs.Ytbknckiapcafdaa.Nest
set_option linter.unusedSimpArgs false
set_option linter.unusedVariables false

theorem own : ownKnob Try.prog.godebug = none := by kernel_rfl

theorem names_all : (Try.prog.funcs.toList.all fun fn => !(fn.name == "runtime.NumGoroutine")) = true := by kernel_rfl

theorem progOk : ProgOk Try.prog where
  mixed := by kernel_rfl
  names f fn h := by
    have h1 := List.all_eq_true.1 names_all fn (List.mem_of_getElem? (i := f) (by simpa using h))
    simpa using h1

noncomputable def yes (o : Option (Value × AS)) : Bool := match o with | some (.bool true, _) => true | _ => false

theorem yes_some {o : Option (Value × AS)} (h : yes o = true) : ∃ σ, o = some (.bool true, σ) := by
  unfold yes at h
  split at h
  · exact ⟨_, rfl⟩
  · cases h

/-- The run of 'sane'. -/
theorem ran9 : yes (aCall Try.prog K0 0 1000 9 [] ⟨0, 0, .e⟩) = true := by kernel_rfl

theorem knOk : KOk Try.prog Kn := by
  obtain ⟨σ, h⟩ := yes_some ran9
  exact KOk.add progOk (K0_ok _) rfl h rfl

section
variable {H : Type} {enc : TypeId × Value → H}

set_option maxRecDepth 100000 in
theorem walk {W : World} {base : Nat} {tv : Value} {d0 : DataW H} {p0 : List MemPlace}
    (h0 : DataW.Trod enc Try.prog W 0 (fun _ => true) true 33 tv d0 p0) (k0 : Value.okWide Try.prog W .any base 33 tv) (hw : ∀ m ∈ d0.weights Try.prog 33, m ≤ reachBytes) :
    Calls Try.prog 6 #[tv] W fun e W' => e = .returned (.bool true) ∧ (∀ b, b < W.heap.size → W'.heap[b]? = W.heap[b]?) ∧ W.heap.size ≤ W'.heap.size ∧ W'.os = W.os ∧ W'.output = W.output := by
  obtain ⟨s0, c0⟩ := ok_self (P := Try.prog) (W := W) (T := 33) (E := 3) (base := base) (v := tv) Try.underlying33 k0
  obtain ⟨n0, h0⟩ := h0
  rw [c0] at h0
  obtain ⟨v0, ints, e0, r0, -, b0⟩ := ints_trod h0 hw
  obtain rfl := (List.cons.inj e0).1
  rw [seen_self s0] at r0
  have hrb := reachBytes_lt
  have hself : ∀ v ∈ [tv], VRel (idRen W.heap.size) v v := by
    intro v hv
    rw [List.mem_singleton.1 hv]
    exact s0
  exact mirror_calls progOk knOk (args := [tv]) hself (decides_law r0 (by omega))

end

theorem laid : laidOutB Try.prog = true := by kernel_rfl

set_option maxRecDepth 100000 in
theorem lifted (os : Os) (started : os.Started) (H : Type) (enc : TypeId × Value → H) :
    ReturnsInHanded {} Try.checked os 6 .any (Rows.nestedDecidesSpec.pre6 enc Try.prog Try.f6 Rows.nestedDecidesRow.domain false) (Rows.nestedDecidesSpec.post enc Try.prog Try.f6 false true false false) := by
  refine returnsInHanded_of_change_sized (C := Try.checked) own started (by kernel_rfl) Try.func6
    (ChangeSpec.witness6 (enc := enc) (C := Try.checked) false ⟨#[], #[.slice none 0 0], []⟩ 8 (by kernel_rfl) (by kernel_rfl) (by kernel_rfl) (by kernel_rfl)) ?_
  intro W base args ds gs before hval0 hW hcnd hwt _
  have hW' := hW
  have hlt := hW.lt
  obtain ⟨p, q, hA0, hV, rfl, hfz, hnd⟩ := hW
  have hA : DataW.TrodAll enc Try.prog W 0 (fun _ => true) true Try.f6.params.toList args.toList ds p := hA0
  rw [Try.params6] at hA
  obtain ⟨tv, d0, e0, rfl, h0⟩ := trodAll_one hA
  obtain rfl : args = #[tv] := e0
  obtain ⟨rfl, rfl⟩ := trodVars_none hV
  have k0 := hval0 0 33 tv rfl rfl
  refine (walk h0 k0 fun m hm => ?_).mono fun e W' ⟨he, hg, hsz, hos, hout⟩ => ?_
  · have hwt2 : (DataW.weightsEach Try.prog (Try.f6.params.toList ++ []) ([d0] ++ [])).all (· ≤ reachBytes) = true := hwt
    rw [Try.params6] at hwt2
    have := List.all_eq_true.1 hwt2 m (DataW.weights_mem_each (j := 0) (ts := [33]) (ds := [d0]) rfl rfl m hm)
    simpa using this
  subst he
  have same : ∀ x : MemPlace, x.block < W.heap.size → W.sameAt W' x := fun x hx => by
    cases x with
    | cell b o => exact World.cell?_of_block (w := W) (hg b hx)
    | map b => exact hg b hx
  have stay : ∀ {t : TypeId} {v : Value} {d : DataW H} {ps : List MemPlace}, Try.prog.readableRec t = true → t < Try.prog.types.size → DataW.Trod enc Try.prog W 0 (fun _ => true) true t v d ps → (∀ x ∈ ps, x.block < W.heap.size) →
      DataW.Trod enc Try.prog W' 0 (fun b => decide (b < W.heap.size)) true t v d ps := fun hr hrow h hl =>
    Go.WideElems.Trod_stays laid hr hrow h (fun x hx => same x (hl x hx)) (fun x hx => by simpa using hl x hx)
  have t0 := stay (t := 33) (by kernel_rfl) (of_decide_eq_true (by kernel_rfl)) h0 fun x hx => hlt x (by simp [hx])
  have ta := trodAll_mk1 t0
  have hk : ∀ may, W.keptBut W' may := fun may => ⟨hos, hout, fun i hi => by
    rw [hg i hi]
    cases W.heap[i]? with
    | none => rfl
    | some o => cases o <;> simp⟩
  exact ⟨_, rfl, [d0], [], _, [], _, [], hW', trodAll_cons_mk (shut_bool Try.underlying4 _) trodAll_mk0, ta, rfl, hk _, fun h => by cases h⟩

theorem over : Rows.nestedDecidesRow.holds Try.pinned (OpenSpec.ofChange Rows.nestedDecidesSpec) :=
  OpenClaim.holds_of_wide 6 Try.f6 rfl rfl rfl rfl rfl rfl rfl ⟨rfl, rfl, rfl, rfl, rfl⟩ rfl rfl rfl rfl rfl (by kernel_rfl) Try.func6 (by kernel_rfl)
    (of_decide_eq_true (by kernel_rfl)) (by unfold Func.isWrapper; first | (rw [if_pos (by decide +kernel)]; kernel_rfl) | (rw [if_neg (by decide +kernel)]; exact ⟨rfl, rfl⟩))
    (fun os started H enc _ => lifted os started H enc)

theorem proved : Rows.NestedDecidesSaid := over
#print axioms proved

end Go.Proofs.Ytbknckiapcafdaa.nestedDecides
