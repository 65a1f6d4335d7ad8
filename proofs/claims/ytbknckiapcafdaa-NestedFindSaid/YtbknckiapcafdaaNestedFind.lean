/- The law NestedFind returns true, whatever it is handed; what it was handed reads as it did. No condition. The code is run over an abstract memory by an evaluator that is proved right for any program (the texts Abs), by a contract for each function (the texts Nest). -/
import Derived.Test.YtbknckiapcafdaaRows
import Derived.Test.YtbknckiapcafdaaNestY
import Derived.Test.YtbknckiapcafdaaNestZM
import Derived.WalkKit
import Derived.ProofKit
import Derived.OpenShut
namespace Go.Proofs.Ytbknckiapcafdaa.nestedFind
open Go.ChangeShapes Go.WideShapes Go.ChangeAt Go.RowKit Go.Proofs.Ytbknckiapcafdaa.Abs Go.Proofs.Ytbknckiapcafdaa.Nest
set_option linter.unusedVariables false

theorem own : ownKnob Try.prog.godebug = none := by kernel_rfl

theorem names_all : (Try.prog.funcs.toList.all fun fn => !(fn.name == "runtime.NumGoroutine")) = true := by kernel_rfl

theorem progOk : ProgOk Try.prog where
  mixed := by kernel_rfl
  names f fn h := by
    have h1 := List.all_eq_true.1 names_all fn (List.mem_of_getElem? (i := f) (by simpa using h))
    simpa using h1

noncomputable def yes (o : Option (Value × AS)) : Bool := match o with | some (.bool true, _) => true | _ => false

theorem yes_some {o : Option (Value × AS)} (h : yes o = true) : ∃ σ, o = some (.bool true, σ) := by
  unfold yes at h
  split at h
  · exact ⟨_, rfl⟩
  · cases h

/-- The run of 'sane'. -/
theorem ran9 : yes (aCall Try.prog K0 0 1000 9 [] ⟨0, 0, .e⟩) = true := by kernel_rfl

theorem knOk : KOk Try.prog Kn := by
  obtain ⟨σ, h⟩ := yes_some ran9
  exact KOk.add progOk (K0_ok _) rfl h rfl

section
variable {H : Type} {enc : TypeId × Value → H}

theorem cellTypes30 : Try.prog.cellTypes Try.prog.depth 30 = some [28] := by kernel_rfl

set_option maxRecDepth 100000 in
theorem walk {W : World} {base : Nat} {tv lv : Value} {d0 d1 : DataW H} {p0 p1 : List MemPlace}
    (h0 : DataW.Trod enc Try.prog W 0 (fun _ => true) true 33 tv d0 p0) (h1 : DataW.Trod enc Try.prog W 0 (fun _ => true) true 30 lv d1 p1)
    (k0 : Value.okWide Try.prog W .any base 33 tv) (k1 : Value.okWide Try.prog W .any base 30 lv)
    (hw : ∀ m ∈ DataW.weightsEach Try.prog [33, 30] [d0, d1], m ≤ reachBytes) :
    Calls Try.prog 4 #[tv, lv] W fun e W' => e = .returned (.bool true) ∧ (∀ b, b < W.heap.size → W'.heap[b]? = W.heap[b]?) ∧ W.heap.size ≤ W'.heap.size ∧ W'.os = W.os ∧ W'.output = W.output := by
  obtain ⟨s0, c0⟩ := ok_self (P := Try.prog) (W := W) (T := 33) (E := 3) (base := base) (v := tv) Try.underlying33 k0
  obtain ⟨n0, h0⟩ := h0
  obtain ⟨n1, h1⟩ := h1
  rw [c0] at h0
  have hwe : ∀ {j : Nat} {t : TypeId} {d : DataW H}, ([33, 30] : List TypeId)[j]? = some t → [d0, d1][j]? = some d → ∀ m ∈ d.weights Try.prog t, m ≤ reachBytes := fun ht hd m hm => hw m (DataW.weights_mem_each ht hd m hm)
  obtain ⟨v0, ints, e0, r0, -, b0⟩ := ints_trod h0 (hwe (j := 0) rfl rfl)
  obtain rfl := (List.cons.inj e0).1
  rw [seen_self s0] at r0
  obtain ⟨cs, rfl, hsz, ts, hts, -, hcell⟩ : ∃ cs, lv = .agg cs ∧ cs.size = Try.prog.cellsOf 30 ∧ Row.okWide Try.prog W .any base 30 cs := by
    unfold Value.okWide at k1
    rw [Try.underlying30] at k1
    exact k1
  rw [cells30] at hsz
  obtain rfl : ts = [28] := by rw [cellTypes30] at hts; exact (Option.some.inj hts).symm
  obtain ⟨sv, rfl⟩ : ∃ sv, cs = #[sv] := by
    refine ⟨cs[0], ?_⟩
    apply Array.ext
    · exact hsz
    · intro i h1 h2
      have : i = 0 := by omega
      subst this; rfl
  obtain ⟨u, hu, hok⟩ := hcell 0 sv rfl
  obtain rfl : u = 28 := (Option.some.inj hu).symm
  obtain ⟨s1, c1⟩ := ok_cell (P := Try.prog) (W := W) (T := 28) (E := 22) (base := base) (v := sv) Try.underlying28 hok
  obtain ⟨xs, m, rfl, ex, hl, hxs, hf⟩ := DataW.trod_struct Try.underlying30 h1
  have hx : DataW.trod enc Try.prog W 0 (fun _ => true) true m 28 [sv] = xs[0]? := by
    have := hf 0 ⟨"Out", 28, 0, false, "", "", 0⟩ rfl
    have e : ((Value.agg #[sv]).cells.toList.drop 0).take (Try.prog.cellsOf 28) = [sv] := by rw [cells28]; rfl
    dsimp only at this
    rw [e] at this
    exact this
  have hxs : xs.length = 1 := hxs
  obtain ⟨x0, rfl⟩ : ∃ x0, xs = [x0] := by
    cases xs with
    | nil => cases hxs
    | cons a l => cases l with
      | nil => exact ⟨a, rfl⟩
      | cons _ _ => simp at hxs
  have hd1 : d1 = .agg [x0.1] := (Prod.mk.inj ex).1
  obtain ⟨v1, L, e1, r1, hz, -⟩ := rows_trod hx fun m hm => hwe (j := 1) (t := 30) (d := d1) rfl rfl m (by
    rw [hd1]
    simp only [DataW.weights, Try.underlying30, List.map_cons, List.map_nil, DataW.weightsEach, List.append_nil]
    exact hm)
  obtain rfl := (List.cons.inj e1).1
  rw [seen_self s1] at r1
  have hrb := reachBytes_lt
  have hself : ∀ v ∈ [tv, .agg #[sv]], VRel (idRen W.heap.size) v v := by
    intro v hv
    rcases List.mem_cons.1 hv with rfl | hv
    · exact s0
    rw [List.mem_singleton.1 hv]
    exact vrel_agg.2 ⟨[sv], ⟨s1, trivial⟩, rfl⟩
  exact mirror_calls progOk knOk (args := [tv, .agg #[sv]]) hself (find_law r0 (by omega) r1 hz)

end

theorem laid : laidOutB Try.prog = true := by kernel_rfl

set_option maxRecDepth 100000 in
theorem lifted (os : Os) (started : os.Started) (H : Type) (enc : TypeId × Value → H) :
    ReturnsInHanded {} Try.checked os 4 .any (Rows.nestedFindSpec.pre6 enc Try.prog Try.f4 Rows.nestedFindRow.domain false) (Rows.nestedFindSpec.post enc Try.prog Try.f4 false true false false) := by
  refine returnsInHanded_of_change_sized (C := Try.checked) own started (by kernel_rfl) Try.func4
    (ChangeSpec.witness6 (enc := enc) (C := Try.checked) false ⟨#[], #[.slice none 0 0, .agg #[.slice none 0 0]], []⟩ 8 (by kernel_rfl) (by kernel_rfl) (by kernel_rfl) (by kernel_rfl)) ?_
  intro W base args ds gs before hval0 hW hcnd hwt _
  have hW' := hW
  have hlt := hW.lt
  obtain ⟨p, q, hA0, hV, rfl, hfz, hnd⟩ := hW
  have hA : DataW.TrodAll enc Try.prog W 0 (fun _ => true) true Try.f4.params.toList args.toList ds p := hA0
  rw [Try.params4] at hA
  obtain ⟨tv, lv, d0, d1, p0, p1, rfl, rfl, rfl, h0, h1⟩ := trodAll_two hA
  obtain ⟨rfl, rfl⟩ := trodVars_none hV
  have k0 := hval0 0 33 tv rfl rfl
  have k1 := hval0 1 30 lv rfl rfl
  refine (walk h0 h1 k0 k1 fun m hm => ?_).mono fun e W' ⟨he, hg, hsz, hos, hout⟩ => ?_
  · have hwt2 : (DataW.weightsEach Try.prog (Try.f4.params.toList ++ []) ([d0, d1] ++ [])).all (· ≤ reachBytes) = true := hwt
    rw [Try.params4] at hwt2
    have := List.all_eq_true.1 hwt2 m hm
    simpa using this
  subst he
  have same : ∀ x : MemPlace, x.block < W.heap.size → W.sameAt W' x := fun x hx => by
    cases x with
    | cell b o => exact World.cell?_of_block (w := W) (hg b hx)
    | map b => exact hg b hx
  have stay : ∀ {t : TypeId} {v : Value} {d : DataW H} {ps : List MemPlace}, Try.prog.readableRec t = true → t < Try.prog.types.size → DataW.Trod enc Try.prog W 0 (fun _ => true) true t v d ps → (∀ x ∈ ps, x.block < W.heap.size) →
      DataW.Trod enc Try.prog W' 0 (fun b => decide (b < W.heap.size)) true t v d ps := fun hr hrow h hl =>
    Go.WideElems.Trod_stays laid hr hrow h (fun x hx => same x (hl x hx)) (fun x hx => by simpa using hl x hx)
  have t0 := stay (t := 33) (by kernel_rfl) (of_decide_eq_true (by kernel_rfl)) h0 fun x hx => hlt x (by simp [hx])
  have t1 := stay (t := 30) (by kernel_rfl) (of_decide_eq_true (by kernel_rfl)) h1 fun x hx => hlt x (by simp [hx])
  have ta := trodAll_mk2 t0 t1
  have hk : ∀ may, W.keptBut W' may := fun may => ⟨hos, hout, fun i hi => by
    rw [hg i hi]
    cases W.heap[i]? with
    | none => rfl
    | some o => cases o <;> simp⟩
  exact ⟨_, rfl, [d0, d1], [], _, [], _, [], hW', trodAll_cons_mk (shut_bool Try.underlying4 _) trodAll_mk0, ta, rfl, hk _, fun h => by cases h⟩

theorem over : Rows.nestedFindRow.holds Try.pinned (OpenSpec.ofChange Rows.nestedFindSpec) :=
  OpenClaim.holds_of_wide 4 Try.f4 rfl rfl rfl rfl rfl rfl rfl ⟨rfl, rfl, rfl, rfl, rfl⟩ rfl rfl rfl rfl rfl (by kernel_rfl) Try.func4 (by kernel_rfl)
    (of_decide_eq_true (by kernel_rfl)) (by unfold Func.isWrapper; first | (rw [if_pos (by decide +kernel)]; kernel_rfl) | (rw [if_neg (by decide +kernel)]; exact ⟨rfl, rfl⟩))
    (fun os started H enc _ => lifted os started H enc)

theorem proved : Rows.NestedFindSaid := over
#print axioms proved

end Go.Proofs.Ytbknckiapcafdaa.nestedFind
