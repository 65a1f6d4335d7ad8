/- From the arguments that a law is handed to the memory of the evaluator. -/
import Derived.Test.YtacpdefmnijhnaaGreatUD
import Derived.Test.YtacpdefmnijhnaaGreatAbsQ
import Derived.Carry
import Derived.SizedLaws
import Derived.ChangeArms
set_option linter.unusedSimpArgs false
set_option linter.unusedVariables false
namespace Go.Proofs.YtacpdefmnijhnaaGreat.U
open Abs

theorem choose_list {α : Type} {P : Nat → α → Prop} : ∀ (n : Nat), (∀ i, i < n → ∃ x, P i x) → ∃ l : List α, l.length = n ∧ ∀ i x, l[i]? = some x → P i x
  | 0, _ => ⟨[], rfl, fun i x h => by simp at h⟩
  | n + 1, h => by
    obtain ⟨l, h1, h2⟩ := choose_list n fun i hi => h i (by omega)
    obtain ⟨x, hx⟩ := h n (by omega)
    refine ⟨l ++ [x], by simp [h1], fun i y hy => ?_⟩
    rcases Nat.lt_trichotomy i n with hi | hi | hi
    · rw [List.getElem?_append_left (by omega)] at hy; exact h2 i y hy
    · subst hi
      rw [List.getElem?_append_right (by omega), h1, Nat.sub_self] at hy
      simp at hy; rw [← hy]; exact hx
    · rw [List.getElem?_eq_none (by simp; omega)] at hy; cases hy

theorem mem_weightsAll {H : Type} {P : Program} {E : TypeId} {m : Nat} : ∀ {l : List (DataW H)} {d : DataW H}, d ∈ l → m ∈ d.weights P E → m ∈ DataW.weightsAll P E l
  | x :: l, d, hd, hm => by
    show m ∈ x.weights P E ++ DataW.weightsAll P E l
    rw [List.mem_append]
    rcases List.mem_cons.1 hd with rfl | hd
    · exact .inl hm
    · exact .inr (mem_weightsAll hd hm)

section
variable {H : Type} {enc : TypeId × Value → H} {W : World}

theorem cells?_get {a : Addr} {n : Nat} {cs : List Value} (h : W.cells? 0 a n = some cs) (hn : 0 < n) :
    a.spot = none ∧ ∃ c e fr, W.heap[a.block]? = some (.cells c e fr) ∧ cs.length = n ∧ a.off + n ≤ c.size ∧ ∀ j v, cs[j]? = some v → c[a.off + j]? = some v := by
  unfold World.cells? at h
  rw [if_pos (Nat.zero_le _)] at h
  have hl : cs.length = n := by simpa using mapM_some_length h
  have hg : ∀ i, i < n → W.cell? (a.add i) = cs[i]? := fun i hi => mapM_some_get h i i (by simp [hi])
  have h0 := hg 0 hn
  have hc0 : ∃ v, cs[0]? = some v := ⟨cs[0], by simp [hl, hn]⟩
  obtain ⟨v0, hv0⟩ := hc0
  rw [hv0] at h0
  have ha0 : a.add 0 = a := by simp [Addr.add]
  rw [ha0] at h0
  unfold World.cell? at h0
  split at h0
  · rename_i c e fr hw
    have hs : a.spot = none := by
      cases hq : a.spot with
      | none => rfl
      | some q => rw [hq] at h0; cases h0
    have hcell : ∀ i, i < n → c[a.off + i]? = cs[i]? := fun i hi => by
      have := hg i hi
      rw [addr_add' hs] at this
      unfold World.cell? at this
      simpa [hw] using this
    refine ⟨hs, c, e, fr, hw, hl, ?_, fun j v hj => ?_⟩
    · have := hcell (n - 1) (by omega)
      have h2 : ∃ v, cs[n - 1]? = some v := ⟨cs[n - 1]'(by omega), by simp⟩
      obtain ⟨v, hv⟩ := h2
      rw [hv] at this
      have := (Array.getElem?_eq_some_iff.1 this).1
      omega
    · rcases Nat.lt_or_ge j n with hjn | hjn
      · rw [hcell j hjn]; exact hj
      · rw [List.getElem?_eq_none (by omega)] at hj; cases hj
  · cases h0

theorem self_slice {a : Addr} {len cap : Nat} (hs : a.spot = none) (hb : a.block < W.heap.size) (hc : cap < OPENCAP) : VRel (idRen W.heap.size) (.slice (some a) len cap) (.slice (some a) len cap) := by
  obtain ⟨b, off, sp⟩ := a
  simp only at hs hb
  subst hs
  exact vrel_slice_mk ⟨b, cap, idRen_bl.2 ⟨hb, rfl⟩, rfl, by unfold CapRel; rw [if_pos hc], rfl⟩

theorem block_lt' {b : Nat} {o : Obj} (h : W.heap[b]? = some o) : b < W.heap.size := by
  rcases Nat.lt_or_ge b W.heap.size with h1 | h1
  · exact h1
  · simp [Array.getElem?_eq_none h1] at h

theorem rs_of_trod {α : Type} {T E z : TypeId} {R : AS → List Value → α → Prop} (hu : Tryz.prog.underlying T = some (.slice E)) (hz : Tryz.prog.cellsOf E = z) (hz0 : 0 < z) (hby : 0 < Tryz.prog.bytesOf E)
    (good : ∀ n cs (y : DataW H × List MemPlace), DataW.trod enc Tryz.prog W 0 (fun _ => true) true n E cs = some y → (∀ m ∈ y.1.weights Tryz.prog E, m ≤ reachBytes) → ∃ x, (∀ u ∈ cs, Abs.Good W.heap.size u) ∧ R (mirror W) (cs.map (Abs.seen W.heap.size)) x)
    {fuel : Nat} {cs : List Value} {y : DataW H × List MemPlace} (h : DataW.trod enc Tryz.prog W 0 (fun _ => true) true fuel T cs = some y) (hw : ∀ m ∈ y.1.weights Tryz.prog T, m ≤ reachBytes) :
    ∃ v l, cs = [v] ∧ RS z R (mirror W) (Abs.seen W.heap.size v) l ∧ Abs.Good W.heap.size v ∧ l.length ≤ reachBytes := by
  rcases DataW.trod_slice hu h with ⟨rfl, rfl⟩ | ⟨a, len, cap, elems, rest, n, rfl, rfl, rfl, _, hlc, hcm, hel, hE, hS, _⟩
  · refine ⟨_, [], rfl, ?_, .inl (vrel_slice_none.2 rfl), Nat.zero_le _⟩
    rw [seen_self (vrel_slice_none.2 rfl)]
    exact ⟨none, 0, rfl, fun h => absurd rfl h⟩
  · have hcap : cap < OPENCAP := by unfold OPENCAP; unfold maxLen at hcm; omega
    have hbound : len ≤ reachBytes := by
      have := hw ((elems.length + rest.length) * Tryz.prog.bytesOf E) (by simp [DataW.weights, hu])
      have h2 : (elems.length + rest.length) * 1 ≤ (elems.length + rest.length) * Tryz.prog.bytesOf E := Nat.mul_le_mul_left _ hby
      omega
    have hx : ∀ i, i < len → ∃ x, ∃ cs', W.cells? 0 (a.add (i * z)) z = some cs' ∧ (∀ u ∈ cs', Abs.Good W.heap.size u) ∧ R (mirror W) (cs'.map (Abs.seen W.heap.size)) x := fun i hi => by
      have h1 := hE i hi
      have h2 : elems[i]? = some elems[i] := by simp
      rw [h2, hz] at h1
      obtain ⟨cs', h3, h4⟩ := Option.bind_eq_some_iff.1 h1
      obtain ⟨x, h5, h6⟩ := good _ _ _ h4 fun m hm => hw m (by
        simp only [DataW.weights, hu, List.mem_cons, List.mem_append]
        exact .inr (.inl (mem_weightsAll (List.mem_map.2 ⟨elems[i], List.getElem_mem _, rfl⟩) hm)))
      exact ⟨x, cs', h3, h5, h6⟩
    obtain ⟨l, hl, hP⟩ := choose_list len hx
    have hz' : a.add (0 * z) = a := by simp [Addr.add]
    by_cases h0 : len = 0
    · subst h0
      have hl0 : l = [] := List.length_eq_zero_iff.1 hl
      subst hl0
      refine ⟨_, [], rfl, ?_, ?_, Nat.zero_le _⟩
      · unfold Abs.seen
        split
        · exact ⟨_, _, rfl, fun h => absurd rfl h⟩
        · by_cases hc0 : cap = 0
          · subst hc0; exact ⟨_, _, rfl, fun h => absurd rfl h⟩
          · rename_i hr
            exfalso
            obtain ⟨hr1, hr2⟩ := hS rfl
            have h1 := hr2 0 (by omega)
            have h2 : rest[0]? = some (rest[0]'(by omega)) := by simp
            rw [h2, hz] at h1
            obtain ⟨cs', h3, -⟩ := Option.bind_eq_some_iff.1 h1
            rw [show (0 + 0) * z = 0 * z from rfl, hz'] at h3
            obtain ⟨hs, c, e, fr, hwb, -⟩ := cells?_get h3 hz0
            exact hr (self_slice hs (block_lt' hwb) hcap)
      · by_cases hc0 : cap = 0
        · subst hc0; exact .inr ⟨_, rfl⟩
        · obtain ⟨hr1, hr2⟩ := hS rfl
          have h1 := hr2 0 (by omega)
          have h2 : rest[0]? = some (rest[0]'(by omega)) := by simp
          rw [h2, hz] at h1
          obtain ⟨cs', h3, -⟩ := Option.bind_eq_some_iff.1 h1
          rw [show (0 + 0) * z = 0 * z from rfl, hz'] at h3
          obtain ⟨hs, c, e, fr, hwb, -⟩ := cells?_get h3 hz0
          exact .inl (self_slice hs (block_lt' hwb) hcap)
    · obtain ⟨x0, cs0, h3, -⟩ := hx 0 (by omega)
      rw [hz'] at h3
      obtain ⟨hs, c, e, fr, hwb, -⟩ := cells?_get h3 hz0
      have hself : VRel (idRen W.heap.size) (.slice (some a) len cap) (.slice (some a) len cap) := self_slice hs (block_lt' hwb) hcap
      refine ⟨_, l, rfl, ?_, .inl hself, by omega⟩
      rw [seen_self hself]
      obtain ⟨b, off, sp⟩ := a
      simp only at hs hwb
      subst hs
      refine ⟨some ⟨b, off, none⟩, cap, by rw [hl], fun _ => ⟨b, off, rfl, block_lt' hwb, fun i x hi => ?_⟩⟩
      obtain ⟨cs', g1, g2, g3⟩ := hP i x hi
      rw [addr_add' rfl] at g1
      obtain ⟨-, c', e', fr', g4, g5, g6, g7⟩ := cells?_get g1 hz0
      exact ⟨_, mirror_cells g4 g7 g5 g6 g2, g3⟩

theorem good3 (n : Nat) (cs : List Value) (y : DataW H × List MemPlace) (h : DataW.trod enc Tryz.prog W 0 (fun _ => true) true n 3 cs = some y) (_ : ∀ m ∈ y.1.weights Tryz.prog 3, m ≤ reachBytes) :
    ∃ x : Int, (∀ u ∈ cs, Abs.Good W.heap.size u) ∧ RInt (mirror W) (cs.map (Abs.seen W.heap.size)) x := by
  obtain ⟨k, rfl, -, -⟩ := DataW.trod_int Tryz.underlying3 h
  have hv : VRel (idRen W.heap.size) (.int .i64 k) (.int .i64 k) := vrel_int.2 rfl
  refine ⟨k, fun u hu => ?_, ?_⟩
  · rw [List.mem_singleton.1 hu]; exact .inl hv
  · show [Abs.seen W.heap.size (.int .i64 k)] = _
    rw [seen_self hv]

theorem cells3 : Tryz.prog.cellsOf 3 = 1 := by kernel_rfl
theorem ints_trod {fuel : Nat} {cs : List Value} {y : DataW H × List MemPlace} (h : DataW.trod enc Tryz.prog W 0 (fun _ => true) true fuel 40 cs = some y) (hw : ∀ m ∈ y.1.weights Tryz.prog 40, m ≤ reachBytes) :
    ∃ v l, cs = [v] ∧ RS 1 RInt (mirror W) (Abs.seen W.heap.size v) l ∧ Abs.Good W.heap.size v ∧ l.length ≤ reachBytes :=
  rs_of_trod Tryz.underlying40 cells3 (by decide) (Nat.lt_of_lt_of_le (by decide) (show 8 ≤ Tryz.prog.bytesOf 3 from Nat.le_of_ble_eq_true (by kernel_rfl))) good3 h hw

/-- What is handed lies in the heap. -/
theorem ok_cell {P : Program} {T E : TypeId} (hu : P.underlying T = some (.slice E)) {base : Nat} {v : Value} (h : Cell.okWide P W .any base T v) : VRel (idRen W.heap.size) v v ∧ v.cells.toList = [v] := by
  cases v with
  | slice a len cap =>
    cases a with
    | none =>
      refine ⟨vrel_slice_none.2 rfl, rfl⟩
    | some a =>
      simp only [Cell.okWide, Cell.ok, hu] at h
      obtain ⟨h1, h2, -, hs, row, cells, h4, -⟩ := h
      have hb : a.block < W.heap.size := by
        unfold World.shape? at h4
        rcases Nat.lt_or_ge a.block W.heap.size with h5 | h5
        · exact h5
        · simp [Array.getElem?_eq_none h5] at h4
      have hm : IntKind.i64.max = 9223372036854775807 := rfl
      rw [hm] at h2
      have hc : cap < OPENCAP := by
        unfold OPENCAP
        omega
      exact ⟨self_slice hs hb hc, rfl⟩
  | _ => simp [Cell.okWide, Cell.ok, hu] at h
theorem ok_self {P : Program} {T E : TypeId} (hu : P.underlying T = some (.slice E)) {base : Nat} {v : Value} (h : Value.okWide P W .any base T v) : VRel (idRen W.heap.size) v v ∧ v.cells.toList = [v] := by
  simp only [Value.okWide, hu] at h
  exact ok_cell hu h

end
end Go.Proofs.YtacpdefmnijhnaaGreat.U
