/- The memory that a call finds, as a memory of the evaluator: what lay before is read alone. No program. -/
import Derived.Test.YtacpdefmnijhnaaGreatAbsT
set_option linter.unusedSimpArgs false
set_option linter.unusedVariables false
namespace Go.Proofs.YtacpdefmnijhnaaGreat.Abs

noncomputable def idRen (n : Nat) : Ren := ⟨fun i => if i < n then some i else none, fun _ => (0, 0)⟩

theorem idRen_bl {n i b : Nat} : (idRen n).bl i = some b ↔ i < n ∧ b = i := by
  simp only [idRen]
  split
  · rename_i h; simp [h, eq_comm]
  · rename_i h; simp [h]

open Classical in
/-- A cell as it is seen: what names no more than blocks is itself; a slice without capacity is told as it is. -/
noncomputable def seen (n : Nat) (v : Value) : Value := if VRel (idRen n) v v then v else match v with
  | .slice (some a) 0 0 => .slice (some (litOf a)) 0 0
  | _ => .chan none

theorem seen_self {n : Nat} {v : Value} (h : VRel (idRen n) v v) : seen n v = v := by unfold seen; rw [if_pos h]
theorem lit_rel {ρ : Ren} (a : Addr) : VRel ρ (.slice (some (litOf a)) 0 0) (.slice (some a) 0 0) := vrel_slice.2 (.inr ⟨by simp [litOf], rfl, rfl, by rw [litA_of]⟩)
theorem seen_rel {n : Nat} {v : Value} (h : known (seen n v) = true) : VRel (idRen n) (seen n v) v := by
  unfold seen at h ⊢
  split
  · rename_i hr; exact hr
  · rename_i hr
    rw [if_neg hr] at h
    rcases Classical.em (∃ a, v = .slice (some a) 0 0) with ⟨a, rfl⟩ | hs
    · exact lit_rel a
    · exfalso
      split at h
      · exact hs ⟨_, rfl⟩
      · cases h
/-- What can be seen. -/
def Good (n : Nat) (v : Value) : Prop := VRel (idRen n) v v ∨ ∃ a, v = .slice (some a) 0 0
theorem Good.known {n : Nat} {v : Value} (h : Good n v) : known (seen n v) = true := by
  unfold seen
  split
  · rename_i hr
    cases v <;> first | rfl | skip
    rename_i r
    obtain ⟨_, _, e⟩ := vrel_chan hr
    cases e
  · rename_i hr
    rcases h with h | ⟨a, rfl⟩
    · exact absurd h hr
    · rfl

noncomputable def mirrorBlk (w : World) (i : Nat) : Blk := match w.heap[i]? with
  | some (.cells c e _) => ⟨5, e, 0, c.toList.map (seen w.heap.size), []⟩
  | _ => Blk.dead

noncomputable def mirror (w : World) : AS := ⟨w.heap.size, w.heap.size, mkHeap (mirrorBlk w) w.heap.size⟩

theorem mirror_get (w : World) {i : Nat} (h : i < w.heap.size) : (mirror w).get i = mirrorBlk w i := by
  show hget (mkHeap _ _) i = _
  rw [hget_mk, if_pos h]

theorem mirror_kind (w : World) (i : Nat) : (mirrorBlk w i).kind = 0 ∨ (mirrorBlk w i).kind = 5 := by
  unfold mirrorBlk
  split
  · exact .inr rfl
  · exact .inl rfl

theorem mirror_R (G : Nat) (w : World) (hG : G ≤ w.heap.size) : R G (idRen w.heap.size) (mirror w) w := by
  refine ⟨fun i b hi => ?_, fun i j b hi hj _ _ => ?_, fun g hg => idRen_bl.2 ⟨by omega, rfl⟩, hG⟩
  · obtain ⟨h1, rfl⟩ := idRen_bl.1 hi
    refine ⟨h1, w.heap[b], by simp [h1], ?_⟩
    rw [mirror_get w h1]
    unfold mirrorBlk
    have e : w.heap[b]? = some w.heap[b] := by simp [h1]
    rw [e]
    split
    · rename_i c el fr hc
      rw [Option.some.inj hc]
      refine ⟨c, fr, rfl, fun j v hj hk => ?_⟩
      rw [List.getElem?_map] at hj
      cases hcj : c.toList[j]? with
      | none => rw [hcj] at hj; cases hj
      | some u =>
        rw [hcj] at hj
        simp only [Option.map_some, Option.some.injEq] at hj
        refine ⟨u, by simpa using hcj, ?_⟩
        rw [← hj] at hk
        rw [← hj]
        exact seen_rel hk
    · trivial
  · obtain ⟨_, rfl⟩ := idRen_bl.1 hi
    obtain ⟨_, rfl⟩ := idRen_bl.1 hj
    rfl

/-- What the world's cells are, the mirror's are, as they are seen. -/
theorem mirror_cells {w : World} {a : Addr} {n : Nat} {cs : List Value} {c : Array Value} {e : TypeId} {fr : Nat × Nat} (hw : w.heap[a.block]? = some (.cells c e fr))
    (hcs : ∀ j v, cs[j]? = some v → c[a.off + j]? = some v) (hn : cs.length = n) (hz : a.off + n ≤ c.size) (hv : ∀ v ∈ cs, Good w.heap.size v) : aCells (mirror w) a n = some (cs.map (seen w.heap.size)) := by
  have hlt : a.block < w.heap.size := by
    rcases Nat.lt_or_ge a.block w.heap.size with h | h
    · exact h
    · simp [Array.getElem?_eq_none h] at hw
  have hb : (mirror w).get a.block = ⟨5, e, 0, c.toList.map (seen w.heap.size), []⟩ := by
    rw [mirror_get w hlt]; unfold mirrorBlk; rw [hw]
  have hval : ((c.toList.map (seen w.heap.size)).drop a.off).take n = cs.map (seen w.heap.size) := by
    apply List.ext_getElem?
    intro j
    rcases Nat.lt_or_ge j n with hj | hj
    · rw [List.getElem?_take_of_lt hj, List.getElem?_drop, List.getElem?_map, List.getElem?_map]
      have : cs[j]? = some cs[j] := by simp [hn, hj]
      have h2 := hcs j _ this
      rw [this]
      have h3 : c.toList[a.off + j]? = some cs[j] := by simpa using h2
      rw [h3]
    · rw [List.getElem?_eq_none (by rw [List.length_take]; omega), List.getElem?_eq_none (by rw [List.length_map]; omega)]
  unfold aCells
  rw [hb]
  have e1 : isCells (⟨5, e, 0, c.toList.map (seen w.heap.size), []⟩ : Blk) = false := rfl
  rw [e1, if_neg (by simp)]
  dsimp only
  rw [hval, hasLen_eq]
  rw [if_pos]
  simp only [Bool.and_eq_true, Nat.beq_eq, Nat.ble_eq, List.length_map, Array.length_toList, List.all_eq_true]
  refine ⟨⟨trivial, hz⟩, fun x hx => ?_⟩
  obtain ⟨v, hv1, rfl⟩ := List.mem_map.1 hx
  exact (hv v hv1).known

/-- A law's call: what lay before is as it was. -/
theorem mirror_calls {P : Program} {K : Tbl} (hp : ProgOk P) (hk : KOk P K) {f : FuncId} {args : List Value} {W : World} (ha : ∀ v ∈ args, VRel (idRen W.heap.size) v v)
    (h : C P K 0 f args (mirror W) fun v _ => v = .bool true) :
    Calls P f args.toArray W fun e W' => e = .returned (.bool true) ∧ (∀ b, b < W.heap.size → W'.heap[b]? = W.heap[b]?) ∧ W.heap.size ≤ W'.heap.size ∧ W'.os = W.os ∧ W'.output = W.output := by
  obtain ⟨v, σ', N, h1, rfl⟩ := h
  have hrel : ∀ l : List Value, (∀ v ∈ l, VRel (idRen W.heap.size) v v) → LRel (VRel (idRen W.heap.size)) l l := by
    intro l
    induction l with
    | nil => intro _; trivial
    | cons a l ih => intro h; exact ⟨h a (by simp), ih fun x hx => h x (by simp [hx])⟩
  obtain ⟨_, h2⟩ := aCall_sound (G := 0) hp hk N f args (mirror W) _ σ' _ W args (h1 N (Nat.le_refl _)) (mirror_R 0 W (Nat.zero_le _)) (hrel args ha)
  have hm : AMono (mirror W) σ' := callBy_mono (aCode_mono N) f args _ _ _ (h1 N (Nat.le_refl _))
  have hro := hm.ro W.heap.size (Nat.le_refl _) (Nat.le_refl _) fun i hi => by rw [mirror_get W hi]; exact mirror_kind W i
  refine h2.mono fun e W' ⟨v', τ, he, hv', hs⟩ => ?_
  obtain rfl := vrel_bool.1 hv'
  refine ⟨he, fun b hb => ?_, hs.hsz, hs.out⟩
  by_cases hz : ((mirror W).get b).kind = 0
  · exact hs.frame b hb fun i hi => by
      obtain ⟨_, rfl⟩ := idRen_bl.1 hi
      exact hz
  · exact hs.stay b b (idRen_bl.2 ⟨hb, rfl⟩) hz (Nat.lt_of_lt_of_le hb hro.1)

end Go.Proofs.YtacpdefmnijhnaaGreat.Abs
