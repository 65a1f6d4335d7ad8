/- Equal neighbours of a sorted list of arcs are made one. -/
import Derived.Test.YtacpdefmnijhnaaGreatUH
set_option linter.unusedSimpArgs false
set_option linter.unusedVariables false
namespace Go.Proofs.YtacpdefmnijhnaaGreat.U
open Abs

section
variable {lo : Nat} {σ σ' : AS} {v : Value} {l : List Arc}

/-- What lies behind element k. -/
theorem AL.tail (h : AL lo σ v l) {k : Nat} (h0 : 0 < k) (hk : k < l.length) : ∃ b c, Own v b ∧ aSlice Tryz.prog σ 60 v (some (.int .i64 (k : Int))) none none = some (.slice (some ⟨b, k * 2, none⟩) (l.length - k) c) ∧
    ∃ σ', aClear Tryz.prog σ 60 (.slice (some ⟨b, k * 2, none⟩) (l.length - k) c) = some σ' ∧ σ'.next = σ.next ∧ (∀ i, i ≠ b → σ'.get i = σ.get i) ∧ (∀ q, q ≤ b → q ≤ σ.low → q ≤ σ'.low) ∧
      ∀ τ : AS, σ'.next ≤ τ.next → τ.get b = σ'.get b → ∃ x, aSlice Tryz.prog τ 60 v none (some (.int .i64 (k : Int))) none = some x ∧ AL lo τ x (l.take k) ∧ ∀ i, Own x i → Own v i := by
  obtain ⟨c1, c2, ⟨rfl, h1⟩ | ⟨b, n, vals, rfl, h4, h5, h6, h7, h8, h9⟩⟩ := h
  · omega
  have hkn : k < n := by omega
  have d0 : Nat.beq k 0 = false := beq_f (by omega)
  have hz2 : ¬ (k * 2 = 0) := by omega
  refine ⟨b, OPENCAP + (n - k), ⟨_, _, rfl⟩, open_slice elA h7 ?_, ?_⟩
  · unfold aSliceAt
    simp only [aboundO, open_lb, abound_at k l.length (by omega), open_cap, if_true, d0, Bool.false_eq_true, if_false]
    rw [if_pos (by rw [Nat.blt_eq]; exact hkn)]
    simp only [Option.map_some, Addr.add, Nat.zero_add]
    rw [if_neg hz2]
  obtain ⟨inf, hi, z, hz, hf, hzc⟩ : ∃ inf, Tryz.prog.info? 62 = some inf ∧ ∃ z, inf.zero = some z ∧ flat z = true ∧ z.cells = #[.int .i64 0, .int .i64 0] := ⟨(Tryz.prog.info? 62).get!, by kernel_rfl, (((Tryz.prog.info? 62).get!).zero).get!, by kernel_rfl, by kernel_rfl, by kernel_rfl⟩
  have hnz : Nat.beq (l.length - k) 0 = false := beq_f (by omega)
  have hzs : (Builtin.zeroCells z.cells (l.length - k)).toList.length = (l.length - k) * 2 := by
    unfold Builtin.zeroCells
    simp [hzc]
  have hzo : (Builtin.zeroCells z.cells (l.length - k)).toList.all one = true := by
    rw [List.all_eq_true]
    intro y hy
    unfold Builtin.zeroCells at hy
    simp only [hzc, Array.toList_map, List.mem_map] at hy
    obtain ⟨i, _, rfl⟩ := hy
    have : ∀ i, i < 2 → one (#[Value.int .i64 0, .int .i64 0][i]!) = true := fun i hi => by
      match i, hi with
      | 0, _ => rfl
      | 1, _ => rfl
    exact this _ (Nat.mod_lt _ (by decide))
  have hlen : k * 2 + (l.length - k) * 2 ≤ vals.length := by omega
  generalize hB : lsplice vals (k * 2) (Builtin.zeroCells z.cells (l.length - k)).toList = vals'
  refine ⟨σ.put b ⟨2, 62, 2, vals', []⟩, ?_, rfl, fun i hib => by rw [AS.get_put, if_neg (fun e => hib e.symm)], fun q h1 h2 => Nat.le_min.2 ⟨h2, h1⟩, fun τ hn hg => ?_⟩
  · unfold aClear
    simp only [Tryz.underlying60, hnz, Bool.false_eq_true, if_false, hi, hz, hf, if_true]
    unfold aWrite
    simp only [h7, hasLen_eq, hzs, hzo]
    rw [ble_t hlen, hB]
    cases hzl : (Builtin.zeroCells z.cells (l.length - k)).toList with
    | nil => rw [hzl] at hzs; simp at hzs; omega
    | cons z0 zs => rfl
  · rw [AS.get_put, if_pos rfl] at hg
    have hlv : vals'.length = vals.length := by rw [← hB, lsplice_length]
    have hk2 : (vals.take (k * 2)).length = k * 2 := by rw [List.length_take, Nat.min_eq_left (by omega)]
    have htk : vals'.take (k * 2) = vals.take (k * 2) := by
      rw [← hB, lsplice_eq _ _ _ (by rw [hzs]; exact hlen), List.append_assoc, List.take_append_of_le_length (by rw [hk2]; exact Nat.le_refl _)]
      exact List.take_of_length_le (by rw [hk2]; exact Nat.le_refl _)
    have hA : Stk lo 62 2 τ (.slice (some ⟨b, 0, none⟩) l.length (OPENCAP + n)) l.length (vals'.take (l.length * 2)) := by
      have hkk : l.length * 2 ≤ vals.length := by omega
      refine ⟨by rw [List.length_take, hlv, Nat.min_eq_left hkk], ?_, .inr ⟨b, n, vals', rfl, h4, h5, Nat.lt_of_lt_of_le h6 hn, hg, by rw [hlv]; exact h8, rfl⟩⟩
      have e : vals'.take (l.length * 2) = vals.take (k * 2) ++ (Builtin.zeroCells z.cells (l.length - k)).toList := by
        have hln : (vals.take (k * 2) ++ (Builtin.zeroCells z.cells (l.length - k)).toList).length = l.length * 2 := by
          rw [List.length_append, List.length_take, hzs, Nat.min_eq_left (by omega)]; omega
        rw [← hB, lsplice_eq _ _ _ (by rw [hzs]; exact hlen), List.take_append_of_le_length (by rw [hln]; exact Nat.le_refl _)]
        exact List.take_of_length_le (by rw [hln]; exact Nat.le_refl _)
      rw [e, List.all_append, hzo, Bool.and_true]
      have h10 : vals.take (k * 2) = cA (l.take k) := by rw [← cA_take, ← h9, List.take_take, Nat.min_eq_left (by omega)]
      rw [h10]; exact cA_one _
    obtain ⟨x, g1, g2, g3, _⟩ := Stk.cut elA hA (j := k) (by omega)
    refine ⟨x, g1, ?_, g3⟩
    unfold AL
    rw [List.length_take, Nat.min_eq_left (by omega), ← cA_take, ← h9, List.take_take, Nat.min_eq_left (by omega)]
    rw [List.take_take, Nat.min_eq_left (by omega), htk] at g2
    exact g2
end

end Go.Proofs.YtacpdefmnijhnaaGreat.U
