/- A path that is drawn (function 18). -/
import Derived.Test.YtbknckiapcafdaaNestQ
set_option linter.unusedSimpArgs false
set_option linter.unusedVariables false
namespace Go.Proofs.Ytbknckiapcafdaa.Nest
open Abs Abs2

theorem ext_put_merge {σ σ' : AS} (h : Ext σ σ') {i : Nat} (hi : σ.next ≤ i) (B : Blk) : Ext σ (σ'.merge (σ'.reset.put i B)) :=
  ⟨h.nxt, fun j hj => by rw [get_merge, AS.get_put, if_neg (by omega)]; exact h.get j hj, fun m h1 h2 => Nat.le_min.2 ⟨h.low m h1 h2, Nat.le_min.2 ⟨Nat.le_trans h2 h.nxt, Nat.le_trans h2 hi⟩⟩⟩

/-- Arcs are appended to nil. -/
theorem append_none {σ : AS} {x : Value} {m : List Arc} (hx : Src σ x m) (hm : m ≠ []) (hn : m.length ≤ 1000000) :
    aAppend Try.prog σ #[22, 22] (.slice none 0 0) x = some (outV σ.next m, σ.new (outB m)) := by
  obtain ⟨inf, z, h1, h2, h3, h4, h5, h6⟩ := info27
  have hs := hx.source h2
  have hp : 0 < m.length := List.length_pos_iff.2 hm
  have d1 : Nat.beq (2 : Nat) 0 = false := rfl
  have d2 : Nat.beq (2 : Nat) 2 = true := rfl
  have d3 : Nat.ble ((4 * m.length + 4000) * 16) 281474976710656 = true := ble_t (by omega)
  have d4 : Nat.ble m.length 1000000000000 = true := ble_t (by omega)
  have d5 : Nat.beq (cellsOf m).length (m.length * 2) = true := by rw [cellsOf_length]; exact Nat.beq_refl _
  have d6 : Nat.ble m.length 0 = false := ble_f hp
  unfold aAppend
  simp only [List.getElem?_toArray, List.getElem?_cons_zero, List.getElem?_cons_succ, Try.underlying22, h1, h2, h3, h4, h5, h6, hs, d1, d2, Nat.zero_add, d3, d4, d5, d6, open_zero, aFirst, Nat.zero_mul, Bool.not_true, Bool.or_false, Bool.false_eq_true, if_false, List.length_nil, Nat.beq_refl, if_true, List.nil_append]
  rfl

/-- A row in the making, from nil, made since σ0. -/
def OutN (σ0 σ : AS) (v : Value) (m : List Arc) : Prop :=
  (m = [] ∧ v = .slice none 0 0) ∨ (m ≠ [] ∧ ∃ b, σ0.next ≤ b ∧ b < σ.next ∧ v = outV b m ∧ σ.get b = outB m)

theorem OutN.extX {σ0 σ σ' : AS} {v : Value} {m : List Arc} {X : List Nat} (h : OutN σ0 σ v m) (e : ExtX X σ σ') (hX : ∀ x ∈ X, x < σ0.next) : OutN σ0 σ' v m := by
  rcases h with h | ⟨h0, b, h1, h2, h3, h4⟩
  · exact .inl h
  · exact .inr ⟨h0, b, h1, e.lt h2, h3, (e.get b h2 (fun hx => by have := hX b hx; omega)).trans h4⟩
theorem OutN.ext {σ0 σ σ' : AS} {v : Value} {m : List Arc} (h : OutN σ0 σ v m) (e : Ext σ σ') : OutN σ0 σ' v m := h.extX (X := []) (.of e) (by simp)

theorem OutN.append {σ0 σ : AS} {v x : Value} {m k : List Arc} {X : List Nat} (h : OutN σ0 σ v m) (hx : Src σ x k) (hk : k ≠ []) (hn : m.length + k.length ≤ 1000000) (hE : ExtX X σ0 σ) :
    ∃ v' σ', aAppend Try.prog σ #[22, 22] v x = some (v', σ') ∧ OutN σ0 σ' v' (m ++ k) ∧ ExtX X σ0 σ' ∧ σ.next ≤ σ'.next ∧ ∀ i, i < σ.next → (σ.get i).kind ≠ 2 → σ'.get i = σ.get i := by
  have hnx := hE.nxt
  rcases h with ⟨rfl, rfl⟩ | ⟨h0, b, h1, h2, rfl, h4⟩
  · exact ⟨_, _, append_none hx hk (by simpa using hn), .inr ⟨hk, σ.next, hnx, Nat.lt_succ_self _, rfl, by rw [AS.get_new, if_pos rfl]; rfl⟩, hE.trans (.of (Ext.new _ _)), Nat.le_succ _, fun i hi _ => by rw [AS.get_new, if_neg (by omega)]⟩
  · refine ⟨_, _, append_more hx hk hn h4, .inr ⟨by simp [h0], σ.next, hnx, Nat.lt_succ_self _, rfl, ?_⟩, ⟨Nat.le_trans hnx (Nat.le_succ _), fun i hi hx => ?_, fun m' g1 g2 g3 => ?_⟩, Nat.le_succ _, fun i hi hk2 => ?_⟩
    · rw [AS.get_new, if_pos]
      rfl
    · rw [AS.get_new, if_neg (by show σ.next ≠ i; omega), AS.get_put, if_neg (by omega), hE.get i hi hx]
    · exact Nat.le_min.2 ⟨hE.low m' g1 g2 g3, Nat.le_trans g2 h1⟩
    · have hne : b ≠ i := by
        rintro rfl
        rw [h4] at hk2
        exact hk2 rfl
      rw [AS.get_new, if_neg (by show σ.next ≠ i; omega), AS.get_put, if_neg hne]

theorem OutN.row {σ0 σ : AS} {v : Value} {m : List Arc} {X : List Nat} (h : OutN σ0 σ v m) (hX : ∀ x ∈ X, x < σ0.next) : GRow (hid X σ) v m := by
  rcases h with ⟨rfl, rfl⟩ | ⟨h0, b, h1, h2, h3, h4⟩
  · exact .inl ⟨rfl, rfl⟩
  · refine .inr ⟨h0, b, h3, by rw [hid_next]; exact h2, ?_⟩
    rw [hid_out _ (fun hx => by have := hX b hx; omega)]
    exact h4

end Go.Proofs.Ytbknckiapcafdaa.Nest
