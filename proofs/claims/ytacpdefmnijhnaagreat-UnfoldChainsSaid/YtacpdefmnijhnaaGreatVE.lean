/- Law 18: a chain of calls in memory. -/
import Derived.Test.YtacpdefmnijhnaaGreatVB
import Derived.Test.YtacpdefmnijhnaaGreatLib
set_option linter.unusedSimpArgs false
set_option linter.unusedVariables false
namespace Go.Proofs.YtacpdefmnijhnaaGreat.U18
open Abs U

theorem flat_len {z : Nat} : ∀ {l : List (List Value)}, (∀ x ∈ l, x.length = z) → l.flatten.length = l.length * z
  | [], _ => by simp
  | x :: l, h => by
    rw [List.flatten_cons, List.length_append, h x (by simp), flat_len (fun y hy => h y (List.mem_cons_of_mem _ hy)), List.length_cons, Nat.add_mul]
    omega
theorem flat_at {z : Nat} : ∀ {l : List (List Value)}, (∀ x ∈ l, x.length = z) → ∀ {i : Nat} {x : List Value}, l[i]? = some x → (l.flatten.drop (i * z)).take z = x
  | [], _, i, x, hi => by simp at hi
  | y :: l, h, 0, x, hi => by
    simp only [List.getElem?_cons_zero, Option.some.injEq] at hi
    subst hi
    rw [Nat.zero_mul, List.drop_zero, List.flatten_cons, ← h y (by simp), List.take_left']
    rfl
  | y :: l, h, i + 1, x, hi => by
    have hy := h y (by simp)
    rw [List.flatten_cons, show (i + 1) * z = y.length + i * z by rw [hy, Nat.add_mul]; omega, ← List.drop_drop, List.drop_left]
    exact flat_at (fun a ha => h a (List.mem_cons_of_mem _ ha)) (by simpa using hi)

theorem fcl_len (v : Value) : (fcl v).length = 6 := rfl
theorem fcs_len (k : Nat) (bl : Nat → Nat) : (fcs k bl).length = (k + 1) * 6 := by
  unfold fcs
  rw [flat_len (z := 6) (by
    intro x hx
    obtain ⟨i, _, rfl⟩ := List.mem_map.1 hx
    rfl), List.length_map, List.length_range]
theorem fcs_at {k i : Nat} {bl : Nat → Nat} (hi : i ≤ k) : ((fcs k bl).drop (i * 6)).take 6 = fcl (sl1 (bl i)) :=
  flat_at (by
    intro x hx
    obtain ⟨i, _, rfl⟩ := List.mem_map.1 hx
    rfl) (by rw [List.getElem?_map, List.getElem?_range (by omega)]; rfl)

/-- A chain of calls in memory: k + 1 functions, whose bodies lie in the blocks bl 0 .. bl k and are one node each. -/
structure Chn (σ : AS) (bf bn be k : Nat) (bl : Nat → Nat) (op ar : Nat → Int) : Prop where
  fs : σ.get bf = ⟨2, 47, 6, fcs k bl, []⟩
  ns : σ.get bn = ⟨2, 80, 4, ncl, []⟩
  es : σ.get be = ⟨2, 25, 1, ecl, []⟩
  bs : ∀ i, i ≤ k → σ.get (bl i) = codeB (op i) (ar i)
  lf : bf < σ.next
  ln : bn < σ.next
  le : be < σ.next
  lb : ∀ i, i ≤ k → bl i < σ.next
  hk : k < 40

theorem Chn.ext {σ σ' : AS} {bf bn be k : Nat} {bl : Nat → Nat} {op ar : Nat → Int} (h : Chn σ bf bn be k bl op ar) (e : Ext σ σ') : Chn σ' bf bn be k bl op ar :=
  ⟨(e.get _ h.lf).trans h.fs, (e.get _ h.ln).trans h.ns, (e.get _ h.le).trans h.es, fun i hi => (e.get _ (h.lb i hi)).trans (h.bs i hi), Nat.lt_of_lt_of_le h.lf e.nxt, Nat.lt_of_lt_of_le h.ln e.nxt, Nat.lt_of_lt_of_le h.le e.nxt, fun i hi => Nat.lt_of_lt_of_le (h.lb i hi) e.nxt, h.hk⟩

/-! ### What chain makes, behind the caller's memory -/

theorem rn_sl (f : Nat → Nat) (b l c : Nat) : rnV f 9 (.slice (some ⟨b, 0, none⟩) l c) = some (.slice (some ⟨f b, 0, none⟩) l c) := rfl
theorem rn_sl8 (f : Nat → Nat) (b l c : Nat) : rnV f 8 (.slice (some ⟨b, 0, none⟩) l c) = some (.slice (some ⟨f b, 0, none⟩) l c) := rfl

theorem shL_append {f : Value → Option Value} : ∀ {l m l' m' : List Value}, shL f l = some l' → shL f m = some m' → shL f (l ++ m) = some (l' ++ m')
  | [], m, l', m', h1, h2 => by cases h1; exact h2
  | a :: l, m, l', m', h1, h2 => by
    simp only [shL] at h1
    split at h1
    · rename_i b hb
      split at h1
      · rename_i k hk
        cases h1
        simp only [List.cons_append, shL, hb, shL_append hk h2]
      · cases h1
    · cases h1

theorem rn_fcs (f : Nat → Nat) (bl : Nat → Nat) : ∀ (l : List Nat), shL (rnV f 9) ((l.map fun i => fcl (sl1 (bl i))).flatten) = some ((l.map fun i => fcl (sl1 (f (bl i)))).flatten)
  | [] => rfl
  | i :: l => by
    rw [List.map_cons, List.flatten_cons, List.map_cons, List.flatten_cons]
    exact shL_append rfl (rn_fcs f bl l)

theorem layR_ex {f : Nat → Nat} : ∀ {l : List Blk}, (∀ b ∈ l, ∃ c, rnB f b = some c) → ∀ σ : AS, ∃ σ', layR f l σ = some σ'
  | [], _, σ => ⟨σ, rfl⟩
  | b :: l, h, σ => by
    obtain ⟨c, hc⟩ := h b (by simp)
    obtain ⟨σ', h'⟩ := layR_ex (fun x hx => h x (List.mem_cons_of_mem _ hx)) (σ.new c)
    exact ⟨σ', by simp only [layR, hc]; exact h'⟩

/-- The blocks of the bodies behind the caller's memory. -/
def blN (b base k i : Nat) : Nat := if i = k then b else base + 3 + i

theorem name_bl (b base k : Nat) : (fun i => name1 b base (bl0 k i)) = blN b base k := by
  funext i
  unfold bl0 blN
  split
  · rfl
  · rw [show 4 + i = (3 + i) + 1 by omega]
    show base + (3 + i) = _
    omega

theorem chain_moved {σ : AS} {b k : Nat} (hk : k < 40) (hb : b < σ.next) {op ar : Int} (hc : σ.get b = codeB op ar) :
    ∃ σ', moved1 (fam k).1 (fam k).2 b σ = some (coreV σ.next (σ.next + 1) (σ.next + 2) k, σ') ∧ Ext σ σ' ∧ σ'.low = σ.low ∧
      Chn σ' σ.next (σ.next + 1) (σ.next + 2) k (blN b σ.next k) (fun i => if i = k then op else 7) (fun i => if i = k then ar else ((i + 1 : Nat) : Int)) := by
  have r1 : rnB (name1 b σ.next) ⟨2, 47, 6, fcs k (bl0 k), []⟩ = some ⟨2, 47, 6, fcs k (blN b σ.next k), []⟩ := by
    have := rn_fcs (name1 b σ.next) (bl0 k) (List.range (k + 1))
    unfold rnB
    rw [if_neg (by exact (by decide : ¬ (false = true))), if_pos (by rfl)]
    show (match shL (rnV (name1 b σ.next) 9) (fcs k (bl0 k)) with | some vs => _ | none => _) = _
    unfold fcs
    rw [this]
    have e := name_bl b σ.next k
    have e2 : (fun i => fcl (sl1 (name1 b σ.next (bl0 k i)))) = fun i => fcl (sl1 (blN b σ.next k i)) := by
      funext i
      rw [← e]
    rw [e2]
  have r2 : rnB (name1 b σ.next) ⟨2, 80, 4, ncl, []⟩ = some ⟨2, 80, 4, ncl, []⟩ := rfl
  have r3 : rnB (name1 b σ.next) ⟨2, 25, 1, ecl, []⟩ = some ⟨2, 25, 1, ecl, []⟩ := rfl
  have r4 : ∀ x y : Int, rnB (name1 b σ.next) (codeB x y) = some (codeB x y) := fun _ _ => rfl
  obtain ⟨σ', h1⟩ := layR_ex (f := name1 b σ.next) (l := (fam k).2) (by
    intro x hx
    simp only [fam, List.mem_cons, List.mem_map] at hx
    rcases hx with rfl | rfl | rfl | ⟨i, _, rfl⟩
    · exact ⟨_, r1⟩
    · exact ⟨_, r2⟩
    · exact ⟨_, r3⟩
    · exact ⟨_, r4 _ _⟩) σ
  obtain ⟨l1, l2, l3, l4⟩ := layR_at h1
  have hlen : (fam k).2.length = k + 3 := by simp [fam]
  have at_ : ∀ i x c, (fam k).2[i]? = some x → rnB (name1 b σ.next) x = some c → σ'.get (σ.next + i) = c := fun i x c hx hr => by
    obtain ⟨c', h2, h3⟩ := l4 i x hx
    rw [hr] at h2
    cases h2
    exact h3
  have hE : Ext σ σ' := ⟨by rw [l1]; omega, fun i hi => l3 i hi, fun m h _ => by rw [l2]; exact h⟩
  refine ⟨σ', ?_, hE, l2, ?_⟩
  · unfold moved1
    rw [h1]
    rfl
  · refine ⟨at_ 0 _ _ rfl r1, at_ 1 _ _ rfl r2, at_ 2 _ _ rfl r3, fun i hi => ?_, by rw [l1, hlen]; omega, by rw [l1, hlen]; omega, by rw [l1, hlen]; omega, fun i hi => ?_, hk⟩
    · unfold blN
      by_cases e : i = k
      · rw [if_pos e, if_pos e, if_pos e, l3 b hb, hc]
      · rw [if_neg e, if_neg e, if_neg e, Nat.add_assoc]
        refine at_ (3 + i) (codeB 7 ((i + 1 : Nat) : Int)) _ ?_ (r4 _ _)
        rw [Nat.add_comm 3 i]
        show ((List.range k).map fun (i : Nat) => codeB 7 ((i + 1 : Nat) : Int))[i]? = _
        rw [List.getElem?_map, List.getElem?_range (by omega)]
        rfl
    · unfold blN
      split
      · rw [l1]; omega
      · rw [l1, hlen]; omega

end Go.Proofs.YtacpdefmnijhnaaGreat.U18
