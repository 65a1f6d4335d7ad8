/- Growing lists of arcs. -/
import Derived.Test.YtacpdefmnijhnaaGreatUE
set_option linter.unusedSimpArgs false
set_option linter.unusedVariables false
namespace Go.Proofs.YtacpdefmnijhnaaGreat.U
open Abs

/-- The cells of a list of arcs. -/
def cA : List Arc → List Value
  | [] => []
  | x :: l => .int .i64 (x.1 : Int) :: .int .i64 (x.2 : Int) :: cA l

theorem cA_length : ∀ l : List Arc, (cA l).length = l.length * 2
  | [] => rfl
  | _ :: l => by show (cA l).length + 1 + 1 = (l.length + 1) * 2; rw [cA_length l]; omega
theorem cA_append : ∀ l m : List Arc, cA (l ++ m) = cA l ++ cA m
  | [], _ => rfl
  | x :: l, m => by show _ :: _ :: cA (l ++ m) = _ :: _ :: (cA l ++ cA m); rw [cA_append l m]
theorem cA_take : ∀ (l : List Arc) (i : Nat), (cA l).take (i * 2) = cA (l.take i)
  | [], i => by simp [cA]
  | x :: l, 0 => by simp [cA]
  | x :: l, i + 1 => by
    rw [show (i + 1) * 2 = i * 2 + 1 + 1 by omega]
    show _ :: _ :: (cA l).take (i * 2) = _ :: _ :: cA (l.take i)
    rw [cA_take l i]
theorem cA_drop : ∀ (l : List Arc) (i : Nat), (cA l).drop (i * 2) = cA (l.drop i)
  | [], i => by simp [cA]
  | x :: l, 0 => by simp [cA]
  | x :: l, i + 1 => by
    rw [show (i + 1) * 2 = i * 2 + 1 + 1 by omega]
    exact cA_drop l i
theorem cA_at {l : List Arc} {i : Nat} {x : Arc} (h : l[i]? = some x) : ((cA l).drop (i * 2)).take 2 = [.int .i64 (x.1 : Int), .int .i64 (x.2 : Int)] := by
  obtain ⟨h1, h2⟩ := List.getElem?_eq_some_iff.1 h
  rw [cA_drop, List.drop_eq_getElem_cons h1, h2]; rfl
theorem cA_one : ∀ l : List Arc, (cA l).all one = true
  | [] => rfl
  | x :: l => by show (_ && (_ && (cA l).all one)) = true; rw [cA_one l]; rfl
theorem cA_set : ∀ (l : List Arc) (i : Nat) (x : Arc), i < l.length → lsplice (cA l) (i * 2) [.int .i64 (x.1 : Int), .int .i64 (x.2 : Int)] = cA (l.set i x)
  | [], i, x, h => absurd h (Nat.not_lt_zero _)
  | y :: l, 0, x, h => by
    rw [lsplice_cons, lsplice_cons, lsplice_nil]; rfl
  | y :: l, i + 1, x, h => by
    have ih := cA_set l i x (by simpa using h)
    rw [lsplice_cons, lsplice_cons, lsplice_nil] at ih ⊢
    rw [show (i + 1) * 2 = i * 2 + 1 + 1 by omega]
    show _ :: _ :: ((cA l).set (i * 2) _).set (i * 2 + 1) _ = _ :: _ :: cA (l.set i x)
    rw [ih]

theorem idxA {b off len cap i : Nat} (h : i < len) : aIndexAddr Tryz.prog 60 (.slice (some ⟨b, off, none⟩) len cap) (.int .i64 (i : Int)) = some (.pointer (some ⟨b, off + i * 2, none⟩)) :=
  aIndexAddr_slice (inf := (Tryz.prog.info? 62).get!) Tryz.underlying60 (by kernel_rfl) (by kernel_rfl) h

theorem elA : El Tryz.prog 60 62 2 := ⟨Tryz.underlying60, ⟨(Tryz.prog.info? 62).get!, (((Tryz.prog.info? 62).get!).zero).get!, by kernel_rfl, by kernel_rfl, Nat.le_of_ble_eq_true (by kernel_rfl), by kernel_rfl, by kernel_rfl, by kernel_rfl⟩, by decide⟩
theorem elI : El Tryz.prog 40 3 1 := ⟨Tryz.underlying40, ⟨(Tryz.prog.info? 3).get!, (((Tryz.prog.info? 3).get!).zero).get!, by kernel_rfl, by kernel_rfl, Nat.le_of_ble_eq_true (by kernel_rfl), by kernel_rfl, by kernel_rfl, by kernel_rfl⟩, by decide⟩

/-- A growing list of arcs. -/
def AL (lo : Nat) (σ : AS) (v : Value) (l : List Arc) : Prop := Stk lo 62 2 σ v l.length (cA l)

section
variable {lo : Nat} {σ σ' : AS} {v : Value} {l : List Arc}
theorem AL.ext (h : AL lo σ v l) (e : Ext σ σ') : AL lo σ' v l := h.keep e.nxt fun i _ hi => e.get i hi
theorem AL.nil : AL lo σ (.slice none 0 0) [] := ⟨rfl, rfl, .inl ⟨rfl, rfl⟩⟩
theorem AL.own (h : AL lo σ v l) {i : Nat} (ho : Own v i) : lo ≤ i ∧ i < σ.next ∧ (σ.get i).kind = 2 ∧ (σ.get i).elem = 62 := Stk.own h ho

theorem AL.at (h : AL lo σ v l) (hl : l ≠ []) : ∃ b c, v = .slice (some ⟨b, 0, none⟩) l.length c ∧ lo ≤ b ∧ b < σ.next ∧ (σ.get b).kind = 2 ∧ (σ.get b).elem = 62 ∧
    (∀ i, i < l.length → aIndexAddr Tryz.prog 60 v (.int .i64 (i : Int)) = some (.pointer (some ⟨b, i * 2, none⟩))) ∧
    (∀ i x, l[i]? = some x → ∀ σ' : AS, σ'.get b = σ.get b → aLoad Tryz.prog σ' 62 (.pointer (some ⟨b, i * 2, none⟩)) = some (vArc x)) ∧
    (∀ i x, i < l.length → ∃ B : Blk, B.kind = 2 ∧ B.elem = 62 ∧ (∀ σ' : AS, σ'.get b = σ.get b → aStore Tryz.prog σ' 62 (vArc x) (.pointer (some ⟨b, i * 2, none⟩)) = some (σ'.put b B)) ∧ ∀ τ : AS, σ.next ≤ τ.next → τ.get b = B → AL lo τ v (l.set i x)) := by
  obtain ⟨c1, c2, ⟨h3, h0⟩ | ⟨b, n, vals, rfl, h4, h5, h6, h7, h8, h9⟩⟩ := h
  · exact absurd (List.length_eq_zero_iff.1 h0) hl
  have hv : ∀ (i : Nat) (x : Arc), l[i]? = some x → i * 2 + 2 ≤ vals.length ∧ (vals.drop (i * 2)).take 2 = [.int .i64 (x.1 : Int), .int .i64 (x.2 : Int)] := fun i x hx => by
    have hi := (List.getElem?_eq_some_iff.1 hx).1
    refine ⟨by omega, ?_⟩
    rw [← cA_at hx, ← h9, List.drop_take, List.take_take, Nat.min_eq_left (by omega)]
  refine ⟨b, _, rfl, h5, h6, by rw [h7], by rw [h7], fun i hi => ?_, fun i x hx σ' hg => ?_, fun i x hi => ⟨⟨2, 62, 2, lsplice vals (i * 2) [.int .i64 (x.1 : Int), .int .i64 (x.2 : Int)], []⟩, rfl, rfl, fun σ' hg => ?_, fun τ hn hg => ⟨by rw [cA_length], cA_one _, .inr ⟨b, n, _, by rw [List.length_set], by rw [List.length_set]; exact h4, h5, by omega, hg, ?_, ?_⟩⟩⟩⟩
  · have e1 := idxA (b := b) (off := 0) (cap := OPENCAP + n) hi
    rw [Nat.zero_add] at e1
    exact e1
  · obtain ⟨g1, g2⟩ := hv i x hx
    refine loadArc (x := x) ?_ rfl
    unfold aCells
    simp only [hg.trans h7, hasLen_eq]
    rw [ble_t g1, g2]
    rfl
  · obtain ⟨inf, hi2, hs⟩ : ∃ inf, Tryz.prog.info? 62 = some inf ∧ inf.size = 2 := ⟨(Tryz.prog.info? 62).get!, by kernel_rfl, by kernel_rfl⟩
    have hz : Nat.beq (vArc x).cells.size 2 = true := rfl
    have hc : (vArc x).cells.toList = [.int .i64 (x.1 : Int), .int .i64 (x.2 : Int)] := rfl
    have ho : [Value.int .i64 (x.1 : Int), .int .i64 (x.2 : Int)].all one = true := rfl
    unfold aStore
    simp only [hi2, hs, hz, if_true, hc]
    unfold aWrite
    simp only [hg.trans h7, hasLen_eq, List.length_cons, List.length_nil, Nat.zero_add, ho]
    rw [ble_t (show i * 2 + (1 + 1) ≤ vals.length by omega)]
    rfl
  · rw [lsplice_cons, lsplice_cons, lsplice_nil, List.length_set, List.length_set]; exact h8
  · rw [List.length_set, ← cA_set l i x hi, ← h9, lsplice_cons, lsplice_cons, lsplice_nil, lsplice_cons, lsplice_cons, lsplice_nil, List.take_set, List.take_set]
end

end Go.Proofs.YtacpdefmnijhnaaGreat.U
