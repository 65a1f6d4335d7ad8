/- General lemmas for the walks of law 19. -/
import Derived.Test.YtacpdefmnijhnaaGreatUD
set_option linter.unusedSimpArgs false
set_option linter.unusedVariables false
namespace Go.Proofs.YtacpdefmnijhnaaGreat.U
open Abs

theorem sv_int {n : Nat} {k : IntKind} {i : Int} : (vsc n 9 (.int k i) && veq 9 (.int k i) (.int k i)) = true := by
  unfold vsc veq
  simp

theorem elI : El Tryz.prog 40 3 1 := ⟨Tryz.underlying40, ⟨(Tryz.prog.info? 3).get!, (((Tryz.prog.info? 3).get!).zero).get!, by kernel_rfl, by kernel_rfl, Nat.le_of_ble_eq_true (by kernel_rfl), by kernel_rfl, by kernel_rfl, by kernel_rfl⟩, by decide⟩

section
variable {P : Program} {t : TypeId} (xo yo : Operand) {k : IntKind} {a b : Int}
theorem subI : aBin P .sub t xo yo (.int k a) (.int k b) = some (.int k (k.wrap (a - b))) := by simp only [aBin, aInts, aInt_eq, if_true]
theorem lssI : aBin P .lss t xo yo (.int k a) (.int k b) = some (.bool (decide (a < b))) := by simp only [aBin, aInts, aInt_eq, if_true]
theorem gtrI : aBin P .gtr t xo yo (.int k a) (.int k b) = some (.bool (decide (a > b))) := by simp only [aBin, aInts, aInt_eq, if_true]
theorem leqI : aBin P .leq t xo yo (.int k a) (.int k b) = some (.bool (decide (a ≤ b))) := by simp only [aBin, aInts, aInt_eq, if_true]
theorem eqII : aBin P .eql t xo yo (.int k a) (.int k b) = some (.bool (a == b)) := by simp only [aBin, aInts, aInt_eq, if_true]
end

/-- A part of cells that are known. -/
theorem cells_sub {σ : AS} {b off N i m : Nat} {cs : List Value} (h : aCells σ ⟨b, off, none⟩ N = some cs) (hi : i + m ≤ N) : aCells σ ⟨b, off + i, none⟩ m = some ((cs.drop i).take m) := by
  unfold aCells at h ⊢
  simp only [hasLen_eq] at h ⊢
  have key : ∀ l : List Value, (l.drop (off + i)).take m = (((l.drop off).take N).drop i).take m := fun l => by
    rw [List.drop_take, List.drop_drop, List.take_take, Nat.min_eq_left (by omega)]
  have hble : Nat.ble (off + N) (σ.get b).vals.length = true → Nat.ble (off + i + m) (σ.get b).vals.length = true := fun h => by
    rw [Nat.ble_eq] at h ⊢; omega
  by_cases h1 : (isCells (σ.get b) && Nat.ble (off + N) (σ.get b).vals.length) = true
  · rw [if_pos h1] at h
    simp only [Bool.and_eq_true] at h1
    rw [if_pos (by rw [h1.1, hble h1.2]; rfl), key, Option.some.inj h]
  · rw [if_neg h1] at h
    by_cases h2 : (Nat.beq (σ.get b).kind 5 && Nat.ble (off + N) (σ.get b).vals.length && (((σ.get b).vals.drop off).take N).all known) = true
    · rw [if_pos h2] at h
      simp only [Bool.and_eq_true] at h2
      obtain ⟨⟨h3, h4⟩, h5⟩ := h2
      have e := Option.some.inj h
      have hk : (((σ.get b).vals.drop (off + i)).take m).all known = true := by
        rw [key]
        rw [List.all_eq_true] at h5 ⊢
        exact fun x hx => h5 x (List.mem_of_mem_drop (List.mem_of_mem_take hx))
      by_cases h6 : (isCells (σ.get b) && Nat.ble (off + i + m) (σ.get b).vals.length) = true
      · rw [if_pos h6, key, e]
      · rw [if_neg h6, if_pos (by rw [h3, hble h4, hk]; rfl), key, e]
    · rw [if_neg h2] at h
      cases h

/-! ### One element is appended -/

section
variable {P : Program} {lo T E E' z k : Nat} {σ : AS} {v : Value} {cs new : List Value} {b : Nat}
theorem src1 (hb : σ.get b = ⟨1, E', 0, new, []⟩) (hn : new.length = z) : ∀ inf : TypeInfo, inf.size = z → aSource P σ false inf (.slice (some ⟨b, 0, none⟩) 1 1) = some (1, new) := fun inf hi => by
  have hc : aCells σ ⟨b, 0, none⟩ z = some new := cells_at hb (by rw [List.drop_zero, List.take_of_length_le (by omega)]) (by omega)
  unfold aSource
  simp only [Bool.false_eq_true, if_false, hi, Nat.one_mul, aCellsS_none, hc]
theorem Stk.push1 (el : El P T E z) (h : Stk lo E z σ v k cs) (hlo : lo ≤ σ.next) (hb : σ.get b = ⟨1, E', 0, new, []⟩) (hn : new.length = z) (h1 : new.all one = true) (hk : k + 1 ≤ 1000000) :
    ∃ v' s, aAppend P σ #[T, T] v (.slice (some ⟨b, 0, none⟩) 1 1) = some (v', s) ∧ Stk lo E z s v' (k + 1) (cs ++ new) ∧ σ.next ≤ s.next ∧ (∀ i, i < σ.next → ¬ Own v i → s.get i = σ.get i) ∧ (∀ q, q ≤ lo → q ≤ σ.low → q ≤ s.low) ∧
      ∀ i, Own v' i → Own v i ∨ σ.next ≤ i :=
  Stk.push el h hlo (src1 hb hn) (by omega) h1 hk
end

/-! ### Lists of rows -/

theorem ExtX.fresh {X : List Nat} {σ σ' : AS} (h : ExtX X σ σ') {i : Nat} (hi : σ.next ≤ i) (B : Blk) : ExtX X σ (σ'.put i B) :=
  ⟨h.nxt, fun j hj hx => by rw [AS.get_put, if_neg (by omega)]; exact h.get j hj hx, fun m h1 h2 h3 => Nat.le_min.2 ⟨h.low m h1 h2 h3, by omega⟩⟩

section
variable {P : Program} {K : Tbl} {G n : Nat} {ops : Array Oper} {sj X : List Nat} {r : Regs} {σ s1 : AS} {l : List Oper} {Q : Regs → AS → Prop}
/-- An operation that makes blocks alone. -/
theorem Lg_qopX {k0 d : Nat} {op : Op} {ty : TypeId} {pos : String} {aft : Array Edge} {v : Value} (hs : ∀ callf, aStep P G callf r σ.reset op = some (v, s1)) (hd : d < n) (hm : memb sj k0 = false) (hq : σ.next ≤ s1.low)
    (h : Lg P K G n ops sj X (k0 + 1) l (rput r d v) (σ.merge s1) Q) : Lg P K G n ops sj X k0 (⟨some d, op, ty, pos, aft, none⟩ :: l) r σ Q := by
  refine ⟨fun _ => ⟨v, s1, 0, fun fuel _ => hs _, ⟨.inl hq, fun h => by rw [hm] at h; cases h⟩, _, ?_, h⟩, fun h => (nomatch h)⟩
  simp only [aPut, bite_eq]; rw [if_pos (by rw [Nat.blt_eq]; exact hd)]
/-- An operation that changes blocks, beside readers of others. -/
theorem Lg_opX {k0 d : Nat} {op : Op} {ty : TypeId} {pos : String} {aft : Array Edge} {v : Value} (hs : ∀ callf, aStep P G callf r σ.reset op = some (v, s1)) (hd : d < n) (hm : memb sj k0 = false) (hbar : barAt P ops sj k0 = true)
    (hx : ∀ x ∈ X, x < σ.next → s1.get x = σ.get x) (h : Lg P K G n ops sj X (k0 + 1) l (rput r d v) (σ.merge s1) Q) : Lg P K G n ops sj X k0 (⟨some d, op, ty, pos, aft, none⟩ :: l) r σ Q := by
  refine ⟨fun _ => ⟨v, s1, 0, fun fuel _ => hs _, ⟨.inr ⟨hbar, fun y hy hl => .inl (hx y hy hl)⟩, fun h => by rw [hm] at h; cases h⟩, _, ?_, h⟩, fun h => (nomatch h)⟩
  simp only [aPut, bite_eq]; rw [if_pos (by rw [Nat.blt_eq]; exact hd)]
end

/-- States as cells. -/
def cI (l : List Nat) : List Value := l.map fun n : Nat => .int .i64 (n : Int)
theorem cI_append (l m : List Nat) : cI (l ++ m) = cI l ++ cI m := List.map_append
theorem cI_length (l : List Nat) : (cI l).length = l.length := List.length_map _
theorem cI_at {l : List Nat} {i n : Nat} (h : l[i]? = some n) : ((cI l).drop (i * 1)).take 1 = [.int .i64 (n : Int)] := by
  obtain ⟨h1, h2⟩ := List.getElem?_eq_some_iff.1 h
  have h3 : i < (cI l).length := by rw [cI_length]; exact h1
  rw [Nat.mul_one, List.drop_eq_getElem_cons h3]
  simp [cI, h2]

theorem Stk.svA {lo E z k : Nat} {σ : AS} {v : Value} {cs : List Value} (h : Stk lo E z σ v k cs) : (vsc σ.next 9 v && veq 9 v v) = true ∧ (vsc σ.next 9 (.agg #[v]) && veq 9 (.agg #[v]) (.agg #[v])) = true := by
  obtain ⟨_, _, ⟨rfl, _⟩ | ⟨b, n, vals, rfl, h4, h5, h6, h7, h8, h9⟩⟩ := h
  · exact ⟨sv_nil, by simp [vsc, veq, veqL]⟩
  · exact ⟨sv_slice h6, by simp [vsc, veq, veqL, h6]⟩
theorem sliceI1 {σ : AS} {x : Int} : aBuildSlice Tryz.prog σ 40 1 [(0, .int .i64 x)] = some (.slice (some ⟨σ.next, 0, none⟩) 1 1, σ.new ⟨1, 3, 0, [.int .i64 x], []⟩) := by kernel_rfl
/-! ### Small calls -/

end Go.Proofs.YtacpdefmnijhnaaGreat.U
