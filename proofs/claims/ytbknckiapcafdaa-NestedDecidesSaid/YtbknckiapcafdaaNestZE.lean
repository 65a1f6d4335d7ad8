/- The program's inner search (function 48). -/
import Derived.Test.YtbknckiapcafdaaNestZD
set_option linter.unusedSimpArgs false
set_option linter.unusedVariables false
namespace Go.Proofs.Ytbknckiapcafdaa.Nest
open Abs Abs2

/-- The arc that an edge tells. -/
def arcAt (L : Lts) (e : Arc) : Arc := (L.getD e.1.toNat []).getD e.2.toNat (0, 0)

theorem arcAt_of {L : Lts} {s i : Nat} {row : List Arc} {a : Arc} (h : L[s]? = some row) (ha : row[i]? = some a) : arcAt L ((s : Int), (i : Int)) = a := by
  unfold arcAt
  simp [List.getD, h, ha]

theorem innerGo_rest {rec : SS → Nat → SS} : ∀ {l : List Arc} {y : SS}, (∀ a ∈ l, a.1 ≠ 0) → innerGo rec l y = y
  | [], _, _ => rfl
  | a :: l, y, h => by
    unfold innerGo
    split
    · rfl
    · rw [if_pos (h a (by simp))]
      exact innerGo_rest fun b hb => h b (by simp [hb])

/-- In a row that rises, behind an arc with an event there is none without. -/
theorem asc_rest : ∀ {l : List Arc} {i : Nat} {a : Arc}, asc l = true → (∀ b ∈ l, 0 ≤ b.1) → l[i]? = some a → a.1 ≠ 0 → ∀ b ∈ l.drop i, b.1 ≠ 0
  | [], i, a, _, _, h, _ => by simp at h
  | [x], 0, a, _, _, h, h1 => by
    simp at h; subst h
    intro b hb; simp at hb; rw [hb]; exact h1
  | [x], i + 1, a, _, _, h, _ => by simp at h
  | x :: y :: l, 0, a, h0, hp, h, h1 => by
    simp at h; subst h
    unfold asc at h0
    rw [Bool.and_eq_true] at h0
    have hy : y.1 ≠ 0 := by
      have h2 := h0.1
      unfold lessA at h2
      simp only [Bool.or_eq_true, Bool.and_eq_true, decide_eq_true_eq] at h2
      have := hp x (by simp)
      omega
    intro b hb
    rcases List.mem_cons.1 hb with rfl | hb
    · exact h1
    · exact asc_rest (l := y :: l) (i := 0) h0.2 (fun c hc => hp c (by simp [hc])) rfl hy b (by simpa using hb)
  | x :: y :: l, i + 1, a, h0, hp, h, h1 => by
    unfold asc at h0
    rw [Bool.and_eq_true] at h0
    exact asc_rest (l := y :: l) (i := i) h0.2 (fun c hc => hp c (by simp [hc])) (by simpa using h) h1

theorem mem_findOn : ∀ {l : List Int} {t : Int}, findOn l t = none ↔ t ∉ l
  | [], t => by simp [findOn]
  | x :: l, t => by
    have ih := mem_findOn (l := l) (t := t)
    unfold findOn
    by_cases h : x = t
    · rw [if_pos h]; simp [h]
    · rw [if_neg h]
      have : (findOn l t).map (· + 1) = none ↔ findOn l t = none := by cases findOn l t <;> simp
      rw [this, ih]
      simp
      intro _ h2; exact h h2.symm
theorem findOn_lt : ∀ {l : List Int} {t : Int} {k : Nat}, findOn l t = some k → k < l.length
  | [], _, _, h => by cases h
  | x :: l, t, k, h => by
    unfold findOn at h
    split at h
    · cases h; simp
    · cases hq : findOn l t with
      | none => rw [hq] at h; cases h
      | some q =>
        rw [hq] at h
        cases h
        have := findOn_lt hq
        simp; omega

theorem innerGo_mono {rec : SS → Nat → SS} (hrec : ∀ z t k, z.inner.getD k false = true → (rec z t).inner.getD k false = true) : ∀ (row : List Arc) (x : SS) (k : Nat), x.inner.getD k false = true → (innerGo rec row x).inner.getD k false = true
  | [], x, k, h => h
  | a :: l, x, k, h => by
    have ih := innerGo_mono hrec l
    unfold innerGo
    split
    · exact h
    · split
      · exact ih x k h
      · split
        · exact h
        · split
          · exact ih x k h
          · have hz := hrec { x with path := x.path ++ [a], on := x.on ++ [a.2] } a.2.toNat k h
            generalize rec { x with path := x.path ++ [a], on := x.on ++ [a.2] } a.2.toNat = y at hz
            split
            · exact ih _ k hz
            · exact ih _ k hz
theorem set_mono {l : List Bool} {s k : Nat} (h : l.getD k false = true) : (l.set s true).getD k false = true := by
  rw [List.getD_eq_getElem?_getD] at h ⊢
  by_cases e : s = k
  · subst e
    cases hq : l[s]? with
    | none => rw [hq] at h; cases h
    | some q =>
      have := (List.getElem?_eq_some_iff.1 hq).1
      rw [List.getElem?_set_self this]; rfl
  · rw [List.getElem?_set_ne e]; exact h
theorem innerF_mono (L : Lts) : ∀ (f : Nat) (x : SS) (s k : Nat), x.inner.getD k false = true → (innerF L f x s).inner.getD k false = true
  | 0, x, s, k, h => h
  | f + 1, x, s, k, h => innerGo_mono (innerF_mono L f) _ _ k (set_mono h)

theorem build53 {x y : Int} : aBuild Try.prog 53 [(0, .int .i64 x), (1, .int .i64 y)] = some (vArc (x, y)) := by kernel_rfl
theorem slice51a {σ : AS} {x : Arc} : aBuildSlice Try.prog σ 51 1 [(0, vArc x)] = some (.slice (some ⟨σ.next, 0, none⟩) 1 1, σ.new ⟨1, 53, 0, [.int .i64 x.1, .int .i64 x.2], []⟩) := by kernel_rfl
theorem slice110 {σ : AS} {x y : Value} {a b : Option Addr} {n m c e : Nat} (hx : x = .slice a n c) (hy : y = .slice b m e) : aBuildSlice Try.prog σ 110 2 [(0, x), (1, y)] = some (.slice (some ⟨σ.next, 0, none⟩) 2 2, σ.new ⟨1, 51, 0, [x, y], []⟩) := by subst hx; subst hy; kernel_rfl

theorem ArcAt.putP {σ : AS} {xb b : Nat} {a : Arc} (hA : ArcAt σ b a) (hk : (σ.get xb).kind = 1) (hx : (σ.get xb).elem = 58) (B : Blk) : ArcAt (σ.put xb B) b a := by
  refine ⟨hA.lt, ?_⟩
  rw [AS.get_put, if_neg]
  · exact hA.get
  · rintro rfl
    rw [hA.get] at hx
    have h9 : (27 : Nat) = 58 := hx
    omega

theorem Stk.tailE {lo j : Nat} {σ : AS} {v : Value} {l : List Arc} (h : Stk lo 53 2 σ v l.length (cellsOf l)) (hj : j < l.length) : ∃ b c, aSlice Try.prog σ 51 v (some (.int .i64 (j : Int))) none none = some (.slice (some ⟨b, j * 2, none⟩) (l.length - j) c) ∧ b < σ.next ∧
    ∀ σ' : AS, σ'.get b = σ.get b → Src σ' (.slice (some ⟨b, j * 2, none⟩) (l.length - j) c) (l.drop j) := by
  obtain ⟨c1, c2, ⟨rfl, h0⟩ | ⟨b, n, vals, rfl, h4, h5, h6, h7, h8, h9⟩⟩ := h
  · omega
  · have hkz : l.length * 2 ≤ vals.length := Nat.le_trans (Nat.mul_le_mul_right 2 h4) h8
    have e1 : j * 2 + (l.length - j) * 2 = l.length * 2 := by omega
    have hc : ∀ σ' : AS, σ'.get b = σ.get b → aCells σ' ⟨b, j * 2, none⟩ ((l.length - j) * 2) = some ((cellsOf l).drop (j * 2)) := fun σ' hg => by
      unfold aCells
      simp only [hg, h7, hasLen_eq]
      rw [e1, ble_t hkz, ← h9, List.drop_take]
      rw [show l.length * 2 - j * 2 = (l.length - j) * 2 by omega]
      rfl
    have src : ∀ c (σ' : AS), σ'.get b = σ.get b → Src σ' (.slice (some ⟨b, j * 2, none⟩) (l.length - j) c) (l.drop j) := fun c σ' hg inf hi => by
      unfold aSource
      simp only [Bool.false_eq_true, if_false, hi, aCellsS_none, hc σ' hg]
      rw [List.length_drop, cellsOf_drop]
    by_cases h0 : j = 0
    · subst h0
      refine ⟨b, OPENCAP + n, open_slice el53 h7 ?_, h6, src _⟩
      unfold aSliceAt
      simp only [aboundO, open_lb, abound_le 0 _ (Nat.zero_le _), open_cap, if_true, Nat.beq_refl]
      rfl
    · have d0 : Nat.beq j 0 = false := beq_f h0
      refine ⟨b, OPENCAP + (n - j), open_slice el53 h7 ?_, h6, src _⟩
      unfold aSliceAt
      simp only [aboundO, open_lb, abound_le j l.length (by omega), open_cap, if_true, d0, Bool.false_eq_true, if_false]
      rw [if_pos (by rw [Nat.blt_eq]; omega)]
      have hz : ¬ (j * 2 = 0) := by omega
      simp only [Option.map_some, Addr.add, Nat.zero_add]
      rw [if_neg hz]

theorem Stk.lower {lo lo' k : Nat} {σ : AS} {v : Value} {cs : List Value} (h : Stk lo 53 2 σ v k cs) (hl : lo' ≤ lo) : Stk lo' 53 2 σ v k cs := by
  obtain ⟨c1, c2, h3 | ⟨b, n, vals, e, h4, h5, h6⟩⟩ := h
  · exact ⟨c1, c2, .inl h3⟩
  · exact ⟨c1, c2, .inr ⟨b, n, vals, e, h4, by omega, h6⟩⟩

theorem PRepC.setStem {σ0 σ : AS} {xb N : Nat} {x : PD} {d : FP} (h : PRepC σ0 σ xb N x d) {v' : Value} {p : List Arc} (hs : Stk σ0.next 53 2 σ v' p.length (cellsOf p)) : PRepC σ0 σ xb N { x with stem := p } { d with sv := v' } :=
  ⟨h.ext, h.lo, h.lt, h.el, h.kd, h.ol, h.il, h.outer, h.inner, h.place, h.oi, h.op, h.ip, h.path, h.inside, h.ps, hs, h.loop⟩
theorem PRepC.setLoop {σ0 σ : AS} {xb N : Nat} {x : PD} {d : FP} (h : PRepC σ0 σ xb N x d) {v' : Value} {p : List Arc} (hs : Stk σ0.next 53 2 σ v' p.length (cellsOf p)) : PRepC σ0 σ xb N { x with loop := p } { d with lv := v' } :=
  ⟨h.ext, h.lo, h.lt, h.el, h.kd, h.ol, h.il, h.outer, h.inner, h.place, h.oi, h.op, h.ip, h.path, h.inside, h.ps, h.stem, hs⟩

section
variable {P : Program} {K : Tbl} {G n : Nat} {ops : Array Oper} {r : Regs} {σ s1 : AS} {l : List Oper} {Q : Regs → AS → Prop}
/-- A call under a guard that changes blocks. -/
theorem Lg_barG {k0 : Nat} {d : Nat} {args : Array Operand} {ts : Array TypeId} {ty : TypeId} {pos : String} {aft : Array Edge} {fid : FuncId} {vs : List Value} {gd : Option (Nat × Bool)}
    (hw : aWanted ops r ⟨some d, .call ⟨.value (.func fid), args, ts⟩, ty, pos, aft, gd⟩ = true) (hv : aevs G r args.toList = some vs) (hd : d < n) (hbar : barAt P ops [] k0 = true)
    (h : C P K G fid vs σ.reset fun v s1 => Lg P K G n ops [] [] (k0 + 1) l (rput r d v) (σ.merge s1) Q) :
    Lg P K G n ops [] [] k0 (⟨some d, .call ⟨.value (.func fid), args, ts⟩, ty, pos, aft, gd⟩ :: l) r σ Q := by
  refine ⟨fun _ => O_call (first := #[]) (captured := #[]) rfl hv ?_, fun h => by rw [hw] at h; cases h⟩
  have e : (#[] : Array Value).toList ++ vs ++ (#[] : Array Value).toList = vs := by simp
  rw [e]
  exact h.mono fun v s1 h2 => ⟨⟨.inr ⟨hbar, fun x hx => (nomatch hx)⟩, fun h => (nomatch h)⟩, _, by simp only [aPut, bite_eq]; rw [if_pos (by rw [Nat.blt_eq]; exact hd)], h2⟩
end

def EOk (L : Lts) (e : Arc) : Prop := ∃ row, L[e.1.toNat]? = some row ∧ 0 ≤ e.1 ∧ 0 ≤ e.2 ∧ e.2.toNat < row.length

/-- The program's search, not yet at an end: it stands as x, the states that the inner search is at are oo. -/
def PNo (L : Lts) (σ0 σ : AS) (xb : Nat) (fv : Value) (x : SS) (oo : List Int) (pp : List Arc) : Prop :=
  ∃ d ei ep, PRepV σ0 σ xb L.length fv ⟨x.outer, x.inner, oo, ep, ei, [], []⟩ d ∧ (d.sv = .slice none 0 0 ∧ d.lv = .slice none 0 0) ∧ ei.map (arcAt L) = pp ∧ ep.map (arcAt L) = x.stem ∧ (∀ e ∈ ep ++ ei, EOk L e)
/-- It has found. -/
def PYes (L : Lts) (σ0 σ : AS) (xb : Nat) (fv : Value) (x : SS) : Prop :=
  ∃ d y c, PMid σ0 σ xb L.length fv c y d d ∧ y.stem.map (arcAt L) = x.stem ∧ y.loop.map (arcAt L) = x.loop ∧ (∀ e ∈ y.stem ++ y.loop, EOk L e)

set_option maxHeartbeats 32000000 in
theorem in_c {σ0 : AS} {xb b1 cap : Nat} {base : Option Addr} {L : Lts} (hr : RS 1 RRow σ0 (.slice base L.length cap) L) (hB1 : BoxAt σ0 b1 (.slice base L.length cap)) (hw : WF L) (hN : L.length ≤ 400) (hasc : ∀ row ∈ L, asc row = true) (hev : ∀ row ∈ L, ∀ a ∈ row, 0 ≤ a.1) :
    ∀ (f : Nat) {σ : AS} {x : SS} {s : Nat} {oo : List Int}, PNo L σ0 σ xb (.func (.func 25) #[] #[.pointer (some ⟨b1, 0, none⟩)]) x oo x.path → x.on = oo ++ [(s : Int)] → s < L.length → x.found = false → x.loop = [] → oo.length = x.path.length → cnt x.inner ≤ f → x.inner[s]? = some false →
      (∀ t ∈ oo, 0 ≤ t ∧ x.inner.getD t.toNat false = true) → x.path.length + f ≤ 900 → x.stem.length ≤ 1000 → C Try.prog Kn 0 48 [.pointer (some ⟨xb, 0, none⟩), .int .i64 (s : Int)] σ fun v σ' =>
        v = .bool (innerF L f x s).found ∧ ((innerF L f x s).found = false → PNo L σ0 σ' xb (.func (.func 25) #[] #[.pointer (some ⟨b1, 0, none⟩)]) (innerF L f x s) oo x.path) ∧ ((innerF L f x s).found = true → PYes L σ0 σ' xb (.func (.func 25) #[] #[.pointer (some ⟨b1, 0, none⟩)]) (innerF L f x s)) := by
  intro f
  induction f with
  | zero =>
    intro σ x s oo _ _ _ _ _ _ hc hs
    have := cnt_set hs
    omega
  | succ f ih =>
    intro σ x s oo hP hon hs hfd hlp hol hc hin hoo hpf hst
    obtain ⟨row, hrow⟩ : ∃ row, L[s]? = some row := ⟨L[s], by simp [hs]⟩
    have hrm : row ∈ L := List.mem_of_getElem? hrow
    have hgd : L.getD s [] = row := by simp [List.getD, hrow]
    have hrl := hw.row row hrm
    have hto := hw.to row hrm
    obtain ⟨-, b0, off0, rv, rfl, -, hrl2, hrv⟩ := rowOf hr hrow
    obtain ⟨rb, rc, rfl, -⟩ := id hrv
    obtain ⟨d, ei, ep, R, hnil, hei, hep, heok⟩ := hP
    have hcs := cnt_set hin
    have hns : findOn oo (s : Int) = none := mem_findOn.2 fun h => by
      have h2 := (hoo _ h).2
      rw [Int.toNat_natCast, List.getD_eq_getElem?_getD, hin] at h2
      cases h2
    refine C_of (kn (by decide)) Try.func48 rfl (Nat.le_of_ble_eq_true rfl) ?_
    show W _ _ _ 129 _ _ _ _
    unfold Try.f48
    dsimp only
    repeat apply W_assoc
    apply W_reg
    · intro callf
      simp +decide only [aOps, rinit, aWanted, ↓bite_eq, ↓reduceIte, aStep_eq, aStepOld, aOp, aev, ann, aPut, Nat.zero_add]
      rfl
    have RQ := R.ext (Ext.reset σ)
    repeat apply W_assoc
    refine W_drw [] [] (by kernel_rfl) (by kernel_rfl) ?_
    apply Lg_pre 10
    · intro callf
      simp +decide only [List.take, aQ, memb, List.any_nil, Bool.true_or, Bool.and_true, reset_merge, reset_reset, reset_next, reset_low, merge_next, merge_idem, ble_self, aWanted, ↓bite_eq, ↓reduceIte, aStep_eq, aStepOld, aOp, opFieldAddr, opLoad, aev, ann, aPut, rget_rput, Nat.zero_add, Bool.not_false, opNil, fld58_3, fld58_4, RQ.ld3, RQ.ld4]
      rfl
    dsimp only [List.drop, List.take, List.length]
    have e1 : Ext σ (σ.merge σ.reset) := (Ext.refl _).merge
    generalize σ.merge σ.reset = σ1 at e1
    have R1 := R.ext e1
    refine Lg_bar (vs := [.pointer (some ⟨xb, 0, none⟩), d.im, d.om, .int .i64 (s : Int)]) (by simp +decide only [aevs, aev, rget_rput, if_true, if_false]) (by decide) rfl (by kernel_rfl) (C.mono (mark_inner (R1.ext (Ext.reset σ1)) hs (by omega) hin) ?_)
    rintro v s1 M1
    refine ⟨fun y hy => (nomatch hy), ?_⟩
    have R2 := M1.merge R1.c.ext
    generalize σ1.merge s1 = σ2 at R2
    clear M1 R1 RQ
    apply Lg_all
    · intro callf
      rfl
    show W _ _ _ 129 _ _ _ _
    have hcu := cU_le x.outer (x.inner.set s true)
    rw [R2.c.ol] at hcu
    repeat apply W_assoc
    apply W_regL
    apply Ls_pre 1
    · intro callf
      simp +decide only [List.take, aOps, aWanted, ↓bite_eq, ↓reduceIte, aStep_eq, aStepOld, aOp, aev, ann, aPut, rget_rput]
      rfl
    dsimp only [List.drop]
    refine Ls_fn (vs := [.pointer (some ⟨xb, 0, none⟩)]) (by simp +decide only [aevs, aev, rget_rput, if_true, if_false]) (by decide) (C.mono (full_c R2 hcu) ?_)
    rintro v σ' ⟨rfl, e3⟩
    apply Ls_all
    · intro callf
      simp +decide only [aOps]
      rfl
    have R3 := R2.ext e3
    generalize σ' = σ3 at R3
    repeat apply W_assoc
    refine W_if (b := false) ?_ ?_ ?_
    · simp +decide only [aev, rget_rput, if_true, if_false]
    · intro h; cases h
    intro _
    apply W_skipq
    have hel : ei.length = oo.length := by rw [hol, ← hei, List.length_map]
    have RQ := R3.ext (Ext.reset σ3)
    obtain ⟨na, nc, hnv⟩ := RQ.c.inside.len
    have l7 := RQ.ld7
    rw [hnv] at l7
    repeat apply W_assoc
    refine W_drw [] [] (by kernel_rfl) (by kernel_rfl) ?_
    apply Lg_pre 10
    · intro callf
      simp +decide only [List.take, aQ, memb, List.any_nil, Bool.true_or, Bool.and_true, reset_merge, reset_reset, reset_next, reset_low, merge_next, merge_idem, ble_self, aWanted, ↓bite_eq, ↓reduceIte, aStep_eq, aStepOld, aOp, opCall, opFieldAddr, opLoad, aev, aevs, ann, aPut, rget_rput, aBuiltin, aLen, List.getElem?_toArray, List.getElem?_cons_zero, Nat.zero_add, Bool.not_false, opNil, fld58_5, fld58_7, RQ.ld5, l7, Try.underlying51, goInt]
      rfl
    dsimp only [List.drop, List.take, List.length]
    have e4 : Ext σ3 (σ3.merge σ3.reset) := (Ext.refl _).merge
    generalize σ3.merge σ3.reset = σ4 at e4
    have R4 := R3.ext e4
    obtain ⟨mr, mB, hmu, R5⟩ := (R4.ext (Ext.reset σ4)).enter hns
    dsimp only at hmu R5
    rw [show ((oo.length : Nat) : Int) = ((ei.length : Nat) : Int) by rw [hel]] at hmu
    refine Lg_st (v := undef) (s1 := σ4.reset.put mr mB) (by intro callf; simp +decide only [↓reduceIte, aStep_eq, aStepOld, aOp, aev, unn, rget_rput, opUpdate, hmu]) (by kernel_rfl) ?_
    have R5 := R5.merge R4.c.ext
    generalize σ4.merge (σ4.reset.put mr mB) = σ5 at R5
    clear R4 R3 RQ R2 l7 hnv hmu
    show W _ _ _ 129 _ _ _ _
    have BB := hB1.ext R5.c.ext
    repeat apply W_assoc
    apply W_regL
    apply Ls_pre 5
    · intro callf
      simp +decide only [List.take, aOps, aWanted, ↓bite_eq, ↓reduceIte, aStep_eq, aStepOld, aOp, opFieldAddr, opLoad, aev, ann, aPut, rget_rput, opNil, fld58_0, R5.ld0]
      rfl
    dsimp only [List.drop]
    refine Ls_call (first := #[]) (captured := #[.pointer (some ⟨b1, 0, none⟩)]) (fid := 25) (vs := [.int .i64 (s : Int)]) (by simp +decide only [aev, rget_rput, if_true, if_false]) (by simp +decide only [aevs, aev, rget_rput, if_true, if_false]) (by decide) (C.mono (arcs_c BB hs fun σ' e => hrl2 _ (R5.c.ext.trans e)) ?_)
    rintro v σ' ⟨rfl, e6⟩
    apply Ls_all
    · intro callf
      simp +decide only [aOps, aWanted, ↓bite_eq, ↓reduceIte, aStep_eq, aStepOld, aOp, opCall, aev, aevs, ann, aPut, rget_rput, aBuiltin, aLen, List.getElem?_toArray, List.getElem?_cons_zero, Try.underlying22, goInt]
      rfl
    have R6 := R5.ext e6
    generalize σ' = σ6 at R6
    have hfin : ∀ (y : SS), y = innerGo (innerF L f) row { x with inner := x.inner.set s true } → innerF L (f + 1) x s = y := fun y e => by
      have e2 : innerF L (f + 1) x s = innerGo (innerF L f) (L.getD s []) { x with inner := x.inner.set s true } := rfl
      rw [e2, hgd, ← e]
    have hP1 : PNo L σ0 σ6 xb (.func (.func 25) #[] #[.pointer (some ⟨b1, 0, none⟩)]) ({ x with inner := x.inner.set s true } : SS) (oo ++ [(s : Int)]) x.path := ⟨d, ei, ep, R6, hnil, hei, hep, heok⟩
    have hmk : ∀ t ∈ oo ++ [(s : Int)], 0 ≤ t ∧ ({ x with inner := x.inner.set s true } : SS).inner.getD t.toNat false = true := fun t ht => by
      rcases List.mem_append.1 ht with ht | ht
      · exact ⟨(hoo t ht).1, set_mono (hoo t ht).2⟩
      · rw [List.mem_singleton.1 ht, Int.toNat_natCast]
        refine ⟨by omega, ?_⟩
        show (x.inner.set s true).getD s false = true
        have := (List.getElem?_eq_some_iff.1 hin).1
        simp [List.getD, this]
    have hx1f : cnt ({ x with inner := x.inner.set s true } : SS).inner ≤ f := by show cnt (x.inner.set s true) ≤ f; omega
    have hx2 : ({ x with inner := x.inner.set s true } : SS).found = false := hfd
    have hx3 : ({ x with inner := x.inner.set s true } : SS).path = x.path ∧ ({ x with inner := x.inner.set s true } : SS).on = x.on ∧ ({ x with inner := x.inner.set s true } : SS).stem = x.stem ∧ ({ x with inner := x.inner.set s true } : SS).loop = [] := ⟨rfl, rfl, rfl, hlp⟩
    generalize ({ x with inner := x.inner.set s true } : SS) = x1 at hfin hP1 hmk hx1f hx2 hx3
    clear R6 heok hei hep hel hcu
    repeat apply W_assoc
    refine W_forM (fun (p : Nat × SS) r σ' => p.1 ≤ row.length ∧ p.2.found = false ∧ (p.2.path = x.path ∧ p.2.on = x.on ∧ p.2.stem = x.stem ∧ p.2.loop = []) ∧ cnt p.2.inner ≤ f ∧ (∀ t ∈ oo ++ [(s : Int)], 0 ≤ t ∧ p.2.inner.getD t.toNat false = true) ∧ PNo L σ0 σ' xb (.func (.func 25) #[] #[.pointer (some ⟨b1, 0, none⟩)]) p.2 (oo ++ [(s : Int)]) x.path ∧
        innerGo (innerF L f) (row.drop p.1) p.2 = innerGo (innerF L f) row x1 ∧ rget r 0 = .pointer (some ⟨xb, 0, none⟩) ∧ rget r 1 = .int .i64 (s : Int) ∧ rget r 37 = .slice rb row.length rc ∧ rget r 38 = .int .i64 (row.length : Int) ∧ rget r 39 = .int .i64 (p.1 : Int))
      (fun p => row.length - p.1) (fun r σ' => ∃ y : SS, y.found = false ∧ PNo L σ0 σ' xb (.func (.func 25) #[] #[.pointer (some ⟨b1, 0, none⟩)]) y (oo ++ [(s : Int)]) x.path ∧ y = innerGo (innerF L f) row x1 ∧ rget r 0 = .pointer (some ⟨xb, 0, none⟩) ∧ rget r 1 = .int .i64 (s : Int)) ?_ ?_ (0, x1) ?_
    rotate_left 2
    · simp +decide only [rget_rput, if_true, if_false]
      refine ⟨Nat.zero_le _, hx2, hx3, hx1f, hmk, hP1, rfl, ?_, ?_, ?_, ?_, ?_⟩ <;> first | exact True.intro | rfl
    rotate_left
    · rintro r σ7 ⟨y, hyf, ⟨d7, ei7, ep7, R7, hnil7, hei7, hep7, heok7⟩, hy, h0, h1⟩
      obtain ⟨mr, mB, hmd, R8⟩ := R7.leave rfl hns
      dsimp only at hmd R8
      repeat apply W_assoc
      apply W_reg
      · intro callf
        simp +decide only [aOps, aWanted, ↓bite_eq, ↓reduceIte, aStep_eq, aStepOld, aOp, opCall, opFieldAddr, opLoad, aev, aevs, ann, aPut, rget_rput, aBuiltin, List.getElem?_toArray, List.getElem?_cons_zero, opNil, fld58_5, h0, h1, R7.ld5, hmd]
        rfl
      generalize σ7.put mr mB = σ8 at R8
      repeat apply W_assoc
      apply W_reg
      · intro callf
        simp +decide only [aOps, aWanted, ↓bite_eq, ↓reduceIte, aStep_eq, aStepOld, aOp, aev, ann, aPut]
        rfl
      refine W_ret ⟨Nat.le_refl _, [.bool false], ?_, ?_⟩
      · simp +decide only [aResults, rget_rput, if_true, if_false]
      · rw [hfin y hy]
        exact ⟨by rw [hyf]; rfl, fun _ => ⟨d7, ei7, ep7, R8, hnil7, hei7, hep7, heok7⟩, fun h => by rw [hyf] at h; cases h⟩
    rintro ⟨i, y⟩ r σ7 ⟨hi, hyf, ⟨hp2, hn2, hs2, hl2⟩, hc2, hmk2, hP7, hgo, h0, h1, h37, h38, h39⟩
    dsimp only at hi hyf hp2 hn2 hs2 hl2 hc2 hmk2 hP7 hgo h39
    by_cases hlt : i < row.length
    rotate_left
    · have d1 : decide ((i : Int) < (row.length : Int)) = false := decide_eq_false (by omega)
      repeat apply W_assoc
      apply W_reg
      · intro callf
        simp +decide only [aOps, aWanted, ↓bite_eq, ↓reduceIte, aStep_eq, aStepOld, aOp, opBin, aev, ann, aPut, h38, h39, d1, aBin, aInts, aInt_eq]
        rfl
      repeat apply W_assoc
      refine W_if (b := false) ?_ ?_ ?_
      · simp +decide only [aev, rget_rput, if_true]
      · intro h; cases h
      intro _
      refine W_exitq ⟨fun h => (nomatch h), fun _ => ⟨y, hyf, hP7, ?_, ?_, ?_⟩, fun h1 h2 => absurd rfl h2⟩
      · rw [List.drop_eq_nil_of_le (by omega)] at hgo
        exact hgo
      all_goals simp +decide only [rget_rput, if_false, h0, h1]
    have d1 : decide ((i : Int) < (row.length : Int)) = true := decide_eq_true (by omega)
    repeat apply W_assoc
    apply W_reg
    · intro callf
      simp +decide only [aOps, aWanted, ↓bite_eq, ↓reduceIte, aStep_eq, aStepOld, aOp, opBin, aev, ann, aPut, h38, h39, d1, aBin, aInts, aInt_eq]
      rfl
    repeat apply W_assoc
    refine W_if (b := true) ?_ ?_ ?_
    · simp +decide only [aev, rget_rput, if_true]
    rotate_left
    · intro h; cases h
    intro _
    apply W_skipq
    refine W_blk ?_
    obtain ⟨a, ha⟩ : ∃ a, row[i]? = some a := ⟨row[i], by simp [hlt]⟩
    obtain ⟨-, b1', off1, rfl, -, hat⟩ := arcOf hrv ha
    have hdrop : row.drop i = a :: row.drop (i + 1) := by
      rw [List.drop_eq_getElem_cons hlt, (List.getElem?_eq_some_iff.1 ha).2]
    have hat2 := hto a (List.mem_of_getElem? ha)
    obtain ⟨d7, ei, ep, R7, hnil, hei, hep, heok⟩ := hP7
    repeat apply W_assoc
    apply W_reg
    · intro callf
      simp +decide only [aOps, aWanted, ↓bite_eq, ↓reduceIte, aStep_eq, aStepOld, aOp, opIndexAddr, opLoad, opStore, aev, ann, unn, aPut, rget_rput, h37, h39, idx22 hlt, (hat _ R7.c.ext).1, alloc27, store27]
      rfl
    have AY := decl_at σ7 a
    have ed := decl_ext σ7 a
    generalize hab : σ7.next = ab at AY
    generalize decl σ7 a = σ8 at AY ed
    have R8 := R7.ext ed
    have w1 : IntKind.i64.wrap ((i : Int) + 1) = ((i + 1 : Nat) : Int) := by rw [wrap64_id _ (by omega) (by omega)]; omega
    by_cases hev0 : a.1 = 0
    rotate_left
    · have d3 : (a.1 != 0) = true := by rw [bne_iff_ne]; exact hev0
      repeat apply W_assoc
      apply W_reg
      · intro callf
        simp +decide only [aOps, aWanted, ↓bite_eq, ↓reduceIte, aStep_eq, aStepOld, aOp, opBin, opFieldAddr, opLoad, aev, ann, aPut, rget_rput, fld0, AY.ev, d3, aBin, aInts, aInt_eq]
        rfl
      repeat apply W_assoc
      refine W_if (b := true) ?_ ?_ ?_
      · simp +decide only [aev, rget_rput, if_true, if_false]
      rotate_left
      · intro h; cases h
      intro _
      refine W_exitq ⟨fun h => absurd h (by decide), fun _ _ => ⟨fun h => (nomatch h), fun _ => ⟨y, hyf, ⟨d7, ei, ep, R8, hnil, hei, hep, heok⟩, ?_, ?_, ?_⟩, fun h1 h2 => absurd rfl h2⟩⟩
      · rw [innerGo_rest (asc_rest (hasc row hrm) (hev row hrm) ha hev0)] at hgo
        exact hgo
      all_goals simp +decide only [rget_rput, if_false, h0, h1]
    have d3 : (a.1 != 0) = false := by rw [bne_eq_false_iff_eq]; exact hev0
    repeat apply W_assoc
    apply W_reg
    · intro callf
      simp +decide only [aOps, aWanted, ↓bite_eq, ↓reduceIte, aStep_eq, aStepOld, aOp, opBin, opFieldAddr, opLoad, aev, ann, aPut, rget_rput, fld0, AY.ev, d3, aBin, aInts, aInt_eq]
      rfl
    repeat apply W_assoc
    refine W_if (b := false) ?_ ?_ ?_
    · simp +decide only [aev, rget_rput, if_true, if_false]
    · intro h; cases h
    intro _
    apply W_skipq
    rw [hdrop] at hgo
    have heis : ei.length = y.path.length := by rw [hp2, ← hei, List.length_map]
    have hB : (σ8.new ⟨1, 53, 0, [.int .i64 (s : Int), .int .i64 (i : Int)], []⟩).get σ8.next = ⟨1, 53, 0, [.int .i64 (s : Int), .int .i64 (i : Int)], []⟩ := by rw [AS.get_new, if_pos rfl]
    have e9 := Ext.new σ8 ⟨1, 53, 0, [.int .i64 (s : Int), .int .i64 (i : Int)], []⟩
    obtain ⟨v3, s9, ha9, M9, hv9, hA9⟩ := (R8.ext e9).pushI (y := .slice (some ⟨σ8.next, 0, none⟩) 1 1) (Src.of (m := [((s : Int), (i : Int))]) (.inr (.inr ⟨σ8.next, 0, 1, rfl, cells_at hB rfl (Nat.le_refl _)⟩))) ⟨rfl, rfl⟩ hnil (by show ei.length + 1 ≤ _; rw [heis, hp2]; omega)
    have A9 := hA9 _ _ (AY.ext e9)
    have hst9 := M9.st7 hv9
    repeat apply W_assoc
    apply W_reg
    · intro callf
      simp +decide only [aOps, aWanted, ↓bite_eq, ↓reduceIte, aStep_eq, aStepOld, aOp, opCall, opFieldAddr, opLoad, opStore, opBuildSlice, opBuild, aev, aevs, aparts, ann, unn, aPut, rget_rput, aBuiltin, opNil, fld58_7, h0, h1, R8.ld7, build53, slice51a, ha9, hst9]
      rfl
    have R9 := M9.put
    have A10 := A9.putP M9.c.kd M9.c.el (pblk (.func (.func 25) #[] #[.pointer (some ⟨b1, 0, none⟩)]) L.length (cU y.outer y.inner) { d7 with nv := v3 })
    generalize s9.put xb (pblk (.func (.func 25) #[] #[.pointer (some ⟨b1, 0, none⟩)]) L.length (cU y.outer y.inner) { d7 with nv := v3 }) = σ10 at R9 A10
    clear M9 A9 hA9 ha9 hst9 hB e9
    dsimp only at R9
    have hpl : findOn (oo ++ [(s : Int)]) a.2 = findOn y.on a.2 := by rw [hn2, hon]
    have RQ := R9.ext (Ext.reset σ10)
    have lk := look56 RQ.c.place a.2
    dsimp only at lk
    cases hfn : findOn (oo ++ [(s : Int)]) a.2 with
    | some k =>
      rw [hfn] at lk
      dsimp only at lk
      repeat apply W_assoc
      refine W_drw [] [] (by kernel_rfl) (by kernel_rfl) ?_
      apply Lg_all
      · intro callf
        simp +decide only [aQ, memb, List.any_nil, Bool.true_or, Bool.and_true, reset_merge, reset_reset, reset_next, reset_low, merge_next, merge_idem, ble_self, aWanted, ↓bite_eq, ↓reduceIte, aStep_eq, aStepOld, aOp, opFieldAddr, opLoad, opExtract, aev, ann, aPut, rget_rput, List.getElem?_toArray, List.getElem?_cons_zero, List.getElem?_cons_succ, Nat.zero_add, Bool.not_false, opNil, fld58_5, h0, opLookup, RQ.ld5, lk, fld1, (A10.ext (Ext.reset σ10)).to]
        rfl
      have e11 : Ext σ10 (σ10.merge σ10.reset) := (Ext.refl _).merge
      generalize σ10.merge σ10.reset = σ11 at e11
      have R11 := R9.ext e11
      repeat apply W_assoc
      apply W_reg
      · intro callf
        simp +decide only [aOps, aWanted, ↓bite_eq, ↓reduceIte, aStep_eq, aStepOld, aOp, aev, ann, aPut, rget_rput]
        rfl
      repeat apply W_assoc
      refine W_if (b := true) ?_ ?_ ?_
      · simp +decide only [aev, rget_rput, if_true, if_false]
      rotate_left
      · intro h; cases h
      intro _
      have hkn := findOn_lt hfn
      have hkl : k < (ei ++ [((s : Int), (i : Int))]).length := by
        simp only [List.length_append, List.length_cons, List.length_nil] at hkn ⊢
        rw [heis, hp2, ← hol]; omega
      have hlen : ep.length + k ≤ 2000 := by
        have h1 : ep.length = x.stem.length := by rw [← hs2, ← hep, List.length_map]
        simp only [List.length_append, List.length_cons, List.length_nil] at hkl
        rw [heis, hp2] at hkl
        omega
      have hlen2 : (ei ++ [((s : Int), (i : Int))]).length ≤ 2000 := by
        simp only [List.length_append, List.length_cons, List.length_nil]
        rw [heis, hp2]; omega
      have heok2 : ∀ e ∈ ep ++ (ei ++ [((s : Int), (i : Int))]), EOk L e := fun e he => by
        rw [← List.append_assoc] at he
        rcases List.mem_append.1 he with h | h
        · exact heok e h
        · rw [List.mem_singleton.1 h]
          exact ⟨row, by rw [Int.toNat_natCast]; exact hrow, by show (0 : Int) ≤ (s : Int); omega, by show (0 : Int) ≤ (i : Int); omega, by rw [Int.toNat_natCast]; exact hlt⟩
      have hmap : (ei ++ [((s : Int), (i : Int))]).map (arcAt L) = y.path ++ [a] := by
        rw [List.map_append, hei, hp2, List.map_cons, List.map_nil, arcAt_of hrow ha]
      generalize ei ++ [((s : Int), (i : Int))] = eI at R11 hkl hlen2 heok2 hmap
      obtain ⟨nb, nc, hnv, hnb, -⟩ := StkC.at (.inr R11.c.inside) (i := 0) (by show 0 < eI.length; omega)
      dsimp only at hnv
      subst hnv
      obtain ⟨pa, pc, hpv⟩ := R11.c.path.len
      dsimp only at hpv
      have RQ := R11.ext (Ext.reset σ11)
      obtain ⟨cx, hcx, hcS, -, -⟩ := RQ.c.inside.cut el53 (j := k) (by show k ≤ eI.length; omega)
      obtain ⟨ca, cc, rfl⟩ := hcS.len
      have hcS : Stk σ0.next 53 2 σ11.reset (.slice ca k cc) (eI.take k).length (cellsOf (eI.take k)) := by
        rw [cellsOf_take] at hcS
        rw [List.length_take, Nat.min_eq_left (Nat.le_of_lt hkl)]
        exact hcS
      have l6 := RQ.ld6
      have l7 := RQ.ld7
      dsimp only at l6 l7 hcx
      rw [hpv] at l6
      repeat apply W_assoc
      refine W_drw [17] [xb] (by kernel_rfl) (by kernel_rfl) ?_
      apply Lg_pre 12
      · intro callf
        simp +decide only [List.take, aQ, memb, List.any_nil, List.any_cons, Bool.or_false, Bool.true_and, reset_merge, reset_reset, reset_next, reset_low, merge_next, merge_idem, ble_self, aWanted, ↓bite_eq, ↓reduceIte, aStep_eq, aStepOld, aOp, opFieldAddr, opLoad, opSlice, aev, ann, aPut, rget_rput, Nat.zero_add, opNil, fld58_6, fld58_7, h0, l6, l7, hcx, aopt]
        rfl
      dsimp only [List.drop, List.take, List.length]
      have hcS : Stk σ0.next 53 2 (σ11.merge σ11.reset) (.slice ca k cc) (eI.take k).length (cellsOf (eI.take k)) := hcS
      have e12 : Ext σ11 (σ11.merge σ11.reset) := (Ext.refl _).merge
      generalize σ11.merge σ11.reset = σ12 at e12 hcS
      apply Lg_pre 1
      · intro callf
        simp +decide only [List.take, aQ, memb, List.any_nil, List.any_cons, Bool.or_false, Bool.true_and, reset_next, reset_low, new_low, ble_self, aWanted, ↓bite_eq, ↓reduceIte, aStep_eq, aStepOld, aOp, opBuildSlice, aev, aparts, aPut, rget_rput, Nat.zero_add, slice110 (x := .slice pa ep.length pc) (y := .slice ca k cc) rfl rfl]
        rfl
      dsimp only [List.drop, List.take, List.length]
      have e13 : Ext σ12 (σ12.merge (σ12.reset.new ⟨1, 51, 0, [.slice pa ep.length pc, .slice ca k cc], []⟩)) := Ext.merge (Ext.new _ _)
      have hB : (σ12.merge (σ12.reset.new ⟨1, 51, 0, [.slice pa ep.length pc, .slice ca k cc], []⟩)).get σ12.next = ⟨1, 51, 0, [.slice pa ep.length pc, .slice ca k cc], []⟩ := by
        rw [get_merge]
        exact (AS.get_new σ12.reset _ σ12.reset.next).trans (if_pos rfl)
      have hBn : σ12.next < (σ12.merge (σ12.reset.new ⟨1, 51, 0, [.slice pa ep.length pc, .slice ca k cc], []⟩)).next := Nat.lt_succ_self _
      generalize hn5 : σ12.next = n5 at hB hBn
      generalize σ12.merge (σ12.reset.new ⟨1, 51, 0, [.slice pa ep.length pc, .slice ca k cc], []⟩) = σ13 at e13 hB hBn
      have R13 := R11.ext (e12.trans e13)
      have hq := (hcS.keep e13.nxt fun j _ hj => e13.get j hj)
      have hp := R13.c.path
      dsimp only at hp
      rw [hpv] at hp
      refine Lg_fn (vs := [.slice (some ⟨n5, 0, none⟩) 2 2]) (by simp +decide only [aevs, aev, rget_rput, if_true, if_false]) (by decide) rfl (C.mono (concat_c (σ := σ13.reset) (lo := σ0.next) (p := ep) (q := eI.take k) hB hBn hp hq (by rw [List.length_take]; omega)) ?_)
      rintro v13 s1 ⟨hS, eC⟩
      refine ⟨eC.quiet, ?_⟩
      have hS : Stk σ13.next 53 2 (σ13.merge s1) v13 (ep ++ eI.take k).length (cellsOf (ep ++ eI.take k)) := hS
      have e14 := eC.merge
      generalize σ13.merge s1 = σ14 at e14 hS
      have hS := hS.lower (lo' := σ0.next) R13.c.ext.nxt
      have R14 := R13.ext e14
      clear hq hp hB hcS eC
      apply Lg_pre 3
      · intro callf
        simp +decide only [List.take, aQ, memb, List.any_nil, List.any_cons, Bool.or_false, Bool.true_and, reset_merge, reset_reset, reset_next, reset_low, merge_next, merge_idem, ble_self, aWanted, ↓bite_eq, ↓reduceIte, aStep_eq, aStepOld, aOp, opFieldAddr, aev, ann, aPut, rget_rput, Nat.zero_add, opNil, fld58_7, h0]
        rfl
      dsimp only [List.drop, List.take, List.length]
      have hS : Stk σ0.next 53 2 (σ14.merge σ14.reset) v13 (ep ++ eI.take k).length (cellsOf (ep ++ eI.take k)) := hS
      have e15 : Ext σ14 (σ14.merge σ14.reset) := (Ext.refl _).merge
      generalize σ14.merge σ14.reset = σ15 at e15 hS
      have R15 := R14.ext e15
      refine Lg_load (b := xb) (off := 7) (v := .slice (some ⟨nb, 0, none⟩) eI.length nc) (by simp +decide only [aev, rget_rput, if_true, if_false]) (R15.ext (Ext.reset σ15)).ld7 (sv_slice (by have := ((e12.trans e13).trans (e14.trans e15)).nxt; omega)) R15.c.lt (by simp [memb]) (by decide) ?_
      have hS : Stk σ0.next 53 2 (σ15.merge σ15.reset) v13 (ep ++ eI.take k).length (cellsOf (ep ++ eI.take k)) := hS
      have e16 : Ext σ15 (σ15.merge σ15.reset) := (Ext.refl _).merge
      generalize σ15.merge σ15.reset = σ16 at e16 hS
      have R16 := R15.ext e16
      obtain ⟨tb, tc, htl, htb, htS⟩ := (R16.ext (Ext.reset σ16)).c.inside.tailE (j := k) hkl
      dsimp only at htl
      apply Lg_pre 2
      · intro callf
        simp +decide only [List.take, aQ, memb, List.any_nil, List.any_cons, Bool.or_false, Bool.true_and, reset_merge, reset_reset, reset_next, reset_low, merge_next, merge_idem, ble_self, aWanted, ↓bite_eq, ↓reduceIte, aStep_eq, aStepOld, aOp, opSlice, aev, ann, aPut, rget_rput, Nat.zero_add, htl, aopt]
        rfl
      dsimp only [List.drop, List.take, List.length]
      have hS : Stk σ0.next 53 2 (σ16.merge σ16.reset) v13 (ep ++ eI.take k).length (cellsOf (ep ++ eI.take k)) := hS
      have htS : ∀ σ', Ext (σ16.merge σ16.reset).reset σ' → Src σ' (.slice (some ⟨tb, k * 2, none⟩) (eI.length - k) tc) (eI.drop k) := fun σ' e => htS σ' (e.get tb htb)
      have e17 : Ext σ16 (σ16.merge σ16.reset) := (Ext.refl _).merge
      generalize σ16.merge σ16.reset = σ17 at e17 hS htS
      have R17 := R16.ext e17
      refine Lg_fn (vs := [.slice (some ⟨tb, k * 2, none⟩) (eI.length - k) tc]) (by simp +decide only [aevs, aev, rget_rput, if_true, if_false]) (by decide) rfl (C.mono (clone_c (σ := σ17.reset) (l := eI.drop k) htS (by intro h; have := congrArg List.length h; rw [List.length_drop] at this; simp at this; omega) (by rw [List.length_drop]; omega)) ?_)
      rintro v17 s1 ⟨hL, eC⟩
      refine ⟨eC.quiet, ?_⟩
      have hL : Stk σ17.next 53 2 (σ17.merge s1) v17 (eI.drop k).length (cellsOf (eI.drop k)) := hL
      have e18 := eC.merge
      generalize σ17.merge s1 = σ18 at e18 hL
      have hL := hL.lower (lo' := σ0.next) R17.c.ext.nxt
      have hS := hS.keep e18.nxt fun j _ hj => e18.get j hj
      have R18 := R17.ext e18
      clear eC htS
      apply Lg_pre 2
      · intro callf
        simp +decide only [List.take, aQ, memb, List.any_nil, List.any_cons, Bool.or_false, Bool.true_and, reset_merge, reset_reset, reset_next, reset_low, merge_next, merge_idem, ble_self, aWanted, ↓bite_eq, ↓reduceIte, aStep_eq, aStepOld, aOp, opFieldAddr, aev, ann, aPut, rget_rput, Nat.zero_add, opNil, fld58_8]
        rfl
      dsimp only [List.drop, List.take, List.length]
      have hS : Stk σ0.next 53 2 (σ18.merge σ18.reset) v13 (ep ++ eI.take k).length (cellsOf (ep ++ eI.take k)) := hS
      have hL : Stk σ0.next 53 2 (σ18.merge σ18.reset) v17 (eI.drop k).length (cellsOf (eI.drop k)) := hL
      have e19 : Ext σ18 (σ18.merge σ18.reset) := (Ext.refl _).merge
      generalize σ18.merge σ18.reset = σ19 at e19 hS hL
      have R19 := R18.ext e19
      have M19 : PMid σ0 σ19 xb L.length (.func (.func 25) #[] #[.pointer (some ⟨b1, 0, none⟩)]) (cU y.outer y.inner) ⟨y.outer, y.inner, oo ++ [(s : Int)], ep, eI, ep ++ eI.take k, []⟩ { d7 with nv := .slice (some ⟨nb, 0, none⟩) eI.length nc } { d7 with nv := .slice (some ⟨nb, 0, none⟩) eI.length nc, sv := v13 } := ⟨R19.c.setStem hS, R19.get⟩
      obtain ⟨w1a, w1c, hv13⟩ := hS.len
      have k2 : (σ19.get xb).kind ≠ 2 := by rw [R19.get]; show (1 : Nat) ≠ 2; decide
      have hL20 : Stk σ0.next 53 2 (σ19.merge (σ19.reset.put xb (pblk (.func (.func 25) #[] #[.pointer (some ⟨b1, 0, none⟩)]) L.length (cU y.outer y.inner) { d7 with nv := .slice (some ⟨nb, 0, none⟩) eI.length nc, sv := v13 }))) v17 (eI.drop k).length (cellsOf (eI.drop k)) := hL.keep (Nat.le_refl _) (fun j ho hj => by
        rw [get_merge, AS.get_put, if_neg (fun e => hL.ne ho k2 e.symm)]; rfl)
      refine Lg_store (b := xb) (off := 8) (v := v13) (by simp +decide only [aev, rget_rput, if_true, if_false]) (by simp +decide only [aev, rget_rput, if_true, if_false]) ((M19.ext (Ext.reset σ19)).st8 ⟨_, _, _, hv13⟩) (fun j hj => by rw [AS.get_put, if_neg (fun e => hj e.symm)]; rfl) rfl (by kernel_rfl) (by kernel_rfl) ?_
      have R20 := (M19.ext (Ext.reset σ19)).put.merge M19.c.ext
      generalize σ19.merge (σ19.reset.put xb (pblk (.func (.func 25) #[] #[.pointer (some ⟨b1, 0, none⟩)]) L.length (cU y.outer y.inner) { d7 with nv := .slice (some ⟨nb, 0, none⟩) eI.length nc, sv := v13 })) = σ20 at R20 hL20
      clear hL hS M19
      apply Lg_pre 2
      · intro callf
        simp +decide only [List.take, aQ, memb, List.any_nil, List.any_cons, Bool.or_false, Bool.true_and, reset_merge, reset_reset, reset_next, reset_low, merge_next, merge_idem, ble_self, aWanted, ↓bite_eq, ↓reduceIte, aStep_eq, aStepOld, aOp, opFieldAddr, aev, ann, aPut, rget_rput, Nat.zero_add, opNil, fld58_9]
        rfl
      dsimp only [List.drop, List.take, List.length]
      have hL20 : Stk σ0.next 53 2 (σ20.merge σ20.reset) v17 (eI.drop k).length (cellsOf (eI.drop k)) := hL20
      have e21 : Ext σ20 (σ20.merge σ20.reset) := (Ext.refl _).merge
      generalize σ20.merge σ20.reset = σ21 at e21 hL20
      have R21 := R20.ext e21
      have M21 : PMid σ0 σ21 xb L.length (.func (.func 25) #[] #[.pointer (some ⟨b1, 0, none⟩)]) (cU y.outer y.inner) ⟨y.outer, y.inner, oo ++ [(s : Int)], ep, eI, ep ++ eI.take k, eI.drop k⟩ { d7 with nv := .slice (some ⟨nb, 0, none⟩) eI.length nc, sv := v13 } { d7 with nv := .slice (some ⟨nb, 0, none⟩) eI.length nc, sv := v13, lv := v17 } := ⟨R21.c.setLoop hL20, R21.get⟩
      obtain ⟨w2a, w2c, hv17⟩ := hL20.len
      refine Lg_store (b := xb) (off := 9) (v := v17) (by simp +decide only [aev, rget_rput, if_true, if_false]) (by simp +decide only [aev, rget_rput, if_true, if_false]) ((M21.ext (Ext.reset σ21)).st9 ⟨_, _, _, hv17⟩) (fun j hj => by rw [AS.get_put, if_neg (fun e => hj e.symm)]; rfl) rfl (by kernel_rfl) (by kernel_rfl) ?_
      have R22 := (M21.ext (Ext.reset σ21)).put.merge M21.c.ext
      generalize σ21.merge (σ21.reset.put xb (pblk (.func (.func 25) #[] #[.pointer (some ⟨b1, 0, none⟩)]) L.length (cU y.outer y.inner) { d7 with nv := .slice (some ⟨nb, 0, none⟩) eI.length nc, sv := v13, lv := v17 })) = σ22 at R22
      show W _ _ _ 129 _ _ _ _
      repeat apply W_assoc
      apply W_reg
      · intro callf
        simp +decide only [aOps, aWanted, ↓bite_eq, ↓reduceIte, aStep_eq, aStepOld, aOp, aev, ann, aPut]
        rfl
      have hfine : innerGo (innerF L f) (a :: row.drop (i + 1)) y = { y with found := true, stem := y.stem ++ y.path.take k, loop := y.path.drop k ++ [a] } := by
        conv => lhs; unfold innerGo
        rw [if_neg (by rw [hyf]; decide), if_neg (by rw [hev0]; decide), ← hpl, hfn]
      rw [hfine] at hgo
      have hel2 : eI.length = y.path.length + 1 := by have := congrArg List.length hmap; simpa using this
      have hkp : k ≤ y.path.length := by omega
      refine W_retq ⟨fun h => h.elim (fun h => (nomatch h)) (fun h => (nomatch h)), fun _ _ => ⟨fun h => (nomatch h), fun h => (nomatch h), fun _ _ => ⟨Nat.le_refl _, [.bool true], ?_, ?_⟩⟩⟩
      · simp +decide only [aResults, rget_rput, if_true, if_false]
      · rw [hfin _ hgo]
        refine ⟨rfl, fun h => (nomatch h), fun _ => ⟨_, _, _, R22, ?_, ?_, fun e he => ?_⟩⟩
        · show (ep ++ eI.take k).map (arcAt L) = y.stem ++ y.path.take k
          rw [List.map_append, hep, List.map_take, hmap, List.take_append_of_le_length hkp]
        · show (eI.drop k).map (arcAt L) = y.path.drop k ++ [a]
          rw [List.map_drop, hmap, List.drop_append_of_le_length hkp]
        · have he : e ∈ (ep ++ eI.take k) ++ eI.drop k := he
          rw [List.append_assoc, List.take_append_drop] at he
          exact heok2 e he
    | none =>
      rw [hfn] at lk
      dsimp only at lk
      repeat apply W_assoc
      refine W_drw [] [] (by kernel_rfl) (by kernel_rfl) ?_
      apply Lg_all
      · intro callf
        simp +decide only [aQ, memb, List.any_nil, Bool.true_or, Bool.and_true, reset_merge, reset_reset, reset_next, reset_low, merge_next, merge_idem, ble_self, aWanted, ↓bite_eq, ↓reduceIte, aStep_eq, aStepOld, aOp, opFieldAddr, opLoad, opExtract, aev, ann, aPut, rget_rput, List.getElem?_toArray, List.getElem?_cons_zero, List.getElem?_cons_succ, Nat.zero_add, Bool.not_false, opNil, fld58_5, h0, opLookup, RQ.ld5, lk, fld1, (A10.ext (Ext.reset σ10)).to]
        rfl
      have e11 : Ext σ10 (σ10.merge σ10.reset) := (Ext.refl _).merge
      generalize σ10.merge σ10.reset = σ11 at e11
      have R11 := R9.ext e11
      have A11 := A10.ext e11
      repeat apply W_assoc
      apply W_reg
      · intro callf
        simp +decide only [aOps, aWanted, ↓bite_eq, ↓reduceIte, aStep_eq, aStepOld, aOp, aev, ann, aPut, rget_rput]
        rfl
      repeat apply W_assoc
      refine W_if (b := false) ?_ ?_ ?_
      · simp +decide only [aev, rget_rput, if_true, if_false]
      · intro h; cases h
      intro _
      apply W_skipq
      have et : ((a.2.toNat : Nat) : Int) = a.2 := by omega
      have ht : a.2.toNat < L.length := by omega
      have RQ := R11.ext (Ext.reset σ11)
      have lk5 := look55 RQ.c.inner a.2.toNat
      rw [et] at lk5
      dsimp only at lk5
      have hfn2 : findOn y.on a.2 = none := by rw [← hpl, hfn]
      have hil := R11.c.il
      dsimp only at hil
      have hgd2 : y.inner.getD a.2.toNat true = y.inner.getD a.2.toNat false := by
        have h1 : a.2.toNat < y.inner.length := by rw [hil]; exact ht
        simp [List.getD, h1]
      have hmap : (ei ++ [((s : Int), (i : Int))]).map (arcAt L) = x.path ++ [a] := by
        rw [List.map_append, hei, List.map_cons, List.map_nil, arcAt_of hrow ha]
      have heok2 : ∀ e ∈ ep ++ (ei ++ [((s : Int), (i : Int))]), EOk L e := fun e he => by
        rw [← List.append_assoc] at he
        rcases List.mem_append.1 he with h | h
        · exact heok e h
        · rw [List.mem_singleton.1 h]
          exact ⟨row, by rw [Int.toNat_natCast]; exact hrow, by show (0 : Int) ≤ (s : Int); omega, by show (0 : Int) ≤ (i : Int); omega, by rw [Int.toNat_natCast]; exact hlt⟩
      generalize ei ++ [((s : Int), (i : Int))] = eI at R11 heok2 hmap
      cases hb : y.inner.getD a.2.toNat false with
      | true =>
        rw [hb] at lk5
        repeat apply W_assoc
        refine W_drw [] [] (by kernel_rfl) (by kernel_rfl) ?_
        apply Lg_all
        · intro callf
          simp +decide only [aQ, memb, List.any_nil, Bool.true_or, Bool.and_true, reset_merge, reset_reset, reset_next, reset_low, merge_next, merge_idem, ble_self, aWanted, ↓bite_eq, ↓reduceIte, aStep_eq, aStepOld, aOp, opUn, opFieldAddr, opLoad, opPick, aev, ann, aPut, rget_rput, List.getElem?_toArray, List.getElem?_cons_zero, List.getElem?_cons_succ, Nat.zero_add, Option.bind_some, Bool.not_true, Bool.not_false, Bool.false_beq, opNil, fld58_4, h0, opLookup, RQ.ld4, lk5, not_b, fld1, (A11.ext (Ext.reset σ11)).to]
          rfl
        have e12 : Ext σ11 (σ11.merge σ11.reset) := (Ext.refl _).merge
        generalize σ11.merge σ11.reset = σ12 at e12
        have R12 := R11.ext e12
        repeat apply W_assoc
        refine W_if (b := false) ?_ ?_ ?_
        · simp +decide only [aev, rget_rput, if_true, if_false]
        · intro h; cases h
        intro _
        apply W_skipq
        have hgo2 : innerGo (innerF L f) (row.drop (i + 1)) y = innerGo (innerF L f) row x1 := by
          rw [← hgo]
          show _ = innerGo (innerF L f) (a :: row.drop (i + 1)) y
          conv => rhs; unfold innerGo
          rw [if_neg (by rw [hyf]; decide), if_neg (by rw [hev0]; decide), hfn2]
          dsimp only
          rw [if_pos (by rw [hgd2, hb])]
        have RQ := R12.ext (Ext.reset σ12)
        obtain ⟨v5, hs5, M5, hv5⟩ := RQ.popI ⟨rfl, rfl⟩ hnil
        obtain ⟨pa, pc, hpv⟩ := RQ.c.inside.len
        have l7 := RQ.ld7
        dsimp only at l7 hs5 hpv M5
        rw [hpv] at l7 hs5
        have hel2 : eI.length = x.path.length + 1 := by have := congrArg List.length hmap; simpa using this
        have w9 : IntKind.i64.wrap ((eI.length : Int) - 1) = ((eI.length - 1 : Nat) : Int) := by rw [wrap64_id _ (by omega) (by omega)]; omega
        refine W_tail ?_
        repeat apply W_assoc
        refine W_drw [] [] (by kernel_rfl) (by kernel_rfl) ?_
        apply Lg_pre 14
        · intro callf
          simp +decide only [List.take, aQ, memb, List.any_nil, Bool.true_or, Bool.and_true, reset_merge, reset_reset, reset_next, reset_low, merge_next, merge_idem, ble_self, aWanted, ↓bite_eq, ↓reduceIte, aStep_eq, aStepOld, aOp, opBin, opCall, opFieldAddr, opLoad, opSlice, aev, aevs, ann, aPut, rget_rput, aBuiltin, aLen, List.getElem?_toArray, List.getElem?_cons_zero, Nat.zero_add, Bool.not_false, opNil, fld58_7, h0, l7, w9, hs5, aopt, Try.underlying51, goInt, aBin, aInts, aInt_eq]
          rfl
        dsimp only [List.drop, List.take, List.length]
        have M8 := M5.merge R12.c.ext
        generalize σ12.merge σ12.reset = τ1 at M8
        refine Lg_st (v := undef) (s1 := τ1.reset.put xb (pblk (.func (.func 25) #[] #[.pointer (some ⟨b1, 0, none⟩)]) L.length (cU y.outer y.inner) { { d7 with nv := v3 } with nv := v5 })) (by intro callf; simp +decide only [↓reduceIte, aStep_eq, aStepOld, aOp, opStore, aev, unn, rget_rput, (M8.ext (Ext.reset τ1)).st7 hv5]) (by kernel_rfl) ?_
        have RP := (M8.ext (Ext.reset τ1)).put.merge M8.c.ext
        clear M5 hs5 l7 hpv RQ w9 M8
        generalize τ1.merge (τ1.reset.put xb (pblk (.func (.func 25) #[] #[.pointer (some ⟨b1, 0, none⟩)]) L.length (cU y.outer y.inner) { { d7 with nv := v3 } with nv := v5 })) = τ2 at RP
        show W _ _ _ 129 _ _ _ _
        refine W_skip ⟨fun _ => ?_, fun h => absurd rfl h⟩
        refine W_tail ?_
        repeat apply W_assoc
        apply W_reg
        · intro callf
          simp +decide only [aOps, aWanted, ↓bite_eq, ↓reduceIte, aStep_eq, aStepOld, aOp, opBin, aev, ann, aPut, rget_rput, h39, w1, aBin, aInts, aInt_eq]
          rfl
        refine W_skip ⟨fun _ => ⟨(i + 1, ({ y with path := y.path, on := y.on } : SS)), ?_, ?_⟩, fun h => (nomatch h), fun h => absurd rfl h⟩
        · show row.length - (i + 1) < row.length - i
          omega
        · refine ⟨by show i + 1 ≤ row.length; omega, hyf, ⟨hp2, hn2, hs2, hl2⟩, hc2, hmk2, ⟨{ d7 with nv := v5 }, eI.dropLast, ep, RP, hnil, (by rw [List.map_dropLast, hmap]; simp), hep, (fun e he => heok2 e (List.mem_append.2 ((List.mem_append.1 he).imp id fun h => (List.dropLast_sublist _).subset h)))⟩, hgo2, ?_, ?_, ?_, ?_, ?_⟩ <;> simp +decide only [rget_rput, if_true, if_false, h0, h1, h37, h38, h39]

      | false =>
        rw [hb] at lk5
        repeat apply W_assoc
        refine W_drw [] [] (by kernel_rfl) (by kernel_rfl) ?_
        apply Lg_pre 12
        · intro callf
          simp +decide only [List.take, aQ, memb, List.any_nil, Bool.true_or, Bool.and_true, reset_merge, reset_reset, reset_next, reset_low, merge_next, merge_idem, ble_self, aWanted, ↓bite_eq, ↓reduceIte, aStep_eq, aStepOld, aOp, opUn, opFieldAddr, opLoad, aev, ann, aPut, rget_rput, List.getElem?_toArray, List.getElem?_cons_zero, List.getElem?_cons_succ, Nat.zero_add, Option.bind_some, beq_self_eq_true, Bool.not_false, opNil, fld58_4, h0, opLookup, RQ.ld4, lk5, not_b, fld1, (A11.ext (Ext.reset σ11)).to]
          rfl
        dsimp only [List.drop, List.take, List.length]
        have e12 : Ext σ11 (σ11.merge σ11.reset) := (Ext.refl _).merge
        generalize σ11.merge σ11.reset = σ12 at e12
        have R12 := R11.ext e12
        have hit : y.inner[a.2.toNat]? = some false := by
          have h1 : a.2.toNat < y.inner.length := by rw [hil]; exact ht
          rw [List.getD_eq_getElem?_getD, List.getElem?_eq_getElem h1] at hb
          rw [List.getElem?_eq_getElem h1]
          exact congrArg some hb
        have hmap2 : eI.map (arcAt L) = y.path ++ [a] := by rw [hmap, hp2]
        have CC := ih (σ := σ12.reset) (x := { y with path := y.path ++ [a], on := y.on ++ [a.2] }) (s := a.2.toNat) (oo := oo ++ [(s : Int)]) ⟨_, eI, ep, R12.ext (Ext.reset σ12), hnil, hmap2, hep, heok2⟩ (by show y.on ++ [a.2] = _; rw [hn2, hon, et]) ht hyf hl2 (by show (oo ++ [(s : Int)]).length = (y.path ++ [a]).length; rw [hp2]; simp; omega) hc2 hit hmk2 (by show (y.path ++ [a]).length + f ≤ 900; rw [hp2]; simp; omega) (by show y.stem.length ≤ 1000; rw [hs2]; exact hst)
        have hsp := innerF_spec L f { y with path := y.path ++ [a], on := y.on ++ [a.2] } a.2.toNat hyf (by show (y.path ++ [a]).length + f ≤ 1000; rw [hp2]; simp; omega)
        have hmn := innerF_mono L f { y with path := y.path ++ [a], on := y.on ++ [a.2] } a.2.toNat
        have hgo2 := hgo
        conv at hgo2 => lhs; unfold innerGo
        rw [if_neg (by rw [hyf]; decide), if_neg (by rw [hev0]; decide), hfn2] at hgo2
        dsimp only at hgo2
        rw [if_neg (by rw [hgd2, hb]; decide)] at hgo2
        rw [et] at CC
        generalize innerF L f { y with path := y.path ++ [a], on := y.on ++ [a.2] } a.2.toNat = z at CC hsp hgo2 hmn
        refine Lg_barG (vs := [.pointer (some ⟨xb, 0, none⟩), .int .i64 a.2]) (by simp +decide only [aWanted, List.getElem?_toArray, List.getElem?_cons_zero, List.getElem?_cons_succ, Option.bind_some, rget_rput, if_true, if_false]) (by simp +decide only [aevs, aev, rget_rput, if_true, if_false]) (by decide) (by kernel_rfl) (C.mono CC ?_)
        rintro v s1 ⟨rfl, hno, hyes⟩
        cases hzf : z.found with
        | true =>
          obtain ⟨dz, yz, cz, RZ, hz1, hz2, hz3⟩ := hyes hzf
          have RZ := RZ.merge R12.c.ext
          generalize σ12.merge s1 = σ13 at RZ
          apply Lg_all
          · intro callf
            simp +decide only [aQ, memb, List.any_nil, Bool.true_or, Bool.and_true, reset_low, ble_self, aWanted, ↓bite_eq, ↓reduceIte, aStep_eq, aStepOld, aOp, opPick, aev, aPut, rget_rput, Nat.zero_add, Bool.not_false, opPick]
            rfl
          have e14 : Ext σ13 (σ13.merge σ13.reset) := (Ext.refl _).merge
          generalize σ13.merge σ13.reset = σ14 at e14
          have R14 := RZ.ext e14
          repeat apply W_assoc
          refine W_if (b := true) ?_ ?_ ?_
          · simp +decide only [aev, rget_rput, if_true, if_false]
          rotate_left
          · intro h; cases h
          intro _
          repeat apply W_assoc
          apply W_reg
          · intro callf
            simp +decide only [aOps, aWanted, ↓bite_eq, ↓reduceIte, aStep_eq, aStepOld, aOp, aev, ann, aPut]
            rfl
          rw [if_pos hzf, innerGo_found _ hzf] at hgo2
          refine W_retq ⟨fun h => h.elim (fun h => (nomatch h)) (fun h => (nomatch h)), fun _ _ => ⟨fun h => (nomatch h), fun h => (nomatch h), fun _ _ => ⟨Nat.le_refl _, [.bool true], ?_, ?_⟩⟩⟩
          · simp +decide only [aResults, rget_rput, if_true, if_false]
          · rw [hfin z hgo2]
            refine ⟨by rw [hzf]; rfl, fun h => ?_, fun _ => ⟨dz, yz, cz, R14, hz1, hz2, hz3⟩⟩
            rw [hzf] at h; cases h
        | false =>
          obtain ⟨dz, ez, pz, RZ, hnz, hmz, hpz, hokz⟩ := hno hzf
          have RZ := RZ.merge R12.c.ext
          generalize σ12.merge s1 = σ13 at RZ
          apply Lg_all
          · intro callf
            simp +decide only [aQ, memb, List.any_nil, Bool.true_or, Bool.and_true, reset_low, ble_self, aWanted, ↓bite_eq, ↓reduceIte, aStep_eq, aStepOld, aOp, opPick, aev, aPut, rget_rput, Nat.zero_add, Bool.not_false, opPick]
            rfl
          have e14 : Ext σ13 (σ13.merge σ13.reset) := (Ext.refl _).merge
          generalize σ13.merge σ13.reset = σ14 at e14
          have R14 := RZ.ext e14
          repeat apply W_assoc
          refine W_if (b := false) ?_ ?_ ?_
          · simp +decide only [aev, rget_rput, if_true, if_false]
          · intro h; cases h
          intro _
          apply W_skipq
          obtain ⟨g1, g2, g3, g4⟩ := hsp.no hzf
          dsimp only at g1 g2 g3 g4 hmz hmn
          have hmz2 : ez.map (arcAt L) = x.path ++ [a] := by rw [hmz, hp2]
          have hzl : z.loop = [] := by rw [g4]; exact hl2
          have q1 : z.path.dropLast = x.path := by rw [g1, hp2]; simp
          have q2 : z.on.dropLast = x.on := by rw [g2, hn2]; simp
          have hmkz : ∀ t ∈ oo ++ [(s : Int)], 0 ≤ t ∧ z.inner.getD t.toNat false = true := fun t ht => ⟨(hmk2 t ht).1, hmn _ (hmk2 t ht).2⟩
          rw [if_neg (by rw [hzf]; decide)] at hgo2
          have RQ := R14.ext (Ext.reset σ14)
          obtain ⟨v5, hs5, M5, hv5⟩ := RQ.popI ⟨rfl, rfl⟩ hnz
          obtain ⟨pa, pc, hpv⟩ := RQ.c.inside.len
          have l7 := RQ.ld7
          dsimp only at l7 hs5 hpv M5
          rw [hpv] at l7 hs5
          have hel2 : ez.length = x.path.length + 1 := by have := congrArg List.length hmz2; simpa using this
          have w9 : IntKind.i64.wrap ((ez.length : Int) - 1) = ((ez.length - 1 : Nat) : Int) := by rw [wrap64_id _ (by omega) (by omega)]; omega
          refine W_tail ?_
          repeat apply W_assoc
          refine W_drw [] [] (by kernel_rfl) (by kernel_rfl) ?_
          apply Lg_pre 14
          · intro callf
            simp +decide only [List.take, aQ, memb, List.any_nil, Bool.true_or, Bool.and_true, reset_merge, reset_reset, reset_next, reset_low, merge_next, merge_idem, ble_self, aWanted, ↓bite_eq, ↓reduceIte, aStep_eq, aStepOld, aOp, opBin, opCall, opFieldAddr, opLoad, opSlice, aev, aevs, ann, aPut, rget_rput, aBuiltin, aLen, List.getElem?_toArray, List.getElem?_cons_zero, Nat.zero_add, Bool.not_false, opNil, fld58_7, h0, l7, w9, hs5, aopt, Try.underlying51, goInt, aBin, aInts, aInt_eq]
            rfl
          dsimp only [List.drop, List.take, List.length]
          have M8 := M5.merge R14.c.ext
          generalize σ14.merge σ14.reset = τ1 at M8
          refine Lg_st (v := undef) (s1 := τ1.reset.put xb (pblk (.func (.func 25) #[] #[.pointer (some ⟨b1, 0, none⟩)]) L.length (cU z.outer z.inner) { dz with nv := v5 })) (by intro callf; simp +decide only [↓reduceIte, aStep_eq, aStepOld, aOp, opStore, aev, unn, rget_rput, (M8.ext (Ext.reset τ1)).st7 hv5]) (by kernel_rfl) ?_
          have RP := (M8.ext (Ext.reset τ1)).put.merge M8.c.ext
          clear M5 hs5 l7 hpv RQ w9 M8
          generalize τ1.merge (τ1.reset.put xb (pblk (.func (.func 25) #[] #[.pointer (some ⟨b1, 0, none⟩)]) L.length (cU z.outer z.inner) { dz with nv := v5 })) = τ2 at RP
          show W _ _ _ 129 _ _ _ _
          refine W_skip ⟨fun _ => ?_, fun h => absurd rfl h⟩
          refine W_tail ?_
          repeat apply W_assoc
          apply W_reg
          · intro callf
            simp +decide only [aOps, aWanted, ↓bite_eq, ↓reduceIte, aStep_eq, aStepOld, aOp, opBin, aev, ann, aPut, rget_rput, h39, w1, aBin, aInts, aInt_eq]
            rfl
          refine W_skip ⟨fun _ => ⟨(i + 1, ({ z with path := z.path.dropLast, on := z.on.dropLast } : SS)), ?_, ?_⟩, fun h => (nomatch h), fun h => absurd rfl h⟩
          · show row.length - (i + 1) < row.length - i
            omega
          · refine ⟨by show i + 1 ≤ row.length; omega, hzf, ⟨q1, q2, g3.trans hs2, hzl⟩, Nat.le_trans hsp.cnt hc2, hmkz, ⟨{ dz with nv := v5 }, ez.dropLast, pz, RP, hnz, (by rw [List.map_dropLast, hmz2]; simp), hpz, (fun e he => hokz e (List.mem_append.2 ((List.mem_append.1 he).imp id fun h => (List.dropLast_sublist _).subset h)))⟩, hgo2, ?_, ?_, ?_, ?_, ?_⟩ <;> simp +decide only [rget_rput, if_true, if_false, h0, h1, h37, h38, h39]

end Go.Proofs.Ytbknckiapcafdaa.Nest
