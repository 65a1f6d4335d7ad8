/- The memory of the search for components. -/
import Derived.Test.YtbknckiapcafdaaNestZW
set_option linter.unusedSimpArgs false
set_option linter.unusedVariables false
namespace Go.Proofs.Ytbknckiapcafdaa.Nest
open Abs Abs2

theorem el90 : El 88 90 2 := ⟨Try.underlying88, ⟨(Try.prog.info? 90).get!, (((Try.prog.info? 90).get!).zero).get!, by kernel_rfl, by kernel_rfl, Nat.le_of_ble_eq_true (by kernel_rfl), by kernel_rfl, by kernel_rfl, by kernel_rfl⟩, by decide⟩
theorem slice88 {σ : AS} {s : Int} : aBuildSlice Try.prog σ 88 1 [(0, .agg #[.int .i64 s, .int .i64 0])] = some (.slice (some ⟨σ.next, 0, none⟩) 1 1, σ.new ⟨1, 90, 0, [.int .i64 s, .int .i64 0], []⟩) := by kernel_rfl
theorem build90 {s : Int} : aBuild Try.prog 90 [(0, .int .i64 s), (1, .int .i64 0)] = some (.agg #[.int .i64 s, .int .i64 0]) := by kernel_rfl
theorem fld90_0 {b off : Nat} : aField Try.prog 90 0 (.pointer (some ⟨b, off, none⟩)) = some (.pointer (some ⟨b, off, none⟩)) := by kernel_rfl
theorem fld90_1 {b off : Nat} : aField Try.prog 90 1 (.pointer (some ⟨b, off, none⟩)) = some (.pointer (some ⟨b, off + 1, none⟩)) := by kernel_rfl
theorem idx88 {b off len cap i : Nat} (h : i < len) : aIndexAddr Try.prog 88 (.slice (some ⟨b, off, none⟩) len cap) (.int .i64 (i : Int)) = some (.pointer (some ⟨b, off + i * 2, none⟩)) :=
  aIndexAddr_slice (inf := (Try.prog.info? 90).get!) Try.underlying88 (by kernel_rfl) (by kernel_rfl) h
theorem src90 {σ : AS} {b : Nat} {s : Int} (h : σ.get b = ⟨1, 90, 0, [.int .i64 s, .int .i64 0], []⟩) (inf : TypeInfo) (hi : inf.size = 2) : aSource Try.prog σ false inf (.slice (some ⟨b, 0, none⟩) 1 1) = some (1, [.int .i64 s, .int .i64 0]) := by
  have hc : aCells σ ⟨b, 0, none⟩ 2 = some [.int .i64 s, .int .i64 0] := cells_at h rfl (Nat.le_refl _)
  unfold aSource
  simp only [Bool.false_eq_true, if_false, hi, Nat.one_mul, aCellsS_none, hc]

section
variable {P : Program} {K : Tbl} {G n id : Nat} {r : Regs} {σ : AS} {c d : Code} {Q : Nat → Regs → AS → Prop}
theorem W_seqM (M : Regs → AS → Prop) (h : W P K G n c r σ fun e r' σ' => (e = 0 → M r' σ') ∧ (e ≠ 0 → Q e r' σ')) (hM : ∀ r' σ', M r' σ' → W P K G n d r' σ' Q) : W P K G n (.seq c d) r σ Q :=
  W_seq (h.mono fun e r' σ' ⟨h1, h2⟩ => ⟨fun he => hM _ _ (h1 he), h2⟩)
end

/-- A list of integers in block b. -/
structure IB (lo : Nat) (σ : AS) (b : Nat) (l : List Int) : Prop where
  lo : lo ≤ b
  lt : b < σ.next
  get : σ.get b = ⟨1, 3, 0, l.map vInt, []⟩

section
variable {lo : Nat} {σ σ' : AS} {b : Nat} {l : List Int}
theorem IB.il (h : IB lo σ b l) : IL lo σ (.slice (some ⟨b, 0, none⟩) l.length l.length) l := ⟨b, rfl, h.lo, h.lt, h.get⟩
theorem IL.ib {n : Nat} (h : IL lo σ (.slice (some ⟨b, 0, none⟩) n n) l) : IB lo σ b l := by
  obtain ⟨b', e, h1, h2, h3⟩ := h
  cases e
  exact ⟨h1, h2, h3⟩
theorem IB.keep (h : IB lo σ b l) (hn : σ.next ≤ σ'.next) (hg : σ'.get b = σ.get b) : IB lo σ' b l := ⟨h.lo, Nat.lt_of_lt_of_le h.lt hn, hg.trans h.get⟩
theorem IB.ld (h : IB lo σ b l) {i : Nat} {x : Int} (hx : l[i]? = some x) : aLoad Try.prog σ 3 (.pointer (some ⟨b, i, none⟩)) = some (.int .i64 x) := by
  obtain ⟨b', e, -, -, -, -, h1, -⟩ := h.il.at
  cases e
  exact h1 i x hx σ rfl
theorem IB.st (h : IB lo σ b l) {i : Nat} (hi : i < l.length) (x : Int) : aStore Try.prog σ 3 (.int .i64 x) (.pointer (some ⟨b, i, none⟩)) = some (σ.put b ⟨1, 3, 0, (l.set i x).map vInt, []⟩) := by
  obtain ⟨b', e, -, -, -, -, -, h1⟩ := h.il.at
  cases e
  exact h1 i x hi σ rfl
theorem idxB {n i : Nat} (h : i < n) : aIndexAddr Try.prog 33 (.slice (some ⟨b, 0, none⟩) n n) (.int .i64 (i : Int)) = some (.pointer (some ⟨b, i, none⟩)) := by
  have e1 := idx33 (b := b) (off := 0) (cap := n) h
  rw [Nat.mul_one, Nat.zero_add] at e1
  exact e1
end

def pcells (pr : Nat → Nat) (l : List Nat) : List Value := l.flatMap fun (s : Nat) => [vInt (s : Int), vInt ((pr s - 1 : Nat) : Int)]
theorem pcells_snoc (pr : Nat → Nat) (p : List Nat) (s : Nat) : pcells pr (p ++ [s]) = pcells pr p ++ [vInt (s : Int), vInt ((pr s - 1 : Nat) : Int)] := by
  unfold pcells; rw [List.flatMap_append]; rfl
theorem pcells_len (pr : Nat → Nat) (l : List Nat) : (pcells pr l).length = l.length * 2 := by
  induction l with
  | nil => rfl
  | cons a l ih => show (([vInt (a : Int), vInt ((pr a - 1 : Nat) : Int)] ++ pcells pr l).length) = _; rw [List.length_append, ih, List.length_cons]; simp; omega
theorem pcells_congr {pr pr' : Nat → Nat} : ∀ {l : List Nat}, (∀ s, s ∈ l → pr s - 1 = pr' s - 1) → pcells pr l = pcells pr' l
  | [], _ => rfl
  | a :: l, h => by
    show [vInt (a : Int), vInt ((pr a - 1 : Nat) : Int)] ++ pcells pr l = [vInt (a : Int), vInt ((pr' a - 1 : Nat) : Int)] ++ pcells pr' l
    rw [h a (List.mem_cons_self ..), pcells_congr fun s hs => h s (List.mem_cons_of_mem _ hs)]

/-- A search in memory. -/
structure TM (σ0 σ : AS) (n : Nat) (X : TS) (ob ib lb : Nat) (pv ov : Value) : Prop where
  ext : Ext σ0 σ
  out : IB σ0.next σ ob (tab n X.out)
  ix : IB σ0.next σ ib (tab n fun i => (X.ix i : Int))
  lo : IB σ0.next σ lb (tab n fun i => (X.lo i : Int))
  path : Stk σ0.next 90 2 σ pv X.path.length (pcells X.pr X.path)
  op : OL σ0.next σ ov (ints X.op)
  oi : ob ≠ ib
  ol : ob ≠ lb
  il : ib ≠ lb

section
variable {σ0 σ σ' s1 : AS} {n ob ib lb : Nat} {pv ov : Value} {X : TS}
theorem TM.go (h : TM σ0 σ n X ob ib lb pv ov) (e : Ext σ σ') : TM σ0 σ' n X ob ib lb pv ov :=
  ⟨h.ext.trans e, h.out.keep e.nxt (e.get _ h.out.lt), h.ix.keep e.nxt (e.get _ h.ix.lt), h.lo.keep e.nxt (e.get _ h.lo.lt), h.path.keep e.nxt fun i _ hi => e.get i hi, h.op.ext e, h.oi, h.ol, h.il⟩
theorem TM.merge (h : TM σ0 s1 n X ob ib lb pv ov) (e : Ext σ0 σ) : TM σ0 (σ.merge s1) n X ob ib lb pv ov :=
  ⟨ext_merge e h.ext, h.out.keep (Nat.le_refl _) rfl, h.ix.keep (Nat.le_refl _) rfl, h.lo.keep (Nat.le_refl _) rfl, h.path.keep (Nat.le_refl _) fun _ _ _ => rfl, h.op.keep (Nat.le_refl _) fun _ _ _ => rfl, h.oi, h.ol, h.il⟩
theorem TM.nP (h : TM σ0 σ n X ob ib lb pv ov) {b : Nat} (hb : (σ.get b).kind = 1) : ¬ Own pv b := fun ho => by have := (h.path.own ho).2.2.1; omega
theorem TM.nO (h : TM σ0 σ n X ob ib lb pv ov) {b : Nat} (hb : (σ.get b).kind = 1) : ¬ Own ov b := fun ho => by have := (h.op.own ho).2.2.1; omega
theorem TM.ko (h : TM σ0 σ n X ob ib lb pv ov) : (σ.get ob).kind = 1 := by rw [h.out.get]
theorem TM.ki (h : TM σ0 σ n X ob ib lb pv ov) : (σ.get ib).kind = 1 := by rw [h.ix.get]
theorem TM.kl (h : TM σ0 σ n X ob ib lb pv ov) : (σ.get lb).kind = 1 := by rw [h.lo.get]
theorem TM.po (h : TM σ0 σ n X ob ib lb pv ov) {b : Nat} (h1 : Own pv b) : ¬ Own ov b := fun ho => by have h2 := (h.op.own ho).2.2.2; rw [(h.path.own h1).2.2.2] at h2; cases h2

theorem TM.putIx (h : TM σ0 σ n X ob ib lb pv ov) {i : Nat} (hi : i < n) (x : Nat) : aStore Try.prog σ 3 (.int .i64 (x : Int)) (.pointer (some ⟨ib, i, none⟩)) = some (σ.put ib ⟨1, 3, 0, (tab n fun j => ((upd X.ix i x j : Nat) : Int)).map vInt, []⟩) ∧
    TM σ0 (σ.put ib ⟨1, 3, 0, (tab n fun j => ((upd X.ix i x j : Nat) : Int)).map vInt, []⟩) n { X with ix := upd X.ix i x } ob ib lb pv ov := by
  have e : (tab n fun j => (X.ix j : Int)).set i (x : Int) = tab n fun j => ((upd X.ix i x j : Nat) : Int) := by
    rw [tab_set]; congr 1; funext j; unfold upd; split <;> rfl
  have ne : ∀ {j : Nat}, j ≠ ib → ∀ B, (σ.put ib B).get j = σ.get j := fun hj B => by rw [AS.get_put, if_neg (fun e => hj e.symm)]
  refine ⟨by rw [← e]; exact h.ix.st (by rw [tab_len]; exact hi) x, h.ext.put h.ix.lo _, h.out.keep (Nat.le_refl _) (ne h.oi _), ⟨h.ix.lo, h.ix.lt, by rw [AS.get_put, if_pos rfl]⟩, h.lo.keep (Nat.le_refl _) (ne (Ne.symm h.il) _),
    h.path.keep (Nat.le_refl _) fun j ho _ => ne (fun e => h.nP h.ki (e ▸ ho)) _, h.op.keep (Nat.le_refl _) fun j ho _ => ne (fun e => h.nO h.ki (e ▸ ho)) _, h.oi, h.ol, h.il⟩
theorem TM.putLo (h : TM σ0 σ n X ob ib lb pv ov) {i : Nat} (hi : i < n) (x : Nat) : aStore Try.prog σ 3 (.int .i64 (x : Int)) (.pointer (some ⟨lb, i, none⟩)) = some (σ.put lb ⟨1, 3, 0, (tab n fun j => ((upd X.lo i x j : Nat) : Int)).map vInt, []⟩) ∧
    TM σ0 (σ.put lb ⟨1, 3, 0, (tab n fun j => ((upd X.lo i x j : Nat) : Int)).map vInt, []⟩) n { X with lo := upd X.lo i x } ob ib lb pv ov := by
  have e : (tab n fun j => (X.lo j : Int)).set i (x : Int) = tab n fun j => ((upd X.lo i x j : Nat) : Int) := by
    rw [tab_set]; congr 1; funext j; unfold upd; split <;> rfl
  have ne : ∀ {j : Nat}, j ≠ lb → ∀ B, (σ.put lb B).get j = σ.get j := fun hj B => by rw [AS.get_put, if_neg (fun e => hj e.symm)]
  refine ⟨by rw [← e]; exact h.lo.st (by rw [tab_len]; exact hi) x, h.ext.put h.lo.lo _, h.out.keep (Nat.le_refl _) (ne h.ol _), h.ix.keep (Nat.le_refl _) (ne h.il _), ⟨h.lo.lo, h.lo.lt, by rw [AS.get_put, if_pos rfl]⟩,
    h.path.keep (Nat.le_refl _) fun j ho _ => ne (fun e => h.nP h.kl (e ▸ ho)) _, h.op.keep (Nat.le_refl _) fun j ho _ => ne (fun e => h.nO h.kl (e ▸ ho)) _, h.oi, h.ol, h.il⟩
theorem TM.ldIx (h : TM σ0 σ n X ob ib lb pv ov) {i : Nat} (hi : i < n) : aLoad Try.prog σ 3 (.pointer (some ⟨ib, i, none⟩)) = some (.int .i64 (X.ix i : Int)) := h.ix.ld (tab_at hi)
theorem TM.ldLo (h : TM σ0 σ n X ob ib lb pv ov) {i : Nat} (hi : i < n) : aLoad Try.prog σ 3 (.pointer (some ⟨lb, i, none⟩)) = some (.int .i64 (X.lo i : Int)) := h.lo.ld (tab_at hi)
theorem TM.ldOut (h : TM σ0 σ n X ob ib lb pv ov) {i : Nat} (hi : i < n) : aLoad Try.prog σ 3 (.pointer (some ⟨ob, i, none⟩)) = some (.int .i64 (X.out i)) := h.out.ld (tab_at hi)
theorem TM.pr (h : TM σ0 σ n X ob ib lb pv ov) {pr' : Nat → Nat} (he : ∀ s, s ∈ X.path → X.pr s - 1 = pr' s - 1) : TM σ0 σ n { X with pr := pr' } ob ib lb pv ov :=
  ⟨h.ext, h.out, h.ix, h.lo, by have := h.path; rw [pcells_congr he] at this; exact this, h.op, h.oi, h.ol, h.il⟩
theorem TM.cnt (h : TM σ0 σ n X ob ib lb pv ov) (c : Nat) : TM σ0 σ n { X with cnt := c } ob ib lb pv ov := ⟨h.ext, h.out, h.ix, h.lo, h.path, h.op, h.oi, h.ol, h.il⟩

theorem TM.pushOp (h : TM σ0 σ n X ob ib lb pv ov) {b s : Nat} (hb : σ.get b = ⟨1, 3, 0, [.int .i64 (s : Int)], []⟩) (hk : X.op.length + 1 ≤ 1000000) :
    ∃ v' s1, aAppend Try.prog σ #[33, 33] ov (.slice (some ⟨b, 0, none⟩) 1 1) = some (v', s1) ∧ TM σ0 s1 n { X with op := X.op ++ [s] } ob ib lb pv v' := by
  obtain ⟨v', s1, g1, g2, g3, g4, g5⟩ := OL.push h.op h.ext.nxt (x := (s : Int)) hb (by rw [ints_len]; exact hk)
  have kp : ∀ i, i < σ.next → ¬ Own ov i → s1.get i = σ.get i := g4
  refine ⟨v', s1, g1, ⟨Nat.le_trans h.ext.nxt g3, fun i hi => ?_, fun m h1 h2 => g5 m h2 (h.ext.low m h1 h2)⟩, h.out.keep g3 (kp _ h.out.lt (h.nO h.ko)), h.ix.keep g3 (kp _ h.ix.lt (h.nO h.ki)), h.lo.keep g3 (kp _ h.lo.lt (h.nO h.kl)),
    h.path.keep g3 fun i ho hi => kp i hi (h.po ho), by rw [ints_snoc]; exact g2, h.oi, h.ol, h.il⟩
  rw [kp i (Nat.lt_of_lt_of_le hi h.ext.nxt) (fun ho => by have := (h.op.own ho).1; omega)]
  exact h.ext.get i hi

theorem TM.pushPath (h : TM σ0 σ n X ob ib lb pv ov) {b t : Nat} (hb : σ.get b = ⟨1, 90, 0, [.int .i64 (t : Int), .int .i64 0], []⟩) (hk : X.path.length + 1 ≤ 1000000) (ht : X.pr t = 0) :
    ∃ v' s1, aAppend Try.prog σ #[88, 88] pv (.slice (some ⟨b, 0, none⟩) 1 1) = some (v', s1) ∧ TM σ0 s1 n { X with path := X.path ++ [t] } ob ib lb v' ov := by
  obtain ⟨v', s1, g1, g2, g3, g4, g5, g6⟩ := Stk.push el90 h.path h.ext.nxt (src90 hb) rfl rfl hk
  have kp : ∀ i, i < σ.next → ¬ Own pv i → s1.get i = σ.get i := g4
  refine ⟨v', s1, g1, ⟨Nat.le_trans h.ext.nxt g3, fun i hi => ?_, fun m h1 h2 => g5 m h2 (h.ext.low m h1 h2)⟩, h.out.keep g3 (kp _ h.out.lt (h.nP h.ko)), h.ix.keep g3 (kp _ h.ix.lt (h.nP h.ki)), h.lo.keep g3 (kp _ h.lo.lt (h.nP h.kl)),
    ?_, h.op.keep g3 fun i ho hi => kp i hi (fun h1 => h.po h1 ho), h.oi, h.ol, h.il⟩
  · rw [kp i (Nat.lt_of_lt_of_le hi h.ext.nxt) (fun ho => by have := (h.path.own ho).1; omega)]
    exact h.ext.get i hi
  · have e : ({ X with path := X.path ++ [t] } : TS).path.length = X.path.length + 1 := by simp
    rw [e]
    show Stk σ0.next 90 2 s1 v' (X.path.length + 1) (pcells X.pr (X.path ++ [t]))
    rw [pcells_snoc, ht]
    exact g2

theorem TM.pop (h : TM σ0 σ n X ob ib lb pv ov) {p : List Nat} {s : Nat} (hp : X.path = p ++ [s]) :
    ∃ x, aSlice Try.prog σ 88 pv none (some (.int .i64 (p.length : Int))) none = some x ∧ TM σ0 σ n { X with path := p } ob ib lb x ov := by
  obtain ⟨x, g1, g2, g3, -⟩ := Stk.cut el90 h.path (j := p.length) (by rw [hp]; simp)
  refine ⟨x, g1, h.ext, h.out, h.ix, h.lo, ?_, h.op, h.oi, h.ol, h.il⟩
  have e : (pcells X.pr X.path).take (p.length * 2) = pcells X.pr p := by
    rw [hp, pcells_snoc, ← pcells_len X.pr p]; simp
  rw [e] at g2
  exact g2

theorem TM.to (h : TM σ0 σ n X ob ib lb pv ov) {Y : TS} (e1 : X.ix = Y.ix) (e2 : X.lo = Y.lo) (e3 : X.out = Y.out) (e4 : X.path = Y.path) (e5 : ∀ s, s ∈ X.path → X.pr s - 1 = Y.pr s - 1) (e6 : X.op = Y.op) : TM σ0 σ n Y ob ib lb pv ov :=
  ⟨h.ext, e3 ▸ h.out, e1 ▸ h.ix, e2 ▸ h.lo, by have := h.path; rw [pcells_congr e5, e4] at this; exact this, e6 ▸ h.op, h.oi, h.ol, h.il⟩
theorem TM.close (h : TM σ0 σ n X ob ib lb pv ov) {v : Value} {q : List Nat} {f : Nat → Int} (hO : OL σ0.next s1 v (ints q)) (hI : IL σ0.next s1 (.slice (some ⟨ob, 0, none⟩) n n) (tab n f)) (hn : σ.next ≤ s1.next)
    (hg : ∀ i, i < σ.next → ¬ Own (.slice (some ⟨ob, 0, none⟩) n n) i → s1.get i = σ.get i) (hlw : ∀ q, q ≤ σ0.next → q ≤ σ.low → q ≤ s1.low) : TM σ0 s1 n { X with op := q, out := f } ob ib lb pv v := by
  have ne : ∀ i, i < σ.next → i ≠ ob → s1.get i = σ.get i := fun i hi hne => hg i hi fun ⟨_, _, e⟩ => by cases e; exact hne rfl
  refine ⟨⟨Nat.le_trans h.ext.nxt hn, fun i hi => ?_, fun m h1 h2 => hlw m h2 (h.ext.low m h1 h2)⟩, hI.ib, h.ix.keep hn (ne _ h.ix.lt (Ne.symm h.oi)), h.lo.keep hn (ne _ h.lo.lt (Ne.symm h.ol)), h.path.keep hn fun i ho hi => ne i hi (fun e => h.nP h.ko (e ▸ ho)), hO, h.oi, h.ol, h.il⟩
  rw [ne i (Nat.lt_of_lt_of_le hi h.ext.nxt) (fun e => by have := h.out.lo; omega)]
  exact h.ext.get i hi

theorem TM.len (h : TM σ0 σ n X ob ib lb pv ov) : ∃ a c, pv = .slice a X.path.length c := Stk.len h.path

/-- The top of the way. -/
theorem TM.top (h : TM σ0 σ n X ob ib lb pv ov) {p : List Nat} {s : Nat} (hp : X.path = p ++ [s]) (hs : s ∉ p) : ∃ b c, pv = .slice (some ⟨b, 0, none⟩) (p.length + 1) c ∧ b < σ.next ∧
    aLoad Try.prog σ 3 (.pointer (some ⟨b, p.length * 2, none⟩)) = some (.int .i64 (s : Int)) ∧ aLoad Try.prog σ 3 (.pointer (some ⟨b, p.length * 2 + 1, none⟩)) = some (.int .i64 ((X.pr s - 1 : Nat) : Int)) ∧
    ∀ x : Nat, ∃ B, aStore Try.prog σ 3 (.int .i64 (x : Int)) (.pointer (some ⟨b, p.length * 2 + 1, none⟩)) = some (σ.put b B) ∧ TM σ0 (σ.put b B) n { X with pr := upd X.pr s (x + 1) } ob ib lb pv ov := by
  have hP := h.path
  rw [hp, pcells_snoc, List.length_append] at hP
  obtain ⟨c1, c2, ⟨h3, h0⟩ | ⟨b, m, vals, rfl, h4, h5, h6, h7, h8, h9⟩⟩ := hP
  · simp at h0
  have hlp : ([s] : List Nat).length = 1 := rfl
  have hL := pcells_len X.pr p
  rw [hlp] at *
  have hle : (p.length + 1) * 2 ≤ vals.length := Nat.le_trans (Nat.mul_le_mul_right 2 h4) h8
  have hat : ∀ i v, (pcells X.pr p ++ [vInt (s : Int), vInt ((X.pr s - 1 : Nat) : Int)])[i]? = some v → vals[i]? = some v := fun (i : Nat) v hx => by
    rw [← h9, List.getElem?_take] at hx
    split at hx
    · exact hx
    · cases hx
  have hv0 := hat (p.length * 2) (vInt (s : Int)) (by rw [← hL]; simp)
  have hv1 := hat (p.length * 2 + 1) (vInt ((X.pr s - 1 : Nat) : Int)) (by rw [← hL, List.getElem?_append_right (by omega)]; simp)
  have cell : ∀ i v, vals[i]? = some v → aCells σ ⟨b, i, none⟩ 1 = some [v] := fun i v hv => by
    obtain ⟨g1, g2⟩ := List.getElem?_eq_some_iff.1 hv
    unfold aCells
    simp only [h7, hasLen_eq]
    rw [ble_t (show i + 1 ≤ vals.length by omega), List.drop_eq_getElem_cons g1, g2]
    rfl
  refine ⟨b, _, rfl, h6, load1 Try.underlying3 rfl (cell _ _ hv0), load1 Try.underlying3 rfl (cell _ _ hv1), fun x => ⟨⟨2, 90, 2, vals.set (p.length * 2 + 1) (vInt (x : Int)), []⟩, ?_, ?_⟩⟩
  · obtain ⟨inf, hi2, hs⟩ : ∃ inf, Try.prog.info? 3 = some inf ∧ inf.size = 1 := ⟨(Try.prog.info? 3).get!, by kernel_rfl, by kernel_rfl⟩
    have hz : Nat.beq (vInt (x : Int)).cells.size 1 = true := rfl
    have hc : (vInt (x : Int)).cells.toList = [vInt (x : Int)] := rfl
    have ho : one (vInt (x : Int)) = true := rfl
    show aStore Try.prog σ 3 (vInt (x : Int)) _ = _
    unfold aStore
    simp only [hi2, hs, hz, if_true, hc]
    unfold aWrite
    simp only [h7, hasLen_eq, List.length_cons, List.length_nil, Nat.zero_add, List.all_cons, List.all_nil, ho]
    rw [ble_t (show p.length * 2 + 1 + 1 ≤ vals.length by omega), lsplice_cons, lsplice_nil]
    rfl
  · have ne : ∀ {j : Nat}, j ≠ b → ∀ B, (σ.put b B).get j = σ.get j := fun hj B => by rw [AS.get_put, if_neg (fun e => hj e.symm)]
    have kb : (σ.get b).kind = 2 := by rw [h7]
    have nk : ∀ {j : Nat}, (σ.get j).kind = 1 → j ≠ b := fun hj e => by rw [e, kb] at hj; cases hj
    refine ⟨h.ext.put h5 _, h.out.keep (Nat.le_refl _) (ne (nk h.ko) _), h.ix.keep (Nat.le_refl _) (ne (nk h.ki) _), h.lo.keep (Nat.le_refl _) (ne (nk h.kl) _), ?_, h.op.keep (Nat.le_refl _) fun j ho _ => ne (fun e => h.po (by exact ⟨_, _, rfl⟩) (e ▸ ho)) _, h.oi, h.ol, h.il⟩
    show Stk σ0.next 90 2 _ _ X.path.length (pcells (upd X.pr s (x + 1)) X.path)
    rw [hp, pcells_snoc, upd_self, pcells_congr (pr' := X.pr) fun y hy => by rw [upd_ne _ _ (show y ≠ s from fun e => hs (e ▸ hy))]]
    refine ⟨by rw [List.length_append, List.length_append, hL]; simp; omega, ?_, .inr ⟨b, m, vals.set (p.length * 2 + 1) (vInt (x : Int)), by rw [List.length_append]; rfl, by rw [List.length_append]; exact h4, h5, h6, by rw [AS.get_put, if_pos rfl], by rw [List.length_set]; exact h8, ?_⟩⟩
    · rw [List.all_append, Bool.and_eq_true] at c2 ⊢
      exact ⟨c2.1, rfl⟩
    · rw [List.take_set, List.length_append]
      have h9' : List.take ((p.length + ([s] : List Nat).length) * 2) vals = _ := h9
      rw [h9', List.set_append_right _ _ (by omega)]
      rw [hL, show p.length * 2 + 1 - p.length * 2 = 1 by omega]
      rfl
end
end Go.Proofs.Ytbknckiapcafdaa.Nest
