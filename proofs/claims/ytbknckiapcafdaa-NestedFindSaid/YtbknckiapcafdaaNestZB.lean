/- The memory of the program's search. -/
import Derived.Test.YtbknckiapcafdaaNestZA
set_option linter.unusedSimpArgs false
set_option linter.unusedVariables false
namespace Go.Proofs.Ytbknckiapcafdaa.Nest
open Abs Abs2

theorem el53 : El 51 53 2 := ⟨Try.underlying51, ⟨(Try.prog.info? 53).get!, (((Try.prog.info? 53).get!).zero).get!, by kernel_rfl, by kernel_rfl, Nat.le_of_ble_eq_true (by kernel_rfl), by kernel_rfl, by kernel_rfl, by kernel_rfl⟩, by decide⟩

/-- How many states are marked. -/
def cU : List Bool → List Bool → Nat
  | a :: l, b :: m => (if (a || b) = true then 1 else 0) + cU l m
  | _, _ => 0
theorem cU_le : ∀ l m : List Bool, cU l m ≤ l.length
  | [], _ => by simp [cU]
  | _ :: _, [] => by simp [cU]
  | a :: l, b :: m => by
    have := cU_le l m
    simp only [cU, List.length_cons]
    split <;> omega
theorem cU_comm : ∀ l m : List Bool, cU l m = cU m l
  | [], [] => rfl
  | [], _ :: _ => rfl
  | _ :: _, [] => rfl
  | a :: l, b :: m => by simp only [cU, cU_comm l m, Bool.or_comm]
theorem cU_mark : ∀ {l m : List Bool} {s : Nat}, l.length = m.length → l[s]? = some false → cU (l.set s true) m = cU l m + if m.getD s false = true then 0 else 1
  | [], m, s, _, h => by simp at h
  | a :: l, [], s, h, _ => by simp at h
  | a :: l, b :: m, 0, _, h => by
    simp at h; subst h
    cases b <;> simp [cU] <;> omega
  | a :: l, b :: m, s + 1, hl, h => by
    have := cU_mark (l := l) (m := m) (s := s) (by simpa using hl) (by simpa using h)
    simp only [List.set_cons_succ, cU, this, List.getD_cons_succ]
    omega

structure PD where
  outer : List Bool
  inner : List Bool
  place : List Int
  path : List Arc
  inside : List Arc
  stem : List Arc
  loop : List Arc

structure FP where
  om : Value
  im : Value
  pm : Value
  pv : Value
  nv : Value
  sv : Value
  lv : Value

def bmap (l : List Bool) (k : Int) : Option Value := if 0 ≤ k ∧ l.getD k.toNat false = true then some (.bool true) else none
def pmap (l : List Int) (k : Int) : Option Value := (findOn l k).map fun i => .int .i64 (i : Int)

structure PRepC (σ0 σ : AS) (xb N : Nat) (x : PD) (d : FP) : Prop where
  ext : Ext σ0 σ
  lo : σ0.next ≤ xb
  lt : xb < σ.next
  el : (σ.get xb).elem = 58
  kd : (σ.get xb).kind = 1
  ol : x.outer.length = N
  il : x.inner.length = N
  outer : MapAt σ0.next σ d.om (bmap x.outer)
  inner : MapAt σ0.next σ d.im (bmap x.inner)
  place : MapAt σ0.next σ d.pm (pmap x.place)
  oi : ∀ i, MOwn d.om i → ¬ MOwn d.im i
  op : ∀ i, MOwn d.om i → ¬ MOwn d.pm i
  ip : ∀ i, MOwn d.im i → ¬ MOwn d.pm i
  path : Stk σ0.next 53 2 σ d.pv x.path.length (cellsOf x.path)
  inside : Stk σ0.next 53 2 σ d.nv x.inside.length (cellsOf x.inside)
  ps : ∀ i, Own d.pv i → ¬ Own d.nv i
  stem : Stk σ0.next 53 2 σ d.sv x.stem.length (cellsOf x.stem)
  loop : Stk σ0.next 53 2 σ d.lv x.loop.length (cellsOf x.loop)

def pblk (fv : Value) (N c : Nat) (d : FP) : Blk := ⟨1, 58, 0, [fv, .int .i64 (N : Int), .int .i64 (c : Int), d.om, d.im, d.pm, d.pv, d.nv, d.sv, d.lv], []⟩

/-- The fields hold d and count c; what they hold is x in d'. -/
structure PMid (σ0 σ : AS) (xb N : Nat) (fv : Value) (cn : Nat) (x : PD) (d d' : FP) : Prop where
  c : PRepC σ0 σ xb N x d'
  get : σ.get xb = pblk fv N cn d

abbrev PRepV (σ0 σ : AS) (xb N : Nat) (fv : Value) (x : PD) (d : FP) : Prop := PMid σ0 σ xb N fv (cU x.outer x.inner) x d d

section
variable {σ0 σ σ' s : AS} {xb N c : Nat} {fv : Value} {x : PD} {d d' : FP}

theorem MapAt.ne {lo : Nat} {v : Value} {f : Int → Option Value} (h : MapAt lo σ v f) {i j : Nat} (ho : MOwn v i) (hk : (σ.get j).kind ≠ 3) : i ≠ j := fun e => hk (by rw [← e]; exact (h.own ho).2.2)
theorem Stk.ne {lo E z k : Nat} {v : Value} {cs : List Value} (h : Stk lo E z σ v k cs) {i j : Nat} (ho : Own v i) (hk : (σ.get j).kind ≠ 2) : i ≠ j := fun e => hk (by rw [← e]; exact (h.own ho).2.2.1)

theorem PRepC.keep (h : PRepC σ0 σ xb N x d) (hE : Ext σ0 σ') (hn : σ.next ≤ σ'.next) (hg : ∀ i, i < σ.next → i ≠ xb → σ'.get i = σ.get i) (he : (σ'.get xb).elem = 58 ∧ (σ'.get xb).kind = 1) : PRepC σ0 σ' xb N x d := by
  have k3 : (σ.get xb).kind ≠ 3 := by rw [h.kd]; decide
  have k2 : (σ.get xb).kind ≠ 2 := by rw [h.kd]; decide
  exact ⟨hE, h.lo, by have := h.lt; omega, he.1, he.2, h.ol, h.il, h.outer.keep hn fun i ho hi => hg i hi (h.outer.ne ho k3), h.inner.keep hn fun i ho hi => hg i hi (h.inner.ne ho k3), h.place.keep hn fun i ho hi => hg i hi (h.place.ne ho k3), h.oi, h.op, h.ip,
    h.path.keep hn fun i ho hi => hg i hi (h.path.ne ho k2), h.inside.keep hn fun i ho hi => hg i hi (h.inside.ne ho k2), h.ps, h.stem.keep hn fun i ho hi => hg i hi (h.stem.ne ho k2), h.loop.keep hn fun i ho hi => hg i hi (h.loop.ne ho k2)⟩

theorem PMid.ext (h : PMid σ0 σ xb N fv c x d d') (e : Ext σ σ') : PMid σ0 σ' xb N fv c x d d' :=
  ⟨h.c.keep (h.c.ext.trans e) e.nxt (fun i hi _ => e.get i hi) (by rw [e.get _ h.c.lt]; exact ⟨h.c.el, h.c.kd⟩), (e.get _ h.c.lt).trans h.get⟩
theorem PRepC.merge (h : PRepC σ0 s xb N x d) (e : Ext σ0 σ) : PRepC σ0 (σ.merge s) xb N x d := h.keep (ext_merge e h.ext) (Nat.le_refl _) (fun _ _ _ => rfl) ⟨h.el, h.kd⟩
theorem PMid.merge (h : PMid σ0 s xb N fv c x d d') (e : Ext σ0 σ) : PMid σ0 (σ.merge s) xb N fv c x d d' := ⟨h.c.merge e, h.get⟩
theorem PRepC.put (h : PRepC σ0 σ xb N x d) (c : Nat) : PMid σ0 (σ.put xb (pblk fv N c d)) xb N fv c x d d :=
  ⟨h.keep (h.ext.put h.lo _) (Nat.le_refl _) (fun i _ hi => by rw [AS.get_put, if_neg (fun e => hi e.symm)]) (by rw [AS.get_put, if_pos rfl]; exact ⟨rfl, rfl⟩), by rw [AS.get_put, if_pos rfl]⟩
theorem PMid.put (h : PMid σ0 σ xb N fv c x d d') : PMid σ0 (σ.put xb (pblk fv N c d')) xb N fv c x d' d' := h.c.put c
theorem fld58_0 {b : Nat} : aField Try.prog 58 0 (.pointer (some ⟨b, 0, none⟩)) = some (.pointer (some ⟨b, 0, none⟩)) := by kernel_rfl
theorem PMid.ld0 (h : PMid σ0 σ xb N fv c x d d') : aLoad Try.prog σ 49 (.pointer (some ⟨xb, 0, none⟩)) = some (fv) := load1 Try.underlying49 rfl (cells_at h.get rfl (by simp))
theorem fld58_1 {b : Nat} : aField Try.prog 58 1 (.pointer (some ⟨b, 0, none⟩)) = some (.pointer (some ⟨b, 1, none⟩)) := by kernel_rfl
theorem PMid.ld1 (h : PMid σ0 σ xb N fv c x d d') : aLoad Try.prog σ 3 (.pointer (some ⟨xb, 1, none⟩)) = some (.int .i64 (N : Int)) := load1 Try.underlying3 rfl (cells_at h.get rfl (by simp))
theorem fld58_2 {b : Nat} : aField Try.prog 58 2 (.pointer (some ⟨b, 0, none⟩)) = some (.pointer (some ⟨b, 2, none⟩)) := by kernel_rfl
theorem PMid.ld2 (h : PMid σ0 σ xb N fv c x d d') : aLoad Try.prog σ 3 (.pointer (some ⟨xb, 2, none⟩)) = some (.int .i64 (c : Int)) := load1 Try.underlying3 rfl (cells_at h.get rfl (by simp))
theorem fld58_3 {b : Nat} : aField Try.prog 58 3 (.pointer (some ⟨b, 0, none⟩)) = some (.pointer (some ⟨b, 3, none⟩)) := by kernel_rfl
theorem PMid.ld3 (h : PMid σ0 σ xb N fv c x d d') : aLoad Try.prog σ 55 (.pointer (some ⟨xb, 3, none⟩)) = some (d.om) := load1 Try.underlying55 rfl (cells_at h.get rfl (by simp))
theorem fld58_4 {b : Nat} : aField Try.prog 58 4 (.pointer (some ⟨b, 0, none⟩)) = some (.pointer (some ⟨b, 4, none⟩)) := by kernel_rfl
theorem PMid.ld4 (h : PMid σ0 σ xb N fv c x d d') : aLoad Try.prog σ 55 (.pointer (some ⟨xb, 4, none⟩)) = some (d.im) := load1 Try.underlying55 rfl (cells_at h.get rfl (by simp))
theorem fld58_5 {b : Nat} : aField Try.prog 58 5 (.pointer (some ⟨b, 0, none⟩)) = some (.pointer (some ⟨b, 5, none⟩)) := by kernel_rfl
theorem PMid.ld5 (h : PMid σ0 σ xb N fv c x d d') : aLoad Try.prog σ 56 (.pointer (some ⟨xb, 5, none⟩)) = some (d.pm) := load1 Try.underlying56 rfl (cells_at h.get rfl (by simp))
theorem fld58_6 {b : Nat} : aField Try.prog 58 6 (.pointer (some ⟨b, 0, none⟩)) = some (.pointer (some ⟨b, 6, none⟩)) := by kernel_rfl
theorem PMid.ld6 (h : PMid σ0 σ xb N fv c x d d') : aLoad Try.prog σ 51 (.pointer (some ⟨xb, 6, none⟩)) = some (d.pv) := load1 Try.underlying51 rfl (cells_at h.get rfl (by simp))
theorem fld58_7 {b : Nat} : aField Try.prog 58 7 (.pointer (some ⟨b, 0, none⟩)) = some (.pointer (some ⟨b, 7, none⟩)) := by kernel_rfl
theorem PMid.ld7 (h : PMid σ0 σ xb N fv c x d d') : aLoad Try.prog σ 51 (.pointer (some ⟨xb, 7, none⟩)) = some (d.nv) := load1 Try.underlying51 rfl (cells_at h.get rfl (by simp))
theorem fld58_8 {b : Nat} : aField Try.prog 58 8 (.pointer (some ⟨b, 0, none⟩)) = some (.pointer (some ⟨b, 8, none⟩)) := by kernel_rfl
theorem PMid.ld8 (h : PMid σ0 σ xb N fv c x d d') : aLoad Try.prog σ 51 (.pointer (some ⟨xb, 8, none⟩)) = some (d.sv) := load1 Try.underlying51 rfl (cells_at h.get rfl (by simp))
theorem fld58_9 {b : Nat} : aField Try.prog 58 9 (.pointer (some ⟨b, 0, none⟩)) = some (.pointer (some ⟨b, 9, none⟩)) := by kernel_rfl
theorem PMid.ld9 (h : PMid σ0 σ xb N fv c x d d') : aLoad Try.prog σ 51 (.pointer (some ⟨xb, 9, none⟩)) = some (d.lv) := load1 Try.underlying51 rfl (cells_at h.get rfl (by simp))

theorem store58 {t i : Nat} {v : Value} {vals : List Value} (h : σ.get xb = ⟨1, 58, 0, vals, []⟩) (hi : i < vals.length) (hv : (∃ a n c, v = .slice a n c) ∨ ∃ k, v = .int .i64 k) (ht : ∃ inf, Try.prog.info? t = some inf ∧ inf.size = 1) :
    aStore Try.prog σ t v (.pointer (some ⟨xb, i, none⟩)) = some (σ.put xb ⟨1, 58, 0, vals.set i v, []⟩) := by
  obtain ⟨inf, hi2, hs⟩ := ht
  have hz : Nat.beq v.cells.size 1 = true ∧ v.cells.toList = [v] ∧ one v = true := by
    rcases hv with ⟨a, n, c, rfl⟩ | ⟨f, rfl⟩ <;> exact ⟨rfl, rfl, rfl⟩
  unfold aStore
  simp only [hi2, hs, hz.1, if_true, hz.2.1]
  unfold aWrite
  simp only [h, hasLen_eq, List.length_cons, List.length_nil, Nat.zero_add, List.all_cons, List.all_nil, hz.2.2]
  rw [ble_t (show i + 1 ≤ vals.length by omega), lsplice_cons, lsplice_nil]
  rfl
theorem sz51 : ∃ inf, Try.prog.info? 51 = some inf ∧ inf.size = 1 := ⟨(Try.prog.info? 51).get!, by kernel_rfl, by kernel_rfl⟩
theorem sz3 : ∃ inf, Try.prog.info? 3 = some inf ∧ inf.size = 1 := ⟨(Try.prog.info? 3).get!, by kernel_rfl, by kernel_rfl⟩
theorem PMid.st6 {v' : Value} (h : PMid σ0 σ xb N fv c x d { d with pv := v' }) (hv : ∃ a n c, v' = .slice a n c) :
    aStore Try.prog σ 51 v' (.pointer (some ⟨xb, 6, none⟩)) = some (σ.put xb (pblk fv N c { d with pv := v' })) := store58 h.get (by simp) (.inl hv) sz51
theorem PMid.st7 {v' : Value} (h : PMid σ0 σ xb N fv c x d { d with nv := v' }) (hv : ∃ a n c, v' = .slice a n c) :
    aStore Try.prog σ 51 v' (.pointer (some ⟨xb, 7, none⟩)) = some (σ.put xb (pblk fv N c { d with nv := v' })) := store58 h.get (by simp) (.inl hv) sz51
theorem PMid.st8 {v' : Value} (h : PMid σ0 σ xb N fv c x d { d with sv := v' }) (hv : ∃ a n c, v' = .slice a n c) :
    aStore Try.prog σ 51 v' (.pointer (some ⟨xb, 8, none⟩)) = some (σ.put xb (pblk fv N c { d with sv := v' })) := store58 h.get (by simp) (.inl hv) sz51
theorem PMid.st9 {v' : Value} (h : PMid σ0 σ xb N fv c x d { d with lv := v' }) (hv : ∃ a n c, v' = .slice a n c) :
    aStore Try.prog σ 51 v' (.pointer (some ⟨xb, 9, none⟩)) = some (σ.put xb (pblk fv N c { d with lv := v' })) := store58 h.get (by simp) (.inl hv) sz51
theorem PMid.st2 (h : PMid σ0 σ xb N fv c x d d') (c' : Nat) : aStore Try.prog σ 3 (.int .i64 (c' : Int)) (.pointer (some ⟨xb, 2, none⟩)) = some (σ.put xb (pblk fv N c' d)) := store58 h.get (by simp) (.inr ⟨_, rfl⟩) sz3
theorem PMid.count (h : PMid σ0 σ xb N fv c x d d) (c' : Nat) : PMid σ0 (σ.put xb (pblk fv N c' d)) xb N fv c' x d d := h.c.put c'

theorem PRepC.setPath (h : PRepC σ0 σ xb N x d) {v' : Value} {p : List Arc} (hc : Chg σ0 σ s d.pv v') (hs : Stk σ0.next 53 2 s v' p.length (cellsOf p)) (hl : x.stem = [] ∧ x.loop = []) (hd : d.sv = .slice none 0 0 ∧ d.lv = .slice none 0 0) : PRepC σ0 s xb N { x with path := p } { d with pv := v' } := by
  have own : ∀ i, Own d.pv i → σ0.next ≤ i ∧ (σ.get i).kind = 2 := fun i hi => ⟨(h.path.own hi).1, (h.path.own hi).2.2.1⟩
  have ne : ∀ {i : Nat}, (σ.get i).kind ≠ 2 → ¬ Own d.pv i := fun h1 h2 => h1 (own _ h2).2
  have nil : ∀ {v : Value} {l : List Arc}, v = .slice none 0 0 → l = [] → Stk σ0.next 53 2 s v l.length (cellsOf l) := fun h1 h2 => by rw [h1, h2]; exact ⟨rfl, rfl, .inl ⟨rfl, rfl⟩⟩
  refine ⟨hc.ext h.ext fun i hi => (own i hi).1, h.lo, by have := h.lt; have := hc.nxt; omega, ?_, ?_, h.ol, h.il, h.outer.keep hc.nxt fun i ho hi => hc.get i hi (ne (by rw [(h.outer.own ho).2.2]; decide)), h.inner.keep hc.nxt fun i ho hi => hc.get i hi (ne (by rw [(h.inner.own ho).2.2]; decide)), h.place.keep hc.nxt fun i ho hi => hc.get i hi (ne (by rw [(h.place.own ho).2.2]; decide)), h.oi, h.op, h.ip, hs, h.inside.keep hc.nxt (fun i ho hi => hc.get i hi (fun h2 => h.ps i h2 ho)), fun i hi ho => by rcases hc.own i hi with h2 | h2; exact h.ps i h2 ho; have := (h.inside.own ho).2.1; omega, nil hd.1 hl.1, nil hd.2 hl.2⟩
  · rw [hc.get xb h.lt (ne (by rw [h.kd]; decide))]; exact h.el
  · rw [hc.get xb h.lt (ne (by rw [h.kd]; decide))]; exact h.kd

theorem PRepC.setInside (h : PRepC σ0 σ xb N x d) {v' : Value} {p : List Arc} (hc : Chg σ0 σ s d.nv v') (hs : Stk σ0.next 53 2 s v' p.length (cellsOf p)) (hl : x.stem = [] ∧ x.loop = []) (hd : d.sv = .slice none 0 0 ∧ d.lv = .slice none 0 0) : PRepC σ0 s xb N { x with inside := p } { d with nv := v' } := by
  have own : ∀ i, Own d.nv i → σ0.next ≤ i ∧ (σ.get i).kind = 2 := fun i hi => ⟨(h.inside.own hi).1, (h.inside.own hi).2.2.1⟩
  have ne : ∀ {i : Nat}, (σ.get i).kind ≠ 2 → ¬ Own d.nv i := fun h1 h2 => h1 (own _ h2).2
  have nil : ∀ {v : Value} {l : List Arc}, v = .slice none 0 0 → l = [] → Stk σ0.next 53 2 s v l.length (cellsOf l) := fun h1 h2 => by rw [h1, h2]; exact ⟨rfl, rfl, .inl ⟨rfl, rfl⟩⟩
  refine ⟨hc.ext h.ext fun i hi => (own i hi).1, h.lo, by have := h.lt; have := hc.nxt; omega, ?_, ?_, h.ol, h.il, h.outer.keep hc.nxt fun i ho hi => hc.get i hi (ne (by rw [(h.outer.own ho).2.2]; decide)), h.inner.keep hc.nxt fun i ho hi => hc.get i hi (ne (by rw [(h.inner.own ho).2.2]; decide)), h.place.keep hc.nxt fun i ho hi => hc.get i hi (ne (by rw [(h.place.own ho).2.2]; decide)), h.oi, h.op, h.ip, h.path.keep hc.nxt (fun i ho hi => hc.get i hi (fun h2 => h.ps i ho h2)), hs, fun i hi ho => by rcases hc.own i ho with h2 | h2; exact h.ps i hi h2; have := (h.path.own hi).2.1; omega, nil hd.1 hl.1, nil hd.2 hl.2⟩
  · rw [hc.get xb h.lt (ne (by rw [h.kd]; decide))]; exact h.el
  · rw [hc.get xb h.lt (ne (by rw [h.kd]; decide))]; exact h.kd

end
end Go.Proofs.Ytbknckiapcafdaa.Nest
