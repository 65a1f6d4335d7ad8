/- Operations that change one block and read few: what they do in memories that agree there. -/
import Derived.Test.YtacpdefmnijhnaaGreatAbsJ
set_option linter.unusedSimpArgs false
set_option linter.unusedVariables false
namespace Go.Proofs.YtacpdefmnijhnaaGreat.Abs

structure Agree (F : List Nat) (σ S : AS) : Prop where
  next : S.next = σ.next
  low : S.low = σ.low
  get : ∀ x ∈ F, S.get x = σ.get x

/-- s1 comes from σ as S1 comes from S: by the same changes, in the first of F and beyond. -/
structure Moves (F : List Nat) (σ s1 S S1 : AS) : Prop where
  next : S1.next = s1.next
  low : S1.low = s1.low
  foot : ∀ x ∈ F, S1.get x = s1.get x
  made : ∀ x, σ.next ≤ x → x < s1.next → S1.get x = s1.get x
  rest : ∀ x, x ∉ F.take 1 → x < σ.next → s1.get x = σ.get x ∧ S1.get x = S.get x

section
variable {P : Program} {G : Nat} {callf : FuncId → List Value → AS → Option (Value × AS)} {F : List Nat} {σ s1 S : AS} {r : Regs}

theorem Moves.refl (h : Agree F σ S) : Moves F σ σ S S := ⟨h.next, h.low, h.get, fun x h1 h2 => by omega, fun _ _ _ => ⟨rfl, rfl⟩⟩

theorem head_mem {F : List Nat} {i : Nat} (hi : F.head? = some i) : i ∈ F ∧ i ∈ F.take 1 := by
  cases F with
  | nil => cases hi
  | cons a l => cases hi; simp

theorem Moves.put (h : Agree F σ S) {i : Nat} (hi : F.head? = some i) (b : Blk) : Moves F σ (σ.put i b) S (S.put i b) where
  next := h.next
  low := by show Nat.min S.low i = Nat.min σ.low i; rw [h.low]
  foot x hx := by rw [AS.get_put, AS.get_put, h.get x hx]
  made x h1 h2 := by have : (σ.put i b).next = σ.next := rfl; omega
  rest x hx hlt := by
    have hne : ¬ i = x := fun e => hx (e ▸ (head_mem hi).2)
    rw [AS.get_put, AS.get_put, if_neg hne, if_neg hne]
    exact ⟨rfl, rfl⟩

theorem Moves.new (h : Agree F σ S) (b : Blk) : Moves F σ (σ.new b) S (S.new b) where
  next := by show S.next + 1 = σ.next + 1; rw [h.next]
  low := h.low
  foot x hx := by rw [AS.get_new, AS.get_new, h.get x hx, h.next]
  made x h1 h2 := by
    have : (σ.new b).next = σ.next + 1 := rfl
    have hx : σ.next = x := by omega
    rw [AS.get_new, AS.get_new, h.next, if_pos hx, if_pos hx]
  rest x hx hlt := by
    rw [AS.get_new, AS.get_new, h.next, if_neg (by omega), if_neg (by omega)]
    exact ⟨rfl, rfl⟩

theorem Moves.putNew (h : Agree F σ S) {i : Nat} (hi : F.head? = some i) (d b : Blk) : Moves F σ ((σ.put i d).new b) S ((S.put i d).new b) where
  next := by show S.next + 1 = σ.next + 1; rw [h.next]
  low := by show Nat.min S.low i = Nat.min σ.low i; rw [h.low]
  foot x hx := by
    rw [AS.get_new, AS.get_new, AS.get_put, AS.get_put, h.get x hx]
    have e1 : (S.put i d).next = S.next := rfl
    have e2 : (σ.put i d).next = σ.next := rfl
    rw [e1, e2, h.next]
  made x h1 h2 := by
    have : ((σ.put i d).new b).next = σ.next + 1 := rfl
    have hx : σ.next = x := by omega
    have e1 : (S.put i d).next = S.next := rfl
    have e2 : (σ.put i d).next = σ.next := rfl
    rw [AS.get_new, AS.get_new, e1, e2, h.next, if_pos hx, if_pos hx]
  rest x hx hlt := by
    have hne : ¬ i = x := fun e => hx (e ▸ (head_mem hi).2)
    have e1 : (S.put i d).next = S.next := rfl
    have e2 : (σ.put i d).next = σ.next := rfl
    rw [AS.get_new, AS.get_new, e1, e2, h.next, if_neg (by omega), if_neg (by omega), AS.get_put, AS.get_put, if_neg hne, if_neg hne]
    exact ⟨rfl, rfl⟩

theorem aCells_agree (h : Agree F σ S) {a : Addr} (ha : a.block ∈ F) (n : Nat) : aCells S a n = aCells σ a n := by
  unfold aCells; rw [h.get _ ha]

theorem aCellsS_agree (h : Agree F σ S) {a : Addr} (ha : a.block ∈ F) (n : Nat) : aCellsS S a n = aCellsS σ a n := by
  unfold aCellsS; rw [aCells_agree h ha]

theorem aWrite_agree (h : Agree F σ S) {a : Addr} (ha : F.head? = some a.block) {cs : List Value} (hw : aWrite σ a cs = some s1) : ∃ S1, aWrite S a cs = some S1 ∧ Moves F σ s1 S S1 := by
  unfold aWrite at hw ⊢
  rw [h.get _ (head_mem ha).1]
  split at hw
  · rename_i hc
    rw [if_pos hc]
    cases cs with
    | nil => cases hw; exact ⟨_, rfl, Moves.refl h⟩
    | cons c0 cs0 =>
    cases hw
    exact ⟨_, rfl, Moves.put h ha _⟩
  · cases hw

theorem aWriteS_agree (h : Agree F σ S) {a : Addr} (ha : F.head? = some a.block) {cs : List Value} (hw : aWriteS σ a cs = some s1) : ∃ S1, aWriteS S a cs = some S1 ∧ Moves F σ s1 S S1 := by
  unfold aWriteS at hw ⊢
  split at hw
  · exact aWrite_agree h ha hw
  · cases cs with
    | nil => cases hw; exact ⟨_, rfl, Moves.refl h⟩
    | cons => cases hw

theorem aStore_agree {t : TypeId} {x p : Value} (h : Agree F σ S) (hp : ∀ a, p = .pointer (some a) → F.head? = some a.block) (hs : aStore P σ t x p = some s1) :
    ∃ S1, aStore P S t x p = some S1 ∧ Moves F σ s1 S S1 := by
  unfold aStore at hs ⊢
  split at hs
  · rename_i a
    split at hs
    · cases hs
    · rename_i i hi
      split at hs
      · rename_i hc
        rw [if_pos hc]
        exact aWrite_agree h (hp a rfl) hs
      · cases hs
  · cases hs

theorem aSource_agree (h : Agree F σ S) {zeros : Bool} {inf : TypeInfo} {x : Value} (hx : ∀ a n c, x = .slice (some a) n c → a.block ∈ F) : aSource P S zeros inf x = aSource P σ zeros inf x := by
  unfold aSource
  cases zeros with
  | true => rfl
  | false =>
    cases x with
    | slice b n c =>
      cases b with
      | none => rfl
      | some a => simp only [aCellsS_agree h (hx a n c rfl)]
    | chan r => cases r <;> rfl
    | _ => rfl

theorem aFirst_agree (h : Agree F σ S) {size n : Nat} {b : Option Addr} (hb : ∀ a, b = some a → a.block ∈ F) : aFirst S size n b = aFirst σ size n b := by
  cases b with
  | none => rfl
  | some a => exact aCellsS_agree h (hb a rfl) _

theorem aAppend_agree {at_ : Array TypeId} {s x v : Value} (h : Agree F σ S) (hs : ∀ a n c, s = .slice (some a) n c → F.head? = some a.block) (hx : ∀ a n c, x = .slice (some a) n c → a.block ∈ F)
    (ha : aAppend P σ at_ s x = some (v, s1)) : ∃ S1, aAppend P S at_ s x = some (v, S1) ∧ Moves F σ s1 S S1 := by
  unfold aAppend at ha ⊢
  split at ha
  · rename_i st xt base sLen sCap h0 h1
    split at ha
    · rename_i elem xd hst hxt
      split at ha
      · rename_i inf hi
        split at ha
        · rename_i z hz
          split at ha
          · cases ha
          · rename_i hchk
            split at ha
            · rename_i n new hsrc
              simp only [h0, h1, hst, hxt, hi, hz, aSource_agree h hx, if_neg hchk, hsrc]
              dsimp only at ha
              split at ha
              · cases ha
              · rename_i hchk2
                rw [if_neg hchk2]
                split at ha
                · rename_i hop
                  rw [if_pos hop]
                  split at ha
                  · rename_i a
                    have hF := hs a sLen sCap rfl
                    rw [h.get _ (head_mem hF).1]
                    split at ha
                    · cases ha
                    · rename_i hk
                      rw [if_neg hk]
                      split at ha
                      · rename_i hn
                        rw [if_pos hn]
                        split at ha
                        · rename_i σ1 hw
                          cases ha
                          obtain ⟨S1, e1, e2⟩ := aWrite_agree (F := F) (a := { a with off := a.off + sLen * inf.size }) h hF hw
                          rw [e1]
                          exact ⟨S1, rfl, e2⟩
                        · cases ha
                      · rename_i hn
                        rw [if_neg hn]
                        split at ha
                        · rename_i hc
                          rw [if_pos hc, h.next]
                          cases ha
                          exact ⟨_, rfl, Moves.putNew h hF _ _⟩
                        · cases ha
                  · cases ha
                · rename_i hop
                  rw [if_neg hop]
                  split at ha
                  · rename_i hn
                    rw [if_pos hn]
                    split at ha
                    · rename_i a
                      have hF := hs a sLen sCap rfl
                      split at ha
                      · rename_i σ1 hw
                        cases ha
                        obtain ⟨S1, e1, e2⟩ := aWriteS_agree (F := F) (a := { a with off := a.off + sLen * inf.size }) h hF hw
                        rw [e1]
                        exact ⟨S1, rfl, e2⟩
                      · cases ha
                    · split at ha
                      · rename_i hn0
                        cases ha
                        rw [if_pos hn0]
                        exact ⟨S, rfl, Moves.refl h⟩
                      · cases ha
                  · rename_i hn
                    rw [if_neg hn, aFirst_agree h fun a e => (head_mem (hs a sLen sCap (by rw [e]))).1]
                    split at ha
                    · rename_i old hold
                      try rw [hold]
                      try dsimp only
                      split at ha
                      · rename_i hl
                        rw [if_pos hl, h.next]
                        cases ha
                        exact ⟨_, rfl, Moves.new h _⟩
                      · cases ha
                    · cases ha
            · cases ha
        · cases ha
      · cases ha
    · cases ha
  · cases ha

/-- The blocks that a value names at once. -/
noncomputable def fpV : Value → List Nat
  | .pointer (some a) => [a.block]
  | .slice (some a) _ _ => [a.block]
  | .map (some r) => [r]
  | _ => []

theorem fpV_ptr {p : Value} {a : Addr} (e : p = .pointer (some a)) : fpV p = [a.block] := by rw [e]; rfl
theorem fpV_slice {p : Value} {a : Addr} {n c : Nat} (e : p = .slice (some a) n c) : fpV p = [a.block] := by rw [e]; rfl
theorem fpV_map {p : Value} {r : Nat} (e : p = .map (some r)) : fpV p = [r] := by rw [e]; rfl

theorem aLoad_agree {t : TypeId} {p : Value} (h : Agree F σ S) (hp : ∀ x ∈ fpV p, x ∈ F) : aLoad P S t p = aLoad P σ t p := by
  unfold aLoad
  split
  · rename_i a
    have ha : a.block ∈ F := hp _ (by simp [fpV])
    simp only [aCells_agree h ha]
  · rfl

theorem aEnts_agree {m : Value} (h : Agree F σ S) (hp : ∀ x ∈ fpV m, x ∈ F) : aEnts S m = aEnts σ m := by
  unfold aEnts
  split
  · rfl
  · rename_i b
    rw [h.get _ (hp _ (by simp [fpV]))]
  · rfl

theorem aLookup_agree {t : TypeId} {m k : Value} {ok : Bool} (h : Agree F σ S) (hp : ∀ x ∈ fpV m, x ∈ F) : aLookup P S t m k ok = aLookup P σ t m k ok := by
  unfold aLookup
  simp only [aEnts_agree h hp]

theorem aLen_agree {t : TypeId} {x : Value} (h : Agree F σ S) (hp : ∀ i ∈ fpV x, i ∈ F) : aLen P S t x = aLen P σ t x := by
  unfold aLen
  split <;> try rfl
  rename_i b _
  rw [h.get _ (hp _ (by simp [fpV]))]

theorem aSlice_agree {t : TypeId} {x : Value} {lo hi mx : Option Value} (h : Agree F σ S) (hp : ∀ i ∈ fpV x, i ∈ F) : aSlice P S t x lo hi mx = aSlice P σ t x lo hi mx := by
  unfold aSlice
  split <;> try rfl
  rename_i elem base len cap hu
  cases P.info? elem with
  | none => rfl
  | some inf =>
    dsimp only
    cases base with
    | none => rfl
    | some a =>
      have ha : a.block ∈ F := hp _ (by simp [fpV])
      dsimp only
      rw [h.get _ ha]

theorem aBytes_agree {x : Value} (h : Agree F σ S) (hp : ∀ i ∈ fpV x, i ∈ F) : aBytes S x = aBytes σ x := by
  unfold aBytes
  split
  · rename_i a n c
    rw [aCellsS_agree h (hp _ (by simp [fpV]))]
  · rfl

theorem aUpdate_agree {t : TypeId} {m k v : Value} (h : Agree F σ S) (hp : ∀ b, m = .map (some b) → F.head? = some b) (hu : aUpdate P σ t m k v = some s1) :
    ∃ S1, aUpdate P S t m k v = some S1 ∧ Moves F σ s1 S S1 := by
  unfold aUpdate at hu ⊢
  split at hu
  · rename_i key elem b ht
    have hb := hp b rfl
    rw [h.get _ (head_mem hb).1]
    split at hu
    · rename_i d hd
      split at hu
      · rename_i hk
        try simp only [ht, hd]
        rw [if_pos hk]
        split at hu
        · rename_i i u hf
          cases hu
          exact ⟨_, rfl, Moves.put h hb _⟩
        · rename_i hf
          cases hu
          exact ⟨_, rfl, Moves.put h hb _⟩
        · cases hu
      · cases hu
    · cases hu
  · cases hu

theorem aEntry_agree {t : TypeId} {m k v : Value} (h : Agree F σ S) (hp : ∀ b, m = .map (some b) → F.head? = some b) (hu : aEntry P σ t m k = some (v, s1)) :
    ∃ S1, aEntry P S t m k = some (v, S1) ∧ Moves F σ s1 S S1 := by
  unfold aEntry at hu ⊢
  split at hu
  · rename_i key elem b ht
    have hb := hp b rfl
    rw [h.get _ (head_mem hb).1]
    split at hu
    · rename_i d hd
      split at hu
      · rename_i hk
        try simp only [ht, hd]
        rw [if_pos hk]
        split at hu
        · rename_i i u hf
          split at hu
          · rename_i s hs
            split at hu
            · rename_i e he
              cases hu
              try simp only [hs, he]
              exact ⟨_, rfl, Moves.put h hb _⟩
            · cases hu
          · cases hu
        · rename_i hf
          split at hu
          · rename_i inf hi
            split at hu
            · rename_i z hz
              split at hu
              · rename_i hfl
                cases hu
                simp only [hi, hz, hfl, if_true]
                exact ⟨_, rfl, Moves.put h hb _⟩
              · cases hu
            · cases hu
          · cases hu
        · cases hu
      · cases hu
    · cases hu
  · cases hu

theorem aEntryStore_agree {m s v : Value} (h : Agree F σ S) (hp : ∀ b, m = .map (some b) → F.head? = some b) (hu : aEntryStore σ m s v = some s1) :
    ∃ S1, aEntryStore S m s v = some S1 ∧ Moves F σ s1 S S1 := by
  unfold aEntryStore at hu ⊢
  split at hu
  · rename_i b _ z
    have hb := hp b rfl
    dsimp only
    rw [h.get _ (head_mem hb).1]
    split at hu
    · rename_i hk
      rw [if_pos hk]
      split at hu
      · rename_i i hi
        split at hu
        · rename_i e he
          cases hu
          try simp only [hi, he]
          exact ⟨_, rfl, Moves.put h hb _⟩
        · cases hu
      · cases hu
    · cases hu
  · cases hu

theorem aDelete_agree {t : TypeId} {m k : Value} (h : Agree F σ S) (hp : ∀ b, m = .map (some b) → F.head? = some b) (hu : aDelete P σ t m k = some s1) :
    ∃ S1, aDelete P S t m k = some S1 ∧ Moves F σ s1 S S1 := by
  unfold aDelete at hu ⊢
  split at hu
  · rename_i key elem b ht
    have hb := hp b rfl
    rw [h.get _ (head_mem hb).1]
    split at hu
    · rename_i d hd
      split at hu
      · rename_i hk
        try simp only [ht, hd]
        rw [if_pos hk]
        split at hu
        · rename_i i u hf
          cases hu
          exact ⟨_, rfl, Moves.put h hb _⟩
        · rename_i hf
          cases hu
          exact ⟨_, rfl, Moves.refl h⟩
        · cases hu
      · cases hu
    · cases hu
  · rename_i key elem ht
    split at hu
    · rename_i d hd
      split at hu
      · rename_i hk
        cases hu
        try simp only [ht, hd]
        rw [if_pos hk]
        exact ⟨_, rfl, Moves.refl h⟩
      · cases hu
    · cases hu
  · cases hu

theorem aClear_agree {t : TypeId} {x : Value} (h : Agree F σ S) (hp : ∀ a n c, x = .slice (some a) n c → F.head? = some a.block) (hu : aClear P σ t x = some s1) :
    ∃ S1, aClear P S t x = some S1 ∧ Moves F σ s1 S S1 := by
  unfold aClear at hu ⊢
  split at hu
  · rename_i ht
    cases hu
    exact ⟨_, rfl, Moves.refl h⟩
  · rename_i elem a n c ht
    split at hu
    · rename_i hn
      cases hu
      rw [if_pos hn]
      exact ⟨_, rfl, Moves.refl h⟩
    · rename_i hn
      rw [if_neg hn]
      split at hu
      · rename_i inf hi
        split at hu
        · rename_i z hz
          split at hu
          · rename_i hf
            try simp only [hi, hz]
            rw [if_pos hf]
            exact aWrite_agree h (hp a n c rfl) hu
          · cases hu
        · cases hu
      · cases hu
  · cases hu

/-- The end of a copy. -/
theorem aCopyEnd_agree {base : Option Addr} {v : Value} {n : Nat} {cs : List Value} (h : Agree F σ S) (hs : ∀ a, base = some a → F.head? = some a.block)
    (hc : (match (generalizing := false) base with
      | some a => match aWriteS σ a cs with
        | some σ' => some (goInt n, σ')
        | none => none
      | none => some (goInt n, σ) : Option (Value × AS)) = some (v, s1)) : ∃ S1, (match (generalizing := false) base with
      | some a => match aWriteS S a cs with
        | some σ' => some (goInt n, σ')
        | none => none
      | none => some (goInt n, S) : Option (Value × AS)) = some (v, S1) ∧ Moves F σ s1 S S1 := by
  cases base with
  | none => cases hc; exact ⟨S, rfl, Moves.refl h⟩
  | some a =>
    dsimp only at hc ⊢
    cases hw : aWriteS σ a cs with
    | none => rw [hw] at hc; cases hc
    | some σ1 =>
      rw [hw] at hc
      cases hc
      obtain ⟨S1, e1, e2⟩ := aWriteS_agree h (hs a rfl) hw
      exact ⟨S1, by rw [e1], e2⟩

theorem aCopyM_agree {at_ : Array TypeId} {s x v : Value} (h : Agree F σ S) (hs : ∀ a n c, s = .slice (some a) n c → F.head? = some a.block) (hx : ∀ a n c, x = .slice (some a) n c → a.block ∈ F)
    (hc : aCopyM P σ at_ s x = some (v, s1)) : ∃ S1, aCopyM P S at_ s x = some (v, S1) ∧ Moves F σ s1 S S1 := by
  unfold aCopyM at hc ⊢
  cases h0 : at_[0]? with
  | none => rw [h0] at hc; cases hc
  | some dt =>
    rw [h0] at hc
    cases s <;> try (cases hc; done)
    rename_i base dLen dc
    have hs' : ∀ a, base = some a → F.head? = some a.block := fun a e => hs a dLen dc (by rw [e])
    dsimp only at hc ⊢
    cases hd : P.underlying dt with
    | none => rw [hd] at hc; cases hc
    | some d =>
      rw [hd] at hc
      cases d <;> try (cases hc; done)
      rename_i elem
      dsimp only at hc ⊢
      cases hi : P.info? elem with
      | none => rw [hi] at hc; cases hc
      | some inf =>
        rw [hi] at hc
        dsimp only at hc ⊢
        cases x <;> try (cases hc; done)
        case string str =>
          dsimp only at hc ⊢
          split at hc
          · rename_i hsz
            try rw [if_pos hsz]
            exact aCopyEnd_agree h hs' hc
          · cases hc
        case slice b m c =>
          cases b with
          | none => exact aCopyEnd_agree h hs' hc
          | some a =>
            dsimp only at hc ⊢
            rw [aCellsS_agree h (hx a m c rfl)]
            cases hcs : aCellsS σ a (Nat.min m dLen * inf.size) with
            | none => rw [hcs] at hc; cases hc
            | some cs => rw [hcs] at hc; exact aCopyEnd_agree h hs' hc

theorem aCopy_agree {at_ : Array TypeId} {s x v : Value} (h : Agree F σ S) (hs : ∀ a n c, s = .slice (some a) n c → F.head? = some a.block) (hx : ∀ a n c, x = .slice (some a) n c → a.block ∈ F)
    (hc : aCopy P σ at_ s x = some (v, s1)) : ∃ S1, aCopy P S at_ s x = some (v, S1) ∧ Moves F σ s1 S S1 := by
  unfold aCopy at hc ⊢
  split at hc
  · rename_i hv
    rw [if_pos hv]
    split at hc
    · split at hc
      · split at hc
        · cases hc; exact ⟨S, by simp only [*], Moves.refl h⟩
        · cases hc
      · cases hc
    · cases hc
  · rename_i hv
    rw [if_neg hv]
    exact aCopyM_agree h hs hx hc

theorem aMakeSlice_agree {t : TypeId} {l c v : Value} (h : Agree F σ S) (hm : aMakeSlice P σ t l c = some (v, s1)) : ∃ S1, aMakeSlice P S t l c = some (v, S1) ∧ Moves F σ s1 S S1 := by
  unfold aMakeSlice at hm ⊢
  split at hm
  · rename_i elem k1 l k2 c ht
    split at hm
    · rename_i inf hi
      split at hm
      · rename_i z hz
        split at hm
        · rename_i hc
          cases hm
          try simp only [hi, hz]
          rw [if_pos hc, h.next]
          exact ⟨_, rfl, Moves.new h _⟩
        · cases hm
      · cases hm
    · cases hm
  · cases hm

theorem aBuildSlice_agree {t : TypeId} {n : Nat} {ps : List (Nat × Value)} {v : Value} (h : Agree F σ S) (hm : aBuildSlice P σ t n ps = some (v, s1)) :
    ∃ S1, aBuildSlice P S t n ps = some (v, S1) ∧ Moves F σ s1 S S1 := by
  unfold aBuildSlice at hm ⊢
  split at hm
  · rename_i elem ht
    split at hm
    · rename_i inf hi
      split at hm
      · rename_i hc
        split at hm
        · rename_i zero hz
          split at hm
          · rename_i cells hf
            cases hm
            try simp only [hi]
            rw [if_pos hc]
            try simp only [hz, hf, h.next]
            exact ⟨_, rfl, Moves.new h _⟩
          · cases hm
        · cases hm
      · cases hm
    · cases hm
  · cases hm

theorem flatMap_head {x : Value} {l : List Value} {i : Nat} (hi : (fpV x).head? = some i) : ((x :: l).flatMap fpV).head? = some i := by
  rw [List.flatMap_cons]
  cases hx : fpV x with
  | nil => rw [hx] at hi; cases hi
  | cons a t => rw [hx] at hi; simpa using hi

theorem aBuiltin_agree {b : Builtin} {at_ : Array TypeId} {args : List Value} {v : Value} (h : Agree (args.flatMap fpV) σ S) (hb : aBuiltin P σ b at_ args = some (v, s1)) :
    ∃ S1, aBuiltin P S b at_ args = some (v, S1) ∧ Moves (args.flatMap fpV) σ s1 S S1 := by
  unfold aBuiltin at hb ⊢
  split at hb
  · rename_i x
    split at hb
    · rename_i t ht
      split at hb
      · rename_i u hu
        cases hb
        try simp only [ht]
        rw [aLen_agree h (fun i hi => by simpa using hi)]
        try rw [hu]
        exact ⟨S, rfl, Moves.refl h⟩
      · cases hb
    · cases hb
  · rename_i x
    split at hb
    · rename_i t ht
      split at hb
      · rename_i u hu
        cases hb
        try simp only [ht, hu]
        exact ⟨S, rfl, Moves.refl h⟩
      · cases hb
    · cases hb
  · rename_i s x
    exact aAppend_agree h (fun a n c e => flatMap_head (by rw [fpV_slice e]; rfl)) (fun a n c e => by simp [fpV_slice e]) hb
  · rename_i d s
    exact aCopy_agree h (fun a n c e => flatMap_head (by rw [fpV_slice e]; rfl)) (fun a n c e => by simp [fpV_slice e]) hb
  · rename_i m k
    split at hb
    · rename_i t ht
      split at hb
      · rename_i σ1 hd
        cases hb
        obtain ⟨S1, e1, e2⟩ := aDelete_agree h (fun b e => flatMap_head (by rw [fpV_map e]; rfl)) hd
        try simp only [ht]
        rw [e1]
        exact ⟨S1, rfl, e2⟩
      · cases hb
    · cases hb
  · rename_i x
    split at hb
    · rename_i t ht
      split at hb
      · rename_i σ1 hd
        cases hb
        obtain ⟨S1, e1, e2⟩ := aClear_agree h (fun a n c e => flatMap_head (by rw [fpV_slice e]; rfl)) hd
        try simp only [ht]
        rw [e1]
        exact ⟨S1, rfl, e2⟩
      · cases hb
    · cases hb
  · split at hb
    · rename_i u hu
      cases hb
      try simp only [hu]
      exact ⟨S, rfl, Moves.refl h⟩
    · cases hb
  · split at hb
    · rename_i u hu
      cases hb
      try simp only [hu]
      exact ⟨S, rfl, Moves.refl h⟩
    · cases hb
  · cases hb

theorem aBuiltin_len {ts : Array TypeId} {vs : List Value} {v : Value} (h : aBuiltin P σ .len ts vs = some (v, s1)) : s1 = σ ∧ ∃ x t, vs = [x] ∧ ts[0]? = some t ∧ aLen P σ t x = some v := by
  cases vs with
  | nil => cases h
  | cons x l =>
    cases l with
    | cons y l => cases h
    | nil =>
      simp only [aBuiltin] at h
      cases ht : ts[0]? with
      | none => rw [ht] at h; cases h
      | some t =>
        rw [ht] at h
        dsimp only at h
        cases hl : aLen P σ t x with
        | none => rw [hl] at h; cases h
        | some u =>
          rw [hl] at h
          cases h
          exact ⟨rfl, x, t, rfl, rfl, hl⟩

/-- The length of what is no map. -/
noncomputable def blindCall (P : Program) (c : Call) : Bool := match c.callee with
  | .builtin .len => match c.argTypes[0]? with
    | some t => match P.underlying t with
      | some (.slice _) | some .string | some (.array _ _) => true
      | _ => false
    | none => false
  | _ => false

/-- Operations that look at registers alone. -/
noncomputable def opBlind (P : Program) : Op → Bool
  | .call c => blindCall P c
  | .move _ | .assign _ | .pick .. | .nilCheck _ | .fieldAddr .. | .field .. | .indexAddr .. | .index .. | .binOp .. | .unOp .. | .extract .. | .makeInterface .. | .makeFunc .. | .build .. => true
  | .convert s d _ => !isBytes P s d
  | _ => false

noncomputable def fpO : Option Value → Option (List Nat)
  | some v => some (fpV v)
  | none => none

/-- The blocks that an operation reads or changes, where that is known: of those that lay before it changes at most the first. -/
noncomputable def fpOf (P : Program) (G : Nat) (r : Regs) (op : Op) : Option (List Nat) :=
  match op with
  | .alloc _ => some []
  | .box _ _ => some []
  | .makeMap _ _ => some []
  | .makeSlice _ _ _ => some []
  | .buildSlice _ _ _ => some []
  | .load _ a => fpO (aev G r a)
  | .lookup _ x _ _ => fpO (aev G r x)
  | .slice _ x _ _ _ => fpO (aev G r x)
  | .store _ a _ => fpO (aev G r a)
  | .mapUpdate _ m _ _ => fpO (aev G r m)
  | .insert _ m _ _ => fpO (aev G r m)
  | .mapEntry _ m _ => fpO (aev G r m)
  | .entryStore _ m _ _ => fpO (aev G r m)
  | .convert s d x => if isBytes P s d then fpO (aev G r x) else some []
  | .call c => match c.callee with
    | .builtin _ => match aevs G r c.args.toList with
      | some vs => some (vs.flatMap fpV)
      | none => none
    | _ => none
  | op => if opBlind P op then some [] else none

theorem ann_agree {o : Option Value} {v : Value} (h : Agree F σ S) (ha : ann σ o = some (v, s1)) : ∃ S1, ann S o = some (v, S1) ∧ Moves F σ s1 S S1 := by
  obtain ⟨h1, rfl⟩ := ann_some ha
  exact ⟨S, by rw [h1]; rfl, Moves.refl h⟩

theorem unn_agree {o o' : Option AS} {v : Value} (h : ∀ σ1, o = some σ1 → ∃ S1, o' = some S1 ∧ Moves F σ σ1 S S1) (ha : unn o = some (v, s1)) : ∃ S1, unn o' = some (v, S1) ∧ Moves F σ s1 S S1 := by
  obtain ⟨h1, rfl⟩ := unn_some ha
  obtain ⟨S1, e1, e2⟩ := h _ h1
  exact ⟨S1, by rw [e1]; rfl, e2⟩

theorem fpO_some {o : Option Value} {v : Value} (ho : o = some v) (hf : fpO o = some F) : F = fpV v := by
  rw [ho] at hf; exact (Option.some.inj hf).symm

theorem foot_agree {op : Op} {v : Value} (hf : fpOf P G r op = some F) (ha : aStep P G callf r σ op = some (v, s1)) (h : Agree F σ S) : ∃ S1, aStep P G callf r S op = some (v, S1) ∧ Moves F σ s1 S S1 := by
  cases op <;> simp only [fpOf, opBlind] at hf <;> (try (simp at hf; done)) <;> simp only [aStep_eq, aStepOld, aOp, opPick, opAlloc, opBox, opBuild, opBuildSlice, opLoad, opStore, opNil, opBin, opUn, opConvert, opIface, opFunc, opMakeMap, opMapR, opMakeSlice, opSlice, opFieldAddr, opField, opIndexAddr, opIndex, opLookup, opUpdate, opEntry, opEntryStore, opExtract, opCall] at ha ⊢
  case move x => exact ann_agree h ha
  case assign x => exact ann_agree h ha
  case pick c x y =>
    split at ha
    · cases ha; exact ⟨S, rfl, Moves.refl h⟩
    · cases ha
  case alloc elem =>
    split at ha
    · split at ha
      · split at ha
        · rename_i hz
          cases ha
          rw [if_pos hz, h.next]
          exact ⟨_, rfl, Moves.new h _⟩
        · cases ha
      · cases ha
    · cases ha
  case box elem x =>
    split at ha
    · cases ha
      rw [h.next]
      exact ⟨_, rfl, Moves.new h _⟩
    · cases ha
  case build t parts =>
    split at ha
    · exact ann_agree h ha
    · cases ha
  case buildSlice t n parts =>
    split at ha
    · exact aBuildSlice_agree h ha
    · cases ha
  case insert t m k x =>
    split at ha
    · rename_i u1 u2 u3 h1 h2 h3
      obtain rfl := fpO_some h1 hf
      exact unn_agree (fun σ1 hu => aUpdate_agree h (fun b e => by rw [fpV_map e]; rfl) hu) ha
    · cases ha
  case load t x =>
    split at ha
    · rename_i u hu
      obtain rfl := fpO_some hu hf
      rw [aLoad_agree h fun x hx => hx]
      exact ann_agree h ha
    · cases ha
  case store t a x =>
    split at ha
    · rename_i p u hp hu
      obtain rfl := fpO_some hp hf
      exact unn_agree (fun σ1 hs => aStore_agree h (fun a e => by rw [fpV_ptr e]; rfl) hs) ha
    · cases ha
  case nilCheck x =>
    split at ha
    · cases ha; exact ⟨S, rfl, Moves.refl h⟩
    · cases ha; exact ⟨S, rfl, Moves.refl h⟩
    · cases ha; exact ⟨S, rfl, Moves.refl h⟩
    · cases ha
  case binOp op t x y yt =>
    split at ha
    · exact ann_agree h ha
    · cases ha
  case unOp op t x =>
    split at ha
    · split at ha
      · rename_i hfl
        rw [if_pos hfl]
        exact ann_agree h ha
      · cases ha
    · cases ha
  case convert s d x =>
    split at ha
    · rename_i u hu
      split at ha
      · rename_i hfl
        rw [if_pos hfl]
        exact ann_agree h ha
      · rename_i hfl
        rw [if_neg hfl]
        split at ha
        · rename_i hb
          rw [if_pos hb] at hf ⊢
          obtain rfl := fpO_some hu hf
          rw [aBytes_agree h fun x hx => hx]
          exact ann_agree h ha
        · cases ha
    · cases ha
  case makeInterface t x =>
    split at ha
    · cases ha
    · cases ha; exact ⟨S, rfl, Moves.refl h⟩
    · cases ha
  case makeFunc fn first captured =>
    split at ha
    · cases ha; exact ⟨S, rfl, Moves.refl h⟩
    · cases ha
  case makeMap t x =>
    cases x with
    | none =>
      cases ha
      simp only [h.next]
      exact ⟨_, rfl, Moves.new h _⟩
    | some x =>
      simp only [opMapR] at ha ⊢
      split at ha
      · cases ha
        simp only [h.next]
        exact ⟨_, rfl, Moves.new h _⟩
      · cases ha
  case makeSlice t l c =>
    split at ha
    · exact aMakeSlice_agree h ha
    · cases ha
  case slice t x lo hi mx =>
    split at ha
    · rename_i u1 u2 u3 u4 h1 h2 h3 h4
      obtain rfl := fpO_some h1 hf
      rw [aSlice_agree h fun x hx => hx]
      exact ann_agree h ha
    · cases ha
  case fieldAddr s x f =>
    split at ha
    · exact ann_agree h ha
    · cases ha
  case field t x f =>
    split at ha
    · exact ann_agree h ha
    · cases ha
  case indexAddr t x ix =>
    split at ha
    · exact ann_agree h ha
    · cases ha
  case index t x ix =>
    split at ha
    · exact ann_agree h ha
    · cases ha
  case lookup t x ix ok =>
    split at ha
    · rename_i u1 u2 h1 h2
      obtain rfl := fpO_some h1 hf
      rw [aLookup_agree h fun x hx => hx]
      exact ann_agree h ha
    · cases ha
  case mapUpdate t m k x =>
    split at ha
    · rename_i u1 u2 u3 h1 h2 h3
      obtain rfl := fpO_some h1 hf
      exact unn_agree (fun σ1 hu => aUpdate_agree h (fun b e => by rw [fpV_map e]; rfl) hu) ha
    · cases ha
  case mapEntry t m k =>
    split at ha
    · rename_i u1 u2 h1 h2
      obtain rfl := fpO_some h1 hf
      exact aEntry_agree h (fun b e => by rw [fpV_map e]; rfl) ha
    · cases ha
  case entryStore t m s x =>
    split at ha
    · rename_i u1 u2 u3 h1 h2 h3
      obtain rfl := fpO_some h1 hf
      exact unn_agree (fun σ1 hu => aEntryStore_agree h (fun b e => by rw [fpV_map e]; rfl) hu) ha
    · cases ha
  case extract t ix =>
    split at ha
    · split at ha
      · cases ha; exact ⟨S, rfl, Moves.refl h⟩
      · cases ha
    · cases ha
  case call c =>
    obtain ⟨callee, args, argTypes⟩ := c
    cases callee with
    | builtin b =>
      simp only [] at ha hf ⊢
      split at ha
      · rename_i vs hvs
        rw [hvs] at hf
        obtain rfl := Option.some.inj hf
        exact aBuiltin_agree h ha
      · cases ha
    | value f => simp at hf
    | invoke x m => simp at hf

end
end Go.Proofs.YtacpdefmnijhnaaGreat.Abs
