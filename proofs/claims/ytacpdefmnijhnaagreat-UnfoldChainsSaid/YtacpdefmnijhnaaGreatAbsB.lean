/- An evaluator of the program's code over the abstract memory. Definitions alone. -/
import Derived.Test.YtacpdefmnijhnaaGreatAbsA
import Derived.IntWalk
set_option linter.unusedSimpArgs false
set_option linter.unusedVariables false
namespace Go.Proofs.YtacpdefmnijhnaaGreat.Abs

/-! ### Registers -/

abbrev Regs : Type := T Value
noncomputable def rget (r : Regs) (t : Nat) : Value := tget undef r t
noncomputable def rput (r : Regs) (t : Nat) (v : Value) : Regs := tset undef r t v

theorem rget_rput (r : Regs) (i j : Nat) (v : Value) : rget (rput r i v) j = if i = j then v else rget r j := tget_tset _ _ _ _ _

noncomputable def rinit : List Value → Nat → Regs → Regs
  | [], _, r => r
  | v :: l, i, r => rinit l (i + 1) (rput r i v)

/-! ### Operations -/

/-- What a computation answers that looks at no memory. -/
noncomputable def asPure {α : Type} (P : Program) : Sem α → Option α
  | .pure a => some a
  | .program k => asPure P (k P)
  | _ => none

noncomputable def aev (G : Nat) (r : Regs) : Operand → Option Value
  | .tmp t => some (rget r t)
  | .const v => if flat v then some v else none
  | .global g => if g < G then some (.pointer (some ⟨g, 0, none⟩)) else none
  | .func f => some (.func (.func f) #[] #[])

noncomputable def aevs (G : Nat) (r : Regs) : List Operand → Option (List Value)
  | [] => some []
  | x :: l => match aev G r x with
    | none => none
    | some v => match aevs G r l with
      | none => none
      | some vs => some (v :: vs)

noncomputable def aparts (G : Nat) (r : Regs) : List (Nat × Operand) → Option (List (Nat × Value))
  | [] => some []
  | x :: l => match aev G r x.2 with
    | none => none
    | some v => match aparts G r l with
      | none => none
      | some vs => some ((x.1, v) :: vs)

noncomputable def aopt (G : Nat) (r : Regs) : Option Operand → Option (Option Value)
  | none => some none
  | some x => match aev G r x with
    | none => none
    | some v => some (some v)

/-- In a block that is read alone, a cell that is not known is a channel's value. -/
noncomputable def known (v : Value) : Bool := match v with | .chan none => false | _ => true

noncomputable def isCells (b : Blk) : Bool := Nat.beq b.kind 1 || Nat.beq b.kind 2

/-- Whether a list has n elements, at least. -/
noncomputable def hasLen {α : Type} (l : List α) : Nat → Bool :=
  @List.rec α (fun _ => Nat → Bool) (fun n => Nat.beq n 0) (fun _ _ ih n => bite (Nat.beq n 0) true (ih (Nat.pred n))) l

theorem hasLen_eq {α : Type} : ∀ (l : List α) (n : Nat), hasLen l n = Nat.ble n l.length
  | [], 0 => rfl
  | [], _ + 1 => rfl
  | _ :: _, 0 => rfl
  | _ :: l, n + 1 => hasLen_eq l n

/-- n cells from an address on. -/
noncomputable def aCells (σ : AS) (a : Addr) (n : Nat) : Option (List Value) :=
  if isCells (σ.get a.block) && hasLen (σ.get a.block).vals (a.off + n) then some (((σ.get a.block).vals.drop a.off).take n)
  else if Nat.beq (σ.get a.block).kind 5 && hasLen (σ.get a.block).vals (a.off + n) && (((σ.get a.block).vals.drop a.off).take n).all known then some (((σ.get a.block).vals.drop a.off).take n)
  else none

noncomputable def lover {α : Type} : List α → List α → List α
  | l, [] => l
  | [], _ => []
  | _ :: l, c :: cs => c :: lover l cs
noncomputable def lsplice {α : Type} : List α → Nat → List α → List α
  | l, 0, cs => lover l cs
  | [], _, _ => []
  | a :: l, n + 1, cs => a :: lsplice l n cs

noncomputable def one (v : Value) : Bool := match v with | .agg _ | .tuple _ => false | _ => true

/-- Cells are written from an address on. -/
noncomputable def aWrite (σ : AS) (a : Addr) (cs : List Value) : Option AS :=
  if isCells (σ.get a.block) && hasLen (σ.get a.block).vals (a.off + cs.length) && cs.all one then
    some (match cs with
      | [] => σ
      | _ :: _ => σ.put a.block { σ.get a.block with vals := lsplice (σ.get a.block).vals a.off cs })
  else none

noncomputable def aisAgg : TypeDesc → Bool
  | .struct _ | .array _ _ => true
  | _ => false

noncomputable def aLoad (P : Program) (σ : AS) (t : TypeId) : Value → Option Value
  | .pointer (some a) => match P.underlying t with
    | none => none
    | some d =>
      if aisAgg d then match P.info? t with
        | none => none
        | some i => match aCells σ a i.size with
          | none => none
          | some cs => some (.agg cs.toArray)
      else match aCells σ a 1 with
        | some [v] => some v
        | _ => none
  | _ => none

noncomputable def aStore (P : Program) (σ : AS) (t : TypeId) (x : Value) : Value → Option AS
  | .pointer (some a) => match P.info? t with
    | none => none
    | some i => if Nat.beq x.cells.size i.size then aWrite σ a x.cells.toList else none
  | _ => none

noncomputable def aRow (σ : AS) (elem : TypeId) (cs : List Value) : AS := σ.new ⟨1, elem, 0, cs, []⟩

noncomputable def aField (P : Program) (s : TypeId) (f : Nat) : Value → Option Value
  | .pointer (some a) => match P.underlying s with
    | some (.struct fields) => match fields[f]? with
      | some fd => match P.info? fd.type with
        | some i => if Nat.beq i.size 0 then none else some (.pointer (some (a.add fd.offset)))
        | none => none
      | none => none
    | _ => none
  | _ => none

/-- Whether a number is an index below n; laid so that the kernel sees it where n ends in a symbol. -/
noncomputable def inR (i : Int) (n : Nat) : Bool := match i with
  | .ofNat m => Nat.blt m n
  | .negSucc _ => false

theorem inR_iff (i : Int) (n : Nat) : inR i n = true ↔ 0 ≤ i ∧ i < n := by
  cases i with
  | ofNat m =>
    show Nat.blt m n = true ↔ _
    rw [Nat.blt_eq]
    constructor
    · intro h; exact ⟨Int.natCast_nonneg m, Int.ofNat_lt.2 h⟩
    · intro h; exact Int.ofNat_lt.1 h.2
  | negSucc m =>
    constructor
    · intro h; cases h
    · intro h; have := h.1; omega

noncomputable def aIndexAddr (P : Program) (t : TypeId) (x ix : Value) : Option Value :=
  match ix with
  | .int _ i => match P.underlying t, x with
    | some (.array len elem), .pointer (some a) => match P.info? elem with
      | some inf => if 0 ≤ i ∧ i < len then some (.pointer (some (a.add (i.toNat * inf.size)))) else none
      | none => none
    | some (.slice elem), .slice (some a) len _ => match P.info? elem with
      | some inf => if inR i len = true then some (.pointer (some (a.add (i.toNat * inf.size)))) else none
      | none => none
    | _, _ => none
  | _ => none

/-- A part of a struct or an array. -/
noncomputable def aPart (P : Program) (t : TypeId) (cs : List Value) (off : Nat) : Option Value :=
  match P.underlying t with
  | none => none
  | some d =>
    if aisAgg d then match P.info? t with
      | none => none
      | some i => some (.agg ((cs.take (off + i.size)).drop off).toArray)
    else cs[off]?

noncomputable def aFieldOf (P : Program) (t : TypeId) (f : Nat) : Value → Option Value
  | .agg cs => match P.underlying t with
    | some (.struct fields) => match fields[f]? with
      | some fd => aPart P fd.type cs.toList fd.offset
      | none => none
    | _ => none
  | _ => none

noncomputable def aIndexOf (P : Program) (t : TypeId) (x ix : Value) : Option Value :=
  match ix with
  | .int _ i => match P.underlying t, x with
    | some (.array len elem), .agg cs => match P.info? elem with
      | some inf => if 0 ≤ i ∧ i < len then aPart P elem cs.toList (i.toNat * inf.size) else none
      | none => none
    | some .string, .string s => if 0 ≤ i then match s[i.toNat]? with
      | some b => some (.int .u8 b.toNat)
      | none => none
      else none
    | _, _ => none
  | _ => none

/-- The lower bound of a slice's capacity. -/
noncomputable def capLB (c : Nat) : Nat := if Nat.blt c OPENCAP then c else c - OPENCAP
noncomputable def isOpen (c : Nat) : Bool := Nat.ble OPENCAP c

noncomputable def abound (x : Value) (y : Nat) : Option Nat :=
  match x with
  | .int _ i => if 0 ≤ i ∧ i ≤ y then some i.toNat else none
  | _ => none

noncomputable def aboundO (x : Option Value) (y d : Nat) : Option Nat :=
  match x with
  | none => some d
  | some v => abound v y

/-- The slice of a slice, whose element takes size cells. -/
noncomputable def aSliceAt (size : Nat) (base : Option Addr) (len cap : Nat) (lo hi mx : Option Value) : Option Value :=
  match mx with
  | some v => match abound v (capLB cap), hi with
    | some m, some hv => match abound hv m with
      | some h => match aboundO lo h 0 with
        | some l =>
          if Nat.ble OPENCAP m then none else
          some (.slice (if Nat.beq m l then base else base.map (·.add (l * size))) (h - l) (m - l))
        | none => none
      | none => none
    | _, _ => none
  | none => match aboundO hi (capLB cap) len with
    | some h => match aboundO lo h 0 with
      | some l =>
        if isOpen cap then
          if Nat.beq l 0 then some (.slice base h cap)
          else if Nat.blt l (capLB cap) then some (.slice (base.map (·.add (l * size))) (h - l) (OPENCAP + (capLB cap - l)))
          else if Nat.beq h l then base.map fun a => .chan (some (voidCut a cap l size)) else none
        else some (.slice (if Nat.beq cap l then base else base.map (·.add (l * size))) (h - l) (cap - l))
      | none => none
    | none => none

noncomputable def aSlice (P : Program) (σ : AS) (t : TypeId) (x : Value) (lo hi mx : Option Value) : Option Value :=
  match P.underlying t, x with
  | some (.slice elem), .slice base len cap => match P.info? elem with
    | some inf =>
      if isOpen cap then match base with
        | some a => if Nat.beq (σ.get a.block).kind 2 && Nat.beq (σ.get a.block).esz inf.size then aSliceAt inf.size base len cap lo hi mx else none
        | none => none
      else match base with
        | some a => if a.spot.isSome then none else aSliceAt inf.size (some a) len cap lo hi mx
        | none => aSliceAt inf.size none len cap lo hi mx
    | none => none
  | some .string, .string s => match mx with
    | some _ => none
    | none => match aboundO hi s.size s.size with
      | some h => match aboundO lo h 0 with
        | some l => some (.string (s.extract l h))
        | none => none
      | none => none
  | some (.array n elem), .pointer (some a) => match P.info? elem with
    | some inf => if Nat.blt n OPENCAP then aSliceAt inf.size (some a) n n lo hi mx else none
    | none => none
  | _, _ => none

noncomputable def basicKey : TypeDesc → Bool
  | .bool | .int _ | .string => true
  | _ => false

/-- Where a key stands. -/
noncomputable def aFind (d : TypeDesc) (k : Value) : List (Value × Value) → Nat → Option (Option (Nat × Value))
  | [], _ => some none
  | e :: l, i => match Instr.sameNow d k e.1 with
    | some true => some (some (i, e.2))
    | some false => aFind d k l (i + 1)
    | none => none

/-- Where a key stands whose comparison is no single look. -/
noncomputable def aFindC (P : Program) (t : TypeId) (k : Value) : List (Value × Value) → Nat → Option (Option (Nat × Value))
  | [], _ => some none
  | e :: l, i => if flat e.1 then match asPure P (Op.equal t k e.1) with
      | some true => if Instr.sameBits 10000 e.1 k then some (some (i, e.2)) else none
      | some false => aFindC P t k l (i + 1)
      | none => none
    else none

noncomputable def keyOk (P : Program) (t : TypeId) (k : Value) : Bool :=
  flat k && (asPure P (Instr.checkKey true 10000 t k)).isSome && (asPure P (Instr.checkKey false 10000 t k)).isSome

noncomputable def aFindK (P : Program) (t : TypeId) (d : TypeDesc) (k : Value) (l : List (Value × Value)) : Option (Option (Nat × Value)) :=
  if basicKey d then aFind d k l 0
  else if aisAgg d && keyOk P t k then aFindC P t k l 0
  else none

noncomputable def aEnts (σ : AS) : Value → Option (List (Value × Value))
  | .map none => some []
  | .map (some r) => if Nat.beq (σ.get r).kind 3 then some (σ.get r).ents else none
  | _ => none

noncomputable def aLookup (P : Program) (σ : AS) (t : TypeId) (m k : Value) (ok : Bool) : Option Value :=
  match P.underlying t with
  | some (.map key elem) => match P.underlying key with
    | some d => match aEnts σ m with
        | some es => match aFindK P key d k es with
          | some (some (_, v)) => some (if ok then .tuple #[v, .bool true] else v)
          | some none => match P.info? elem with
            | some inf => match inf.zero with
              | some z => if flat z then some (if ok then .tuple #[z, .bool false] else z) else none
              | none => none
            | none => none
          | none => none
        | none => none
    | none => none
  | _ => none

/-- A map's block with one more entry; its numbers of birth lie in vals, the next one in esz. -/
noncomputable def grown (b : Blk) (k v : Value) : Blk := ⟨b.kind, b.elem, b.esz + 1, b.vals ++ [.int .i64 b.esz], b.ents ++ [(k, v)]⟩

noncomputable def aUpdate (P : Program) (σ : AS) (t : TypeId) (m k v : Value) : Option AS :=
  match P.underlying t, m with
  | some (.map key _), .map (some r) => match P.underlying key with
    | some d => if Nat.beq (σ.get r).kind 3 then match aFindK P key d k (σ.get r).ents with
        | some (some (i, _)) => some (σ.put r { σ.get r with ents := (σ.get r).ents.set i (k, v) })
        | some none => some (σ.put r (grown (σ.get r) k v))
        | none => none
      else none
    | none => none
  | _, _ => none

noncomputable def aDelete (P : Program) (σ : AS) (t : TypeId) (m k : Value) : Option AS :=
  match P.underlying t, m with
  | some (.map key _), .map (some r) => match P.underlying key with
    | some d => if Nat.beq (σ.get r).kind 3 then match aFindK P key d k (σ.get r).ents with
        | some (some (i, _)) => some (σ.put r { σ.get r with ents := (σ.get r).ents.eraseIdx i, vals := (σ.get r).vals.eraseIdx i })
        | some none => some σ
        | none => none
      else none
    | none => none
  | some (.map key _), .map none => match P.underlying key with
    | some d => if basicKey d then some σ else none
    | none => none
  | _, _ => none

/-- The cells of a slice. -/
noncomputable def aCellsS (σ : AS) (a : Addr) (n : Nat) : Option (List Value) := match a.spot with
  | none => aCells σ a n
  | some _ => if Nat.beq n 0 then some [] else none
theorem aCellsS_eq {σ : AS} {a : Addr} {n : Nat} (h : a.spot = none) : aCellsS σ a n = aCells σ a n := by unfold aCellsS; rw [h]
theorem aCellsS_none {σ : AS} {b off n : Nat} : aCellsS σ ⟨b, off, none⟩ n = aCells σ ⟨b, off, none⟩ n := rfl
theorem aCellsS_lit {σ : AS} {a : Addr} {n : Nat} {cs : List Value} (h : a.spot ≠ none) (hc : aCellsS σ a n = some cs) : n = 0 ∧ cs = [] := by
  unfold aCellsS at hc
  split at hc
  · rename_i e; exact absurd e h
  · split at hc
    · rename_i hn; cases hc; exact ⟨Nat.eq_of_beq_eq_true hn, rfl⟩
    · cases hc
/-- Cells of a slice are written. -/
noncomputable def aWriteS (σ : AS) (a : Addr) (cs : List Value) : Option AS := match a.spot with
  | none => aWrite σ a cs
  | some _ => match cs with | [] => some σ | _ :: _ => none
theorem aWriteS_eq {σ : AS} {a : Addr} {cs : List Value} (h : a.spot = none) : aWriteS σ a cs = aWrite σ a cs := by unfold aWriteS; rw [h]
theorem aWriteS_none {σ : AS} {b off : Nat} {cs : List Value} : aWriteS σ ⟨b, off, none⟩ cs = aWrite σ ⟨b, off, none⟩ cs := rfl
theorem aWriteS_lit {σ σ' : AS} {a : Addr} {cs : List Value} (h : a.spot ≠ none) (hc : aWriteS σ a cs = some σ') : cs = [] ∧ σ' = σ := by
  unfold aWriteS at hc
  split at hc
  · rename_i e; exact absurd e h
  · cases cs with
    | nil => cases hc; exact ⟨rfl, rfl⟩
    | cons => cases hc

noncomputable def aLen (P : Program) (σ : AS) (t : TypeId) (x : Value) : Option Value :=
  match P.underlying t, x with
  | some .string, .string s => some (goInt s.size)
  | some (.array n _), _ => some (goInt n)
  | some (.slice _), .slice _ n _ => some (goInt n)
  | some (.slice _), .chan (some _) => some (goInt 0)
  | some (.map _ _), .map none => some (goInt 0)
  | some (.map _ _), .map (some r) => if Nat.beq (σ.get r).kind 3 then some (goInt (σ.get r).ents.length) else none
  | _, _ => none

noncomputable def aCap (P : Program) (t : TypeId) (x : Value) : Option Value :=
  match P.underlying t, x with
  | some (.slice _), .slice _ _ n => if Nat.blt n OPENCAP then some (goInt n) else none
  | some (.array n _), _ => some (goInt n)
  | _, _ => none

/-- How many elements are appended, and their cells. -/
noncomputable def aSource (P : Program) (σ : AS) (zeros : Bool) (inf : TypeInfo) (x : Value) : Option (Nat × List Value) :=
  if zeros then match x, inf.zero with
    | .int _ n, some z =>
      if 0 ≤ n ∧ n ≤ 1000000 ∧ flat z then some (n.toNat, (Builtin.zeroCells z.cells n.toNat).toList) else none
    | _, _ => none
  else match x with
    | .slice none n _ => some (n, [])
    | .slice (some a) n _ => match aCellsS σ a (n * inf.size) with
      | some cs => some (n, cs)
      | none => none
    | .chan (some _) => some (0, [])
    | .string s => if Nat.beq inf.size 1 then some (s.size, s.data.toList.map fun b => .int .u8 b.toNat) else none
    | _ => none

noncomputable def aFirst (σ : AS) (size n : Nat) : Option Addr → Option (List Value)
  | none => some []
  | some a => aCellsS σ a (n * size)

noncomputable def aAppend (P : Program) (σ : AS) (argTypes : Array TypeId) (s x : Value) : Option (Value × AS) :=
  match argTypes[0]?, argTypes[1]?, s with
  | some st, some xt, .slice base sLen sCap => match P.underlying st, P.underlying xt with
    | some (.slice elem), some xd => match P.info? elem with
      | some inf => match inf.zero with
        | some z =>
          if Nat.beq inf.size 0 || !Nat.beq z.cells.size inf.size || !flat z then none else
          match aSource P σ (match xd with | .int _ => true | _ => false) inf x with
          | some (n, new) =>
            let need := sLen + n
            if !Nat.ble ((4 * need + 4000) * inf.bytes) 281474976710656 || !Nat.ble need 1000000000000 || !Nat.beq new.length (n * inf.size) then none else
            if isOpen sCap then match base with
              | some a =>
                if !(Nat.beq (σ.get a.block).kind 2 && Nat.beq (σ.get a.block).esz inf.size) then none else
                if Nat.ble need (capLB sCap) then match aWrite σ { a with off := a.off + sLen * inf.size } new with
                  | some σ' => some (.slice base need sCap, σ')
                  | none => none
                else if Nat.beq a.off 0 && Nat.ble (sLen * inf.size) (σ.get a.block).vals.length && Nat.beq (σ.get a.block).elem elem && new.all one then
                  some (.slice (some ⟨σ.next, 0, none⟩) need (OPENCAP + need),
                    (σ.put a.block Blk.dead).new ⟨2, elem, inf.size, (σ.get a.block).vals.take (sLen * inf.size) ++ new, []⟩)
                else none
              | none => none
            else if Nat.ble need sCap then match base with
              | some a => match aWriteS σ { a with off := a.off + sLen * inf.size } new with
                | some σ' => some (.slice base need sCap, σ')
                | none => none
              | none => if Nat.beq n 0 then some (.slice none need sCap, σ) else none
            else match aFirst σ inf.size sLen base with
              | some old => if Nat.beq old.length (sLen * inf.size) then some (.slice (some ⟨σ.next, 0, none⟩) need (OPENCAP + need), σ.new ⟨2, elem, inf.size, old ++ new, []⟩) else none
              | none => none
          | none => none
        | none => none
      | none => none
    | _, _ => none
  | _, _, _ => none

noncomputable def aCopyM (P : Program) (σ : AS) (argTypes : Array TypeId) (dst src : Value) : Option (Value × AS) :=
  match argTypes[0]?, dst with
  | some dt, .slice base dLen _ => match P.underlying dt with
    | some (.slice elem) => match P.info? elem with
      | some inf =>
        match (match src with | .slice _ n _ => some n | .string s => if Nat.beq inf.size 1 then some s.size else none | _ => none : Option Nat) with
        | some m =>
          let n := Nat.min m dLen
          match (match src with
            | .slice none _ _ => some []
            | .slice (some a) _ _ => aCellsS σ a (n * inf.size)
            | .string s => some ((s.extract 0 n).data.toList.map fun b => .int .u8 b.toNat)
            | _ => none : Option (List Value)) with
          | some cs => match base with
            | some a => match aWriteS σ a cs with
              | some σ' => some (goInt n, σ')
              | none => none
            | none => some (goInt n, σ)
          | none => none
        | none => none
      | none => none
    | _ => none
  | _, _ => none

noncomputable def isVoid : Value → Bool | .chan (some _) => true | _ => false
noncomputable def sliceLike : Value → Bool | .slice _ _ _ => true | .chan (some _) => true | _ => false

/-- Where one side is what is left of a slice that was cut at its end, nothing is copied. -/
noncomputable def aCopy (P : Program) (σ : AS) (argTypes : Array TypeId) (dst src : Value) : Option (Value × AS) :=
  if (isVoid dst || isVoid src) && sliceLike dst && sliceLike src then
    match argTypes[0]? with
    | some dt => match P.underlying dt with
      | some (.slice elem) => match P.info? elem with
        | some _ => some (goInt 0, σ)
        | none => none
      | _ => none
    | none => none
  else aCopyM P σ argTypes dst src

noncomputable def aMakeSlice (P : Program) (σ : AS) (t : TypeId) (l c : Value) : Option (Value × AS) :=
  match P.underlying t, l, c with
  | some (.slice elem), .int _ l, .int _ c => match P.info? elem with
    | some inf => match inf.zero with
      | some z =>
        if 0 ≤ l ∧ l ≤ c ∧ c ≤ 1000000 ∧ (inf.bytes * c ≤ 281474976710656) ∧ flat z ∧ 0 < z.cells.size then
          some (.slice (some ⟨σ.next, 0, none⟩) l.toNat c.toNat,
            aRow σ elem ((Array.range (c.toNat * inf.size)).map (z.cells[· % z.cells.size]!)).toList)
        else none
      | none => none
    | none => none
  | _, _, _ => none

noncomputable def flatO (o : Option Value) : Option Value := match o with | some v => if flat v then some v else none | none => none

/-- Equality of which one side is nil. -/
noncomputable def aNilEq (d : TypeDesc) (x y : Value) : Option Bool :=
  match d, x, y with
  | .slice _, .slice (some _) _ _, .slice none _ _ | .slice _, .slice none _ _, .slice (some _) _ _ => some false
  | .map _ _, .map (some _), .map none | .map _ _, .map none, .map (some _) => some false
  | .pointer _, .pointer (some _), .pointer none | .pointer _, .pointer none, .pointer (some _) => some false
  | .func _ _ _, .func _ _ _, .nilFunc | .func _ _ _, .nilFunc, .func _ _ _ => some false
  | .interface _, .iface _ _, .nilIface | .interface _, .nilIface, .iface _ _ => some false
  | _, _, _ => none

/-- Comparisons and wrapping, shortly. -/
noncomputable def ilt : Int → Int → Bool
  | .ofNat a, .ofNat b => Nat.blt a b
  | .ofNat _, .negSucc _ => false
  | .negSucc _, .ofNat _ => true
  | .negSucc a, .negSucc b => Nat.blt b a
noncomputable def ieq : Int → Int → Bool
  | .ofNat a, .ofNat b => Nat.beq a b
  | .negSucc a, .negSucc b => Nat.beq a b
  | _, _ => false
noncomputable def iwrap64 (x : Int) : Int := match x with
  | .ofNat n => bite (Nat.blt n 9223372036854775808) (.ofNat n) (IntKind.i64.wrap (.ofNat n))
  | .negSucc n => bite (Nat.blt n 9223372036854775808) (.negSucc n) (IntKind.i64.wrap (.negSucc n))
noncomputable def iwrap (k : IntKind) (x : Int) : Int := match k with
  | .i64 => iwrap64 x
  | k => k.wrap x

theorem ilt_eq (a b : Int) : ilt a b = decide (a < b) := by
  rw [Bool.eq_iff_iff]
  cases a <;> cases b <;> simp [ilt, Nat.blt_eq] <;> omega
theorem ieq_eq (a b : Int) : ieq a b = (a == b) := by
  rw [Bool.eq_iff_iff]
  cases a <;> cases b <;> simp [ieq] <;> omega
theorem wrap64_id (x : Int) (h1 : -9223372036854775808 ≤ x) (h2 : x < 9223372036854775808) : IntKind.i64.wrap x = x := by
  exact IntWalk.i64_in x ⟨h1, by omega⟩

theorem iwrap_eq (k : IntKind) (x : Int) : iwrap k x = k.wrap x := by
  cases k
  case i64 =>
    show iwrap64 x = _
    cases x with
    | ofNat n =>
      show bite (Nat.blt n 9223372036854775808) (Int.ofNat n) (IntKind.i64.wrap (.ofNat n)) = _
      rw [bite_eq]
      split
      · rename_i h
        rw [Nat.blt_eq] at h
        rw [wrap64_id (.ofNat n) (by show (-9223372036854775808 : Int) ≤ (n : Int); omega) (by show (n : Int) < 9223372036854775808; omega)]
      · rfl
    | negSucc n =>
      show bite (Nat.blt n 9223372036854775808) (Int.negSucc n) (IntKind.i64.wrap (.negSucc n)) = _
      rw [bite_eq]
      split
      · rename_i h
        rw [Nat.blt_eq] at h
        rw [wrap64_id (.negSucc n) (by omega) (by omega)]
      · rfl
  all_goals rfl

/-- Operations on two integers of one kind, shortly. -/
noncomputable def aInt (op : BinOp) (k : IntKind) (a b : Int) : Option Value :=
  match op with
  | .add => some (.int k (iwrap k (a + b)))
  | .sub => some (.int k (iwrap k (a - b)))
  | .mul => some (.int k (iwrap k (a * b)))
  | .eql => some (.bool (ieq a b))
  | .neq => some (.bool (!ieq a b))
  | .lss => some (.bool (ilt a b))
  | .leq => some (.bool (!ilt b a))
  | .gtr => some (.bool (ilt b a))
  | .geq => some (.bool (!ilt a b))
  | _ => none

theorem aInt_eq (op : BinOp) (k : IntKind) (a b : Int) : aInt op k a b = (match op with
  | .add => some (.int k (k.wrap (a + b)))
  | .sub => some (.int k (k.wrap (a - b)))
  | .mul => some (.int k (k.wrap (a * b)))
  | .eql => some (.bool (a == b))
  | .neq => some (.bool (a != b))
  | .lss => some (.bool (decide (a < b)))
  | .leq => some (.bool (decide (a ≤ b)))
  | .gtr => some (.bool (decide (a > b)))
  | .geq => some (.bool (decide (a ≥ b)))
  | _ => none) := by
  cases op <;> simp only [aInt, iwrap_eq, ieq_eq, ilt_eq] <;> first | rfl | (congr 2; rw [Bool.eq_iff_iff]; simp)

noncomputable def aIdx (z : Int) : List Value → Nat → Option Nat
  | [], _ => none
  | .int _ a :: l, i => if ieq a z then some i else aIdx z l (i + 1)
  | _ :: _, _ => none

noncomputable def aEntry (P : Program) (σ : AS) (t : TypeId) (m k : Value) : Option (Value × AS) :=
  match P.underlying t, m with
  | some (.map key elem), .map (some r) => match P.underlying key with
    | some d => if Nat.beq (σ.get r).kind 3 then match aFindK P key d k (σ.get r).ents with
        | some (some (i, v)) => match (σ.get r).vals[i]? with
          | some s => match (σ.get r).ents[i]? with
            | some e => some (.tuple #[v, s], σ.put r { σ.get r with ents := (σ.get r).ents.set i (k, e.2) })
            | none => none
          | none => none
        | some none => match P.info? elem with
          | some inf => match inf.zero with
            | some z => if flat z then some (.tuple #[z, .int .i64 (σ.get r).esz], σ.put r (grown (σ.get r) k z)) else none
            | none => none
          | none => none
        | none => none
      else none
    | none => none
  | _, _ => none

noncomputable def aEntryStore (σ : AS) (m s v : Value) : Option AS :=
  match m, s with
  | .map (some r), .int _ z => if Nat.beq (σ.get r).kind 3 then match aIdx z (σ.get r).vals 0 with
      | some i => match (σ.get r).ents[i]? with
        | some e => some (σ.put r { σ.get r with ents := (σ.get r).ents.set i (e.1, v) })
        | none => none
      | none => none
    else none
  | _, _ => none

noncomputable def aInts (op : BinOp) : Value → Value → Option Value
  | .int k a, .int k' b => if k = k' then aInt op k a b else none
  | _, _ => none

noncomputable def aBinSlow (P : Program) (op : BinOp) (t : TypeId) (xo yo : Operand) (x y : Value) : Option Value :=
  if flat x && flat y then flatO (asPure P (do eqGuard op t xo yo x y; binOp op t x y))
  else match op, P.underlying t with
    | .eql, some d => (aNilEq d x y).map .bool
    | .neq, some d => (aNilEq d x y).map fun b => .bool (!b)
    | _, _ => none

noncomputable def aBin (P : Program) (op : BinOp) (t : TypeId) (xo yo : Operand) (x y : Value) : Option Value :=
  match aInts op x y with
  | some v => some v
  | none => aBinSlow P op t xo yo x y

noncomputable def aMinMax (f : Value → Value → Sem Value) (P : Program) (args : List Value) : Option Value :=
  if args.all flat1 then match args with
    | [] => none
    | x :: l => flatO (asPure P (l.foldlM f x))
  else none

noncomputable def aClear (P : Program) (σ : AS) (t : TypeId) (x : Value) : Option AS :=
  match P.underlying t, x with
  | some (.slice _), .slice none _ _ => some σ
  | some (.slice elem), .slice (some a) n _ => if Nat.beq n 0 then some σ else match P.info? elem with
    | some inf => match inf.zero with
      | some z => if flat z then aWrite σ a (Builtin.zeroCells z.cells n).toList else none
      | none => none
    | none => none
  | _, _ => none

noncomputable def aBuiltin (P : Program) (σ : AS) (b : Builtin) (argTypes : Array TypeId) (args : List Value) : Option (Value × AS) :=
  match b, args with
  | .len, [x] => match argTypes[0]? with
    | some t => match aLen P σ t x with
      | some v => some (v, σ)
      | none => none
    | none => none
  | .cap, [x] => match argTypes[0]? with
    | some t => match aCap P t x with
      | some v => some (v, σ)
      | none => none
    | none => none
  | .append, [s, x] => aAppend P σ argTypes s x
  | .copy, [d, s] => aCopy P σ argTypes d s
  | .delete, [m, k] => match argTypes[0]? with
    | some t => match aDelete P σ t m k with
      | some σ' => some (.tuple #[], σ')
      | none => none
    | none => none
  | .clear, [x] => match argTypes[0]? with
    | some t => match aClear P σ t x with
      | some σ' => some (.tuple #[], σ')
      | none => none
    | none => none
  | .min, args => match aMinMax Builtin.min2 P args with
    | some v => some (v, σ)
    | none => none
  | .max, args => match aMinMax Builtin.max2 P args with
    | some v => some (v, σ)
    | none => none
  | _, _ => none

noncomputable def ann (σ : AS) (o : Option Value) : Option (Value × AS) := match o with | some v => some (v, σ) | none => none
noncomputable def unn (o : Option AS) : Option (Value × AS) := match o with | some σ => some (undef, σ) | none => none

noncomputable def aBuild (P : Program) (t : TypeId) (parts : List (Nat × Value)) : Option Value :=
  match P.info? t with
  | some inf => match inf.zero with
    | some z => if flat z then match P.underlying t with
        | some (.struct fields) => match fields.toList.mapM (fun f => (P.info? f.type).map fun i => (f.offset, i.size)) with
          | some places => match Instr.fill (places.toArray[·]?) z.cells parts with
            | some cells => some (.agg cells)
            | none => none
          | none => none
        | some (.array _ elem) => match P.info? elem with
          | some i => match Instr.fill (fun k => some (k * i.size, i.size)) z.cells parts with
            | some cells => some (.agg cells)
            | none => none
          | none => none
        | _ => none
      else none
    | none => none
  | none => none

noncomputable def aBuildSlice (P : Program) (σ : AS) (t : TypeId) (len : Nat) (parts : List (Nat × Value)) : Option (Value × AS) :=
  match P.underlying t with
  | some (.slice elem) => match P.info? elem with
    | some inf =>
      if Nat.ble (len * inf.size) 16777216 && Nat.blt len OPENCAP then
        match (if Nat.beq (len * inf.size) 0 then some #[] else match inf.zero with | some z => if flat z && Nat.blt 0 z.cells.size then some z.cells else none | none => none : Option (Array Value)) with
        | some zero => match Instr.fill (fun i => some (i * inf.size, inf.size)) ((Array.range (len * inf.size)).map (zero[· % zero.size]!)) parts with
          | some cells => some (.slice (some ⟨σ.next, 0, none⟩) len len, aRow σ elem cells.toList)
          | none => none
        | none => none
      else none
    | none => none
  | _ => none

/-! Each operation in a function of its own: the kernel lays out a body whole, so bodies are kept small. -/

noncomputable def opPick (G : Nat) (r : Regs) (σ : AS) (c a b : Operand) : Option (Value × AS) :=
  match aev G r c, aev G r a, aev G r b with
  | some (.bool t), some x, some y => some (if t then x else y, σ)
  | _, _, _ => none
noncomputable def opAlloc (P : Program) (σ : AS) (elem : TypeId) : Option (Value × AS) :=
  match P.info? elem with
  | some inf => match inf.zero with
    | some z => if flat z then some (.pointer (some ⟨σ.next, 0, none⟩), aRow σ elem z.cells.toList) else none
    | none => none
  | none => none
noncomputable def opBox (G : Nat) (r : Regs) (σ : AS) (elem : TypeId) (x : Operand) : Option (Value × AS) :=
  match aev G r x with
  | some v => some (.pointer (some ⟨σ.next, 0, none⟩), aRow σ elem v.cells.toList)
  | none => none
noncomputable def opBuild (P : Program) (G : Nat) (r : Regs) (σ : AS) (t : TypeId) (parts : Array (Nat × Operand)) : Option (Value × AS) :=
  match aparts G r parts.toList with
  | some ps => ann σ (aBuild P t ps)
  | none => none
noncomputable def opBuildSlice (P : Program) (G : Nat) (r : Regs) (σ : AS) (t : TypeId) (len : Nat) (parts : Array (Nat × Operand)) : Option (Value × AS) :=
  match aparts G r parts.toList with
  | some ps => aBuildSlice P σ t len ps
  | none => none
noncomputable def opLoad (P : Program) (G : Nat) (r : Regs) (σ : AS) (t : TypeId) (a : Operand) : Option (Value × AS) :=
  match aev G r a with
  | some v => ann σ (aLoad P σ t v)
  | none => none
noncomputable def opStore (P : Program) (G : Nat) (r : Regs) (σ : AS) (t : TypeId) (a x : Operand) : Option (Value × AS) :=
  match aev G r a, aev G r x with
  | some p, some v => unn (aStore P σ t v p)
  | _, _ => none
noncomputable def opNil (G : Nat) (r : Regs) (σ : AS) (x : Operand) : Option (Value × AS) :=
  match aev G r x with
  | some (.pointer (some a)) => some (.pointer (some a), σ)
  | some (.func (.func f) b c) => some (.func (.func f) b c, σ)
  | some (.iface t v) => some (.iface t v, σ)
  | _ => none
noncomputable def opBin (P : Program) (G : Nat) (r : Regs) (σ : AS) (op : BinOp) (t : TypeId) (x y : Operand) : Option (Value × AS) :=
  match aev G r x, aev G r y with
  | some a, some b => ann σ (aBin P op t x y a b)
  | _, _ => none
noncomputable def opUn (P : Program) (G : Nat) (r : Regs) (σ : AS) (op : UnOp) (x : Operand) : Option (Value × AS) :=
  match aev G r x with
  | some a => if flat a then ann σ (flatO (asPure P (Op.unary op a))) else none
  | none => none
noncomputable def isBytes (P : Program) (s d : TypeId) : Bool :=
  match P.underlying s, P.underlying d with
  | some (.slice e), some .string => match P.underlying e with
    | some (.int .u8) => true
    | _ => false
  | _, _ => false
noncomputable def bytesOf : List Value → ByteArray → Option ByteArray
  | [], s => some s
  | .int .u8 n :: l, s => bytesOf l (s.push (UInt8.ofNat n.toNat))
  | _, _ => none
noncomputable def aBytes (σ : AS) : Value → Option Value
  | .slice (some a) n _ => match aCellsS σ a n with
    | some cs => match bytesOf cs .empty with
      | some s => some (.string s)
      | none => none
    | none => none
  | _ => none
noncomputable def opConvert (P : Program) (G : Nat) (r : Regs) (σ : AS) (s d : TypeId) (x : Operand) : Option (Value × AS) :=
  match aev G r x with
  | some a => if flat1 a then ann σ (flatO (asPure P (convert s d a))) else if isBytes P s d then ann σ (aBytes σ a) else none
  | none => none
noncomputable def opIface (P : Program) (G : Nat) (r : Regs) (σ : AS) (t : TypeId) (x : Operand) : Option (Value × AS) :=
  match aev G r x, P.underlying t with
  | some _, some (.interface _) => none
  | some a, some _ => some (.iface t a, σ)
  | _, _ => none
noncomputable def opFunc (G : Nat) (r : Regs) (σ : AS) (fn : Fn) (first captured : Array Operand) : Option (Value × AS) :=
  match aevs G r first.toList, aevs G r captured.toList with
  | some f, some c => some (.func fn f.toArray c.toArray, σ)
  | _, _ => none
noncomputable def opMapR (P : Program) (G : Nat) (r : Regs) (σ : AS) (t : TypeId) (x : Operand) : Option (Value × AS) :=
  match P.underlying t, aev G r x with
  | some (.map _ _), some (.int _ _) => some (.map (some σ.next), σ.new ⟨3, 0, 0, [], []⟩)
  | _, _ => none
noncomputable def opMakeSlice (P : Program) (G : Nat) (r : Regs) (σ : AS) (t : TypeId) (l c : Operand) : Option (Value × AS) :=
  match aev G r l, aev G r c with
  | some x, some y => aMakeSlice P σ t x y
  | _, _ => none
noncomputable def opSlice (P : Program) (G : Nat) (r : Regs) (σ : AS) (t : TypeId) (x : Operand) (lo hi mx : Option Operand) : Option (Value × AS) :=
  match aev G r x, aopt G r lo, aopt G r hi, aopt G r mx with
  | some v, some l, some h, some m => ann σ (aSlice P σ t v l h m)
  | _, _, _, _ => none
noncomputable def opFieldAddr (P : Program) (G : Nat) (r : Regs) (σ : AS) (s : TypeId) (x : Operand) (f : Nat) : Option (Value × AS) :=
  match aev G r x with
  | some v => ann σ (aField P s f v)
  | none => none
noncomputable def opField (P : Program) (G : Nat) (r : Regs) (σ : AS) (t : TypeId) (x : Operand) (f : Nat) : Option (Value × AS) :=
  match aev G r x with
  | some v => ann σ (aFieldOf P t f v)
  | none => none
noncomputable def opIndexAddr (P : Program) (G : Nat) (r : Regs) (σ : AS) (t : TypeId) (x ix : Operand) : Option (Value × AS) :=
  match aev G r x, aev G r ix with
  | some v, some i => ann σ (aIndexAddr P t v i)
  | _, _ => none
noncomputable def opIndex (P : Program) (G : Nat) (r : Regs) (σ : AS) (t : TypeId) (x ix : Operand) : Option (Value × AS) :=
  match aev G r x, aev G r ix with
  | some v, some i => ann σ (aIndexOf P t v i)
  | _, _ => none
noncomputable def opLookup (P : Program) (G : Nat) (r : Regs) (σ : AS) (t : TypeId) (x ix : Operand) (ok : Bool) : Option (Value × AS) :=
  match aev G r x, aev G r ix with
  | some v, some i => ann σ (aLookup P σ t v i ok)
  | _, _ => none
noncomputable def opUpdate (P : Program) (G : Nat) (r : Regs) (σ : AS) (t : TypeId) (m k x : Operand) : Option (Value × AS) :=
  match aev G r m, aev G r k, aev G r x with
  | some a, some b, some c => unn (aUpdate P σ t a b c)
  | _, _, _ => none
noncomputable def opEntry (P : Program) (G : Nat) (r : Regs) (σ : AS) (t : TypeId) (m k : Operand) : Option (Value × AS) :=
  match aev G r m, aev G r k with
  | some a, some b => aEntry P σ t a b
  | _, _ => none
noncomputable def opEntryStore (G : Nat) (r : Regs) (σ : AS) (m s x : Operand) : Option (Value × AS) :=
  match aev G r m, aev G r s, aev G r x with
  | some a, some b, some c => unn (aEntryStore σ a b c)
  | _, _, _ => none
noncomputable def opExtract (G : Nat) (r : Regs) (σ : AS) (t : Operand) (ix : Nat) : Option (Value × AS) :=
  match aev G r t with
  | some (.tuple vs) => match vs[ix]? with
    | some v => some (v, σ)
    | none => none
  | _ => none
noncomputable def opRange (P : Program) (G : Nat) (r : Regs) (σ : AS) (t : TypeId) (x : Operand) : Option (Value × AS) :=
  match P.underlying t, aev G r x with
  | some .string, some (.string s) => some (.pointer (some ⟨σ.next, 0, none⟩), σ.new ⟨4, 0, 0, [.string s], []⟩)
  | _, _ => none
noncomputable def opNext (G : Nat) (r : Regs) (σ : AS) (it : Operand) (isString : Bool) : Option (Value × AS) :=
  match isString, aev G r it with
  | true, some (.pointer (some a)) => if Nat.beq a.off 0 && Nat.beq (σ.get a.block).kind 4 then match (σ.get a.block).vals with
      | [.string s] => if Nat.blt (σ.get a.block).esz s.size then
          some (.tuple #[.bool true, goInt (σ.get a.block).esz, .int .i32 (Utf8.decode s (σ.get a.block).esz).1], σ.put a.block ⟨4, 0, (σ.get a.block).esz + (Utf8.decode s (σ.get a.block).esz).2, [.string s], []⟩)
          else some (.tuple #[.bool false], σ)
      | _ => none
    else none
  | _, _ => none
noncomputable def opCall (P : Program) (G : Nat) (r : Regs) (σ : AS) (c : Call) : Option (Value × AS) :=
  match c.callee with
  | .builtin b => match aevs G r c.args.toList with
    | some vs => aBuiltin P σ b c.argTypes vs
    | none => none
  | _ => none

/-- An operation that calls no function. -/
noncomputable def aOp (P : Program) (G : Nat) (r : Regs) (σ : AS) : Op → Option (Value × AS)
  | .move x => ann σ (aev G r x)
  | .assign x => ann σ (aev G r x)
  | .pick c a b => opPick G r σ c a b
  | .alloc elem => opAlloc P σ elem
  | .box elem x => opBox G r σ elem x
  | .build t parts => opBuild P G r σ t parts
  | .buildSlice t len parts => opBuildSlice P G r σ t len parts
  | .load t a => opLoad P G r σ t a
  | .store t a x => opStore P G r σ t a x
  | .nilCheck x => opNil G r σ x
  | .binOp op t x y _ => opBin P G r σ op t x y
  | .unOp op _ x => opUn P G r σ op x
  | .convert s d x => opConvert P G r σ s d x
  | .makeInterface t x => opIface P G r σ t x
  | .makeFunc fn first captured => opFunc G r σ fn first captured
  | .makeMap _ none => some (.map (some σ.next), σ.new ⟨3, 0, 0, [], []⟩)
  | .makeMap t (some x) => opMapR P G r σ t x
  | .makeSlice t l c => opMakeSlice P G r σ t l c
  | .slice t x lo hi mx => opSlice P G r σ t x lo hi mx
  | .fieldAddr s x f => opFieldAddr P G r σ s x f
  | .field t x f => opField P G r σ t x f
  | .indexAddr t x ix => opIndexAddr P G r σ t x ix
  | .index t x ix => opIndex P G r σ t x ix
  | .lookup t x ix ok => opLookup P G r σ t x ix ok
  | .mapUpdate t m k x => opUpdate P G r σ t m k x
  | .insert t m k x => opUpdate P G r σ t m k x
  | .mapEntry t m k => opEntry P G r σ t m k
  | .entryStore _ m s x => opEntryStore G r σ m s x
  | .extract t ix => opExtract G r σ t ix
  | .range t x => opRange P G r σ t x
  | .next it s => opNext G r σ it s
  | .call c => opCall P G r σ c
  | _ => none

noncomputable def opEnter (G : Nat) (callf : FuncId → List Value → AS → Option (Value × AS)) (r : Regs) (σ : AS) (args : Array Operand) : Option Value → Option (Value × AS)
  | some (.func (.func f) first captured) => match aevs G r args.toList with
    | some vs => callf f (first.toList ++ vs ++ captured.toList) σ
    | none => none
  | _ => none

/-- Any operation; a call of a function is answered by 'callf'. -/
noncomputable def aStepOld (P : Program) (G : Nat) (callf : FuncId → List Value → AS → Option (Value × AS)) (r : Regs) (σ : AS) (o : Op) : Option (Value × AS) :=
  match o with
  | .call c => match c.callee with
    | .value f => opEnter G callf r σ c.args (aev G r f)
    | _ => aOp P G r σ o
  | _ => aOp P G r σ o

noncomputable def opMove (G : Nat) (r : Regs) (σ : AS) (x : Operand) : Option (Value × AS) := ann σ (aev G r x)
noncomputable def opMakeMap (P : Program) (G : Nat) (r : Regs) (σ : AS) (t : TypeId) : Option Operand → Option (Value × AS)
  | none => some (.map (some σ.next), σ.new ⟨3, 0, 0, [], []⟩)
  | some x => opMapR P G r σ t x
noncomputable def opStepCall (P : Program) (G : Nat) (callf : FuncId → List Value → AS → Option (Value × AS)) (r : Regs) (σ : AS) (c : Call) : Option (Value × AS) :=
  match c.callee with
  | .value f => opEnter G callf r σ c.args (aev G r f)
  | _ => opCall P G r σ c

noncomputable def aStep (P : Program) (G : Nat) (callf : FuncId → List Value → AS → Option (Value × AS)) (r : Regs) (σ : AS) (o : Op) : Option (Value × AS) :=
  @Op.rec (fun _ => Option (Value × AS))
    (opMove G r σ) (opMove G r σ) (opPick G r σ) (opAlloc P σ) (opBox G r σ) (opBuild P G r σ) (opBuildSlice P G r σ)
    (opUpdate P G r σ) (opLoad P G r σ) (opStore P G r σ) (fun _ => none) (fun _ => none) (opNil G r σ)
    (fun op t x y _ => opBin P G r σ op t x y) (fun op _ x => opUn P G r σ op x) (opConvert P G r σ) (fun _ _ => none) (opIface P G r σ) (opFunc G r σ)
    (opMakeMap P G r σ) (fun _ _ => none) (opMakeSlice P G r σ) (opSlice P G r σ) (opFieldAddr P G r σ) (opField P G r σ) (opIndexAddr P G r σ) (opIndex P G r σ)
    (opLookup P G r σ) (opUpdate P G r σ) (opEntry P G r σ) (fun _ m s x => opEntryStore G r σ m s x) (opRange P G r σ) (opNext G r σ) (fun _ => none) (fun _ _ _ _ => none)
    (opExtract G r σ) (opStepCall P G callf r σ) (fun _ => none) (fun _ => none) (fun _ => none) (fun _ _ => none) (fun _ _ _ => none) (fun _ _ => none) o

theorem aStep_eq (P : Program) (G : Nat) (callf : FuncId → List Value → AS → Option (Value × AS)) (r : Regs) (σ : AS) (o : Op) : aStep P G callf r σ o = aStepOld P G callf r σ o := by
  cases o
  case makeMap t x => cases x <;> rfl
  case call c =>
    show opStepCall P G callf r σ c = _
    unfold opStepCall aStepOld
    dsimp only
    cases c.callee <;> rfl
  all_goals rfl

/-! ### Regions -/

noncomputable def aWanted (ops : Array Oper) (r : Regs) (o : Oper) : Bool :=
  match o.guard with
  | none => true
  | some (j, want) => match (ops[j]?).bind (·.dst) with
    | some t => match rget r t with
      | .bool b => b == want
      | _ => false
    | none => false

/-- A result goes into a register. -/
noncomputable def aPut (n : Nat) (r : Regs) (dst : Option Tmp) (v : Value) : Option Regs :=
  match dst with
  | none => some r
  | some d => bite (Nat.blt d n) (some (rput r d v)) none

noncomputable def aOps (P : Program) (G : Nat) (callf : FuncId → List Value → AS → Option (Value × AS)) (n : Nat) (ops : Array Oper) : List Oper → Regs → AS → Option (Regs × AS)
  | [], r, σ => some (r, σ)
  | o :: rest, r, σ =>
    bite (aWanted ops r o)
      (match aStep P G callf r σ o.op with
      | some (v, σ') => match aPut n r o.dst v with
        | some r' => aOps P G callf n ops rest r' σ'
        | none => none
      | none => none)
      (match aPut n r o.dst undef with
      | some r' => aOps P G callf n ops rest r' σ
      | none => none)

/-- Which operations precede each, as bits; the last first. -/
noncomputable def predBits : List Oper → List Nat → List Nat
  | [], acc => acc
  | o :: l, acc => predBits l ((o.after.toList.foldl (fun s e => if Region.binds .any e then s ||| 2 ^ e.on ||| lget 0 acc.reverse e.on else s) 0) :: acc)

end Go.Proofs.YtacpdefmnijhnaaGreat.Abs
