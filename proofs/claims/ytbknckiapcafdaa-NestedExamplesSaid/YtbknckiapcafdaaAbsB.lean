/- An evaluator of the program's code over the abstract memory. Definitions alone. -/
import Derived.Test.YtbknckiapcafdaaAbsA
set_option linter.unusedSimpArgs false
set_option linter.unusedVariables false
namespace Go.Proofs.Ytbknckiapcafdaa.Abs

/-! ### Registers -/

abbrev Regs : Type := List (List Value)
def rget (r : Regs) (t : Nat) : Value := lget undef (lget [] r (t / 16)) (t % 16)
def rput (r : Regs) (t : Nat) (v : Value) : Regs := lset [] r (t / 16) (lset undef (lget [] r (t / 16)) (t % 16) v)

theorem rget_rput (r : Regs) (i j : Nat) (v : Value) : rget (rput r i v) j = if i = j then v else rget r j := by
  unfold rget rput
  rw [lget_lset]
  by_cases h1 : i / 16 = j / 16
  · rw [if_pos h1, lget_lset]
    by_cases h3 : i % 16 = j % 16
    · rw [if_pos h3, if_pos (by omega)]
    · rw [if_neg h3, if_neg (by intro h; exact h3 (by rw [h])), h1]
  · rw [if_neg h1, if_neg (by intro h; exact h1 (by rw [h]))]

def rinit : List Value → Nat → Regs → Regs
  | [], _, r => r
  | v :: l, i, r => rinit l (i + 1) (rput r i v)

/-! ### Operations -/

/-- What a computation answers that looks at no memory. -/
def asPure {α : Type} (P : Program) : Sem α → Option α
  | .pure a => some a
  | .program k => asPure P (k P)
  | _ => none

def aev (G : Nat) (r : Regs) : Operand → Option Value
  | .tmp t => some (rget r t)
  | .const v => if flat v then some v else none
  | .global g => if g < G then some (.pointer (some ⟨g, 0, none⟩)) else none
  | .func f => some (.func (.func f) #[] #[])

def aevs (G : Nat) (r : Regs) : List Operand → Option (List Value)
  | [] => some []
  | x :: l => match aev G r x with
    | none => none
    | some v => match aevs G r l with
      | none => none
      | some vs => some (v :: vs)

def aparts (G : Nat) (r : Regs) : List (Nat × Operand) → Option (List (Nat × Value))
  | [] => some []
  | x :: l => match aev G r x.2 with
    | none => none
    | some v => match aparts G r l with
      | none => none
      | some vs => some ((x.1, v) :: vs)

def aopt (G : Nat) (r : Regs) : Option Operand → Option (Option Value)
  | none => some none
  | some x => match aev G r x with
    | none => none
    | some v => some (some v)

def isCells (b : Blk) : Bool := Nat.beq b.kind 1 || Nat.beq b.kind 2

/-- n cells from an address on. -/
def aCells (σ : AS) (a : Addr) (n : Nat) : Option (List Value) :=
  if isCells (σ.get a.block) && Nat.ble (a.off + n) (σ.get a.block).vals.length then some (((σ.get a.block).vals.drop a.off).take n) else none

def lover {α : Type} : List α → List α → List α
  | l, [] => l
  | [], _ => []
  | _ :: l, c :: cs => c :: lover l cs
def lsplice {α : Type} : List α → Nat → List α → List α
  | l, 0, cs => lover l cs
  | [], _, _ => []
  | a :: l, n + 1, cs => a :: lsplice l n cs

def one (v : Value) : Bool := match v with | .agg _ | .tuple _ => false | _ => true

/-- Cells are written from an address on. -/
def aWrite (σ : AS) (a : Addr) (cs : List Value) : Option AS :=
  if isCells (σ.get a.block) && Nat.ble (a.off + cs.length) (σ.get a.block).vals.length && cs.all one then
    some (σ.put a.block { σ.get a.block with vals := lsplice (σ.get a.block).vals a.off cs })
  else none

def aisAgg : TypeDesc → Bool
  | .struct _ | .array _ _ => true
  | _ => false

def aLoad (P : Program) (σ : AS) (t : TypeId) : Value → Option Value
  | .pointer (some a) => match P.underlying t with
    | none => none
    | some d =>
      if aisAgg d then match P.info? t with
        | none => none
        | some i => match aCells σ a i.size with
          | none => none
          | some cs => some (.agg cs.toArray)
      else match aCells σ a 1 with
        | some [v] => some v
        | _ => none
  | _ => none

def aStore (P : Program) (σ : AS) (t : TypeId) (x : Value) : Value → Option AS
  | .pointer (some a) => match P.info? t with
    | none => none
    | some i => if Nat.beq x.cells.size i.size then aWrite σ a x.cells.toList else none
  | _ => none

def aRow (σ : AS) (elem : TypeId) (cs : List Value) : AS := σ.new ⟨1, elem, 0, cs, []⟩

def aField (P : Program) (s : TypeId) (f : Nat) : Value → Option Value
  | .pointer (some a) => match P.underlying s with
    | some (.struct fields) => match fields[f]? with
      | some fd => match P.info? fd.type with
        | some i => if Nat.beq i.size 0 then none else some (.pointer (some (a.add fd.offset)))
        | none => none
      | none => none
    | _ => none
  | _ => none

def aIndexAddr (P : Program) (t : TypeId) (x ix : Value) : Option Value :=
  match ix with
  | .int _ i => match P.underlying t, x with
    | some (.array len elem), .pointer (some a) => match P.info? elem with
      | some inf => if 0 ≤ i ∧ i < len then some (.pointer (some (a.add (i.toNat * inf.size)))) else none
      | none => none
    | some (.slice elem), .slice (some a) len _ => match P.info? elem with
      | some inf => if 0 ≤ i ∧ i < len then some (.pointer (some (a.add (i.toNat * inf.size)))) else none
      | none => none
    | _, _ => none
  | _ => none

/-- A part of a struct or an array. -/
def aPart (P : Program) (t : TypeId) (cs : List Value) (off : Nat) : Option Value :=
  match P.underlying t with
  | none => none
  | some d =>
    if aisAgg d then match P.info? t with
      | none => none
      | some i => some (.agg ((cs.take (off + i.size)).drop off).toArray)
    else cs[off]?

def aFieldOf (P : Program) (t : TypeId) (f : Nat) : Value → Option Value
  | .agg cs => match P.underlying t with
    | some (.struct fields) => match fields[f]? with
      | some fd => aPart P fd.type cs.toList fd.offset
      | none => none
    | _ => none
  | _ => none

def aIndexOf (P : Program) (t : TypeId) (x ix : Value) : Option Value :=
  match ix with
  | .int _ i => match P.underlying t, x with
    | some (.array len elem), .agg cs => match P.info? elem with
      | some inf => if 0 ≤ i ∧ i < len then aPart P elem cs.toList (i.toNat * inf.size) else none
      | none => none
    | some .string, .string s => if 0 ≤ i then match s[i.toNat]? with
      | some b => some (.int .u8 b.toNat)
      | none => none
      else none
    | _, _ => none
  | _ => none

/-- The lower bound of a slice's capacity. -/
def capLB (c : Nat) : Nat := if Nat.blt c OPENCAP then c else c - OPENCAP
def isOpen (c : Nat) : Bool := Nat.ble OPENCAP c

def abound (x : Value) (y : Nat) : Option Nat :=
  match x with
  | .int _ i => if 0 ≤ i ∧ i ≤ y then some i.toNat else none
  | _ => none

def aboundO (x : Option Value) (y d : Nat) : Option Nat :=
  match x with
  | none => some d
  | some v => abound v y

/-- The slice of a slice, whose element takes size cells. -/
def aSliceAt (size : Nat) (base : Option Addr) (len cap : Nat) (lo hi mx : Option Value) : Option Value :=
  match mx with
  | some v => match abound v (capLB cap), hi with
    | some m, some hv => match abound hv m with
      | some h => match aboundO lo h 0 with
        | some l =>
          if Nat.ble OPENCAP m then none else
          some (.slice (if Nat.beq m l then base else base.map (·.add (l * size))) (h - l) (m - l))
        | none => none
      | none => none
    | _, _ => none
  | none => match aboundO hi (capLB cap) len with
    | some h => match aboundO lo h 0 with
      | some l =>
        if isOpen cap then
          if Nat.beq l 0 then some (.slice base h cap)
          else if Nat.blt l (capLB cap) then some (.slice (base.map (·.add (l * size))) (h - l) (OPENCAP + (capLB cap - l))) else none
        else some (.slice (if Nat.beq cap l then base else base.map (·.add (l * size))) (h - l) (cap - l))
      | none => none
    | none => none

def aSlice (P : Program) (σ : AS) (t : TypeId) (x : Value) (lo hi mx : Option Value) : Option Value :=
  match P.underlying t, x with
  | some (.slice elem), .slice base len cap => match P.info? elem with
    | some inf =>
      if isOpen cap then match base with
        | some a => if Nat.beq (σ.get a.block).kind 2 && Nat.beq (σ.get a.block).esz inf.size then aSliceAt inf.size base len cap lo hi mx else none
        | none => none
      else aSliceAt inf.size base len cap lo hi mx
    | none => none
  | some .string, .string s => match mx with
    | some _ => none
    | none => match aboundO hi s.size s.size with
      | some h => match aboundO lo h 0 with
        | some l => some (.string (s.extract l h))
        | none => none
      | none => none
  | some (.array n elem), .pointer (some a) => match P.info? elem with
    | some inf => if Nat.blt n OPENCAP then aSliceAt inf.size (some a) n n lo hi mx else none
    | none => none
  | _, _ => none

def basicKey : TypeDesc → Bool
  | .bool | .int _ | .string => true
  | _ => false

/-- Where a key stands. -/
def aFind (d : TypeDesc) (k : Value) : List (Value × Value) → Nat → Option (Option (Nat × Value))
  | [], _ => some none
  | e :: l, i => match Instr.sameNow d k e.1 with
    | some true => some (some (i, e.2))
    | some false => aFind d k l (i + 1)
    | none => none

def aEnts (σ : AS) : Value → Option (List (Value × Value))
  | .map none => some []
  | .map (some r) => if Nat.beq (σ.get r).kind 3 then some (σ.get r).ents else none
  | _ => none

def aLookup (P : Program) (σ : AS) (t : TypeId) (m k : Value) (ok : Bool) : Option Value :=
  match P.underlying t with
  | some (.map key elem) => match P.underlying key with
    | some d => if basicKey d then match aEnts σ m with
        | some es => match aFind d k es 0 with
          | some (some (_, v)) => some (if ok then .tuple #[v, .bool true] else v)
          | some none => match P.info? elem with
            | some inf => match inf.zero with
              | some z => if flat z then some (if ok then .tuple #[z, .bool false] else z) else none
              | none => none
            | none => none
          | none => none
        | none => none
      else none
    | none => none
  | _ => none

def aUpdate (P : Program) (σ : AS) (t : TypeId) (m k v : Value) : Option AS :=
  match P.underlying t, m with
  | some (.map key _), .map (some r) => match P.underlying key with
    | some d => if basicKey d && Nat.beq (σ.get r).kind 3 then match aFind d k (σ.get r).ents 0 with
        | some (some (i, _)) => some (σ.put r { σ.get r with ents := (σ.get r).ents.set i (k, v) })
        | some none => if flat1 k then some (σ.put r { σ.get r with ents := (σ.get r).ents ++ [(k, v)] }) else none
        | none => none
      else none
    | none => none
  | _, _ => none

def aDelete (P : Program) (σ : AS) (t : TypeId) (m k : Value) : Option AS :=
  match P.underlying t, m with
  | some (.map key _), .map (some r) => match P.underlying key with
    | some d => if basicKey d && Nat.beq (σ.get r).kind 3 then match aFind d k (σ.get r).ents 0 with
        | some (some (i, _)) => some (σ.put r { σ.get r with ents := (σ.get r).ents.eraseIdx i })
        | some none => some σ
        | none => none
      else none
    | none => none
  | some (.map key _), .map none => match P.underlying key with
    | some d => if basicKey d then some σ else none
    | none => none
  | _, _ => none

def aLen (P : Program) (σ : AS) (t : TypeId) (x : Value) : Option Value :=
  match P.underlying t, x with
  | some .string, .string s => some (goInt s.size)
  | some (.array n _), _ => some (goInt n)
  | some (.slice _), .slice _ n _ => some (goInt n)
  | some (.map _ _), .map none => some (goInt 0)
  | some (.map _ _), .map (some r) => if Nat.beq (σ.get r).kind 3 then some (goInt (σ.get r).ents.length) else none
  | _, _ => none

def aCap (P : Program) (t : TypeId) (x : Value) : Option Value :=
  match P.underlying t, x with
  | some (.slice _), .slice _ _ n => if Nat.blt n OPENCAP then some (goInt n) else none
  | some (.array n _), _ => some (goInt n)
  | _, _ => none

/-- How many elements are appended, and their cells. -/
def aSource (P : Program) (σ : AS) (zeros : Bool) (inf : TypeInfo) (x : Value) : Option (Nat × List Value) :=
  if zeros then match x, inf.zero with
    | .int _ n, some z =>
      if 0 ≤ n ∧ n ≤ 1000000 ∧ flat z then some (n.toNat, (Builtin.zeroCells z.cells n.toNat).toList) else none
    | _, _ => none
  else match x with
    | .slice none n _ => some (n, [])
    | .slice (some a) n _ => match aCells σ a (n * inf.size) with
      | some cs => some (n, cs)
      | none => none
    | .string s => if Nat.beq inf.size 1 then some (s.size, s.data.toList.map fun b => .int .u8 b.toNat) else none
    | _ => none

def aFirst (σ : AS) (size n : Nat) : Option Addr → Option (List Value)
  | none => some []
  | some a => aCells σ a (n * size)

def aAppend (P : Program) (σ : AS) (argTypes : Array TypeId) (s x : Value) : Option (Value × AS) :=
  match argTypes[0]?, argTypes[1]?, s with
  | some st, some xt, .slice base sLen sCap => match P.underlying st, P.underlying xt with
    | some (.slice elem), some xd => match P.info? elem with
      | some inf => match inf.zero with
        | some z =>
          if Nat.beq inf.size 0 || !Nat.beq z.cells.size inf.size || !flat z then none else
          match aSource P σ (match xd with | .int _ => true | _ => false) inf x with
          | some (n, new) =>
            let need := sLen + n
            if !Nat.ble ((4 * need + 4000) * inf.bytes) 281474976710656 || !Nat.ble need 1000000000000 || !Nat.beq new.length (n * inf.size) then none else
            if isOpen sCap then match base with
              | some a =>
                if !(Nat.beq (σ.get a.block).kind 2 && Nat.beq (σ.get a.block).esz inf.size) then none else
                if Nat.ble need (capLB sCap) then match aWrite σ { a with off := a.off + sLen * inf.size } new with
                  | some σ' => some (.slice base need sCap, σ')
                  | none => none
                else if Nat.beq a.off 0 && Nat.ble (sLen * inf.size) (σ.get a.block).vals.length && Nat.beq (σ.get a.block).elem elem && new.all one then
                  some (.slice (some ⟨σ.next, 0, none⟩) need (OPENCAP + need),
                    (σ.put a.block Blk.dead).new ⟨2, elem, inf.size, (σ.get a.block).vals.take (sLen * inf.size) ++ new, []⟩)
                else none
              | none => none
            else if Nat.ble need sCap then match base with
              | some a => match aWrite σ { a with off := a.off + sLen * inf.size } new with
                | some σ' => some (.slice base need sCap, σ')
                | none => none
              | none => if Nat.beq n 0 then some (.slice none need sCap, σ) else none
            else match aFirst σ inf.size sLen base with
              | some old => if Nat.beq old.length (sLen * inf.size) then some (.slice (some ⟨σ.next, 0, none⟩) need (OPENCAP + need), σ.new ⟨2, elem, inf.size, old ++ new, []⟩) else none
              | none => none
          | none => none
        | none => none
      | none => none
    | _, _ => none
  | _, _, _ => none

def aCopy (P : Program) (σ : AS) (argTypes : Array TypeId) (dst src : Value) : Option (Value × AS) :=
  match argTypes[0]?, dst with
  | some dt, .slice base dLen _ => match P.underlying dt with
    | some (.slice elem) => match P.info? elem with
      | some inf =>
        match (match src with | .slice _ n _ => some n | .string s => if Nat.beq inf.size 1 then some s.size else none | _ => none : Option Nat) with
        | some m =>
          let n := Nat.min m dLen
          match (match src with
            | .slice none _ _ => some []
            | .slice (some a) _ _ => aCells σ a (n * inf.size)
            | .string s => some ((s.extract 0 n).data.toList.map fun b => .int .u8 b.toNat)
            | _ => none : Option (List Value)) with
          | some cs => match base with
            | some a => match aWrite σ a cs with
              | some σ' => some (goInt n, σ')
              | none => none
            | none => some (goInt n, σ)
          | none => none
        | none => none
      | none => none
    | _ => none
  | _, _ => none

def aMakeSlice (P : Program) (σ : AS) (t : TypeId) (l c : Value) : Option (Value × AS) :=
  match P.underlying t, l, c with
  | some (.slice elem), .int _ l, .int _ c => match P.info? elem with
    | some inf => match inf.zero with
      | some z =>
        if 0 ≤ l ∧ l ≤ c ∧ c ≤ 1000000 ∧ (inf.bytes * c ≤ 281474976710656) ∧ flat z ∧ 0 < z.cells.size then
          some (.slice (some ⟨σ.next, 0, none⟩) l.toNat c.toNat,
            aRow σ elem ((Array.range (c.toNat * inf.size)).map (z.cells[· % z.cells.size]!)).toList)
        else none
      | none => none
    | none => none
  | _, _, _ => none

def flatO (o : Option Value) : Option Value := match o with | some v => if flat v then some v else none | none => none

/-- Equality of which one side is nil. -/
def aNilEq (d : TypeDesc) (x y : Value) : Option Bool :=
  match d, x, y with
  | .slice _, .slice (some _) _ _, .slice none _ _ | .slice _, .slice none _ _, .slice (some _) _ _ => some false
  | .map _ _, .map (some _), .map none | .map _ _, .map none, .map (some _) => some false
  | .pointer _, .pointer (some _), .pointer none | .pointer _, .pointer none, .pointer (some _) => some false
  | .func _ _ _, .func _ _ _, .nilFunc | .func _ _ _, .nilFunc, .func _ _ _ => some false
  | .interface _, .iface _ _, .nilIface | .interface _, .nilIface, .iface _ _ => some false
  | _, _, _ => none

def aBin (P : Program) (op : BinOp) (t : TypeId) (xo yo : Operand) (x y : Value) : Option Value :=
  if flat x && flat y then flatO (asPure P (do eqGuard op t xo yo x y; binOp op t x y))
  else match op, P.underlying t with
    | .eql, some d => (aNilEq d x y).map .bool
    | .neq, some d => (aNilEq d x y).map fun b => .bool (!b)
    | _, _ => none

def aMinMax (f : Value → Value → Sem Value) (P : Program) (args : List Value) : Option Value :=
  if args.all flat1 then match args with
    | [] => none
    | x :: l => flatO (asPure P (l.foldlM f x))
  else none

def aBuiltin (P : Program) (σ : AS) (b : Builtin) (argTypes : Array TypeId) (args : List Value) : Option (Value × AS) :=
  match b, args with
  | .len, [x] => match argTypes[0]? with
    | some t => match aLen P σ t x with
      | some v => some (v, σ)
      | none => none
    | none => none
  | .cap, [x] => match argTypes[0]? with
    | some t => match aCap P t x with
      | some v => some (v, σ)
      | none => none
    | none => none
  | .append, [s, x] => aAppend P σ argTypes s x
  | .copy, [d, s] => aCopy P σ argTypes d s
  | .delete, [m, k] => match argTypes[0]? with
    | some t => match aDelete P σ t m k with
      | some σ' => some (.tuple #[], σ')
      | none => none
    | none => none
  | .min, args => match aMinMax Builtin.min2 P args with
    | some v => some (v, σ)
    | none => none
  | .max, args => match aMinMax Builtin.max2 P args with
    | some v => some (v, σ)
    | none => none
  | _, _ => none

def ann (σ : AS) (o : Option Value) : Option (Value × AS) := match o with | some v => some (v, σ) | none => none
def unn (o : Option AS) : Option (Value × AS) := match o with | some σ => some (undef, σ) | none => none

def aBuild (P : Program) (t : TypeId) (parts : List (Nat × Value)) : Option Value :=
  match P.info? t with
  | some inf => match inf.zero with
    | some z => if flat z then match P.underlying t with
        | some (.struct fields) => match fields.toList.mapM (fun f => (P.info? f.type).map fun i => (f.offset, i.size)) with
          | some places => match Instr.fill (places.toArray[·]?) z.cells parts with
            | some cells => some (.agg cells)
            | none => none
          | none => none
        | some (.array _ elem) => match P.info? elem with
          | some i => match Instr.fill (fun k => some (k * i.size, i.size)) z.cells parts with
            | some cells => some (.agg cells)
            | none => none
          | none => none
        | _ => none
      else none
    | none => none
  | none => none

def aBuildSlice (P : Program) (σ : AS) (t : TypeId) (len : Nat) (parts : List (Nat × Value)) : Option (Value × AS) :=
  match P.underlying t with
  | some (.slice elem) => match P.info? elem with
    | some inf =>
      if Nat.ble (len * inf.size) 16777216 && Nat.blt len OPENCAP then
        match (if Nat.beq (len * inf.size) 0 then some #[] else match inf.zero with | some z => if flat z && Nat.blt 0 z.cells.size then some z.cells else none | none => none : Option (Array Value)) with
        | some zero => match Instr.fill (fun i => some (i * inf.size, inf.size)) ((Array.range (len * inf.size)).map (zero[· % zero.size]!)) parts with
          | some cells => some (.slice (some ⟨σ.next, 0, none⟩) len len, aRow σ elem cells.toList)
          | none => none
        | none => none
      else none
    | none => none
  | _ => none

/-- An operation that calls no function. -/
def aOp (P : Program) (G : Nat) (r : Regs) (σ : AS) : Op → Option (Value × AS)
  | .move x | .assign x => ann σ (aev G r x)
  | .pick c a b => match aev G r c, aev G r a, aev G r b with
    | some (.bool t), some x, some y => some (if t then x else y, σ)
    | _, _, _ => none
  | .alloc elem => match P.info? elem with
    | some inf => match inf.zero with
      | some z => if flat z then some (.pointer (some ⟨σ.next, 0, none⟩), aRow σ elem z.cells.toList) else none
      | none => none
    | none => none
  | .box elem x => match aev G r x with
    | some v => some (.pointer (some ⟨σ.next, 0, none⟩), aRow σ elem v.cells.toList)
    | none => none
  | .build t parts => match aparts G r parts.toList with
    | some ps => ann σ (aBuild P t ps)
    | none => none
  | .buildSlice t len parts => match aparts G r parts.toList with
    | some ps => aBuildSlice P σ t len ps
    | none => none
  | .load t a => match aev G r a with
    | some v => ann σ (aLoad P σ t v)
    | none => none
  | .store t a x => match aev G r a, aev G r x with
    | some p, some v => unn (aStore P σ t v p)
    | _, _ => none
  | .nilCheck x => match aev G r x with
    | some (.pointer (some a)) => some (.pointer (some a), σ)
    | some (.func (.func f) b c) => some (.func (.func f) b c, σ)
    | some (.iface t v) => some (.iface t v, σ)
    | _ => none
  | .binOp op t x y _ => match aev G r x, aev G r y with
    | some a, some b => ann σ (aBin P op t x y a b)
    | _, _ => none
  | .unOp op _ x => match aev G r x with
    | some a => if flat a then ann σ (flatO (asPure P (Op.unary op a))) else none
    | none => none
  | .convert s d x => match aev G r x with
    | some a => if flat1 a then ann σ (flatO (asPure P (convert s d a))) else none
    | none => none
  | .makeInterface t x => match aev G r x, P.underlying t with
    | some _, some (.interface _) => none
    | some a, some _ => some (.iface t a, σ)
    | _, _ => none
  | .makeFunc fn first captured => match aevs G r first.toList, aevs G r captured.toList with
    | some f, some c => some (.func fn f.toArray c.toArray, σ)
    | _, _ => none
  | .makeMap t none => some (.map (some σ.next), σ.new ⟨3, 0, 0, [], []⟩)
  | .makeMap t (some x) => match P.underlying t, aev G r x with
    | some (.map _ _), some (.int _ _) => some (.map (some σ.next), σ.new ⟨3, 0, 0, [], []⟩)
    | _, _ => none
  | .makeSlice t l c => match aev G r l, aev G r c with
    | some x, some y => aMakeSlice P σ t x y
    | _, _ => none
  | .slice t x lo hi mx => match aev G r x, aopt G r lo, aopt G r hi, aopt G r mx with
    | some v, some l, some h, some m => ann σ (aSlice P σ t v l h m)
    | _, _, _, _ => none
  | .fieldAddr s x f => match aev G r x with
    | some v => ann σ (aField P s f v)
    | none => none
  | .field t x f => match aev G r x with
    | some v => ann σ (aFieldOf P t f v)
    | none => none
  | .indexAddr t x ix => match aev G r x, aev G r ix with
    | some v, some i => ann σ (aIndexAddr P t v i)
    | _, _ => none
  | .index t x ix => match aev G r x, aev G r ix with
    | some v, some i => ann σ (aIndexOf P t v i)
    | _, _ => none
  | .lookup t x ix ok => match aev G r x, aev G r ix with
    | some v, some i => ann σ (aLookup P σ t v i ok)
    | _, _ => none
  | .mapUpdate t m k x => match aev G r m, aev G r k, aev G r x with
    | some a, some b, some c => unn (aUpdate P σ t a b c)
    | _, _, _ => none
  | .extract t ix => match aev G r t with
    | some (.tuple vs) => match vs[ix]? with
      | some v => some (v, σ)
      | none => none
    | _ => none
  | .call c => match c.callee with
    | .builtin b => match aevs G r c.args.toList with
      | some vs => aBuiltin P σ b c.argTypes vs
      | none => none
    | _ => none
  | _ => none

/-- Any operation; a call of a function is answered by 'callf'. -/
def aStep (P : Program) (G : Nat) (callf : FuncId → List Value → AS → Option (Value × AS)) (r : Regs) (σ : AS) (o : Op) : Option (Value × AS) :=
  match o with
  | .call c => match c.callee with
    | .value f => match aev G r f with
      | some (.func (.func f) first captured) => match aevs G r c.args.toList with
        | some vs => callf f (first.toList ++ vs ++ captured.toList) σ
        | none => none
      | _ => none
    | _ => aOp P G r σ o
  | _ => aOp P G r σ o

/-! ### Regions -/

def aWanted (ops : Array Oper) (r : Regs) (o : Oper) : Bool :=
  match o.guard with
  | none => true
  | some (j, want) => match (ops[j]?).bind (·.dst) with
    | some t => match rget r t with
      | .bool b => b == want
      | _ => false
    | none => false

/-- A result goes into a register. -/
def aPut (n : Nat) (r : Regs) (dst : Option Tmp) (v : Value) : Option Regs :=
  match dst with
  | none => some r
  | some d => if Nat.blt d n then some (rput r d v) else none

def aOps (P : Program) (G : Nat) (callf : FuncId → List Value → AS → Option (Value × AS)) (n : Nat) (ops : Array Oper) : List Oper → Regs → AS → Option (Regs × AS)
  | [], r, σ => some (r, σ)
  | o :: rest, r, σ =>
    if aWanted ops r o then match aStep P G callf r σ o.op with
      | some (v, σ') => match aPut n r o.dst v with
        | some r' => aOps P G callf n ops rest r' σ'
        | none => none
      | none => none
    else match aPut n r o.dst undef with
      | some r' => aOps P G callf n ops rest r' σ
      | none => none

/-- Which operations precede each, as bits; the last first. -/
def predBits : List Oper → List Nat → List Nat
  | [], acc => acc
  | o :: l, acc => predBits l ((o.after.toList.foldl (fun s e => if Region.binds .any e then s ||| 2 ^ e.on ||| lget 0 acc.reverse e.on else s) 0) :: acc)

end Go.Proofs.Ytbknckiapcafdaa.Abs
