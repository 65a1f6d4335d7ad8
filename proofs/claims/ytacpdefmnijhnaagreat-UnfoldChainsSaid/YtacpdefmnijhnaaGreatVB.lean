/- Law 18: the chains of calls: what chain(k, body) makes, for k below 40. -/
import Derived.Test.YtacpdefmnijhnaaGreatUA
import Derived.Test.YtacpdefmnijhnaaGreatKnowP
import Derived.KernelRfl
set_option linter.unusedVariables false
namespace Go.Proofs.YtacpdefmnijhnaaGreat.U18
open Abs U

/-- A slice of one element that is full; a slice that grew. -/
def sl1 (b : Nat) : Value := .slice (some ⟨b, 0, none⟩) 1 1
def slo (b k : Nat) : Value := .slice (some ⟨b, 0, none⟩) k (OPENCAP + k)
def fcl (v : Value) : List Value := [.string ⟨#[]⟩, .int .i64 0, .bool true, .int .i64 0, .int .i64 0, v]
def ncl : List Value := [.string ⟨#[97]⟩, .int .i64 (-1), .slice none 0 0, .slice none 0 0, .string ⟨#[98]⟩, .int .i64 (-1), .slice none 0 0, .slice none 0 0, .string ⟨#[99]⟩, .int .i64 (-1), .slice none 0 0, .slice none 0 0, .string ⟨#[100]⟩, .int .i64 (-1), .slice none 0 0, .slice none 0 0]
def ecl : List Value := [.string ⟨#[7, 0, 1, 10, 0, 0]⟩, .string ⟨#[7, 0, 1, 10, 0, 1]⟩, .string ⟨#[7, 0, 1, 10, 0, 2]⟩, .string ⟨#[7, 0, 1, 10, 0, 3]⟩]
def codeB (op n : Int) : Blk := ⟨1, 23, 0, [.int .i64 op, .int .i64 n, .int .i64 0], []⟩
def coreV (bf bn be k : Nat) : Value := .agg #[slo bf (k + 1), slo bn 4, .slice none 0 0, slo be 4]
/-- The cells of the functions whose bodies lie in the blocks bl 0 .. bl k. -/
def fcs (k : Nat) (bl : Nat → Nat) : List Value := ((List.range (k + 1)).map fun i => fcl (sl1 (bl i))).flatten

/-- Where the bodies lie: the last one in block 0. -/
def bl0 (k i : Nat) : Nat := if i = k then 0 else 4 + i
/-- What chain makes: its answer, and the blocks behind the body's. -/
def fam (k : Nat) : Value × List Blk :=
  (coreV 1 2 3 k, ⟨2, 47, 6, fcs k (bl0 k), []⟩ :: ⟨2, 80, 4, ncl, []⟩ :: ⟨2, 25, 1, ecl, []⟩ :: (List.range k).map fun (i : Nat) => codeB 7 ((i + 1 : Nat) : Int))

theorem dot0 : Knows Tryz.prog 29 ([.int .i64 0, .slice none 0 0], .string ⟨#[7, 0, 1, 10, 0, 0]⟩, []) := Knows.alike (fuel := 3000) progOk KD_ok rfl (by kernel_rfl)
theorem dot1 : Knows Tryz.prog 29 ([.int .i64 1, .slice none 0 0], .string ⟨#[7, 0, 1, 10, 0, 1]⟩, []) := Knows.alike (fuel := 3000) progOk KD_ok rfl (by kernel_rfl)
theorem dot2 : Knows Tryz.prog 29 ([.int .i64 2, .slice none 0 0], .string ⟨#[7, 0, 1, 10, 0, 2]⟩, []) := Knows.alike (fuel := 3000) progOk KD_ok rfl (by kernel_rfl)
theorem dot3 : Knows Tryz.prog 29 ([.int .i64 3, .slice none 0 0], .string ⟨#[7, 0, 1, 10, 0, 3]⟩, []) := Knows.alike (fuel := 3000) progOk KD_ok rfl (by kernel_rfl)
noncomputable def dotM : List Memo := [([.int .i64 0, .slice none 0 0], .string ⟨#[7, 0, 1, 10, 0, 0]⟩, []), ([.int .i64 1, .slice none 0 0], .string ⟨#[7, 0, 1, 10, 0, 1]⟩, []), ([.int .i64 2, .slice none 0 0], .string ⟨#[7, 0, 1, 10, 0, 2]⟩, []), ([.int .i64 3, .slice none 0 0], .string ⟨#[7, 0, 1, 10, 0, 3]⟩, [])]
theorem dot_all : KnowsAll Tryz.prog 29 dotM := ⟨dot0, dot1, dot2, dot3, trivial⟩
noncomputable def KDot : Tbl := KD.memo 29 dotM
theorem KDot_ok : KOk Tryz.prog KDot := KOk.memoAll KD_ok dot_all

noncomputable def chk (k : Nat) : Bool := sameTold1 (fam k).1 (fam k).2 (aCall Tryz.prog KDot 0 3000 7 [.int .i64 (k : Int), .slice (some ⟨0, 0, none⟩) 1 1] (deadMem 1))
noncomputable def chks (a n : Nat) : Bool := allBelow (fun i => chk (a + i)) n
theorem chk_of {a n k : Nat} (h : chks a n = true) (h1 : a ≤ k) (h2 : k < a + n) : chk k = true := by
  have := allBelow_at (f := fun i => chk (a + i)) h (i := k - a) (by omega)
  rwa [show a + (k - a) = k by omega] at this
end Go.Proofs.YtacpdefmnijhnaaGreat.U18
