/- The closed check of the law: true. Events of small numbers. -/
import Derived.Test.YtacpdefmnijhnaaGreatUB
set_option linter.unusedVariables false
namespace Go.Proofs.YtacpdefmnijhnaaGreat.U
open Abs

theorem awake_knows : Knows Tryz.prog 17 ([], .bool true, []) := Knows.alike (fuel := 3000) progOk KT_ok rfl (by kernel_rfl)

theorem event0 : Knows Tryz.prog 69 ([.int .i64 0], .bool true, []) := Knows.alike (fuel := 300) progOk KD_ok rfl (by kernel_rfl)
theorem event1 : Knows Tryz.prog 69 ([.int .i64 1], .bool true, []) := Knows.alike (fuel := 300) progOk KD_ok rfl (by kernel_rfl)
theorem event2 : Knows Tryz.prog 69 ([.int .i64 2], .bool true, []) := Knows.alike (fuel := 300) progOk KD_ok rfl (by kernel_rfl)
theorem event3 : Knows Tryz.prog 69 ([.int .i64 3], .bool true, []) := Knows.alike (fuel := 300) progOk KD_ok rfl (by kernel_rfl)
theorem event4 : Knows Tryz.prog 69 ([.int .i64 4], .bool true, []) := Knows.alike (fuel := 300) progOk KD_ok rfl (by kernel_rfl)
theorem event5 : Knows Tryz.prog 69 ([.int .i64 5], .bool true, []) := Knows.alike (fuel := 300) progOk KD_ok rfl (by kernel_rfl)

noncomputable def evs : List Memo := [([.int .i64 0], .bool true, []), ([.int .i64 1], .bool true, []), ([.int .i64 2], .bool true, []), ([.int .i64 3], .bool true, []), ([.int .i64 4], .bool true, []), ([.int .i64 5], .bool true, [])]

/-- The names of channels as values. -/
def dots : List Value := [.string ⟨#[7, 0, 1, 10, 0, 0]⟩, .string ⟨#[7, 0, 1, 10, 0, 1]⟩, .string ⟨#[7, 0, 1, 10, 0, 2]⟩, .string ⟨#[7, 0, 1, 10, 0, 3]⟩]
theorem dot0 : Knows Tryz.prog 29 ([.int .i64 0, .slice none 0 0], .string ⟨#[7, 0, 1, 10, 0, 0]⟩, []) := Knows.alike (fuel := 3000) progOk KD_ok rfl (by kernel_rfl)
theorem dot1 : Knows Tryz.prog 29 ([.int .i64 1, .slice none 0 0], .string ⟨#[7, 0, 1, 10, 0, 1]⟩, []) := Knows.alike (fuel := 3000) progOk KD_ok rfl (by kernel_rfl)
theorem dot2 : Knows Tryz.prog 29 ([.int .i64 2, .slice none 0 0], .string ⟨#[7, 0, 1, 10, 0, 2]⟩, []) := Knows.alike (fuel := 3000) progOk KD_ok rfl (by kernel_rfl)
theorem dot3 : Knows Tryz.prog 29 ([.int .i64 3, .slice none 0 0], .string ⟨#[7, 0, 1, 10, 0, 3]⟩, []) := Knows.alike (fuel := 3000) progOk KD_ok rfl (by kernel_rfl)
noncomputable def dotM : List Memo := [([.int .i64 0, .slice none 0 0], .string ⟨#[7, 0, 1, 10, 0, 0]⟩, []), ([.int .i64 1, .slice none 0 0], .string ⟨#[7, 0, 1, 10, 0, 1]⟩, []), ([.int .i64 2, .slice none 0 0], .string ⟨#[7, 0, 1, 10, 0, 2]⟩, []), ([.int .i64 3, .slice none 0 0], .string ⟨#[7, 0, 1, 10, 0, 3]⟩, [])]

/-- The table in which the check, the events and the names of channels are known. -/
noncomputable def KA : Tbl := ((KD.memo 17 [([], .bool true, [])]).memo 69 evs).memo 29 dotM
theorem awake_all : KnowsAll Tryz.prog 17 [([], .bool true, [])] := ⟨awake_knows, trivial⟩
theorem evs_all : KnowsAll Tryz.prog 69 evs := ⟨event0, event1, event2, event3, event4, event5, trivial⟩
theorem dot_all : KnowsAll Tryz.prog 29 dotM := ⟨dot0, dot1, dot2, dot3, trivial⟩
theorem KA_ok : KOk Tryz.prog KA := KOk.memoAll (KOk.memoAll (KOk.memoAll KD_ok awake_all) evs_all) dot_all

/-- Which functions the table does not know. -/
theorem ka {f : Nat} (h1 : Nat.beq f 17 = false) (h2 : (Nat.beq f 69 || Nat.beq f 29) = false) {args : List Value} {σ : AS} : KA.ask f args σ = none := by
  rw [Bool.or_eq_false_iff] at h2
  show bite (Nat.beq f _) _ _ = _
  rw [h2.2]
  show bite (Nat.beq f _) _ _ = _
  rw [h2.1]
  show bite (Nat.beq f _) _ _ = _
  rw [h1]
  rfl
end Go.Proofs.YtacpdefmnijhnaaGreat.U
