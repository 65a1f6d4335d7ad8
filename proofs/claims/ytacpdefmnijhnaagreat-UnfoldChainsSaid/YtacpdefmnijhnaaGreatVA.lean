/- Law 18: the calls 0 to 32 as terms: what is known of them. -/
import Derived.Test.YtacpdefmnijhnaaGreatUA
import Derived.Test.YtacpdefmnijhnaaGreatKnowP
import Derived.KernelRfl
set_option linter.unusedVariables false
namespace Go.Proofs.YtacpdefmnijhnaaGreat.U18
open Abs U

/-- The call of function i, as a term; and the number i as a value. -/
def cs (i : Nat) : ByteArray := ⟨#[9, 0, 2, 1, 0, 0, 0, 0, 0, 0, 0, 5, 1, 0, 0, 0, 0, 0, 0, 0, UInt8.ofNat i]⟩
def is (i : Nat) : ByteArray := ⟨#[1, 0, 0, 0, 0, 0, 0, 0, UInt8.ofNat i]⟩
def stopS : ByteArray := ⟨#[9, 0, 1, 1, 0, 0, 0, 0, 0, 0, 0, 1]⟩

noncomputable def ixS (xs : List Value) : Nat := match xs with
  | .string s :: _ => (match s.data.toList.drop 20 with | b :: _ => b.toNat | [] => 99)
  | _ => 99
noncomputable def ixI (xs : List Value) : Nat := match xs with
  | .int _ (.ofNat i) :: _ => i
  | _ => 99

noncomputable def e44 (i : Nat) : Memo := ([.string (cs i)], .tuple #[.int .i64 5, .slice (some ⟨0, 1, none⟩) 1 1], [⟨2, 25, 1, [.string (is 5), .string (is i)], []⟩])
theorem f44 : ∀ i, i < 33 → Knows Tryz.prog 44 (e44 i) := fam_knows (fuel := 3000) progOk KD_ok (by kernel_rfl)
noncomputable def K44 : Tbl := KD.memoF 44 33 ixS e44
theorem K44_ok : KOk Tryz.prog K44 := KOk.memoF KD_ok f44

noncomputable def eB (i : Nat) : Memo := ([.string (cs i)], .bool true, [])
theorem f43 : ∀ i, i < 33 → Knows Tryz.prog 43 (eB i) := fam_knows (fuel := 3000) progOk K44_ok (by kernel_rfl)
noncomputable def K43 : Tbl := K44.memoF 43 33 ixS eB
theorem K43_ok : KOk Tryz.prog K43 := KOk.memoF K44_ok f43

noncomputable def e20 (i : Nat) : Memo := ([.string (cs i)], .int .i64 5, [])
noncomputable def e45 (i : Nat) : Memo := ([.string (cs i)], .tuple #[.int .i64 (i : Int), .slice (some ⟨0, 0, none⟩) 0 0, .bool true], [⟨1, 25, 0, [], []⟩])
noncomputable def e381 (i : Nat) : Memo := ([.int .i64 (i : Int), .slice none 0 0], .string (cs i), [])
noncomputable def e313 (i : Nat) : Memo := ([.string (cs i)], .pointer (some ⟨0, 0, none⟩), [⟨1, 263, 0, [.int .i64 9, .string (cs i), .slice none 0 0, .int .i64 0], []⟩])
theorem f31 : ∀ i, i < 33 → Knows Tryz.prog 31 (eB i) := fam_knows (fuel := 3000) progOk K43_ok (by kernel_rfl)
theorem f20 : ∀ i, i < 33 → Knows Tryz.prog 20 (e20 i) := fam_knows (fuel := 3000) progOk K43_ok (by kernel_rfl)
theorem f45 : ∀ i, i < 33 → Knows Tryz.prog 45 (e45 i) := fam_knows (fuel := 3000) progOk K43_ok (by kernel_rfl)
theorem f381 : ∀ i, i < 33 → Knows Tryz.prog 381 (e381 i) := fam_knows (fuel := 3000) progOk K43_ok (by kernel_rfl)
theorem f313 : ∀ i, i < 33 → Knows Tryz.prog 313 (e313 i) := fam_knows (fuel := 3000) progOk K43_ok (by kernel_rfl)

end Go.Proofs.YtacpdefmnijhnaaGreat.U18
