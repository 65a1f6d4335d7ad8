/- The closed check of law 19: true. -/
import Derived.Test.YtacpdefmnijhnaaGreatSF
import Derived.Test.YtacpdefmnijhnaaGreatKnowS
set_option linter.unusedVariables false
namespace Go.Proofs.YtacpdefmnijhnaaGreat.U19
open Abs U
def blk2 : Blk := ⟨1, 3, 0, [.int .i64 2], []⟩
def set2 : Value := .string ⟨#[5, 0, 1, 1, 0, 0, 0, 0, 0, 0, 0, 2]⟩
theorem set_ran : okS (aCall Tryz.prog KT 0 3000 34 [.slice (some ⟨0, 0, none⟩) 1 1] (oneBlk blk2)) set2 = true := by kernel_rfl
/-- The set of one event is known. -/
noncomputable def KV : Tbl := KT.addS 34 blk2 1 1 set2
theorem KV_ok : KOk Tryz.prog KV := KOk.addS progOk KT_ok KT_ok rfl (fun b => by kernel_rfl) rfl set_ran
theorem awake_knows : Knows Tryz.prog 14 ([], .bool true, []) := Knows.alike (fuel := 3000) progOk KV_ok rfl (by kernel_rfl)
/-- The table in which the check is known too. -/
noncomputable def KS : Tbl := KT.memo 14 [([], .bool true, [])]
theorem awake_all : KnowsAll Tryz.prog 14 [([], .bool true, [])] := ⟨awake_knows, trivial⟩
theorem KS_ok : KOk Tryz.prog KS := KOk.memoAll KT_ok awake_all
end Go.Proofs.YtacpdefmnijhnaaGreat.U19
