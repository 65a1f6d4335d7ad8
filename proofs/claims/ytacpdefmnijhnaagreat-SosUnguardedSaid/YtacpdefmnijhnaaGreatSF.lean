/- Closed calls that are known, each by its own run. -/
import Derived.Test.YtacpdefmnijhnaaGreatUC
import Derived.KernelRfl
set_option linter.unusedVariables false
namespace Go.Proofs.YtacpdefmnijhnaaGreat.U19
open Abs U
noncomputable def m0 : Memo := ([.string ⟨#[0, 0, 0, 0, 0, 0, 0, 2]⟩], .int .i64 2, [])
theorem k0 : Knows Tryz.prog 155 m0 := Knows.alike (fuel := 3000) progOk KA_ok rfl (by kernel_rfl)
noncomputable def m1 : Memo := ([.string ⟨#[9, 0, 1, 1, 0, 0, 0, 0, 0, 0, 0, 2]⟩, .int .i64 32, .bool false], .tuple #[.int .i64 12, .slice (some ⟨0, 0, none⟩) 1 18446744073709551617, .int .i64 2], [⟨2, 25, 1, [.string ⟨#[1, 0, 0, 0, 0, 0, 0, 0, 2]⟩], []⟩])
theorem k1 : Knows Tryz.prog 156 m1 := Knows.alike (fuel := 3000) progOk KA_ok rfl (by kernel_rfl)
noncomputable def m2 : Memo := ([.string ⟨#[7, 0, 1, 10, 0, 0]⟩, .int .i64 32, .bool true], .tuple #[.int .i64 6, .slice (some ⟨0, 0, none⟩) 1 18446744073709551617, .int .i64 2], [⟨2, 25, 1, [.string ⟨#[10, 0, 0]⟩], []⟩])
theorem k2 : Knows Tryz.prog 156 m2 := Knows.alike (fuel := 3000) progOk KA_ok rfl (by kernel_rfl)
noncomputable def m3 : Memo := ([.string ⟨#[7, 0, 1, 10, 0, 1]⟩, .int .i64 32, .bool true], .tuple #[.int .i64 6, .slice (some ⟨0, 0, none⟩) 1 18446744073709551617, .int .i64 2], [⟨2, 25, 1, [.string ⟨#[10, 0, 1]⟩], []⟩])
theorem k3 : Knows Tryz.prog 156 m3 := Knows.alike (fuel := 3000) progOk KA_ok rfl (by kernel_rfl)
noncomputable def m4 : Memo := ([.string ⟨#[7, 0, 1, 10, 0, 2]⟩, .int .i64 32, .bool true], .tuple #[.int .i64 6, .slice (some ⟨0, 0, none⟩) 1 18446744073709551617, .int .i64 2], [⟨2, 25, 1, [.string ⟨#[10, 0, 2]⟩], []⟩])
theorem k4 : Knows Tryz.prog 156 m4 := Knows.alike (fuel := 3000) progOk KA_ok rfl (by kernel_rfl)
noncomputable def m5 : Memo := ([.string ⟨#[7, 0, 1, 10, 0, 3]⟩, .int .i64 32, .bool true], .tuple #[.int .i64 6, .slice (some ⟨0, 0, none⟩) 1 18446744073709551617, .int .i64 2], [⟨2, 25, 1, [.string ⟨#[10, 0, 3]⟩], []⟩])
theorem k5 : Knows Tryz.prog 156 m5 := Knows.alike (fuel := 3000) progOk KA_ok rfl (by kernel_rfl)
noncomputable def m6 : Memo := ([.string ⟨#[5, 0, 0]⟩, .int .i64 32, .bool true], .tuple #[.int .i64 3, .slice none 0 0, .int .i64 1], [])
theorem k6 : Knows Tryz.prog 156 m6 := Knows.alike (fuel := 3000) progOk KA_ok rfl (by kernel_rfl)
noncomputable def m7 : Memo := ([.string ⟨#[5, 0, 0, 9, 0, 1, 1, 0, 0, 0, 0, 0, 0, 0, 2]⟩, .int .i64 31, .bool true], .tuple #[.int .i64 3, .slice none 0 0, .int .i64 1], [])
theorem k7 : Knows Tryz.prog 156 m7 := Knows.alike (fuel := 3000) progOk KA_ok rfl (by kernel_rfl)
noncomputable def m8 : Memo := ([.string ⟨#[0, 0, 0, 0, 0, 0, 0, 16]⟩], .int .i64 16, [])
theorem k8 : Knows Tryz.prog 155 m8 := Knows.alike (fuel := 3000) progOk KA_ok rfl (by kernel_rfl)
noncomputable def m9 : Memo := ([.string ⟨#[9, 0, 1, 1, 0, 0, 0, 0, 0, 0, 0, 2, 5, 0, 0, 9, 0, 1, 1, 0, 0, 0, 0, 0, 0, 0, 2]⟩, .int .i64 31, .bool false], .tuple #[.int .i64 12, .slice (some ⟨0, 0, none⟩) 1 18446744073709551617, .int .i64 2], [⟨2, 25, 1, [.string ⟨#[1, 0, 0, 0, 0, 0, 0, 0, 2]⟩], []⟩])
theorem k9 : Knows Tryz.prog 156 m9 := Knows.alike (fuel := 3000) progOk KA_ok rfl (by kernel_rfl)
noncomputable def m10 : Memo := ([.string ⟨#[9, 0, 1, 1, 0, 0, 0, 0, 0, 0, 0, 2]⟩, .int .i64 31, .bool false], .tuple #[.int .i64 12, .slice (some ⟨0, 0, none⟩) 1 18446744073709551617, .int .i64 2], [⟨2, 25, 1, [.string ⟨#[1, 0, 0, 0, 0, 0, 0, 0, 2]⟩], []⟩])
theorem k10 : Knows Tryz.prog 156 m10 := Knows.alike (fuel := 3000) progOk KA_ok rfl (by kernel_rfl)
noncomputable def m11 : Memo := ([.string ⟨#[1, 0, 0, 0, 0, 0, 0, 0, 2]⟩], .int .i64 2, [])
theorem k11 : Knows Tryz.prog 141 m11 := Knows.alike (fuel := 3000) progOk KA_ok rfl (by kernel_rfl)
noncomputable def m12 : Memo := ([.string ⟨#[5, 0, 0, 9, 0, 1, 1, 0, 0, 0, 0, 0, 0, 0, 2]⟩, .int .i64 2], .int .i64 3, [])
theorem k12 : Knows Tryz.prog 147 m12 := Knows.alike (fuel := 3000) progOk KA_ok rfl (by kernel_rfl)
noncomputable def m13 : Memo := ([.string ⟨#[1, 0, 0, 0, 0, 0, 0, 0, 16]⟩], .int .i64 16, [])
theorem k13 : Knows Tryz.prog 141 m13 := Knows.alike (fuel := 3000) progOk KA_ok rfl (by kernel_rfl)
noncomputable def m14 : Memo := ([.string ⟨#[9, 0, 4, 1, 0, 0, 0, 0, 0, 0, 0, 16, 9, 0, 1, 1, 0, 0, 0, 0, 0, 0, 0, 2, 5, 0, 0, 9, 0, 1, 1, 0, 0, 0, 0, 0, 0, 0, 2]⟩], .slice (some ⟨0, 0, none⟩) 4 4, [⟨2, 25, 1, [.string ⟨#[1, 0, 0, 0, 0, 0, 0, 0, 16]⟩, .string ⟨#[9, 0, 1, 1, 0, 0, 0, 0, 0, 0, 0, 2]⟩, .string ⟨#[5, 0, 0]⟩, .string ⟨#[9, 0, 1, 1, 0, 0, 0, 0, 0, 0, 0, 2]⟩], []⟩])
theorem k14 : Knows Tryz.prog 140 m14 := Knows.alike (fuel := 3000) progOk KA_ok rfl (by kernel_rfl)
noncomputable def m15 : Memo := ([.string ⟨#[5, 0, 0]⟩, .int .i64 1], .int .i64 3, [])
theorem k15 : Knows Tryz.prog 147 m15 := Knows.alike (fuel := 3000) progOk KA_ok rfl (by kernel_rfl)
noncomputable def m16 : Memo := ([.string ⟨#[1, 0, 0, 0, 0, 0, 0, 0, 4]⟩], .int .i64 4, [])
theorem k16 : Knows Tryz.prog 141 m16 := Knows.alike (fuel := 3000) progOk KA_ok rfl (by kernel_rfl)
noncomputable def m17 : Memo := ([.string ⟨#[9, 0, 4, 1, 0, 0, 0, 0, 0, 0, 0, 16, 9, 0, 1, 1, 0, 0, 0, 0, 0, 0, 0, 4, 5, 0, 0, 9, 0, 1, 1, 0, 0, 0, 0, 0, 0, 0, 2]⟩], .slice (some ⟨0, 0, none⟩) 4 4, [⟨2, 25, 1, [.string ⟨#[1, 0, 0, 0, 0, 0, 0, 0, 16]⟩, .string ⟨#[9, 0, 1, 1, 0, 0, 0, 0, 0, 0, 0, 4]⟩, .string ⟨#[5, 0, 0]⟩, .string ⟨#[9, 0, 1, 1, 0, 0, 0, 0, 0, 0, 0, 2]⟩], []⟩])
theorem k17 : Knows Tryz.prog 140 m17 := Knows.alike (fuel := 3000) progOk KA_ok rfl (by kernel_rfl)
noncomputable def m18 : Memo := ([.string ⟨#[5, 0, 0, 9, 0, 1, 1, 0, 0, 0, 0, 0, 0, 0, 4]⟩, .int .i64 2], .int .i64 3, [])
theorem k18 : Knows Tryz.prog 147 m18 := Knows.alike (fuel := 3000) progOk KA_ok rfl (by kernel_rfl)
noncomputable def m19 : Memo := ([.string ⟨#[9, 0, 4, 1, 0, 0, 0, 0, 0, 0, 0, 16, 9, 0, 1, 1, 0, 0, 0, 0, 0, 0, 0, 2, 5, 0, 0, 9, 0, 1, 1, 0, 0, 0, 0, 0, 0, 0, 4]⟩], .slice (some ⟨0, 0, none⟩) 4 4, [⟨2, 25, 1, [.string ⟨#[1, 0, 0, 0, 0, 0, 0, 0, 16]⟩, .string ⟨#[9, 0, 1, 1, 0, 0, 0, 0, 0, 0, 0, 2]⟩, .string ⟨#[5, 0, 0]⟩, .string ⟨#[9, 0, 1, 1, 0, 0, 0, 0, 0, 0, 0, 4]⟩], []⟩])
theorem k19 : Knows Tryz.prog 140 m19 := Knows.alike (fuel := 3000) progOk KA_ok rfl (by kernel_rfl)
noncomputable def m20 : Memo := ([.string ⟨#[0, 0, 0, 0, 0, 0, 0, 6]⟩], .int .i64 6, [])
theorem k20 : Knows Tryz.prog 155 m20 := Knows.alike (fuel := 3000) progOk KA_ok rfl (by kernel_rfl)
noncomputable def m21 : Memo := ([.string ⟨#[5, 0, 1, 1, 0, 0, 0, 0, 0, 0, 0, 2]⟩, .int .i64 32, .bool true], .tuple #[.int .i64 12, .slice (some ⟨0, 0, none⟩) 1 18446744073709551617, .int .i64 2], [⟨2, 25, 1, [.string ⟨#[1, 0, 0, 0, 0, 0, 0, 0, 2]⟩], []⟩])
theorem k21 : Knows Tryz.prog 156 m21 := Knows.alike (fuel := 3000) progOk KA_ok rfl (by kernel_rfl)
noncomputable def m22 : Memo := ([.string ⟨#[5, 0, 1, 1, 0, 0, 0, 0, 0, 0, 0, 2]⟩, .int .i64 31, .bool true], .tuple #[.int .i64 12, .slice (some ⟨0, 0, none⟩) 1 18446744073709551617, .int .i64 2], [⟨2, 25, 1, [.string ⟨#[1, 0, 0, 0, 0, 0, 0, 0, 2]⟩], []⟩])
theorem k22 : Knows Tryz.prog 156 m22 := Knows.alike (fuel := 3000) progOk KA_ok rfl (by kernel_rfl)
noncomputable def m23 : Memo := ([.string ⟨#[0, 0, 0, 0, 0, 0, 0, 14]⟩], .int .i64 14, [])
theorem k23 : Knows Tryz.prog 155 m23 := Knows.alike (fuel := 3000) progOk KA_ok rfl (by kernel_rfl)
noncomputable def m24 : Memo := ([.string ⟨#[9, 0, 1, 1, 0, 0, 0, 0, 0, 0, 0, 2, 5, 0, 1, 1, 0, 0, 0, 0, 0, 0, 0, 2]⟩, .int .i64 30, .bool false], .tuple #[.int .i64 12, .slice (some ⟨0, 0, none⟩) 1 18446744073709551617, .int .i64 2], [⟨2, 25, 1, [.string ⟨#[1, 0, 0, 0, 0, 0, 0, 0, 2]⟩], []⟩])
theorem k24 : Knows Tryz.prog 156 m24 := Knows.alike (fuel := 3000) progOk KA_ok rfl (by kernel_rfl)
noncomputable def m25 : Memo := ([.string ⟨#[5, 0, 1, 1, 0, 0, 0, 0, 0, 0, 0, 2]⟩, .int .i64 31, .bool false], .tuple #[.int .i64 12, .slice (some ⟨0, 0, none⟩) 1 18446744073709551617, .int .i64 2], [⟨2, 25, 1, [.string ⟨#[1, 0, 0, 0, 0, 0, 0, 0, 2]⟩], []⟩])
theorem k25 : Knows Tryz.prog 156 m25 := Knows.alike (fuel := 3000) progOk KA_ok rfl (by kernel_rfl)
noncomputable def m26 : Memo := ([.string ⟨#[5, 0, 1, 1, 0, 0, 0, 0, 0, 0, 0, 2]⟩, .int .i64 32, .bool false], .tuple #[.int .i64 12, .slice (some ⟨0, 0, none⟩) 1 18446744073709551617, .int .i64 2], [⟨2, 25, 1, [.string ⟨#[1, 0, 0, 0, 0, 0, 0, 0, 2]⟩], []⟩])
theorem k26 : Knows Tryz.prog 156 m26 := Knows.alike (fuel := 3000) progOk KA_ok rfl (by kernel_rfl)
noncomputable def m27 : Memo := ([.string ⟨#[1, 0, 0, 0, 0, 0, 0, 0, 6]⟩], .int .i64 6, [])
theorem k27 : Knows Tryz.prog 141 m27 := Knows.alike (fuel := 3000) progOk KA_ok rfl (by kernel_rfl)
noncomputable def m28 : Memo := ([.string ⟨#[5, 0, 1, 1, 0, 0, 0, 0, 0, 0, 0, 2]⟩, .int .i64 2], .int .i64 12, [])
theorem k28 : Knows Tryz.prog 220 m28 := Knows.alike (fuel := 3000) progOk KA_ok rfl (by kernel_rfl)
noncomputable def m29 : Memo := ([.string ⟨#[1, 0, 0, 0, 0, 0, 0, 0, 14]⟩], .int .i64 14, [])
theorem k29 : Knows Tryz.prog 141 m29 := Knows.alike (fuel := 3000) progOk KA_ok rfl (by kernel_rfl)
noncomputable def m30 : Memo := ([.string ⟨#[9, 0, 3, 1, 0, 0, 0, 0, 0, 0, 0, 6, 1, 0, 0, 0, 0, 0, 0, 0, 2, 9, 0, 1, 1, 0, 0, 0, 0, 0, 0, 0, 2, 5, 0, 1, 1, 0, 0, 0, 0, 0, 0, 0, 2]⟩], .int .i64 33, [])
theorem k30 : Knows Tryz.prog 207 m30 := Knows.alike (fuel := 3000) progOk KA_ok rfl (by kernel_rfl)
noncomputable def m31 : Memo := ([.string ⟨#[9, 0, 3, 1, 0, 0, 0, 0, 0, 0, 0, 6, 1, 0, 0, 0, 0, 0, 0, 0, 2, 9, 0, 1, 1, 0, 0, 0, 0, 0, 0, 0, 2]⟩], .slice (some ⟨0, 0, none⟩) 3 3, [⟨2, 25, 1, [.string ⟨#[1, 0, 0, 0, 0, 0, 0, 0, 6]⟩, .string ⟨#[1, 0, 0, 0, 0, 0, 0, 0, 2]⟩, .string ⟨#[9, 0, 1, 1, 0, 0, 0, 0, 0, 0, 0, 2]⟩], []⟩])
theorem k31 : Knows Tryz.prog 140 m31 := Knows.alike (fuel := 3000) progOk KA_ok rfl (by kernel_rfl)
noncomputable def m32 : Memo := ([.string ⟨#[5, 0, 1, 1, 0, 0, 0, 0, 0, 0, 0, 2]⟩, .int .i64 1], .int .i64 12, [])
theorem k32 : Knows Tryz.prog 220 m32 := Knows.alike (fuel := 3000) progOk KA_ok rfl (by kernel_rfl)
noncomputable def m33 : Memo := ([.string ⟨#[9, 0, 3, 1, 0, 0, 0, 0, 0, 0, 0, 14, 9, 0, 1, 1, 0, 0, 0, 0, 0, 0, 0, 2, 5, 0, 1, 1, 0, 0, 0, 0, 0, 0, 0, 2]⟩], .slice (some ⟨0, 0, none⟩) 3 3, [⟨2, 25, 1, [.string ⟨#[1, 0, 0, 0, 0, 0, 0, 0, 14]⟩, .string ⟨#[9, 0, 1, 1, 0, 0, 0, 0, 0, 0, 0, 2]⟩, .string ⟨#[5, 0, 1, 1, 0, 0, 0, 0, 0, 0, 0, 2]⟩], []⟩])
theorem k33 : Knows Tryz.prog 140 m33 := Knows.alike (fuel := 3000) progOk KA_ok rfl (by kernel_rfl)
noncomputable def m34 : Memo := ([.string ⟨#[0, 0, 0, 0, 0, 0, 0, 5]⟩], .int .i64 5, [])
theorem k34 : Knows Tryz.prog 155 m34 := Knows.alike (fuel := 3000) progOk KA_ok rfl (by kernel_rfl)
noncomputable def m35 : Memo := ([.string ⟨#[9, 0, 2, 1, 0, 0, 0, 0, 0, 0, 0, 5, 1, 0, 0, 0, 0, 0, 0, 0, 0]⟩, .int .i64 32, .bool false], .tuple #[.int .i64 21, .slice (some ⟨0, 0, none⟩) 2 18446744073709551618, .int .i64 2], [⟨2, 25, 1, [.string ⟨#[1, 0, 0, 0, 0, 0, 0, 0, 5]⟩, .string ⟨#[1, 0, 0, 0, 0, 0, 0, 0, 0]⟩], []⟩])
theorem k35 : Knows Tryz.prog 156 m35 := Knows.alike (fuel := 3000) progOk KA_ok rfl (by kernel_rfl)
noncomputable def m36 : Memo := ([.string ⟨#[0, 0, 0, 0, 0, 0, 0, 0]⟩], .int .i64 0, [])
theorem k36 : Knows Tryz.prog 155 m36 := Knows.alike (fuel := 3000) progOk KA_ok rfl (by kernel_rfl)
noncomputable def m37 : Memo := ([.string ⟨#[1, 0, 0, 0, 0, 0, 0, 0, 5]⟩], .int .i64 5, [])
theorem k37 : Knows Tryz.prog 141 m37 := Knows.alike (fuel := 3000) progOk KA_ok rfl (by kernel_rfl)
noncomputable def m38 : Memo := ([.string ⟨#[1, 0, 0, 0, 0, 0, 0, 0, 0]⟩], .int .i64 0, [])
theorem k38 : Knows Tryz.prog 141 m38 := Knows.alike (fuel := 3000) progOk KA_ok rfl (by kernel_rfl)
noncomputable def m39 : Memo := ([.string ⟨#[7, 0, 1, 10, 0, 0]⟩, .int .i64 1], .int .i64 6, [])
theorem k39 : Knows Tryz.prog 220 m39 := Knows.alike (fuel := 3000) progOk KA_ok rfl (by kernel_rfl)
noncomputable def m40 : Memo := ([.string ⟨#[7, 0, 1, 10, 0, 1]⟩, .int .i64 1], .int .i64 6, [])
theorem k40 : Knows Tryz.prog 220 m40 := Knows.alike (fuel := 3000) progOk KA_ok rfl (by kernel_rfl)
noncomputable def m41 : Memo := ([.string ⟨#[7, 0, 1, 10, 0, 2]⟩, .int .i64 1], .int .i64 6, [])
theorem k41 : Knows Tryz.prog 220 m41 := Knows.alike (fuel := 3000) progOk KA_ok rfl (by kernel_rfl)
noncomputable def m42 : Memo := ([.string ⟨#[7, 0, 1, 10, 0, 3]⟩, .int .i64 1], .int .i64 6, [])
theorem k42 : Knows Tryz.prog 220 m42 := Knows.alike (fuel := 3000) progOk KA_ok rfl (by kernel_rfl)
noncomputable def m43 : Memo := ([.string ⟨#[1, 0, 0, 0, 0, 0, 0, 0, 1]⟩], .int .i64 1, [])
theorem k43 : Knows Tryz.prog 141 m43 := Knows.alike (fuel := 3000) progOk KA_ok rfl (by kernel_rfl)
noncomputable def m44 : Memo := ([.string ⟨#[1, 0, 0, 0, 0, 0, 0, 0, 7]⟩], .int .i64 7, [])
theorem k44 : Knows Tryz.prog 141 m44 := Knows.alike (fuel := 3000) progOk KA_ok rfl (by kernel_rfl)
noncomputable def m45 : Memo := ([.string ⟨#[9, 0, 3, 1, 0, 0, 0, 0, 0, 0, 0, 7, 9, 0, 1, 1, 0, 0, 0, 0, 0, 0, 0, 1, 9, 0, 2, 1, 0, 0, 0, 0, 0, 0, 0, 5, 1, 0, 0, 0, 0, 0, 0, 0, 0]⟩], .slice (some ⟨0, 0, none⟩) 3 3, [⟨2, 25, 1, [.string ⟨#[1, 0, 0, 0, 0, 0, 0, 0, 7]⟩, .string ⟨#[9, 0, 1, 1, 0, 0, 0, 0, 0, 0, 0, 1]⟩, .string ⟨#[9, 0, 2, 1, 0, 0, 0, 0, 0, 0, 0, 5, 1, 0, 0, 0, 0, 0, 0, 0, 0]⟩], []⟩])
theorem k45 : Knows Tryz.prog 140 m45 := Knows.alike (fuel := 3000) progOk KA_ok rfl (by kernel_rfl)
noncomputable def m46 : Memo := ([.string ⟨#[1, 0, 0, 0, 0, 0, 0, 0, 9]⟩], .int .i64 9, [])
theorem k46 : Knows Tryz.prog 141 m46 := Knows.alike (fuel := 3000) progOk KA_ok rfl (by kernel_rfl)
noncomputable def m47 : Memo := ([.string ⟨#[9, 0, 3, 1, 0, 0, 0, 0, 0, 0, 0, 9, 9, 0, 2, 1, 0, 0, 0, 0, 0, 0, 0, 5, 1, 0, 0, 0, 0, 0, 0, 0, 0, 9, 0, 1, 1, 0, 0, 0, 0, 0, 0, 0, 1]⟩], .slice (some ⟨0, 0, none⟩) 3 3, [⟨2, 25, 1, [.string ⟨#[1, 0, 0, 0, 0, 0, 0, 0, 9]⟩, .string ⟨#[9, 0, 2, 1, 0, 0, 0, 0, 0, 0, 0, 5, 1, 0, 0, 0, 0, 0, 0, 0, 0]⟩, .string ⟨#[9, 0, 1, 1, 0, 0, 0, 0, 0, 0, 0, 1]⟩], []⟩])
theorem k47 : Knows Tryz.prog 140 m47 := Knows.alike (fuel := 3000) progOk KA_ok rfl (by kernel_rfl)
noncomputable def m48 : Memo := ([.string ⟨#[5, 0, 0, 9, 0, 2, 1, 0, 0, 0, 0, 0, 0, 0, 5, 1, 0, 0, 0, 0, 0, 0, 0, 0]⟩, .int .i64 2], .int .i64 3, [])
theorem k48 : Knows Tryz.prog 147 m48 := Knows.alike (fuel := 3000) progOk KA_ok rfl (by kernel_rfl)
noncomputable def m49 : Memo := ([.string ⟨#[9, 0, 4, 1, 0, 0, 0, 0, 0, 0, 0, 16, 9, 0, 1, 1, 0, 0, 0, 0, 0, 0, 0, 1, 5, 0, 0, 9, 0, 2, 1, 0, 0, 0, 0, 0, 0, 0, 5, 1, 0, 0, 0, 0, 0, 0, 0, 0]⟩], .slice (some ⟨0, 0, none⟩) 4 4, [⟨2, 25, 1, [.string ⟨#[1, 0, 0, 0, 0, 0, 0, 0, 16]⟩, .string ⟨#[9, 0, 1, 1, 0, 0, 0, 0, 0, 0, 0, 1]⟩, .string ⟨#[5, 0, 0]⟩, .string ⟨#[9, 0, 2, 1, 0, 0, 0, 0, 0, 0, 0, 5, 1, 0, 0, 0, 0, 0, 0, 0, 0]⟩], []⟩])
theorem k49 : Knows Tryz.prog 140 m49 := Knows.alike (fuel := 3000) progOk KA_ok rfl (by kernel_rfl)
noncomputable def m50 : Memo := ([.string ⟨#[5, 0, 0]⟩, .int .i64 2], .int .i64 3, [])
theorem k50 : Knows Tryz.prog 147 m50 := Knows.alike (fuel := 3000) progOk KA_ok rfl (by kernel_rfl)
noncomputable def m51 : Memo := ([.string ⟨#[9, 0, 3, 1, 0, 0, 0, 0, 0, 0, 0, 14, 9, 0, 2, 1, 0, 0, 0, 0, 0, 0, 0, 5, 1, 0, 0, 0, 0, 0, 0, 0, 0, 5, 0, 0]⟩], .slice (some ⟨0, 0, none⟩) 3 3, [⟨2, 25, 1, [.string ⟨#[1, 0, 0, 0, 0, 0, 0, 0, 14]⟩, .string ⟨#[9, 0, 2, 1, 0, 0, 0, 0, 0, 0, 0, 5, 1, 0, 0, 0, 0, 0, 0, 0, 0]⟩, .string ⟨#[5, 0, 0]⟩], []⟩])
theorem k51 : Knows Tryz.prog 140 m51 := Knows.alike (fuel := 3000) progOk KA_ok rfl (by kernel_rfl)
noncomputable def m52 : Memo := ([.string ⟨#[9, 0, 3, 1, 0, 0, 0, 0, 0, 0, 0, 9, 9, 0, 1, 1, 0, 0, 0, 0, 0, 0, 0, 1, 9, 0, 2, 1, 0, 0, 0, 0, 0, 0, 0, 5, 1, 0, 0, 0, 0, 0, 0, 0, 0]⟩], .slice (some ⟨0, 0, none⟩) 3 3, [⟨2, 25, 1, [.string ⟨#[1, 0, 0, 0, 0, 0, 0, 0, 9]⟩, .string ⟨#[9, 0, 1, 1, 0, 0, 0, 0, 0, 0, 0, 1]⟩, .string ⟨#[9, 0, 2, 1, 0, 0, 0, 0, 0, 0, 0, 5, 1, 0, 0, 0, 0, 0, 0, 0, 0]⟩], []⟩])
theorem k52 : Knows Tryz.prog 140 m52 := Knows.alike (fuel := 3000) progOk KA_ok rfl (by kernel_rfl)
noncomputable def m53 : Memo := ([.string ⟨#[1, 0, 0, 0, 0, 0, 0, 0, 11]⟩], .int .i64 11, [])
theorem k53 : Knows Tryz.prog 141 m53 := Knows.alike (fuel := 3000) progOk KA_ok rfl (by kernel_rfl)
noncomputable def m54 : Memo := ([.string ⟨#[9, 0, 3, 1, 0, 0, 0, 0, 0, 0, 0, 11, 9, 0, 1, 1, 0, 0, 0, 0, 0, 0, 0, 1, 9, 0, 2, 1, 0, 0, 0, 0, 0, 0, 0, 5, 1, 0, 0, 0, 0, 0, 0, 0, 0]⟩], .slice (some ⟨0, 0, none⟩) 3 3, [⟨2, 25, 1, [.string ⟨#[1, 0, 0, 0, 0, 0, 0, 0, 11]⟩, .string ⟨#[9, 0, 1, 1, 0, 0, 0, 0, 0, 0, 0, 1]⟩, .string ⟨#[9, 0, 2, 1, 0, 0, 0, 0, 0, 0, 0, 5, 1, 0, 0, 0, 0, 0, 0, 0, 0]⟩], []⟩])
theorem k54 : Knows Tryz.prog 140 m54 := Knows.alike (fuel := 3000) progOk KA_ok rfl (by kernel_rfl)
noncomputable def m55 : Memo := ([.string ⟨#[1, 0, 0, 0, 0, 0, 0, 0, 8]⟩], .int .i64 8, [])
theorem k55 : Knows Tryz.prog 141 m55 := Knows.alike (fuel := 3000) progOk KA_ok rfl (by kernel_rfl)
noncomputable def m56 : Memo := ([.string ⟨#[9, 0, 3, 1, 0, 0, 0, 0, 0, 0, 0, 8, 9, 0, 2, 1, 0, 0, 0, 0, 0, 0, 0, 5, 1, 0, 0, 0, 0, 0, 0, 0, 0, 9, 0, 2, 1, 0, 0, 0, 0, 0, 0, 0, 5, 1, 0, 0, 0, 0, 0, 0, 0, 0]⟩], .slice (some ⟨0, 0, none⟩) 3 3, [⟨2, 25, 1, [.string ⟨#[1, 0, 0, 0, 0, 0, 0, 0, 8]⟩, .string ⟨#[9, 0, 2, 1, 0, 0, 0, 0, 0, 0, 0, 5, 1, 0, 0, 0, 0, 0, 0, 0, 0]⟩, .string ⟨#[9, 0, 2, 1, 0, 0, 0, 0, 0, 0, 0, 5, 1, 0, 0, 0, 0, 0, 0, 0, 0]⟩], []⟩])
theorem k56 : Knows Tryz.prog 140 m56 := Knows.alike (fuel := 3000) progOk KA_ok rfl (by kernel_rfl)
noncomputable def m57 : Memo := ([.string ⟨#[9, 0, 3, 1, 0, 0, 0, 0, 0, 0, 0, 6, 1, 0, 0, 0, 0, 0, 0, 0, 4, 9, 0, 2, 1, 0, 0, 0, 0, 0, 0, 0, 5, 1, 0, 0, 0, 0, 0, 0, 0, 0]⟩], .slice (some ⟨0, 0, none⟩) 3 3, [⟨2, 25, 1, [.string ⟨#[1, 0, 0, 0, 0, 0, 0, 0, 6]⟩, .string ⟨#[1, 0, 0, 0, 0, 0, 0, 0, 4]⟩, .string ⟨#[9, 0, 2, 1, 0, 0, 0, 0, 0, 0, 0, 5, 1, 0, 0, 0, 0, 0, 0, 0, 0]⟩], []⟩])
theorem k57 : Knows Tryz.prog 140 m57 := Knows.alike (fuel := 3000) progOk KA_ok rfl (by kernel_rfl)
noncomputable def ms140_0 : List Memo := [m14, m17, m19, m31, m33, m45, m47, m49, m51, m52, m54, m56, m57]
theorem ks140_0 : KnowsAll Tryz.prog 140 ms140_0 := ⟨k14, k17, k19, k31, k33, k45, k47, k49, k51, k52, k54, k56, k57, trivial⟩
noncomputable def ms141_0 : List Memo := [m11, m13, m16, m27, m29, m37, m38, m43, m44, m46, m53, m55]
theorem ks141_0 : KnowsAll Tryz.prog 141 ms141_0 := ⟨k11, k13, k16, k27, k29, k37, k38, k43, k44, k46, k53, k55, trivial⟩
noncomputable def ms147_0 : List Memo := [m12, m15, m18, m48, m50]
theorem ks147_0 : KnowsAll Tryz.prog 147 ms147_0 := ⟨k12, k15, k18, k48, k50, trivial⟩
noncomputable def ms155_0 : List Memo := [m0, m8, m20, m23, m34, m36]
theorem ks155_0 : KnowsAll Tryz.prog 155 ms155_0 := ⟨k0, k8, k20, k23, k34, k36, trivial⟩
noncomputable def ms156_0 : List Memo := [m1, m2, m3, m4, m5, m6, m7, m9, m10, m21, m22, m24, m25, m26, m35]
theorem ks156_0 : KnowsAll Tryz.prog 156 ms156_0 := ⟨k1, k2, k3, k4, k5, k6, k7, k9, k10, k21, k22, k24, k25, k26, k35, trivial⟩
noncomputable def ms207_0 : List Memo := [m30]
theorem ks207_0 : KnowsAll Tryz.prog 207 ms207_0 := ⟨k30, trivial⟩
noncomputable def ms220_0 : List Memo := [m28, m32, m39, m40, m41, m42]
theorem ks220_0 : KnowsAll Tryz.prog 220 ms220_0 := ⟨k28, k32, k39, k40, k41, k42, trivial⟩
noncomputable def K0T : Tbl := (((((((KA.memo 140 ms140_0).memo 141 ms141_0).memo 147 ms147_0).memo 155 ms155_0).memo 156 ms156_0).memo 207 ms207_0).memo 220 ms220_0)
theorem K0T_ok : KOk Tryz.prog K0T := (KOk.memoAll (KOk.memoAll (KOk.memoAll (KOk.memoAll (KOk.memoAll (KOk.memoAll (KOk.memoAll KA_ok ks140_0) ks141_0) ks147_0) ks155_0) ks156_0) ks207_0) ks220_0)
noncomputable def m58 : Memo := ([.string ⟨#[9, 0, 1, 1, 0, 0, 0, 0, 0, 0, 0, 2]⟩, .int .i64 32, .bool true], .tuple #[.int .i64 12, .slice (some ⟨0, 0, none⟩) 1 18446744073709551617, .int .i64 2], [⟨2, 25, 1, [.string ⟨#[1, 0, 0, 0, 0, 0, 0, 0, 2]⟩], []⟩])
theorem k58 : Knows Tryz.prog 156 m58 := Knows.alike (fuel := 3000) progOk K0T_ok rfl (by kernel_rfl)
noncomputable def m59 : Memo := ([.string ⟨#[1, 0, 0, 0, 0, 0, 0, 0, 2]⟩], .int .i64 2, [])
theorem k59 : Knows Tryz.prog 109 m59 := Knows.alike (fuel := 3000) progOk K0T_ok rfl (by kernel_rfl)
noncomputable def m60 : Memo := ([.string ⟨#[9, 0, 1, 1, 0, 0, 0, 0, 0, 0, 0, 2, 5, 0, 0, 9, 0, 1, 1, 0, 0, 0, 0, 0, 0, 0, 2]⟩, .int .i64 31, .bool true], .tuple #[.int .i64 12, .slice (some ⟨0, 0, none⟩) 1 18446744073709551617, .int .i64 2], [⟨2, 25, 1, [.string ⟨#[1, 0, 0, 0, 0, 0, 0, 0, 2]⟩], []⟩])
theorem k60 : Knows Tryz.prog 156 m60 := Knows.alike (fuel := 3000) progOk K0T_ok rfl (by kernel_rfl)
noncomputable def m61 : Memo := ([.string ⟨#[9, 0, 1, 1, 0, 0, 0, 0, 0, 0, 0, 2]⟩, .int .i64 31, .bool true], .tuple #[.int .i64 12, .slice (some ⟨0, 0, none⟩) 1 18446744073709551617, .int .i64 2], [⟨2, 25, 1, [.string ⟨#[1, 0, 0, 0, 0, 0, 0, 0, 2]⟩], []⟩])
theorem k61 : Knows Tryz.prog 156 m61 := Knows.alike (fuel := 3000) progOk K0T_ok rfl (by kernel_rfl)
noncomputable def m62 : Memo := ([.string ⟨#[9, 0, 4, 1, 0, 0, 0, 0, 0, 0, 0, 16, 9, 0, 1, 1, 0, 0, 0, 0, 0, 0, 0, 2, 5, 0, 0, 9, 0, 1, 1, 0, 0, 0, 0, 0, 0, 0, 2]⟩, .int .i64 32, .bool false], .tuple #[.int .i64 39, .slice (some ⟨0, 0, none⟩) 4 18446744073709551620, .int .i64 3], [⟨2, 25, 1, [.string ⟨#[1, 0, 0, 0, 0, 0, 0, 0, 16]⟩, .string ⟨#[9, 0, 1, 1, 0, 0, 0, 0, 0, 0, 0, 2]⟩, .string ⟨#[5, 0, 0]⟩, .string ⟨#[9, 0, 1, 1, 0, 0, 0, 0, 0, 0, 0, 2]⟩], []⟩])
theorem k62 : Knows Tryz.prog 156 m62 := Knows.alike (fuel := 3000) progOk K0T_ok rfl (by kernel_rfl)
noncomputable def m63 : Memo := ([.string ⟨#[1, 0, 0, 0, 0, 0, 0, 0, 16]⟩], .int .i64 16, [])
theorem k63 : Knows Tryz.prog 109 m63 := Knows.alike (fuel := 3000) progOk K0T_ok rfl (by kernel_rfl)
noncomputable def m64 : Memo := ([.string ⟨#[5, 0, 0]⟩], .slice none 0 0, [])
theorem k64 : Knows Tryz.prog 107 m64 := Knows.alike (fuel := 3000) progOk K0T_ok rfl (by kernel_rfl)
noncomputable def m65 : Memo := ([.string ⟨#[9, 0, 1, 1, 0, 0, 0, 0, 0, 0, 0, 2, 5, 0, 0, 9, 0, 1, 1, 0, 0, 0, 0, 0, 0, 0, 2]⟩, .int .i64 2], .int .i64 12, [])
theorem k65 : Knows Tryz.prog 220 m65 := Knows.alike (fuel := 3000) progOk K0T_ok rfl (by kernel_rfl)
noncomputable def m66 : Memo := ([.string ⟨#[9, 0, 1, 1, 0, 0, 0, 0, 0, 0, 0, 2]⟩, .int .i64 2], .int .i64 12, [])
theorem k66 : Knows Tryz.prog 220 m66 := Knows.alike (fuel := 3000) progOk K0T_ok rfl (by kernel_rfl)
noncomputable def m67 : Memo := ([.string ⟨#[9, 0, 1, 1, 0, 0, 0, 0, 0, 0, 0, 2]⟩, .int .i64 1], .int .i64 12, [])
theorem k67 : Knows Tryz.prog 220 m67 := Knows.alike (fuel := 3000) progOk K0T_ok rfl (by kernel_rfl)
noncomputable def m68 : Memo := ([.string ⟨#[5, 0, 0]⟩], .tuple #[.slice none 0 0, .bool true], [])
theorem k68 : Knows Tryz.prog 135 m68 := Knows.alike (fuel := 3000) progOk K0T_ok rfl (by kernel_rfl)
noncomputable def m69 : Memo := ([.string ⟨#[9, 0, 1, 1, 0, 0, 0, 0, 0, 0, 0, 4]⟩, .int .i64 1], .int .i64 12, [])
theorem k69 : Knows Tryz.prog 220 m69 := Knows.alike (fuel := 3000) progOk K0T_ok rfl (by kernel_rfl)
noncomputable def m70 : Memo := ([.string ⟨#[9, 0, 1, 1, 0, 0, 0, 0, 0, 0, 0, 4, 5, 0, 0, 9, 0, 1, 1, 0, 0, 0, 0, 0, 0, 0, 2]⟩, .int .i64 2], .int .i64 12, [])
theorem k70 : Knows Tryz.prog 220 m70 := Knows.alike (fuel := 3000) progOk K0T_ok rfl (by kernel_rfl)
noncomputable def m71 : Memo := ([.string ⟨#[9, 0, 1, 1, 0, 0, 0, 0, 0, 0, 0, 2, 5, 0, 0, 9, 0, 1, 1, 0, 0, 0, 0, 0, 0, 0, 4]⟩, .int .i64 2], .int .i64 12, [])
theorem k71 : Knows Tryz.prog 220 m71 := Knows.alike (fuel := 3000) progOk K0T_ok rfl (by kernel_rfl)
noncomputable def m72 : Memo := ([.string ⟨#[9, 0, 1, 1, 0, 0, 0, 0, 0, 0, 0, 4]⟩, .int .i64 2], .int .i64 12, [])
theorem k72 : Knows Tryz.prog 220 m72 := Knows.alike (fuel := 3000) progOk K0T_ok rfl (by kernel_rfl)
noncomputable def m73 : Memo := ([.string ⟨#[1, 0, 0, 0, 0, 0, 0, 0, 2]⟩, .string ⟨#[1, 0, 0, 0, 0, 0, 0, 0, 4]⟩], .int .i64 (-1), [])
theorem k73 : Knows Tryz.prog 159 m73 := Knows.alike (fuel := 3000) progOk K0T_ok rfl (by kernel_rfl)
noncomputable def m74 : Memo := ([.string ⟨#[9, 0, 3, 1, 0, 0, 0, 0, 0, 0, 0, 6, 1, 0, 0, 0, 0, 0, 0, 0, 2, 9, 0, 1, 1, 0, 0, 0, 0, 0, 0, 0, 2]⟩, .int .i64 32, .bool false], .tuple #[.int .i64 33, .slice (some ⟨0, 0, none⟩) 3 18446744073709551619, .int .i64 3], [⟨2, 25, 1, [.string ⟨#[1, 0, 0, 0, 0, 0, 0, 0, 6]⟩, .string ⟨#[1, 0, 0, 0, 0, 0, 0, 0, 2]⟩, .string ⟨#[9, 0, 1, 1, 0, 0, 0, 0, 0, 0, 0, 2]⟩], []⟩])
theorem k74 : Knows Tryz.prog 156 m74 := Knows.alike (fuel := 3000) progOk K0T_ok rfl (by kernel_rfl)
noncomputable def m75 : Memo := ([.string ⟨#[1, 0, 0, 0, 0, 0, 0, 0, 6]⟩], .int .i64 6, [])
theorem k75 : Knows Tryz.prog 109 m75 := Knows.alike (fuel := 3000) progOk K0T_ok rfl (by kernel_rfl)
noncomputable def m76 : Memo := ([.string ⟨#[9, 0, 1, 1, 0, 0, 0, 0, 0, 0, 0, 2, 5, 0, 1, 1, 0, 0, 0, 0, 0, 0, 0, 2]⟩, .int .i64 30, .bool true], .tuple #[.int .i64 12, .slice (some ⟨0, 0, none⟩) 1 18446744073709551617, .int .i64 2], [⟨2, 25, 1, [.string ⟨#[1, 0, 0, 0, 0, 0, 0, 0, 2]⟩], []⟩])
theorem k76 : Knows Tryz.prog 156 m76 := Knows.alike (fuel := 3000) progOk K0T_ok rfl (by kernel_rfl)
noncomputable def m77 : Memo := ([.string ⟨#[9, 0, 3, 1, 0, 0, 0, 0, 0, 0, 0, 6, 1, 0, 0, 0, 0, 0, 0, 0, 2, 9, 0, 1, 1, 0, 0, 0, 0, 0, 0, 0, 2, 5, 0, 1, 1, 0, 0, 0, 0, 0, 0, 0, 2]⟩, .int .i64 31, .bool false], .tuple #[.int .i64 33, .slice (some ⟨0, 0, none⟩) 3 18446744073709551619, .int .i64 3], [⟨2, 25, 1, [.string ⟨#[1, 0, 0, 0, 0, 0, 0, 0, 6]⟩, .string ⟨#[1, 0, 0, 0, 0, 0, 0, 0, 2]⟩, .string ⟨#[9, 0, 1, 1, 0, 0, 0, 0, 0, 0, 0, 2]⟩], []⟩])
theorem k77 : Knows Tryz.prog 156 m77 := Knows.alike (fuel := 3000) progOk K0T_ok rfl (by kernel_rfl)
noncomputable def m78 : Memo := ([.string ⟨#[1, 0, 0, 0, 0, 0, 0, 0, 14]⟩], .int .i64 14, [])
theorem k78 : Knows Tryz.prog 109 m78 := Knows.alike (fuel := 3000) progOk K0T_ok rfl (by kernel_rfl)
noncomputable def m79 : Memo := ([.string ⟨#[9, 0, 1, 1, 0, 0, 0, 0, 0, 0, 0, 2, 5, 0, 1, 1, 0, 0, 0, 0, 0, 0, 0, 2]⟩, .int .i64 3], .int .i64 12, [])
theorem k79 : Knows Tryz.prog 220 m79 := Knows.alike (fuel := 3000) progOk K0T_ok rfl (by kernel_rfl)
noncomputable def m80 : Memo := ([.string ⟨#[9, 0, 3, 1, 0, 0, 0, 0, 0, 0, 0, 14, 9, 0, 3, 1, 0, 0, 0, 0, 0, 0, 0, 6, 1, 0, 0, 0, 0, 0, 0, 0, 2, 9, 0, 1, 1, 0, 0, 0, 0, 0, 0, 0, 2, 5, 0, 1, 1, 0, 0, 0, 0, 0, 0, 0, 2]⟩], .slice (some ⟨0, 0, none⟩) 3 3, [⟨2, 25, 1, [.string ⟨#[1, 0, 0, 0, 0, 0, 0, 0, 14]⟩, .string ⟨#[9, 0, 3, 1, 0, 0, 0, 0, 0, 0, 0, 6, 1, 0, 0, 0, 0, 0, 0, 0, 2, 9, 0, 1, 1, 0, 0, 0, 0, 0, 0, 0, 2]⟩, .string ⟨#[5, 0, 1, 1, 0, 0, 0, 0, 0, 0, 0, 2]⟩], []⟩])
theorem k80 : Knows Tryz.prog 140 m80 := Knows.alike (fuel := 3000) progOk K0T_ok rfl (by kernel_rfl)
noncomputable def m81 : Memo := ([.string ⟨#[1, 0, 0, 0, 0, 0, 0, 0, 2]⟩], .tuple #[.int .i64 2, .bool true], [])
theorem k81 : Knows Tryz.prog 133 m81 := Knows.alike (fuel := 3000) progOk K0T_ok rfl (by kernel_rfl)
noncomputable def m82 : Memo := ([.string ⟨#[5, 0, 1, 1, 0, 0, 0, 0, 0, 0, 0, 2]⟩], .slice (some ⟨0, 0, none⟩) 1 1, [⟨2, 25, 1, [.string ⟨#[1, 0, 0, 0, 0, 0, 0, 0, 2]⟩], []⟩])
theorem k82 : Knows Tryz.prog 84 m82 := Knows.alike (fuel := 3000) progOk K0T_ok rfl (by kernel_rfl)
noncomputable def m83 : Memo := ([.string ⟨#[9, 0, 1, 1, 0, 0, 0, 0, 0, 0, 0, 2, 5, 0, 1, 1, 0, 0, 0, 0, 0, 0, 0, 2]⟩, .int .i64 2], .int .i64 12, [])
theorem k83 : Knows Tryz.prog 220 m83 := Knows.alike (fuel := 3000) progOk K0T_ok rfl (by kernel_rfl)
noncomputable def m84 : Memo := ([.string ⟨#[9, 0, 2, 1, 0, 0, 0, 0, 0, 0, 0, 5, 1, 0, 0, 0, 0, 0, 0, 0, 0]⟩, .int .i64 32, .bool true], .tuple #[.int .i64 21, .slice (some ⟨0, 0, none⟩) 2 18446744073709551618, .int .i64 2], [⟨2, 25, 1, [.string ⟨#[1, 0, 0, 0, 0, 0, 0, 0, 5]⟩, .string ⟨#[1, 0, 0, 0, 0, 0, 0, 0, 0]⟩], []⟩])
theorem k84 : Knows Tryz.prog 156 m84 := Knows.alike (fuel := 3000) progOk K0T_ok rfl (by kernel_rfl)
noncomputable def m85 : Memo := ([.string ⟨#[1, 0, 0, 0, 0, 0, 0, 0, 5]⟩], .int .i64 5, [])
theorem k85 : Knows Tryz.prog 109 m85 := Knows.alike (fuel := 3000) progOk K0T_ok rfl (by kernel_rfl)
noncomputable def m86 : Memo := ([.string ⟨#[1, 0, 0, 0, 0, 0, 0, 0, 0]⟩, .int .i64 0, .int .i64 65535], .bool true, [])
theorem k86 : Knows Tryz.prog 110 m86 := Knows.alike (fuel := 3000) progOk K0T_ok rfl (by kernel_rfl)
noncomputable def m87 : Memo := ([.string ⟨#[9, 0, 2, 1, 0, 0, 0, 0, 0, 0, 0, 5, 1, 0, 0, 0, 0, 0, 0, 0, 0]⟩, .int .i64 1], .int .i64 21, [])
theorem k87 : Knows Tryz.prog 220 m87 := Knows.alike (fuel := 3000) progOk K0T_ok rfl (by kernel_rfl)
noncomputable def m88 : Memo := ([.string ⟨#[1, 0, 0, 0, 0, 0, 0, 0, 0]⟩, .int .i64 65535], .bool true, [])
theorem k88 : Knows Tryz.prog 76 m88 := Knows.alike (fuel := 3000) progOk K0T_ok rfl (by kernel_rfl)
noncomputable def m89 : Memo := ([.string ⟨#[9, 0, 1, 1, 0, 0, 0, 0, 0, 0, 0, 1]⟩, .int .i64 1], .int .i64 12, [])
theorem k89 : Knows Tryz.prog 220 m89 := Knows.alike (fuel := 3000) progOk K0T_ok rfl (by kernel_rfl)
noncomputable def m90 : Memo := ([.string ⟨#[9, 0, 1, 1, 0, 0, 0, 0, 0, 0, 0, 1, 9, 0, 2, 1, 0, 0, 0, 0, 0, 0, 0, 5, 1, 0, 0, 0, 0, 0, 0, 0, 0]⟩, .int .i64 2], .int .i64 12, [])
theorem k90 : Knows Tryz.prog 220 m90 := Knows.alike (fuel := 3000) progOk K0T_ok rfl (by kernel_rfl)
noncomputable def m91 : Memo := ([.string ⟨#[9, 0, 2, 1, 0, 0, 0, 0, 0, 0, 0, 5, 1, 0, 0, 0, 0, 0, 0, 0, 0]⟩, .int .i64 2], .int .i64 21, [])
theorem k91 : Knows Tryz.prog 220 m91 := Knows.alike (fuel := 3000) progOk K0T_ok rfl (by kernel_rfl)
noncomputable def m92 : Memo := ([.string ⟨#[9, 0, 2, 1, 0, 0, 0, 0, 0, 0, 0, 5, 1, 0, 0, 0, 0, 0, 0, 0, 0, 9, 0, 1, 1, 0, 0, 0, 0, 0, 0, 0, 1]⟩, .int .i64 2], .int .i64 21, [])
theorem k92 : Knows Tryz.prog 220 m92 := Knows.alike (fuel := 3000) progOk K0T_ok rfl (by kernel_rfl)
noncomputable def m93 : Memo := ([.string ⟨#[9, 0, 1, 1, 0, 0, 0, 0, 0, 0, 0, 1]⟩, .int .i64 2], .int .i64 12, [])
theorem k93 : Knows Tryz.prog 220 m93 := Knows.alike (fuel := 3000) progOk K0T_ok rfl (by kernel_rfl)
noncomputable def m94 : Memo := ([.string ⟨#[9, 0, 1, 1, 0, 0, 0, 0, 0, 0, 0, 1, 5, 0, 0, 9, 0, 2, 1, 0, 0, 0, 0, 0, 0, 0, 5, 1, 0, 0, 0, 0, 0, 0, 0, 0]⟩, .int .i64 2], .int .i64 12, [])
theorem k94 : Knows Tryz.prog 220 m94 := Knows.alike (fuel := 3000) progOk K0T_ok rfl (by kernel_rfl)
noncomputable def m95 : Memo := ([.string ⟨#[9, 0, 2, 1, 0, 0, 0, 0, 0, 0, 0, 5, 1, 0, 0, 0, 0, 0, 0, 0, 0, 5, 0, 0]⟩, .int .i64 2], .int .i64 21, [])
theorem k95 : Knows Tryz.prog 220 m95 := Knows.alike (fuel := 3000) progOk K0T_ok rfl (by kernel_rfl)
noncomputable def m96 : Memo := ([.string ⟨#[9, 0, 2, 1, 0, 0, 0, 0, 0, 0, 0, 5, 1, 0, 0, 0, 0, 0, 0, 0, 0, 9, 0, 2, 1, 0, 0, 0, 0, 0, 0, 0, 5, 1, 0, 0, 0, 0, 0, 0, 0, 0]⟩, .int .i64 2], .int .i64 21, [])
theorem k96 : Knows Tryz.prog 220 m96 := Knows.alike (fuel := 3000) progOk K0T_ok rfl (by kernel_rfl)
noncomputable def m97 : Memo := ([.string ⟨#[7, 0, 1, 10, 0, 2]⟩], .pointer (some ⟨0, 0, none⟩), [⟨1, 263, 0, [.int .i64 7, .string ⟨#[7, 0, 1, 10, 0, 2]⟩, .slice none 0 0, .int .i64 0], []⟩])
theorem k97 : Knows Tryz.prog 313 m97 := Knows.alike (fuel := 3000) progOk K0T_ok rfl (by kernel_rfl)
noncomputable def m98 : Memo := ([.string ⟨#[7, 0, 1, 10, 0, 2]⟩], .slice (some ⟨0, 0, none⟩) 1 1, [⟨2, 25, 1, [.string ⟨#[10, 0, 2]⟩], []⟩])
theorem k98 : Knows Tryz.prog 84 m98 := Knows.alike (fuel := 3000) progOk K0T_ok rfl (by kernel_rfl)
noncomputable def m99 : Memo := ([.string ⟨#[1, 0, 0, 0, 0, 0, 0, 0, 4]⟩], .tuple #[.int .i64 4, .bool true], [])
theorem k99 : Knows Tryz.prog 133 m99 := Knows.alike (fuel := 3000) progOk K0T_ok rfl (by kernel_rfl)
noncomputable def ms76_1 : List Memo := [m88]
theorem ks76_1 : KnowsAll Tryz.prog 76 ms76_1 := ⟨k88, trivial⟩
noncomputable def ms84_1 : List Memo := [m82, m98]
theorem ks84_1 : KnowsAll Tryz.prog 84 ms84_1 := ⟨k82, k98, trivial⟩
noncomputable def ms107_1 : List Memo := [m64]
theorem ks107_1 : KnowsAll Tryz.prog 107 ms107_1 := ⟨k64, trivial⟩
noncomputable def ms109_1 : List Memo := [m59, m63, m75, m78, m85]
theorem ks109_1 : KnowsAll Tryz.prog 109 ms109_1 := ⟨k59, k63, k75, k78, k85, trivial⟩
noncomputable def ms110_1 : List Memo := [m86]
theorem ks110_1 : KnowsAll Tryz.prog 110 ms110_1 := ⟨k86, trivial⟩
noncomputable def ms133_1 : List Memo := [m81, m99]
theorem ks133_1 : KnowsAll Tryz.prog 133 ms133_1 := ⟨k81, k99, trivial⟩
noncomputable def ms135_1 : List Memo := [m68]
theorem ks135_1 : KnowsAll Tryz.prog 135 ms135_1 := ⟨k68, trivial⟩
noncomputable def ms140_1 : List Memo := [m14, m17, m19, m31, m33, m45, m47, m49, m51, m52, m54, m56, m57, m80]
theorem ks140_1 : KnowsAll Tryz.prog 140 ms140_1 := ⟨k14, k17, k19, k31, k33, k45, k47, k49, k51, k52, k54, k56, k57, k80, trivial⟩
noncomputable def ms141_1 : List Memo := [m11, m13, m16, m27, m29, m37, m38, m43, m44, m46, m53, m55]
theorem ks141_1 : KnowsAll Tryz.prog 141 ms141_1 := ⟨k11, k13, k16, k27, k29, k37, k38, k43, k44, k46, k53, k55, trivial⟩
noncomputable def ms147_1 : List Memo := [m12, m15, m18, m48, m50]
theorem ks147_1 : KnowsAll Tryz.prog 147 ms147_1 := ⟨k12, k15, k18, k48, k50, trivial⟩
noncomputable def ms155_1 : List Memo := [m0, m8, m20, m23, m34, m36]
theorem ks155_1 : KnowsAll Tryz.prog 155 ms155_1 := ⟨k0, k8, k20, k23, k34, k36, trivial⟩
noncomputable def ms156_1 : List Memo := [m1, m2, m3, m4, m5, m6, m7, m9, m10, m21, m22, m24, m25, m26, m35, m58, m60, m61, m62, m74, m76, m77, m84]
theorem ks156_1 : KnowsAll Tryz.prog 156 ms156_1 := ⟨k1, k2, k3, k4, k5, k6, k7, k9, k10, k21, k22, k24, k25, k26, k35, k58, k60, k61, k62, k74, k76, k77, k84, trivial⟩
noncomputable def ms159_1 : List Memo := [m73]
theorem ks159_1 : KnowsAll Tryz.prog 159 ms159_1 := ⟨k73, trivial⟩
noncomputable def ms207_1 : List Memo := [m30]
theorem ks207_1 : KnowsAll Tryz.prog 207 ms207_1 := ⟨k30, trivial⟩
noncomputable def ms220_1 : List Memo := [m28, m32, m39, m40, m41, m42, m65, m66, m67, m69, m70, m71, m72, m79, m83, m87, m89, m90, m91, m92, m93, m94, m95, m96]
theorem ks220_1 : KnowsAll Tryz.prog 220 ms220_1 := ⟨k28, k32, k39, k40, k41, k42, k65, k66, k67, k69, k70, k71, k72, k79, k83, k87, k89, k90, k91, k92, k93, k94, k95, k96, trivial⟩
noncomputable def ms313_1 : List Memo := [m97]
theorem ks313_1 : KnowsAll Tryz.prog 313 ms313_1 := ⟨k97, trivial⟩
noncomputable def K1T : Tbl := ((((((((((((((((KA.memo 76 ms76_1).memo 84 ms84_1).memo 107 ms107_1).memo 109 ms109_1).memo 110 ms110_1).memo 133 ms133_1).memo 135 ms135_1).memo 140 ms140_1).memo 141 ms141_1).memo 147 ms147_1).memo 155 ms155_1).memo 156 ms156_1).memo 159 ms159_1).memo 207 ms207_1).memo 220 ms220_1).memo 313 ms313_1)
theorem K1T_ok : KOk Tryz.prog K1T := (KOk.memoAll (KOk.memoAll (KOk.memoAll (KOk.memoAll (KOk.memoAll (KOk.memoAll (KOk.memoAll (KOk.memoAll (KOk.memoAll (KOk.memoAll (KOk.memoAll (KOk.memoAll (KOk.memoAll (KOk.memoAll (KOk.memoAll (KOk.memoAll KA_ok ks76_1) ks84_1) ks107_1) ks109_1) ks110_1) ks133_1) ks135_1) ks140_1) ks141_1) ks147_1) ks155_1) ks156_1) ks159_1) ks207_1) ks220_1) ks313_1)
noncomputable def m100 : Memo := ([.string ⟨#[9, 0, 1, 1, 0, 0, 0, 0, 0, 0, 0, 2]⟩], .bool true, [])
theorem k100 : Knows Tryz.prog 54 m100 := Knows.alike (fuel := 3000) progOk K1T_ok rfl (by kernel_rfl)
noncomputable def m101 : Memo := ([.string ⟨#[9, 0, 4, 1, 0, 0, 0, 0, 0, 0, 0, 16, 9, 0, 1, 1, 0, 0, 0, 0, 0, 0, 0, 2, 5, 0, 0, 9, 0, 1, 1, 0, 0, 0, 0, 0, 0, 0, 2]⟩, .int .i64 32, .bool true], .tuple #[.int .i64 39, .slice (some ⟨0, 0, none⟩) 4 18446744073709551620, .int .i64 3], [⟨2, 25, 1, [.string ⟨#[1, 0, 0, 0, 0, 0, 0, 0, 16]⟩, .string ⟨#[9, 0, 1, 1, 0, 0, 0, 0, 0, 0, 0, 2]⟩, .string ⟨#[5, 0, 0]⟩, .string ⟨#[9, 0, 1, 1, 0, 0, 0, 0, 0, 0, 0, 2]⟩], []⟩])
theorem k101 : Knows Tryz.prog 156 m101 := Knows.alike (fuel := 3000) progOk K1T_ok rfl (by kernel_rfl)
noncomputable def m102 : Memo := ([.string ⟨#[5, 0, 0]⟩], .tuple #[.slice none 0 0, .bool true], [])
theorem k102 : Knows Tryz.prog 112 m102 := Knows.alike (fuel := 3000) progOk K1T_ok rfl (by kernel_rfl)
noncomputable def m103 : Memo := ([.string ⟨#[9, 0, 4, 1, 0, 0, 0, 0, 0, 0, 0, 16, 9, 0, 1, 1, 0, 0, 0, 0, 0, 0, 0, 2, 5, 0, 0, 9, 0, 1, 1, 0, 0, 0, 0, 0, 0, 0, 2]⟩, .int .i64 1], .int .i64 39, [])
theorem k103 : Knows Tryz.prog 220 m103 := Knows.alike (fuel := 3000) progOk K1T_ok rfl (by kernel_rfl)
noncomputable def m104 : Memo := ([.string ⟨#[9, 0, 1, 1, 0, 0, 0, 0, 0, 0, 0, 2]⟩], .slice (some ⟨0, 0, none⟩) 1 1, [⟨2, 25, 1, [.string ⟨#[1, 0, 0, 0, 0, 0, 0, 0, 2]⟩], []⟩])
theorem k104 : Knows Tryz.prog 84 m104 := Knows.alike (fuel := 3000) progOk K1T_ok rfl (by kernel_rfl)
noncomputable def m105 : Memo := ([.string ⟨#[9, 0, 1, 1, 0, 0, 0, 0, 0, 0, 0, 4]⟩], .slice (some ⟨0, 0, none⟩) 1 1, [⟨2, 25, 1, [.string ⟨#[1, 0, 0, 0, 0, 0, 0, 0, 4]⟩], []⟩])
theorem k105 : Knows Tryz.prog 84 m105 := Knows.alike (fuel := 3000) progOk K1T_ok rfl (by kernel_rfl)
noncomputable def m106 : Memo := ([.string ⟨#[9, 0, 4, 1, 0, 0, 0, 0, 0, 0, 0, 16, 9, 0, 1, 1, 0, 0, 0, 0, 0, 0, 0, 4, 5, 0, 0, 9, 0, 1, 1, 0, 0, 0, 0, 0, 0, 0, 2]⟩, .int .i64 1], .int .i64 39, [])
theorem k106 : Knows Tryz.prog 220 m106 := Knows.alike (fuel := 3000) progOk K1T_ok rfl (by kernel_rfl)
noncomputable def m107 : Memo := ([.string ⟨#[9, 0, 4, 1, 0, 0, 0, 0, 0, 0, 0, 16, 9, 0, 1, 1, 0, 0, 0, 0, 0, 0, 0, 2, 5, 0, 0, 9, 0, 1, 1, 0, 0, 0, 0, 0, 0, 0, 4]⟩, .int .i64 1], .int .i64 39, [])
theorem k107 : Knows Tryz.prog 220 m107 := Knows.alike (fuel := 3000) progOk K1T_ok rfl (by kernel_rfl)
noncomputable def m108 : Memo := ([.string ⟨#[9, 0, 1, 1, 0, 0, 0, 0, 0, 0, 0, 2]⟩, .string ⟨#[9, 0, 1, 1, 0, 0, 0, 0, 0, 0, 0, 4]⟩], .int .i64 (-1), [])
theorem k108 : Knows Tryz.prog 159 m108 := Knows.alike (fuel := 3000) progOk K1T_ok rfl (by kernel_rfl)
noncomputable def m109 : Memo := ([.string ⟨#[9, 0, 3, 1, 0, 0, 0, 0, 0, 0, 0, 6, 1, 0, 0, 0, 0, 0, 0, 0, 2, 9, 0, 1, 1, 0, 0, 0, 0, 0, 0, 0, 2]⟩, .int .i64 32, .bool true], .tuple #[.int .i64 33, .slice (some ⟨0, 0, none⟩) 3 18446744073709551619, .int .i64 3], [⟨2, 25, 1, [.string ⟨#[1, 0, 0, 0, 0, 0, 0, 0, 6]⟩, .string ⟨#[1, 0, 0, 0, 0, 0, 0, 0, 2]⟩, .string ⟨#[9, 0, 1, 1, 0, 0, 0, 0, 0, 0, 0, 2]⟩], []⟩])
theorem k109 : Knows Tryz.prog 156 m109 := Knows.alike (fuel := 3000) progOk K1T_ok rfl (by kernel_rfl)
noncomputable def m110 : Memo := ([.string ⟨#[1, 0, 0, 0, 0, 0, 0, 0, 2]⟩, .int .i64 2, .int .i64 1025], .bool true, [])
theorem k110 : Knows Tryz.prog 110 m110 := Knows.alike (fuel := 3000) progOk K1T_ok rfl (by kernel_rfl)
noncomputable def m111 : Memo := ([.string ⟨#[9, 0, 3, 1, 0, 0, 0, 0, 0, 0, 0, 6, 1, 0, 0, 0, 0, 0, 0, 0, 2, 9, 0, 1, 1, 0, 0, 0, 0, 0, 0, 0, 2, 5, 0, 1, 1, 0, 0, 0, 0, 0, 0, 0, 2]⟩, .int .i64 31, .bool true], .tuple #[.int .i64 33, .slice (some ⟨0, 0, none⟩) 3 18446744073709551619, .int .i64 3], [⟨2, 25, 1, [.string ⟨#[1, 0, 0, 0, 0, 0, 0, 0, 6]⟩, .string ⟨#[1, 0, 0, 0, 0, 0, 0, 0, 2]⟩, .string ⟨#[9, 0, 1, 1, 0, 0, 0, 0, 0, 0, 0, 2]⟩], []⟩])
theorem k111 : Knows Tryz.prog 156 m111 := Knows.alike (fuel := 3000) progOk K1T_ok rfl (by kernel_rfl)
noncomputable def m112 : Memo := ([.string ⟨#[9, 0, 3, 1, 0, 0, 0, 0, 0, 0, 0, 14, 9, 0, 3, 1, 0, 0, 0, 0, 0, 0, 0, 6, 1, 0, 0, 0, 0, 0, 0, 0, 2, 9, 0, 1, 1, 0, 0, 0, 0, 0, 0, 0, 2, 5, 0, 1, 1, 0, 0, 0, 0, 0, 0, 0, 2]⟩, .int .i64 32, .bool false], .tuple #[.int .i64 57, .slice (some ⟨0, 0, none⟩) 3 18446744073709551619, .int .i64 4], [⟨2, 25, 1, [.string ⟨#[1, 0, 0, 0, 0, 0, 0, 0, 14]⟩, .string ⟨#[9, 0, 3, 1, 0, 0, 0, 0, 0, 0, 0, 6, 1, 0, 0, 0, 0, 0, 0, 0, 2, 9, 0, 1, 1, 0, 0, 0, 0, 0, 0, 0, 2]⟩, .string ⟨#[5, 0, 1, 1, 0, 0, 0, 0, 0, 0, 0, 2]⟩], []⟩])
theorem k112 : Knows Tryz.prog 156 m112 := Knows.alike (fuel := 3000) progOk K1T_ok rfl (by kernel_rfl)
noncomputable def m113 : Memo := ([.string ⟨#[5, 0, 1, 1, 0, 0, 0, 0, 0, 0, 0, 2]⟩], .tuple #[.slice (some ⟨0, 0, none⟩) 1 18446744073709551617, .bool true], [⟨2, 3, 1, [.int .i64 2], []⟩])
theorem k113 : Knows Tryz.prog 112 m113 := Knows.alike (fuel := 3000) progOk K1T_ok rfl (by kernel_rfl)
noncomputable def m114 : Memo := ([.string ⟨#[9, 0, 3, 1, 0, 0, 0, 0, 0, 0, 0, 6, 1, 0, 0, 0, 0, 0, 0, 0, 2, 9, 0, 1, 1, 0, 0, 0, 0, 0, 0, 0, 2, 5, 0, 1, 1, 0, 0, 0, 0, 0, 0, 0, 2]⟩, .int .i64 2], .int .i64 33, [])
theorem k114 : Knows Tryz.prog 220 m114 := Knows.alike (fuel := 3000) progOk K1T_ok rfl (by kernel_rfl)
noncomputable def m115 : Memo := ([.string ⟨#[9, 0, 3, 1, 0, 0, 0, 0, 0, 0, 0, 6, 1, 0, 0, 0, 0, 0, 0, 0, 2, 9, 0, 1, 1, 0, 0, 0, 0, 0, 0, 0, 2]⟩, .int .i64 1], .int .i64 33, [])
theorem k115 : Knows Tryz.prog 220 m115 := Knows.alike (fuel := 3000) progOk K1T_ok rfl (by kernel_rfl)
noncomputable def m116 : Memo := ([.string ⟨#[5, 0, 1, 1, 0, 0, 0, 0, 0, 0, 0, 2]⟩], .tuple #[.slice (some ⟨0, 0, none⟩) 1 1, .bool true], [⟨2, 3, 1, [.int .i64 2], []⟩])
theorem k116 : Knows Tryz.prog 135 m116 := Knows.alike (fuel := 3000) progOk K1T_ok rfl (by kernel_rfl)
noncomputable def m117 : Memo := ([.string ⟨#[9, 0, 3, 1, 0, 0, 0, 0, 0, 0, 0, 14, 9, 0, 1, 1, 0, 0, 0, 0, 0, 0, 0, 2, 5, 0, 1, 1, 0, 0, 0, 0, 0, 0, 0, 2]⟩, .int .i64 1], .int .i64 36, [])
theorem k117 : Knows Tryz.prog 220 m117 := Knows.alike (fuel := 3000) progOk K1T_ok rfl (by kernel_rfl)
noncomputable def m118 : Memo := ([.string ⟨#[9, 0, 2, 1, 0, 0, 0, 0, 0, 0, 0, 5, 1, 0, 0, 0, 0, 0, 0, 0, 0]⟩], .bool true, [])
theorem k118 : Knows Tryz.prog 54 m118 := Knows.alike (fuel := 3000) progOk K1T_ok rfl (by kernel_rfl)
noncomputable def m119 : Memo := ([.string ⟨#[9, 0, 2, 1, 0, 0, 0, 0, 0, 0, 0, 5, 1, 0, 0, 0, 0, 0, 0, 0, 0]⟩], .slice (some ⟨0, 0, none⟩) 2 2, [⟨2, 25, 1, [.string ⟨#[1, 0, 0, 0, 0, 0, 0, 0, 5]⟩, .string ⟨#[1, 0, 0, 0, 0, 0, 0, 0, 0]⟩], []⟩])
theorem k119 : Knows Tryz.prog 84 m119 := Knows.alike (fuel := 3000) progOk K1T_ok rfl (by kernel_rfl)
noncomputable def m120 : Memo := ([.string ⟨#[9, 0, 1, 1, 0, 0, 0, 0, 0, 0, 0, 1]⟩], .slice (some ⟨0, 0, none⟩) 1 1, [⟨2, 25, 1, [.string ⟨#[1, 0, 0, 0, 0, 0, 0, 0, 1]⟩], []⟩])
theorem k120 : Knows Tryz.prog 84 m120 := Knows.alike (fuel := 3000) progOk K1T_ok rfl (by kernel_rfl)
noncomputable def m121 : Memo := ([.string ⟨#[9, 0, 1, 1, 0, 0, 0, 0, 0, 0, 0, 1]⟩], .pointer (some ⟨0, 0, none⟩), [⟨1, 263, 0, [.int .i64 9, .string ⟨#[9, 0, 1, 1, 0, 0, 0, 0, 0, 0, 0, 1]⟩, .slice none 0 0, .int .i64 0], []⟩])
theorem k121 : Knows Tryz.prog 313 m121 := Knows.alike (fuel := 3000) progOk K1T_ok rfl (by kernel_rfl)
noncomputable def m122 : Memo := ([.string ⟨#[9, 0, 2, 1, 0, 0, 0, 0, 0, 0, 0, 5, 1, 0, 0, 0, 0, 0, 0, 0, 0]⟩], .pointer (some ⟨0, 0, none⟩), [⟨1, 263, 0, [.int .i64 9, .string ⟨#[9, 0, 2, 1, 0, 0, 0, 0, 0, 0, 0, 5, 1, 0, 0, 0, 0, 0, 0, 0, 0]⟩, .slice none 0 0, .int .i64 0], []⟩])
theorem k122 : Knows Tryz.prog 313 m122 := Knows.alike (fuel := 3000) progOk K1T_ok rfl (by kernel_rfl)
noncomputable def m123 : Memo := ([.string ⟨#[9, 0, 3, 1, 0, 0, 0, 0, 0, 0, 0, 7, 9, 0, 1, 1, 0, 0, 0, 0, 0, 0, 0, 1, 9, 0, 2, 1, 0, 0, 0, 0, 0, 0, 0, 5, 1, 0, 0, 0, 0, 0, 0, 0, 0]⟩, .int .i64 1], .int .i64 45, [])
theorem k123 : Knows Tryz.prog 220 m123 := Knows.alike (fuel := 3000) progOk K1T_ok rfl (by kernel_rfl)
noncomputable def m124 : Memo := ([.string ⟨#[9, 0, 3, 1, 0, 0, 0, 0, 0, 0, 0, 9, 9, 0, 2, 1, 0, 0, 0, 0, 0, 0, 0, 5, 1, 0, 0, 0, 0, 0, 0, 0, 0, 9, 0, 1, 1, 0, 0, 0, 0, 0, 0, 0, 1]⟩, .int .i64 1], .int .i64 45, [])
theorem k124 : Knows Tryz.prog 220 m124 := Knows.alike (fuel := 3000) progOk K1T_ok rfl (by kernel_rfl)
noncomputable def m125 : Memo := ([.string ⟨#[9, 0, 4, 1, 0, 0, 0, 0, 0, 0, 0, 16, 9, 0, 1, 1, 0, 0, 0, 0, 0, 0, 0, 1, 5, 0, 0, 9, 0, 2, 1, 0, 0, 0, 0, 0, 0, 0, 5, 1, 0, 0, 0, 0, 0, 0, 0, 0]⟩, .int .i64 1], .int .i64 48, [])
theorem k125 : Knows Tryz.prog 220 m125 := Knows.alike (fuel := 3000) progOk K1T_ok rfl (by kernel_rfl)
noncomputable def m126 : Memo := ([.string ⟨#[9, 0, 3, 1, 0, 0, 0, 0, 0, 0, 0, 14, 9, 0, 2, 1, 0, 0, 0, 0, 0, 0, 0, 5, 1, 0, 0, 0, 0, 0, 0, 0, 0, 5, 0, 0]⟩, .int .i64 1], .int .i64 36, [])
theorem k126 : Knows Tryz.prog 220 m126 := Knows.alike (fuel := 3000) progOk K1T_ok rfl (by kernel_rfl)
noncomputable def m127 : Memo := ([.string ⟨#[9, 0, 3, 1, 0, 0, 0, 0, 0, 0, 0, 9, 9, 0, 1, 1, 0, 0, 0, 0, 0, 0, 0, 1, 9, 0, 2, 1, 0, 0, 0, 0, 0, 0, 0, 5, 1, 0, 0, 0, 0, 0, 0, 0, 0]⟩, .int .i64 1], .int .i64 45, [])
theorem k127 : Knows Tryz.prog 220 m127 := Knows.alike (fuel := 3000) progOk K1T_ok rfl (by kernel_rfl)
noncomputable def m128 : Memo := ([.string ⟨#[9, 0, 3, 1, 0, 0, 0, 0, 0, 0, 0, 11, 9, 0, 1, 1, 0, 0, 0, 0, 0, 0, 0, 1, 9, 0, 2, 1, 0, 0, 0, 0, 0, 0, 0, 5, 1, 0, 0, 0, 0, 0, 0, 0, 0]⟩, .int .i64 1], .int .i64 45, [])
theorem k128 : Knows Tryz.prog 220 m128 := Knows.alike (fuel := 3000) progOk K1T_ok rfl (by kernel_rfl)
noncomputable def m129 : Memo := ([.string ⟨#[9, 0, 3, 1, 0, 0, 0, 0, 0, 0, 0, 8, 9, 0, 2, 1, 0, 0, 0, 0, 0, 0, 0, 5, 1, 0, 0, 0, 0, 0, 0, 0, 0, 9, 0, 2, 1, 0, 0, 0, 0, 0, 0, 0, 5, 1, 0, 0, 0, 0, 0, 0, 0, 0]⟩, .int .i64 1], .int .i64 54, [])
theorem k129 : Knows Tryz.prog 220 m129 := Knows.alike (fuel := 3000) progOk K1T_ok rfl (by kernel_rfl)
noncomputable def m130 : Memo := ([.string ⟨#[9, 0, 2, 1, 0, 0, 0, 0, 0, 0, 0, 5, 1, 0, 0, 0, 0, 0, 0, 0, 0]⟩, .string ⟨#[9, 0, 2, 1, 0, 0, 0, 0, 0, 0, 0, 5, 1, 0, 0, 0, 0, 0, 0, 0, 0]⟩], .int .i64 0, [])
theorem k130 : Knows Tryz.prog 102 m130 := Knows.alike (fuel := 3000) progOk K1T_ok rfl (by kernel_rfl)
noncomputable def m131 : Memo := ([.string ⟨#[9, 0, 3, 1, 0, 0, 0, 0, 0, 0, 0, 6, 1, 0, 0, 0, 0, 0, 0, 0, 4, 9, 0, 2, 1, 0, 0, 0, 0, 0, 0, 0, 5, 1, 0, 0, 0, 0, 0, 0, 0, 0]⟩, .int .i64 1], .int .i64 42, [])
theorem k131 : Knows Tryz.prog 220 m131 := Knows.alike (fuel := 3000) progOk K1T_ok rfl (by kernel_rfl)
noncomputable def ms54_2 : List Memo := [m100, m118]
theorem ks54_2 : KnowsAll Tryz.prog 54 ms54_2 := ⟨k100, k118, trivial⟩
noncomputable def ms76_2 : List Memo := [m88]
theorem ks76_2 : KnowsAll Tryz.prog 76 ms76_2 := ⟨k88, trivial⟩
noncomputable def ms84_2 : List Memo := [m82, m98, m104, m105, m119, m120]
theorem ks84_2 : KnowsAll Tryz.prog 84 ms84_2 := ⟨k82, k98, k104, k105, k119, k120, trivial⟩
noncomputable def ms102_2 : List Memo := [m130]
theorem ks102_2 : KnowsAll Tryz.prog 102 ms102_2 := ⟨k130, trivial⟩
noncomputable def ms107_2 : List Memo := [m64]
theorem ks107_2 : KnowsAll Tryz.prog 107 ms107_2 := ⟨k64, trivial⟩
noncomputable def ms109_2 : List Memo := [m59, m63, m75, m78, m85]
theorem ks109_2 : KnowsAll Tryz.prog 109 ms109_2 := ⟨k59, k63, k75, k78, k85, trivial⟩
noncomputable def ms110_2 : List Memo := [m86, m110]
theorem ks110_2 : KnowsAll Tryz.prog 110 ms110_2 := ⟨k86, k110, trivial⟩
noncomputable def ms112_2 : List Memo := [m102, m113]
theorem ks112_2 : KnowsAll Tryz.prog 112 ms112_2 := ⟨k102, k113, trivial⟩
noncomputable def ms133_2 : List Memo := [m81, m99]
theorem ks133_2 : KnowsAll Tryz.prog 133 ms133_2 := ⟨k81, k99, trivial⟩
noncomputable def ms135_2 : List Memo := [m68, m116]
theorem ks135_2 : KnowsAll Tryz.prog 135 ms135_2 := ⟨k68, k116, trivial⟩
noncomputable def ms140_2 : List Memo := [m14, m17, m19, m31, m33, m45, m47, m49, m51, m52, m54, m56, m57, m80]
theorem ks140_2 : KnowsAll Tryz.prog 140 ms140_2 := ⟨k14, k17, k19, k31, k33, k45, k47, k49, k51, k52, k54, k56, k57, k80, trivial⟩
noncomputable def ms141_2 : List Memo := [m11, m13, m16, m27, m29, m37, m38, m43, m44, m46, m53, m55]
theorem ks141_2 : KnowsAll Tryz.prog 141 ms141_2 := ⟨k11, k13, k16, k27, k29, k37, k38, k43, k44, k46, k53, k55, trivial⟩
noncomputable def ms147_2 : List Memo := [m12, m15, m18, m48, m50]
theorem ks147_2 : KnowsAll Tryz.prog 147 ms147_2 := ⟨k12, k15, k18, k48, k50, trivial⟩
noncomputable def ms155_2 : List Memo := [m0, m8, m20, m23, m34, m36]
theorem ks155_2 : KnowsAll Tryz.prog 155 ms155_2 := ⟨k0, k8, k20, k23, k34, k36, trivial⟩
noncomputable def ms156_2 : List Memo := [m1, m2, m3, m4, m5, m6, m7, m9, m10, m21, m22, m24, m25, m26, m35, m58, m60, m61, m62, m74, m76, m77, m84, m101, m109, m111, m112]
theorem ks156_2 : KnowsAll Tryz.prog 156 ms156_2 := ⟨k1, k2, k3, k4, k5, k6, k7, k9, k10, k21, k22, k24, k25, k26, k35, k58, k60, k61, k62, k74, k76, k77, k84, k101, k109, k111, k112, trivial⟩
noncomputable def ms159_2 : List Memo := [m73, m108]
theorem ks159_2 : KnowsAll Tryz.prog 159 ms159_2 := ⟨k73, k108, trivial⟩
noncomputable def ms207_2 : List Memo := [m30]
theorem ks207_2 : KnowsAll Tryz.prog 207 ms207_2 := ⟨k30, trivial⟩
noncomputable def ms220_2 : List Memo := [m28, m32, m39, m40, m41, m42, m65, m66, m67, m69, m70, m71, m72, m79, m83, m87, m89, m90, m91, m92, m93, m94, m95, m96, m103, m106, m107, m114, m115, m117, m123, m124, m125, m126, m127, m128, m129, m131]
theorem ks220_2 : KnowsAll Tryz.prog 220 ms220_2 := ⟨k28, k32, k39, k40, k41, k42, k65, k66, k67, k69, k70, k71, k72, k79, k83, k87, k89, k90, k91, k92, k93, k94, k95, k96, k103, k106, k107, k114, k115, k117, k123, k124, k125, k126, k127, k128, k129, k131, trivial⟩
noncomputable def ms313_2 : List Memo := [m97, m121, m122]
theorem ks313_2 : KnowsAll Tryz.prog 313 ms313_2 := ⟨k97, k121, k122, trivial⟩
noncomputable def K2T : Tbl := (((((((((((((((((((KA.memo 54 ms54_2).memo 76 ms76_2).memo 84 ms84_2).memo 102 ms102_2).memo 107 ms107_2).memo 109 ms109_2).memo 110 ms110_2).memo 112 ms112_2).memo 133 ms133_2).memo 135 ms135_2).memo 140 ms140_2).memo 141 ms141_2).memo 147 ms147_2).memo 155 ms155_2).memo 156 ms156_2).memo 159 ms159_2).memo 207 ms207_2).memo 220 ms220_2).memo 313 ms313_2)
theorem K2T_ok : KOk Tryz.prog K2T := (KOk.memoAll (KOk.memoAll (KOk.memoAll (KOk.memoAll (KOk.memoAll (KOk.memoAll (KOk.memoAll (KOk.memoAll (KOk.memoAll (KOk.memoAll (KOk.memoAll (KOk.memoAll (KOk.memoAll (KOk.memoAll (KOk.memoAll (KOk.memoAll (KOk.memoAll (KOk.memoAll (KOk.memoAll KA_ok ks54_2) ks76_2) ks84_2) ks102_2) ks107_2) ks109_2) ks110_2) ks112_2) ks133_2) ks135_2) ks140_2) ks141_2) ks147_2) ks155_2) ks156_2) ks159_2) ks207_2) ks220_2) ks313_2)
noncomputable def m132 : Memo := ([.string ⟨#[9, 0, 4, 1, 0, 0, 0, 0, 0, 0, 0, 16, 9, 0, 1, 1, 0, 0, 0, 0, 0, 0, 0, 2, 5, 0, 0, 9, 0, 1, 1, 0, 0, 0, 0, 0, 0, 0, 2]⟩], .bool true, [])
theorem k132 : Knows Tryz.prog 54 m132 := Knows.alike (fuel := 3000) progOk K2T_ok rfl (by kernel_rfl)
noncomputable def m133 : Memo := ([.string ⟨#[9, 0, 4, 1, 0, 0, 0, 0, 0, 0, 0, 16, 9, 0, 1, 1, 0, 0, 0, 0, 0, 0, 0, 2, 5, 0, 0, 9, 0, 1, 1, 0, 0, 0, 0, 0, 0, 0, 2]⟩], .slice (some ⟨0, 0, none⟩) 4 4, [⟨2, 25, 1, [.string ⟨#[1, 0, 0, 0, 0, 0, 0, 0, 16]⟩, .string ⟨#[9, 0, 1, 1, 0, 0, 0, 0, 0, 0, 0, 2]⟩, .string ⟨#[5, 0, 0]⟩, .string ⟨#[9, 0, 1, 1, 0, 0, 0, 0, 0, 0, 0, 2]⟩], []⟩])
theorem k133 : Knows Tryz.prog 84 m133 := Knows.alike (fuel := 3000) progOk K2T_ok rfl (by kernel_rfl)
noncomputable def m134 : Memo := ([.string ⟨#[9, 0, 1, 1, 0, 0, 0, 0, 0, 0, 0, 2]⟩], .tuple #[.int .i64 2, .slice (some ⟨0, 0, none⟩) 0 0], [⟨2, 25, 1, [.string ⟨#[1, 0, 0, 0, 0, 0, 0, 0, 2]⟩], []⟩])
theorem k134 : Knows Tryz.prog 44 m134 := Knows.alike (fuel := 3000) progOk K2T_ok rfl (by kernel_rfl)
noncomputable def m135 : Memo := ([.string ⟨#[9, 0, 1, 1, 0, 0, 0, 0, 0, 0, 0, 4]⟩], .tuple #[.int .i64 4, .slice (some ⟨0, 0, none⟩) 0 0], [⟨2, 25, 1, [.string ⟨#[1, 0, 0, 0, 0, 0, 0, 0, 4]⟩], []⟩])
theorem k135 : Knows Tryz.prog 44 m135 := Knows.alike (fuel := 3000) progOk K2T_ok rfl (by kernel_rfl)
noncomputable def m136 : Memo := ([.string ⟨#[9, 0, 4, 1, 0, 0, 0, 0, 0, 0, 0, 16, 9, 0, 1, 1, 0, 0, 0, 0, 0, 0, 0, 4, 5, 0, 0, 9, 0, 1, 1, 0, 0, 0, 0, 0, 0, 0, 2]⟩], .slice (some ⟨0, 0, none⟩) 4 4, [⟨2, 25, 1, [.string ⟨#[1, 0, 0, 0, 0, 0, 0, 0, 16]⟩, .string ⟨#[9, 0, 1, 1, 0, 0, 0, 0, 0, 0, 0, 4]⟩, .string ⟨#[5, 0, 0]⟩, .string ⟨#[9, 0, 1, 1, 0, 0, 0, 0, 0, 0, 0, 2]⟩], []⟩])
theorem k136 : Knows Tryz.prog 84 m136 := Knows.alike (fuel := 3000) progOk K2T_ok rfl (by kernel_rfl)
noncomputable def m137 : Memo := ([.string ⟨#[9, 0, 4, 1, 0, 0, 0, 0, 0, 0, 0, 16, 9, 0, 1, 1, 0, 0, 0, 0, 0, 0, 0, 2, 5, 0, 0, 9, 0, 1, 1, 0, 0, 0, 0, 0, 0, 0, 4]⟩], .slice (some ⟨0, 0, none⟩) 4 4, [⟨2, 25, 1, [.string ⟨#[1, 0, 0, 0, 0, 0, 0, 0, 16]⟩, .string ⟨#[9, 0, 1, 1, 0, 0, 0, 0, 0, 0, 0, 2]⟩, .string ⟨#[5, 0, 0]⟩, .string ⟨#[9, 0, 1, 1, 0, 0, 0, 0, 0, 0, 0, 4]⟩], []⟩])
theorem k137 : Knows Tryz.prog 84 m137 := Knows.alike (fuel := 3000) progOk K2T_ok rfl (by kernel_rfl)
noncomputable def m138 : Memo := ([.string ⟨#[9, 0, 4, 1, 0, 0, 0, 0, 0, 0, 0, 16, 9, 0, 1, 1, 0, 0, 0, 0, 0, 0, 0, 2, 5, 0, 0, 9, 0, 1, 1, 0, 0, 0, 0, 0, 0, 0, 4]⟩, .string ⟨#[9, 0, 4, 1, 0, 0, 0, 0, 0, 0, 0, 16, 9, 0, 1, 1, 0, 0, 0, 0, 0, 0, 0, 4, 5, 0, 0, 9, 0, 1, 1, 0, 0, 0, 0, 0, 0, 0, 2]⟩], .int .i64 (-1), [])
theorem k138 : Knows Tryz.prog 159 m138 := Knows.alike (fuel := 3000) progOk K2T_ok rfl (by kernel_rfl)
noncomputable def m139 : Memo := ([.string ⟨#[9, 0, 3, 1, 0, 0, 0, 0, 0, 0, 0, 6, 1, 0, 0, 0, 0, 0, 0, 0, 2, 9, 0, 1, 1, 0, 0, 0, 0, 0, 0, 0, 2]⟩], .bool true, [])
theorem k139 : Knows Tryz.prog 54 m139 := Knows.alike (fuel := 3000) progOk K2T_ok rfl (by kernel_rfl)
noncomputable def m140 : Memo := ([.string ⟨#[9, 0, 3, 1, 0, 0, 0, 0, 0, 0, 0, 14, 9, 0, 3, 1, 0, 0, 0, 0, 0, 0, 0, 6, 1, 0, 0, 0, 0, 0, 0, 0, 2, 9, 0, 1, 1, 0, 0, 0, 0, 0, 0, 0, 2, 5, 0, 1, 1, 0, 0, 0, 0, 0, 0, 0, 2]⟩, .int .i64 32, .bool true], .tuple #[.int .i64 57, .slice (some ⟨0, 0, none⟩) 3 18446744073709551619, .int .i64 4], [⟨2, 25, 1, [.string ⟨#[1, 0, 0, 0, 0, 0, 0, 0, 14]⟩, .string ⟨#[9, 0, 3, 1, 0, 0, 0, 0, 0, 0, 0, 6, 1, 0, 0, 0, 0, 0, 0, 0, 2, 9, 0, 1, 1, 0, 0, 0, 0, 0, 0, 0, 2]⟩, .string ⟨#[5, 0, 1, 1, 0, 0, 0, 0, 0, 0, 0, 2]⟩], []⟩])
theorem k140 : Knows Tryz.prog 156 m140 := Knows.alike (fuel := 3000) progOk K2T_ok rfl (by kernel_rfl)
noncomputable def m141 : Memo := ([.string ⟨#[9, 0, 3, 1, 0, 0, 0, 0, 0, 0, 0, 14, 9, 0, 3, 1, 0, 0, 0, 0, 0, 0, 0, 6, 1, 0, 0, 0, 0, 0, 0, 0, 2, 9, 0, 1, 1, 0, 0, 0, 0, 0, 0, 0, 2, 5, 0, 1, 1, 0, 0, 0, 0, 0, 0, 0, 2]⟩, .int .i64 1], .int .i64 57, [])
theorem k141 : Knows Tryz.prog 220 m141 := Knows.alike (fuel := 3000) progOk K2T_ok rfl (by kernel_rfl)
noncomputable def m142 : Memo := ([.string ⟨#[9, 0, 3, 1, 0, 0, 0, 0, 0, 0, 0, 6, 1, 0, 0, 0, 0, 0, 0, 0, 2, 9, 0, 1, 1, 0, 0, 0, 0, 0, 0, 0, 2]⟩], .slice (some ⟨0, 0, none⟩) 3 3, [⟨2, 25, 1, [.string ⟨#[1, 0, 0, 0, 0, 0, 0, 0, 6]⟩, .string ⟨#[1, 0, 0, 0, 0, 0, 0, 0, 2]⟩, .string ⟨#[9, 0, 1, 1, 0, 0, 0, 0, 0, 0, 0, 2]⟩], []⟩])
theorem k142 : Knows Tryz.prog 84 m142 := Knows.alike (fuel := 3000) progOk K2T_ok rfl (by kernel_rfl)
noncomputable def m143 : Memo := ([.string ⟨#[9, 0, 3, 1, 0, 0, 0, 0, 0, 0, 0, 14, 9, 0, 1, 1, 0, 0, 0, 0, 0, 0, 0, 2, 5, 0, 1, 1, 0, 0, 0, 0, 0, 0, 0, 2]⟩], .slice (some ⟨0, 0, none⟩) 3 3, [⟨2, 25, 1, [.string ⟨#[1, 0, 0, 0, 0, 0, 0, 0, 14]⟩, .string ⟨#[9, 0, 1, 1, 0, 0, 0, 0, 0, 0, 0, 2]⟩, .string ⟨#[5, 0, 1, 1, 0, 0, 0, 0, 0, 0, 0, 2]⟩], []⟩])
theorem k143 : Knows Tryz.prog 84 m143 := Knows.alike (fuel := 3000) progOk K2T_ok rfl (by kernel_rfl)
noncomputable def m144 : Memo := ([.string ⟨#[9, 0, 2, 1, 0, 0, 0, 0, 0, 0, 0, 5, 1, 0, 0, 0, 0, 0, 0, 0, 0]⟩], .tuple #[.int .i64 5, .slice (some ⟨0, 1, none⟩) 1 1], [⟨2, 25, 1, [.string ⟨#[1, 0, 0, 0, 0, 0, 0, 0, 5]⟩, .string ⟨#[1, 0, 0, 0, 0, 0, 0, 0, 0]⟩], []⟩])
theorem k144 : Knows Tryz.prog 44 m144 := Knows.alike (fuel := 3000) progOk K2T_ok rfl (by kernel_rfl)
noncomputable def m145 : Memo := ([.string ⟨#[9, 0, 1, 1, 0, 0, 0, 0, 0, 0, 0, 1]⟩], .tuple #[.int .i64 1, .slice (some ⟨0, 0, none⟩) 0 0], [⟨2, 25, 1, [.string ⟨#[1, 0, 0, 0, 0, 0, 0, 0, 1]⟩], []⟩])
theorem k145 : Knows Tryz.prog 44 m145 := Knows.alike (fuel := 3000) progOk K2T_ok rfl (by kernel_rfl)
noncomputable def m146 : Memo := ([.string ⟨#[9, 0, 3, 1, 0, 0, 0, 0, 0, 0, 0, 7, 9, 0, 1, 1, 0, 0, 0, 0, 0, 0, 0, 1, 9, 0, 2, 1, 0, 0, 0, 0, 0, 0, 0, 5, 1, 0, 0, 0, 0, 0, 0, 0, 0]⟩], .slice (some ⟨0, 0, none⟩) 3 3, [⟨2, 25, 1, [.string ⟨#[1, 0, 0, 0, 0, 0, 0, 0, 7]⟩, .string ⟨#[9, 0, 1, 1, 0, 0, 0, 0, 0, 0, 0, 1]⟩, .string ⟨#[9, 0, 2, 1, 0, 0, 0, 0, 0, 0, 0, 5, 1, 0, 0, 0, 0, 0, 0, 0, 0]⟩], []⟩])
theorem k146 : Knows Tryz.prog 84 m146 := Knows.alike (fuel := 3000) progOk K2T_ok rfl (by kernel_rfl)
noncomputable def m147 : Memo := ([.string ⟨#[9, 0, 3, 1, 0, 0, 0, 0, 0, 0, 0, 7, 9, 0, 1, 1, 0, 0, 0, 0, 0, 0, 0, 1, 9, 0, 2, 1, 0, 0, 0, 0, 0, 0, 0, 5, 1, 0, 0, 0, 0, 0, 0, 0, 0]⟩], .pointer (some ⟨0, 0, none⟩), [⟨1, 263, 0, [.int .i64 9, .string ⟨#[9, 0, 3, 1, 0, 0, 0, 0, 0, 0, 0, 7, 9, 0, 1, 1, 0, 0, 0, 0, 0, 0, 0, 1, 9, 0, 2, 1, 0, 0, 0, 0, 0, 0, 0, 5, 1, 0, 0, 0, 0, 0, 0, 0, 0]⟩, .slice none 0 0, .int .i64 0], []⟩])
theorem k147 : Knows Tryz.prog 313 m147 := Knows.alike (fuel := 3000) progOk K2T_ok rfl (by kernel_rfl)
noncomputable def m148 : Memo := ([.string ⟨#[9, 0, 3, 1, 0, 0, 0, 0, 0, 0, 0, 9, 9, 0, 2, 1, 0, 0, 0, 0, 0, 0, 0, 5, 1, 0, 0, 0, 0, 0, 0, 0, 0, 9, 0, 1, 1, 0, 0, 0, 0, 0, 0, 0, 1]⟩], .slice (some ⟨0, 0, none⟩) 3 3, [⟨2, 25, 1, [.string ⟨#[1, 0, 0, 0, 0, 0, 0, 0, 9]⟩, .string ⟨#[9, 0, 2, 1, 0, 0, 0, 0, 0, 0, 0, 5, 1, 0, 0, 0, 0, 0, 0, 0, 0]⟩, .string ⟨#[9, 0, 1, 1, 0, 0, 0, 0, 0, 0, 0, 1]⟩], []⟩])
theorem k148 : Knows Tryz.prog 84 m148 := Knows.alike (fuel := 3000) progOk K2T_ok rfl (by kernel_rfl)
noncomputable def m149 : Memo := ([.string ⟨#[9, 0, 3, 1, 0, 0, 0, 0, 0, 0, 0, 9, 9, 0, 2, 1, 0, 0, 0, 0, 0, 0, 0, 5, 1, 0, 0, 0, 0, 0, 0, 0, 0, 9, 0, 1, 1, 0, 0, 0, 0, 0, 0, 0, 1]⟩], .pointer (some ⟨0, 0, none⟩), [⟨1, 263, 0, [.int .i64 9, .string ⟨#[9, 0, 3, 1, 0, 0, 0, 0, 0, 0, 0, 9, 9, 0, 2, 1, 0, 0, 0, 0, 0, 0, 0, 5, 1, 0, 0, 0, 0, 0, 0, 0, 0, 9, 0, 1, 1, 0, 0, 0, 0, 0, 0, 0, 1]⟩, .slice none 0 0, .int .i64 0], []⟩])
theorem k149 : Knows Tryz.prog 313 m149 := Knows.alike (fuel := 3000) progOk K2T_ok rfl (by kernel_rfl)
noncomputable def m150 : Memo := ([.string ⟨#[9, 0, 4, 1, 0, 0, 0, 0, 0, 0, 0, 16, 9, 0, 1, 1, 0, 0, 0, 0, 0, 0, 0, 1, 5, 0, 0, 9, 0, 2, 1, 0, 0, 0, 0, 0, 0, 0, 5, 1, 0, 0, 0, 0, 0, 0, 0, 0]⟩], .slice (some ⟨0, 0, none⟩) 4 4, [⟨2, 25, 1, [.string ⟨#[1, 0, 0, 0, 0, 0, 0, 0, 16]⟩, .string ⟨#[9, 0, 1, 1, 0, 0, 0, 0, 0, 0, 0, 1]⟩, .string ⟨#[5, 0, 0]⟩, .string ⟨#[9, 0, 2, 1, 0, 0, 0, 0, 0, 0, 0, 5, 1, 0, 0, 0, 0, 0, 0, 0, 0]⟩], []⟩])
theorem k150 : Knows Tryz.prog 84 m150 := Knows.alike (fuel := 3000) progOk K2T_ok rfl (by kernel_rfl)
noncomputable def m151 : Memo := ([.string ⟨#[9, 0, 4, 1, 0, 0, 0, 0, 0, 0, 0, 16, 9, 0, 1, 1, 0, 0, 0, 0, 0, 0, 0, 1, 5, 0, 0, 9, 0, 2, 1, 0, 0, 0, 0, 0, 0, 0, 5, 1, 0, 0, 0, 0, 0, 0, 0, 0]⟩], .pointer (some ⟨0, 0, none⟩), [⟨1, 263, 0, [.int .i64 9, .string ⟨#[9, 0, 4, 1, 0, 0, 0, 0, 0, 0, 0, 16, 9, 0, 1, 1, 0, 0, 0, 0, 0, 0, 0, 1, 5, 0, 0, 9, 0, 2, 1, 0, 0, 0, 0, 0, 0, 0, 5, 1, 0, 0, 0, 0, 0, 0, 0, 0]⟩, .slice none 0 0, .int .i64 0], []⟩])
theorem k151 : Knows Tryz.prog 313 m151 := Knows.alike (fuel := 3000) progOk K2T_ok rfl (by kernel_rfl)
noncomputable def m152 : Memo := ([.string ⟨#[9, 0, 3, 1, 0, 0, 0, 0, 0, 0, 0, 14, 9, 0, 2, 1, 0, 0, 0, 0, 0, 0, 0, 5, 1, 0, 0, 0, 0, 0, 0, 0, 0, 5, 0, 0]⟩], .slice (some ⟨0, 0, none⟩) 3 3, [⟨2, 25, 1, [.string ⟨#[1, 0, 0, 0, 0, 0, 0, 0, 14]⟩, .string ⟨#[9, 0, 2, 1, 0, 0, 0, 0, 0, 0, 0, 5, 1, 0, 0, 0, 0, 0, 0, 0, 0]⟩, .string ⟨#[5, 0, 0]⟩], []⟩])
theorem k152 : Knows Tryz.prog 84 m152 := Knows.alike (fuel := 3000) progOk K2T_ok rfl (by kernel_rfl)
noncomputable def m153 : Memo := ([.string ⟨#[9, 0, 3, 1, 0, 0, 0, 0, 0, 0, 0, 14, 9, 0, 2, 1, 0, 0, 0, 0, 0, 0, 0, 5, 1, 0, 0, 0, 0, 0, 0, 0, 0, 5, 0, 0]⟩], .pointer (some ⟨0, 0, none⟩), [⟨1, 263, 0, [.int .i64 9, .string ⟨#[9, 0, 3, 1, 0, 0, 0, 0, 0, 0, 0, 14, 9, 0, 2, 1, 0, 0, 0, 0, 0, 0, 0, 5, 1, 0, 0, 0, 0, 0, 0, 0, 0, 5, 0, 0]⟩, .slice none 0 0, .int .i64 0], []⟩])
theorem k153 : Knows Tryz.prog 313 m153 := Knows.alike (fuel := 3000) progOk K2T_ok rfl (by kernel_rfl)
noncomputable def m154 : Memo := ([.string ⟨#[9, 0, 3, 1, 0, 0, 0, 0, 0, 0, 0, 9, 9, 0, 1, 1, 0, 0, 0, 0, 0, 0, 0, 1, 9, 0, 2, 1, 0, 0, 0, 0, 0, 0, 0, 5, 1, 0, 0, 0, 0, 0, 0, 0, 0]⟩], .slice (some ⟨0, 0, none⟩) 3 3, [⟨2, 25, 1, [.string ⟨#[1, 0, 0, 0, 0, 0, 0, 0, 9]⟩, .string ⟨#[9, 0, 1, 1, 0, 0, 0, 0, 0, 0, 0, 1]⟩, .string ⟨#[9, 0, 2, 1, 0, 0, 0, 0, 0, 0, 0, 5, 1, 0, 0, 0, 0, 0, 0, 0, 0]⟩], []⟩])
theorem k154 : Knows Tryz.prog 84 m154 := Knows.alike (fuel := 3000) progOk K2T_ok rfl (by kernel_rfl)
noncomputable def m155 : Memo := ([.string ⟨#[9, 0, 3, 1, 0, 0, 0, 0, 0, 0, 0, 9, 9, 0, 1, 1, 0, 0, 0, 0, 0, 0, 0, 1, 9, 0, 2, 1, 0, 0, 0, 0, 0, 0, 0, 5, 1, 0, 0, 0, 0, 0, 0, 0, 0]⟩], .pointer (some ⟨0, 0, none⟩), [⟨1, 263, 0, [.int .i64 9, .string ⟨#[9, 0, 3, 1, 0, 0, 0, 0, 0, 0, 0, 9, 9, 0, 1, 1, 0, 0, 0, 0, 0, 0, 0, 1, 9, 0, 2, 1, 0, 0, 0, 0, 0, 0, 0, 5, 1, 0, 0, 0, 0, 0, 0, 0, 0]⟩, .slice none 0 0, .int .i64 0], []⟩])
theorem k155 : Knows Tryz.prog 313 m155 := Knows.alike (fuel := 3000) progOk K2T_ok rfl (by kernel_rfl)
noncomputable def m156 : Memo := ([.string ⟨#[9, 0, 3, 1, 0, 0, 0, 0, 0, 0, 0, 11, 9, 0, 1, 1, 0, 0, 0, 0, 0, 0, 0, 1, 9, 0, 2, 1, 0, 0, 0, 0, 0, 0, 0, 5, 1, 0, 0, 0, 0, 0, 0, 0, 0]⟩], .slice (some ⟨0, 0, none⟩) 3 3, [⟨2, 25, 1, [.string ⟨#[1, 0, 0, 0, 0, 0, 0, 0, 11]⟩, .string ⟨#[9, 0, 1, 1, 0, 0, 0, 0, 0, 0, 0, 1]⟩, .string ⟨#[9, 0, 2, 1, 0, 0, 0, 0, 0, 0, 0, 5, 1, 0, 0, 0, 0, 0, 0, 0, 0]⟩], []⟩])
theorem k156 : Knows Tryz.prog 84 m156 := Knows.alike (fuel := 3000) progOk K2T_ok rfl (by kernel_rfl)
noncomputable def m157 : Memo := ([.string ⟨#[9, 0, 3, 1, 0, 0, 0, 0, 0, 0, 0, 11, 9, 0, 1, 1, 0, 0, 0, 0, 0, 0, 0, 1, 9, 0, 2, 1, 0, 0, 0, 0, 0, 0, 0, 5, 1, 0, 0, 0, 0, 0, 0, 0, 0]⟩], .pointer (some ⟨0, 0, none⟩), [⟨1, 263, 0, [.int .i64 9, .string ⟨#[9, 0, 3, 1, 0, 0, 0, 0, 0, 0, 0, 11, 9, 0, 1, 1, 0, 0, 0, 0, 0, 0, 0, 1, 9, 0, 2, 1, 0, 0, 0, 0, 0, 0, 0, 5, 1, 0, 0, 0, 0, 0, 0, 0, 0]⟩, .slice none 0 0, .int .i64 0], []⟩])
theorem k157 : Knows Tryz.prog 313 m157 := Knows.alike (fuel := 3000) progOk K2T_ok rfl (by kernel_rfl)
noncomputable def m158 : Memo := ([.string ⟨#[9, 0, 3, 1, 0, 0, 0, 0, 0, 0, 0, 8, 9, 0, 2, 1, 0, 0, 0, 0, 0, 0, 0, 5, 1, 0, 0, 0, 0, 0, 0, 0, 0, 9, 0, 2, 1, 0, 0, 0, 0, 0, 0, 0, 5, 1, 0, 0, 0, 0, 0, 0, 0, 0]⟩], .slice (some ⟨0, 0, none⟩) 3 3, [⟨2, 25, 1, [.string ⟨#[1, 0, 0, 0, 0, 0, 0, 0, 8]⟩, .string ⟨#[9, 0, 2, 1, 0, 0, 0, 0, 0, 0, 0, 5, 1, 0, 0, 0, 0, 0, 0, 0, 0]⟩, .string ⟨#[9, 0, 2, 1, 0, 0, 0, 0, 0, 0, 0, 5, 1, 0, 0, 0, 0, 0, 0, 0, 0]⟩], []⟩])
theorem k158 : Knows Tryz.prog 84 m158 := Knows.alike (fuel := 3000) progOk K2T_ok rfl (by kernel_rfl)
noncomputable def m159 : Memo := ([.string ⟨#[9, 0, 3, 1, 0, 0, 0, 0, 0, 0, 0, 8, 9, 0, 2, 1, 0, 0, 0, 0, 0, 0, 0, 5, 1, 0, 0, 0, 0, 0, 0, 0, 0, 9, 0, 2, 1, 0, 0, 0, 0, 0, 0, 0, 5, 1, 0, 0, 0, 0, 0, 0, 0, 0]⟩], .pointer (some ⟨0, 0, none⟩), [⟨1, 263, 0, [.int .i64 9, .string ⟨#[9, 0, 3, 1, 0, 0, 0, 0, 0, 0, 0, 8, 9, 0, 2, 1, 0, 0, 0, 0, 0, 0, 0, 5, 1, 0, 0, 0, 0, 0, 0, 0, 0, 9, 0, 2, 1, 0, 0, 0, 0, 0, 0, 0, 5, 1, 0, 0, 0, 0, 0, 0, 0, 0]⟩, .slice none 0 0, .int .i64 0], []⟩])
theorem k159 : Knows Tryz.prog 313 m159 := Knows.alike (fuel := 3000) progOk K2T_ok rfl (by kernel_rfl)
noncomputable def m160 : Memo := ([.string ⟨#[9, 0, 3, 1, 0, 0, 0, 0, 0, 0, 0, 6, 1, 0, 0, 0, 0, 0, 0, 0, 4, 9, 0, 2, 1, 0, 0, 0, 0, 0, 0, 0, 5, 1, 0, 0, 0, 0, 0, 0, 0, 0]⟩], .slice (some ⟨0, 0, none⟩) 3 3, [⟨2, 25, 1, [.string ⟨#[1, 0, 0, 0, 0, 0, 0, 0, 6]⟩, .string ⟨#[1, 0, 0, 0, 0, 0, 0, 0, 4]⟩, .string ⟨#[9, 0, 2, 1, 0, 0, 0, 0, 0, 0, 0, 5, 1, 0, 0, 0, 0, 0, 0, 0, 0]⟩], []⟩])
theorem k160 : Knows Tryz.prog 84 m160 := Knows.alike (fuel := 3000) progOk K2T_ok rfl (by kernel_rfl)
noncomputable def m161 : Memo := ([.string ⟨#[9, 0, 3, 1, 0, 0, 0, 0, 0, 0, 0, 6, 1, 0, 0, 0, 0, 0, 0, 0, 4, 9, 0, 2, 1, 0, 0, 0, 0, 0, 0, 0, 5, 1, 0, 0, 0, 0, 0, 0, 0, 0]⟩], .pointer (some ⟨0, 0, none⟩), [⟨1, 263, 0, [.int .i64 9, .string ⟨#[9, 0, 3, 1, 0, 0, 0, 0, 0, 0, 0, 6, 1, 0, 0, 0, 0, 0, 0, 0, 4, 9, 0, 2, 1, 0, 0, 0, 0, 0, 0, 0, 5, 1, 0, 0, 0, 0, 0, 0, 0, 0]⟩, .slice none 0 0, .int .i64 0], []⟩])
theorem k161 : Knows Tryz.prog 313 m161 := Knows.alike (fuel := 3000) progOk K2T_ok rfl (by kernel_rfl)
noncomputable def ms44_3 : List Memo := [m134, m135, m144, m145]
theorem ks44_3 : KnowsAll Tryz.prog 44 ms44_3 := ⟨k134, k135, k144, k145, trivial⟩
noncomputable def ms54_3 : List Memo := [m100, m118, m132, m139]
theorem ks54_3 : KnowsAll Tryz.prog 54 ms54_3 := ⟨k100, k118, k132, k139, trivial⟩
noncomputable def ms76_3 : List Memo := [m88]
theorem ks76_3 : KnowsAll Tryz.prog 76 ms76_3 := ⟨k88, trivial⟩
noncomputable def ms84_3 : List Memo := [m82, m98, m104, m105, m119, m120, m133, m136, m137, m142, m143, m146, m148, m150, m152, m154, m156, m158, m160]
theorem ks84_3 : KnowsAll Tryz.prog 84 ms84_3 := ⟨k82, k98, k104, k105, k119, k120, k133, k136, k137, k142, k143, k146, k148, k150, k152, k154, k156, k158, k160, trivial⟩
noncomputable def ms102_3 : List Memo := [m130]
theorem ks102_3 : KnowsAll Tryz.prog 102 ms102_3 := ⟨k130, trivial⟩
noncomputable def ms107_3 : List Memo := [m64]
theorem ks107_3 : KnowsAll Tryz.prog 107 ms107_3 := ⟨k64, trivial⟩
noncomputable def ms109_3 : List Memo := [m59, m63, m75, m78, m85]
theorem ks109_3 : KnowsAll Tryz.prog 109 ms109_3 := ⟨k59, k63, k75, k78, k85, trivial⟩
noncomputable def ms110_3 : List Memo := [m86, m110]
theorem ks110_3 : KnowsAll Tryz.prog 110 ms110_3 := ⟨k86, k110, trivial⟩
noncomputable def ms112_3 : List Memo := [m102, m113]
theorem ks112_3 : KnowsAll Tryz.prog 112 ms112_3 := ⟨k102, k113, trivial⟩
noncomputable def ms133_3 : List Memo := [m81, m99]
theorem ks133_3 : KnowsAll Tryz.prog 133 ms133_3 := ⟨k81, k99, trivial⟩
noncomputable def ms135_3 : List Memo := [m68, m116]
theorem ks135_3 : KnowsAll Tryz.prog 135 ms135_3 := ⟨k68, k116, trivial⟩
noncomputable def ms140_3 : List Memo := [m14, m17, m19, m31, m33, m45, m47, m49, m51, m52, m54, m56, m57, m80]
theorem ks140_3 : KnowsAll Tryz.prog 140 ms140_3 := ⟨k14, k17, k19, k31, k33, k45, k47, k49, k51, k52, k54, k56, k57, k80, trivial⟩
noncomputable def ms141_3 : List Memo := [m11, m13, m16, m27, m29, m37, m38, m43, m44, m46, m53, m55]
theorem ks141_3 : KnowsAll Tryz.prog 141 ms141_3 := ⟨k11, k13, k16, k27, k29, k37, k38, k43, k44, k46, k53, k55, trivial⟩
noncomputable def ms147_3 : List Memo := [m12, m15, m18, m48, m50]
theorem ks147_3 : KnowsAll Tryz.prog 147 ms147_3 := ⟨k12, k15, k18, k48, k50, trivial⟩
noncomputable def ms155_3 : List Memo := [m0, m8, m20, m23, m34, m36]
theorem ks155_3 : KnowsAll Tryz.prog 155 ms155_3 := ⟨k0, k8, k20, k23, k34, k36, trivial⟩
noncomputable def ms156_3 : List Memo := [m1, m2, m3, m4, m5, m6, m7, m9, m10, m21, m22, m24, m25, m26, m35, m58, m60, m61, m62, m74, m76, m77, m84, m101, m109, m111, m112, m140]
theorem ks156_3 : KnowsAll Tryz.prog 156 ms156_3 := ⟨k1, k2, k3, k4, k5, k6, k7, k9, k10, k21, k22, k24, k25, k26, k35, k58, k60, k61, k62, k74, k76, k77, k84, k101, k109, k111, k112, k140, trivial⟩
noncomputable def ms159_3 : List Memo := [m73, m108, m138]
theorem ks159_3 : KnowsAll Tryz.prog 159 ms159_3 := ⟨k73, k108, k138, trivial⟩
noncomputable def ms207_3 : List Memo := [m30]
theorem ks207_3 : KnowsAll Tryz.prog 207 ms207_3 := ⟨k30, trivial⟩
noncomputable def ms220_3 : List Memo := [m28, m32, m39, m40, m41, m42, m65, m66, m67, m69, m70, m71, m72, m79, m83, m87, m89, m90, m91, m92, m93, m94, m95, m96, m103, m106, m107, m114, m115, m117, m123, m124, m125, m126, m127, m128, m129, m131, m141]
theorem ks220_3 : KnowsAll Tryz.prog 220 ms220_3 := ⟨k28, k32, k39, k40, k41, k42, k65, k66, k67, k69, k70, k71, k72, k79, k83, k87, k89, k90, k91, k92, k93, k94, k95, k96, k103, k106, k107, k114, k115, k117, k123, k124, k125, k126, k127, k128, k129, k131, k141, trivial⟩
noncomputable def ms313_3 : List Memo := [m97, m121, m122, m147, m149, m151, m153, m155, m157, m159, m161]
theorem ks313_3 : KnowsAll Tryz.prog 313 ms313_3 := ⟨k97, k121, k122, k147, k149, k151, k153, k155, k157, k159, k161, trivial⟩
noncomputable def K3T : Tbl := ((((((((((((((((((((KA.memo 44 ms44_3).memo 54 ms54_3).memo 76 ms76_3).memo 84 ms84_3).memo 102 ms102_3).memo 107 ms107_3).memo 109 ms109_3).memo 110 ms110_3).memo 112 ms112_3).memo 133 ms133_3).memo 135 ms135_3).memo 140 ms140_3).memo 141 ms141_3).memo 147 ms147_3).memo 155 ms155_3).memo 156 ms156_3).memo 159 ms159_3).memo 207 ms207_3).memo 220 ms220_3).memo 313 ms313_3)
theorem K3T_ok : KOk Tryz.prog K3T := (KOk.memoAll (KOk.memoAll (KOk.memoAll (KOk.memoAll (KOk.memoAll (KOk.memoAll (KOk.memoAll (KOk.memoAll (KOk.memoAll (KOk.memoAll (KOk.memoAll (KOk.memoAll (KOk.memoAll (KOk.memoAll (KOk.memoAll (KOk.memoAll (KOk.memoAll (KOk.memoAll (KOk.memoAll (KOk.memoAll KA_ok ks44_3) ks54_3) ks76_3) ks84_3) ks102_3) ks107_3) ks109_3) ks110_3) ks112_3) ks133_3) ks135_3) ks140_3) ks141_3) ks147_3) ks155_3) ks156_3) ks159_3) ks207_3) ks220_3) ks313_3)
noncomputable def m162 : Memo := ([.int .i64 16, .string ⟨#[9, 0, 1, 1, 0, 0, 0, 0, 0, 0, 0, 2]⟩, .slice none 0 0, .string ⟨#[9, 0, 1, 1, 0, 0, 0, 0, 0, 0, 0, 2]⟩], .string ⟨#[9, 0, 4, 1, 0, 0, 0, 0, 0, 0, 0, 16, 9, 0, 1, 1, 0, 0, 0, 0, 0, 0, 0, 2, 5, 0, 0, 9, 0, 1, 1, 0, 0, 0, 0, 0, 0, 0, 2]⟩, [])
theorem k162 : Knows Tryz.prog 33 m162 := Knows.alike (fuel := 3000) progOk K3T_ok rfl (by kernel_rfl)
noncomputable def m163 : Memo := ([.string ⟨#[9, 0, 4, 1, 0, 0, 0, 0, 0, 0, 0, 16, 9, 0, 1, 1, 0, 0, 0, 0, 0, 0, 0, 2, 5, 0, 0, 9, 0, 1, 1, 0, 0, 0, 0, 0, 0, 0, 2]⟩], .tuple #[.int .i64 16, .slice (some ⟨0, 1, none⟩) 3 3], [⟨2, 25, 1, [.string ⟨#[1, 0, 0, 0, 0, 0, 0, 0, 16]⟩, .string ⟨#[9, 0, 1, 1, 0, 0, 0, 0, 0, 0, 0, 2]⟩, .string ⟨#[5, 0, 0]⟩, .string ⟨#[9, 0, 1, 1, 0, 0, 0, 0, 0, 0, 0, 2]⟩], []⟩])
theorem k163 : Knows Tryz.prog 44 m163 := Knows.alike (fuel := 3000) progOk K3T_ok rfl (by kernel_rfl)
noncomputable def m164 : Memo := ([.string ⟨#[9, 0, 1, 1, 0, 0, 0, 0, 0, 0, 0, 2]⟩], .tuple #[.slice (some ⟨0, 0, none⟩) 1 18446744073709551617, .bool true], [⟨2, 166, 3, [.int .i64 1, .string ⟨#[9, 0, 1, 1, 0, 0, 0, 0, 0, 0, 0, 4]⟩, .slice none 0 0], []⟩])
theorem k164 : Knows Tryz.prog 59 m164 := Knows.alike (fuel := 3000) progOk K3T_ok rfl (by kernel_rfl)
noncomputable def m165 : Memo := ([.string ⟨#[9, 0, 4, 1, 0, 0, 0, 0, 0, 0, 0, 16, 9, 0, 1, 1, 0, 0, 0, 0, 0, 0, 0, 4, 5, 0, 0, 9, 0, 1, 1, 0, 0, 0, 0, 0, 0, 0, 2]⟩], .tuple #[.int .i64 16, .slice (some ⟨0, 1, none⟩) 3 3], [⟨2, 25, 1, [.string ⟨#[1, 0, 0, 0, 0, 0, 0, 0, 16]⟩, .string ⟨#[9, 0, 1, 1, 0, 0, 0, 0, 0, 0, 0, 4]⟩, .string ⟨#[5, 0, 0]⟩, .string ⟨#[9, 0, 1, 1, 0, 0, 0, 0, 0, 0, 0, 2]⟩], []⟩])
theorem k165 : Knows Tryz.prog 44 m165 := Knows.alike (fuel := 3000) progOk K3T_ok rfl (by kernel_rfl)
noncomputable def m166 : Memo := ([.string ⟨#[9, 0, 4, 1, 0, 0, 0, 0, 0, 0, 0, 16, 9, 0, 1, 1, 0, 0, 0, 0, 0, 0, 0, 2, 5, 0, 0, 9, 0, 1, 1, 0, 0, 0, 0, 0, 0, 0, 4]⟩], .tuple #[.int .i64 16, .slice (some ⟨0, 1, none⟩) 3 3], [⟨2, 25, 1, [.string ⟨#[1, 0, 0, 0, 0, 0, 0, 0, 16]⟩, .string ⟨#[9, 0, 1, 1, 0, 0, 0, 0, 0, 0, 0, 2]⟩, .string ⟨#[5, 0, 0]⟩, .string ⟨#[9, 0, 1, 1, 0, 0, 0, 0, 0, 0, 0, 4]⟩], []⟩])
theorem k166 : Knows Tryz.prog 44 m166 := Knows.alike (fuel := 3000) progOk K3T_ok rfl (by kernel_rfl)
noncomputable def m167 : Memo := ([.string ⟨#[9, 0, 4, 1, 0, 0, 0, 0, 0, 0, 0, 16, 9, 0, 1, 1, 0, 0, 0, 0, 0, 0, 0, 2, 5, 0, 0, 9, 0, 1, 1, 0, 0, 0, 0, 0, 0, 0, 4]⟩, .string ⟨#[9, 0, 4, 1, 0, 0, 0, 0, 0, 0, 0, 16, 9, 0, 1, 1, 0, 0, 0, 0, 0, 0, 0, 4, 5, 0, 0, 9, 0, 1, 1, 0, 0, 0, 0, 0, 0, 0, 2]⟩], .int .i64 (-1), [])
theorem k167 : Knows Tryz.prog 102 m167 := Knows.alike (fuel := 3000) progOk K3T_ok rfl (by kernel_rfl)
noncomputable def m168 : Memo := ([.string ⟨#[9, 0, 3, 1, 0, 0, 0, 0, 0, 0, 0, 14, 9, 0, 3, 1, 0, 0, 0, 0, 0, 0, 0, 6, 1, 0, 0, 0, 0, 0, 0, 0, 2, 9, 0, 1, 1, 0, 0, 0, 0, 0, 0, 0, 2, 5, 0, 1, 1, 0, 0, 0, 0, 0, 0, 0, 2]⟩], .bool true, [])
theorem k168 : Knows Tryz.prog 54 m168 := Knows.alike (fuel := 3000) progOk K3T_ok rfl (by kernel_rfl)
noncomputable def m169 : Memo := ([.string ⟨#[9, 0, 3, 1, 0, 0, 0, 0, 0, 0, 0, 14, 9, 0, 3, 1, 0, 0, 0, 0, 0, 0, 0, 6, 1, 0, 0, 0, 0, 0, 0, 0, 2, 9, 0, 1, 1, 0, 0, 0, 0, 0, 0, 0, 2, 5, 0, 1, 1, 0, 0, 0, 0, 0, 0, 0, 2]⟩], .slice (some ⟨0, 0, none⟩) 3 3, [⟨2, 25, 1, [.string ⟨#[1, 0, 0, 0, 0, 0, 0, 0, 14]⟩, .string ⟨#[9, 0, 3, 1, 0, 0, 0, 0, 0, 0, 0, 6, 1, 0, 0, 0, 0, 0, 0, 0, 2, 9, 0, 1, 1, 0, 0, 0, 0, 0, 0, 0, 2]⟩, .string ⟨#[5, 0, 1, 1, 0, 0, 0, 0, 0, 0, 0, 2]⟩], []⟩])
theorem k169 : Knows Tryz.prog 84 m169 := Knows.alike (fuel := 3000) progOk K3T_ok rfl (by kernel_rfl)
noncomputable def m170 : Memo := ([.string ⟨#[9, 0, 3, 1, 0, 0, 0, 0, 0, 0, 0, 6, 1, 0, 0, 0, 0, 0, 0, 0, 2, 9, 0, 1, 1, 0, 0, 0, 0, 0, 0, 0, 2]⟩], .tuple #[.int .i64 6, .slice (some ⟨0, 1, none⟩) 2 2], [⟨2, 25, 1, [.string ⟨#[1, 0, 0, 0, 0, 0, 0, 0, 6]⟩, .string ⟨#[1, 0, 0, 0, 0, 0, 0, 0, 2]⟩, .string ⟨#[9, 0, 1, 1, 0, 0, 0, 0, 0, 0, 0, 2]⟩], []⟩])
theorem k170 : Knows Tryz.prog 44 m170 := Knows.alike (fuel := 3000) progOk K3T_ok rfl (by kernel_rfl)
noncomputable def m171 : Memo := ([.string ⟨#[9, 0, 3, 1, 0, 0, 0, 0, 0, 0, 0, 14, 9, 0, 1, 1, 0, 0, 0, 0, 0, 0, 0, 2, 5, 0, 1, 1, 0, 0, 0, 0, 0, 0, 0, 2]⟩], .tuple #[.int .i64 14, .slice (some ⟨0, 1, none⟩) 2 2], [⟨2, 25, 1, [.string ⟨#[1, 0, 0, 0, 0, 0, 0, 0, 14]⟩, .string ⟨#[9, 0, 1, 1, 0, 0, 0, 0, 0, 0, 0, 2]⟩, .string ⟨#[5, 0, 1, 1, 0, 0, 0, 0, 0, 0, 0, 2]⟩], []⟩])
theorem k171 : Knows Tryz.prog 44 m171 := Knows.alike (fuel := 3000) progOk K3T_ok rfl (by kernel_rfl)
noncomputable def m172 : Memo := ([.string ⟨#[9, 0, 2, 1, 0, 0, 0, 0, 0, 0, 0, 5, 1, 0, 0, 0, 0, 0, 0, 0, 0]⟩], .int .i64 5, [])
theorem k172 : Knows Tryz.prog 20 m172 := Knows.alike (fuel := 3000) progOk K3T_ok rfl (by kernel_rfl)
noncomputable def m173 : Memo := ([.string ⟨#[9, 0, 2, 1, 0, 0, 0, 0, 0, 0, 0, 5, 1, 0, 0, 0, 0, 0, 0, 0, 0]⟩], .tuple #[.int .i64 0, .slice (some ⟨0, 0, none⟩) 0 0, .bool true], [⟨1, 25, 0, [], []⟩])
theorem k173 : Knows Tryz.prog 45 m173 := Knows.alike (fuel := 3000) progOk K3T_ok rfl (by kernel_rfl)
noncomputable def m174 : Memo := ([.string ⟨#[9, 0, 3, 1, 0, 0, 0, 0, 0, 0, 0, 7, 9, 0, 1, 1, 0, 0, 0, 0, 0, 0, 0, 1, 9, 0, 2, 1, 0, 0, 0, 0, 0, 0, 0, 5, 1, 0, 0, 0, 0, 0, 0, 0, 0]⟩], .tuple #[.int .i64 7, .slice (some ⟨0, 1, none⟩) 2 2], [⟨2, 25, 1, [.string ⟨#[1, 0, 0, 0, 0, 0, 0, 0, 7]⟩, .string ⟨#[9, 0, 1, 1, 0, 0, 0, 0, 0, 0, 0, 1]⟩, .string ⟨#[9, 0, 2, 1, 0, 0, 0, 0, 0, 0, 0, 5, 1, 0, 0, 0, 0, 0, 0, 0, 0]⟩], []⟩])
theorem k174 : Knows Tryz.prog 44 m174 := Knows.alike (fuel := 3000) progOk K3T_ok rfl (by kernel_rfl)
noncomputable def m175 : Memo := ([.string ⟨#[9, 0, 3, 1, 0, 0, 0, 0, 0, 0, 0, 9, 9, 0, 2, 1, 0, 0, 0, 0, 0, 0, 0, 5, 1, 0, 0, 0, 0, 0, 0, 0, 0, 9, 0, 1, 1, 0, 0, 0, 0, 0, 0, 0, 1]⟩], .tuple #[.int .i64 9, .slice (some ⟨0, 1, none⟩) 2 2], [⟨2, 25, 1, [.string ⟨#[1, 0, 0, 0, 0, 0, 0, 0, 9]⟩, .string ⟨#[9, 0, 2, 1, 0, 0, 0, 0, 0, 0, 0, 5, 1, 0, 0, 0, 0, 0, 0, 0, 0]⟩, .string ⟨#[9, 0, 1, 1, 0, 0, 0, 0, 0, 0, 0, 1]⟩], []⟩])
theorem k175 : Knows Tryz.prog 44 m175 := Knows.alike (fuel := 3000) progOk K3T_ok rfl (by kernel_rfl)
noncomputable def m176 : Memo := ([.string ⟨#[9, 0, 4, 1, 0, 0, 0, 0, 0, 0, 0, 16, 9, 0, 1, 1, 0, 0, 0, 0, 0, 0, 0, 1, 5, 0, 0, 9, 0, 2, 1, 0, 0, 0, 0, 0, 0, 0, 5, 1, 0, 0, 0, 0, 0, 0, 0, 0]⟩], .tuple #[.int .i64 16, .slice (some ⟨0, 1, none⟩) 3 3], [⟨2, 25, 1, [.string ⟨#[1, 0, 0, 0, 0, 0, 0, 0, 16]⟩, .string ⟨#[9, 0, 1, 1, 0, 0, 0, 0, 0, 0, 0, 1]⟩, .string ⟨#[5, 0, 0]⟩, .string ⟨#[9, 0, 2, 1, 0, 0, 0, 0, 0, 0, 0, 5, 1, 0, 0, 0, 0, 0, 0, 0, 0]⟩], []⟩])
theorem k176 : Knows Tryz.prog 44 m176 := Knows.alike (fuel := 3000) progOk K3T_ok rfl (by kernel_rfl)
noncomputable def m177 : Memo := ([.string ⟨#[9, 0, 3, 1, 0, 0, 0, 0, 0, 0, 0, 14, 9, 0, 2, 1, 0, 0, 0, 0, 0, 0, 0, 5, 1, 0, 0, 0, 0, 0, 0, 0, 0, 5, 0, 0]⟩], .tuple #[.int .i64 14, .slice (some ⟨0, 1, none⟩) 2 2], [⟨2, 25, 1, [.string ⟨#[1, 0, 0, 0, 0, 0, 0, 0, 14]⟩, .string ⟨#[9, 0, 2, 1, 0, 0, 0, 0, 0, 0, 0, 5, 1, 0, 0, 0, 0, 0, 0, 0, 0]⟩, .string ⟨#[5, 0, 0]⟩], []⟩])
theorem k177 : Knows Tryz.prog 44 m177 := Knows.alike (fuel := 3000) progOk K3T_ok rfl (by kernel_rfl)
noncomputable def m178 : Memo := ([.string ⟨#[9, 0, 3, 1, 0, 0, 0, 0, 0, 0, 0, 9, 9, 0, 1, 1, 0, 0, 0, 0, 0, 0, 0, 1, 9, 0, 2, 1, 0, 0, 0, 0, 0, 0, 0, 5, 1, 0, 0, 0, 0, 0, 0, 0, 0]⟩], .tuple #[.int .i64 9, .slice (some ⟨0, 1, none⟩) 2 2], [⟨2, 25, 1, [.string ⟨#[1, 0, 0, 0, 0, 0, 0, 0, 9]⟩, .string ⟨#[9, 0, 1, 1, 0, 0, 0, 0, 0, 0, 0, 1]⟩, .string ⟨#[9, 0, 2, 1, 0, 0, 0, 0, 0, 0, 0, 5, 1, 0, 0, 0, 0, 0, 0, 0, 0]⟩], []⟩])
theorem k178 : Knows Tryz.prog 44 m178 := Knows.alike (fuel := 3000) progOk K3T_ok rfl (by kernel_rfl)
noncomputable def m179 : Memo := ([.string ⟨#[9, 0, 3, 1, 0, 0, 0, 0, 0, 0, 0, 11, 9, 0, 1, 1, 0, 0, 0, 0, 0, 0, 0, 1, 9, 0, 2, 1, 0, 0, 0, 0, 0, 0, 0, 5, 1, 0, 0, 0, 0, 0, 0, 0, 0]⟩], .tuple #[.int .i64 11, .slice (some ⟨0, 1, none⟩) 2 2], [⟨2, 25, 1, [.string ⟨#[1, 0, 0, 0, 0, 0, 0, 0, 11]⟩, .string ⟨#[9, 0, 1, 1, 0, 0, 0, 0, 0, 0, 0, 1]⟩, .string ⟨#[9, 0, 2, 1, 0, 0, 0, 0, 0, 0, 0, 5, 1, 0, 0, 0, 0, 0, 0, 0, 0]⟩], []⟩])
theorem k179 : Knows Tryz.prog 44 m179 := Knows.alike (fuel := 3000) progOk K3T_ok rfl (by kernel_rfl)
noncomputable def m180 : Memo := ([.string ⟨#[9, 0, 3, 1, 0, 0, 0, 0, 0, 0, 0, 8, 9, 0, 2, 1, 0, 0, 0, 0, 0, 0, 0, 5, 1, 0, 0, 0, 0, 0, 0, 0, 0, 9, 0, 2, 1, 0, 0, 0, 0, 0, 0, 0, 5, 1, 0, 0, 0, 0, 0, 0, 0, 0]⟩], .tuple #[.int .i64 8, .slice (some ⟨0, 1, none⟩) 2 2], [⟨2, 25, 1, [.string ⟨#[1, 0, 0, 0, 0, 0, 0, 0, 8]⟩, .string ⟨#[9, 0, 2, 1, 0, 0, 0, 0, 0, 0, 0, 5, 1, 0, 0, 0, 0, 0, 0, 0, 0]⟩, .string ⟨#[9, 0, 2, 1, 0, 0, 0, 0, 0, 0, 0, 5, 1, 0, 0, 0, 0, 0, 0, 0, 0]⟩], []⟩])
theorem k180 : Knows Tryz.prog 44 m180 := Knows.alike (fuel := 3000) progOk K3T_ok rfl (by kernel_rfl)
noncomputable def m181 : Memo := ([.string ⟨#[9, 0, 3, 1, 0, 0, 0, 0, 0, 0, 0, 6, 1, 0, 0, 0, 0, 0, 0, 0, 4, 9, 0, 2, 1, 0, 0, 0, 0, 0, 0, 0, 5, 1, 0, 0, 0, 0, 0, 0, 0, 0]⟩], .tuple #[.int .i64 6, .slice (some ⟨0, 1, none⟩) 2 2], [⟨2, 25, 1, [.string ⟨#[1, 0, 0, 0, 0, 0, 0, 0, 6]⟩, .string ⟨#[1, 0, 0, 0, 0, 0, 0, 0, 4]⟩, .string ⟨#[9, 0, 2, 1, 0, 0, 0, 0, 0, 0, 0, 5, 1, 0, 0, 0, 0, 0, 0, 0, 0]⟩], []⟩])
theorem k181 : Knows Tryz.prog 44 m181 := Knows.alike (fuel := 3000) progOk K3T_ok rfl (by kernel_rfl)
noncomputable def ms20_4 : List Memo := [m172]
theorem ks20_4 : KnowsAll Tryz.prog 20 ms20_4 := ⟨k172, trivial⟩
noncomputable def ms33_4 : List Memo := [m162]
theorem ks33_4 : KnowsAll Tryz.prog 33 ms33_4 := ⟨k162, trivial⟩
noncomputable def ms44_4 : List Memo := [m134, m135, m144, m145, m163, m165, m166, m170, m171, m174, m175, m176, m177, m178, m179, m180, m181]
theorem ks44_4 : KnowsAll Tryz.prog 44 ms44_4 := ⟨k134, k135, k144, k145, k163, k165, k166, k170, k171, k174, k175, k176, k177, k178, k179, k180, k181, trivial⟩
noncomputable def ms45_4 : List Memo := [m173]
theorem ks45_4 : KnowsAll Tryz.prog 45 ms45_4 := ⟨k173, trivial⟩
noncomputable def ms54_4 : List Memo := [m100, m118, m132, m139, m168]
theorem ks54_4 : KnowsAll Tryz.prog 54 ms54_4 := ⟨k100, k118, k132, k139, k168, trivial⟩
noncomputable def ms59_4 : List Memo := [m164]
theorem ks59_4 : KnowsAll Tryz.prog 59 ms59_4 := ⟨k164, trivial⟩
noncomputable def ms76_4 : List Memo := [m88]
theorem ks76_4 : KnowsAll Tryz.prog 76 ms76_4 := ⟨k88, trivial⟩
noncomputable def ms84_4 : List Memo := [m82, m98, m104, m105, m119, m120, m133, m136, m137, m142, m143, m146, m148, m150, m152, m154, m156, m158, m160, m169]
theorem ks84_4 : KnowsAll Tryz.prog 84 ms84_4 := ⟨k82, k98, k104, k105, k119, k120, k133, k136, k137, k142, k143, k146, k148, k150, k152, k154, k156, k158, k160, k169, trivial⟩
noncomputable def ms102_4 : List Memo := [m130, m167]
theorem ks102_4 : KnowsAll Tryz.prog 102 ms102_4 := ⟨k130, k167, trivial⟩
noncomputable def ms107_4 : List Memo := [m64]
theorem ks107_4 : KnowsAll Tryz.prog 107 ms107_4 := ⟨k64, trivial⟩
noncomputable def ms109_4 : List Memo := [m59, m63, m75, m78, m85]
theorem ks109_4 : KnowsAll Tryz.prog 109 ms109_4 := ⟨k59, k63, k75, k78, k85, trivial⟩
noncomputable def ms110_4 : List Memo := [m86, m110]
theorem ks110_4 : KnowsAll Tryz.prog 110 ms110_4 := ⟨k86, k110, trivial⟩
noncomputable def ms112_4 : List Memo := [m102, m113]
theorem ks112_4 : KnowsAll Tryz.prog 112 ms112_4 := ⟨k102, k113, trivial⟩
noncomputable def ms133_4 : List Memo := [m81, m99]
theorem ks133_4 : KnowsAll Tryz.prog 133 ms133_4 := ⟨k81, k99, trivial⟩
noncomputable def ms135_4 : List Memo := [m68, m116]
theorem ks135_4 : KnowsAll Tryz.prog 135 ms135_4 := ⟨k68, k116, trivial⟩
noncomputable def ms140_4 : List Memo := [m14, m17, m19, m31, m33, m45, m47, m49, m51, m52, m54, m56, m57, m80]
theorem ks140_4 : KnowsAll Tryz.prog 140 ms140_4 := ⟨k14, k17, k19, k31, k33, k45, k47, k49, k51, k52, k54, k56, k57, k80, trivial⟩
noncomputable def ms141_4 : List Memo := [m11, m13, m16, m27, m29, m37, m38, m43, m44, m46, m53, m55]
theorem ks141_4 : KnowsAll Tryz.prog 141 ms141_4 := ⟨k11, k13, k16, k27, k29, k37, k38, k43, k44, k46, k53, k55, trivial⟩
noncomputable def ms147_4 : List Memo := [m12, m15, m18, m48, m50]
theorem ks147_4 : KnowsAll Tryz.prog 147 ms147_4 := ⟨k12, k15, k18, k48, k50, trivial⟩
noncomputable def ms155_4 : List Memo := [m0, m8, m20, m23, m34, m36]
theorem ks155_4 : KnowsAll Tryz.prog 155 ms155_4 := ⟨k0, k8, k20, k23, k34, k36, trivial⟩
noncomputable def ms156_4 : List Memo := [m1, m2, m3, m4, m5, m6, m7, m9, m10, m21, m22, m24, m25, m26, m35, m58, m60, m61, m62, m74, m76, m77, m84, m101, m109, m111, m112, m140]
theorem ks156_4 : KnowsAll Tryz.prog 156 ms156_4 := ⟨k1, k2, k3, k4, k5, k6, k7, k9, k10, k21, k22, k24, k25, k26, k35, k58, k60, k61, k62, k74, k76, k77, k84, k101, k109, k111, k112, k140, trivial⟩
noncomputable def ms159_4 : List Memo := [m73, m108, m138]
theorem ks159_4 : KnowsAll Tryz.prog 159 ms159_4 := ⟨k73, k108, k138, trivial⟩
noncomputable def ms207_4 : List Memo := [m30]
theorem ks207_4 : KnowsAll Tryz.prog 207 ms207_4 := ⟨k30, trivial⟩
noncomputable def ms220_4 : List Memo := [m28, m32, m39, m40, m41, m42, m65, m66, m67, m69, m70, m71, m72, m79, m83, m87, m89, m90, m91, m92, m93, m94, m95, m96, m103, m106, m107, m114, m115, m117, m123, m124, m125, m126, m127, m128, m129, m131, m141]
theorem ks220_4 : KnowsAll Tryz.prog 220 ms220_4 := ⟨k28, k32, k39, k40, k41, k42, k65, k66, k67, k69, k70, k71, k72, k79, k83, k87, k89, k90, k91, k92, k93, k94, k95, k96, k103, k106, k107, k114, k115, k117, k123, k124, k125, k126, k127, k128, k129, k131, k141, trivial⟩
noncomputable def ms313_4 : List Memo := [m97, m121, m122, m147, m149, m151, m153, m155, m157, m159, m161]
theorem ks313_4 : KnowsAll Tryz.prog 313 ms313_4 := ⟨k97, k121, k122, k147, k149, k151, k153, k155, k157, k159, k161, trivial⟩
noncomputable def K4T : Tbl := ((((((((((((((((((((((((KA.memo 20 ms20_4).memo 33 ms33_4).memo 44 ms44_4).memo 45 ms45_4).memo 54 ms54_4).memo 59 ms59_4).memo 76 ms76_4).memo 84 ms84_4).memo 102 ms102_4).memo 107 ms107_4).memo 109 ms109_4).memo 110 ms110_4).memo 112 ms112_4).memo 133 ms133_4).memo 135 ms135_4).memo 140 ms140_4).memo 141 ms141_4).memo 147 ms147_4).memo 155 ms155_4).memo 156 ms156_4).memo 159 ms159_4).memo 207 ms207_4).memo 220 ms220_4).memo 313 ms313_4)
theorem K4T_ok : KOk Tryz.prog K4T := (KOk.memoAll (KOk.memoAll (KOk.memoAll (KOk.memoAll (KOk.memoAll (KOk.memoAll (KOk.memoAll (KOk.memoAll (KOk.memoAll (KOk.memoAll (KOk.memoAll (KOk.memoAll (KOk.memoAll (KOk.memoAll (KOk.memoAll (KOk.memoAll (KOk.memoAll (KOk.memoAll (KOk.memoAll (KOk.memoAll (KOk.memoAll (KOk.memoAll (KOk.memoAll (KOk.memoAll KA_ok ks20_4) ks33_4) ks44_4) ks45_4) ks54_4) ks59_4) ks76_4) ks84_4) ks102_4) ks107_4) ks109_4) ks110_4) ks112_4) ks133_4) ks135_4) ks140_4) ks141_4) ks147_4) ks155_4) ks156_4) ks159_4) ks207_4) ks220_4) ks313_4)
noncomputable def m182 : Memo := ([.string ⟨#[9, 0, 4, 1, 0, 0, 0, 0, 0, 0, 0, 16, 9, 0, 1, 1, 0, 0, 0, 0, 0, 0, 0, 2, 5, 0, 0, 9, 0, 1, 1, 0, 0, 0, 0, 0, 0, 0, 2]⟩], .bool true, [])
theorem k182 : Knows Tryz.prog 43 m182 := Knows.alike (fuel := 3000) progOk K4T_ok rfl (by kernel_rfl)
noncomputable def m183 : Memo := ([.string ⟨#[9, 0, 4, 1, 0, 0, 0, 0, 0, 0, 0, 16, 9, 0, 1, 1, 0, 0, 0, 0, 0, 0, 0, 4, 5, 0, 0, 9, 0, 1, 1, 0, 0, 0, 0, 0, 0, 0, 2]⟩], .bool true, [])
theorem k183 : Knows Tryz.prog 43 m183 := Knows.alike (fuel := 3000) progOk K4T_ok rfl (by kernel_rfl)
noncomputable def m184 : Memo := ([.string ⟨#[9, 0, 4, 1, 0, 0, 0, 0, 0, 0, 0, 16, 9, 0, 1, 1, 0, 0, 0, 0, 0, 0, 0, 2, 5, 0, 0, 9, 0, 1, 1, 0, 0, 0, 0, 0, 0, 0, 4]⟩], .bool true, [])
theorem k184 : Knows Tryz.prog 43 m184 := Knows.alike (fuel := 3000) progOk K4T_ok rfl (by kernel_rfl)
noncomputable def m185 : Memo := ([.string ⟨#[9, 0, 3, 1, 0, 0, 0, 0, 0, 0, 0, 14, 9, 0, 3, 1, 0, 0, 0, 0, 0, 0, 0, 6, 1, 0, 0, 0, 0, 0, 0, 0, 2, 9, 0, 1, 1, 0, 0, 0, 0, 0, 0, 0, 2, 5, 0, 1, 1, 0, 0, 0, 0, 0, 0, 0, 2]⟩], .tuple #[.int .i64 14, .slice (some ⟨0, 1, none⟩) 2 2], [⟨2, 25, 1, [.string ⟨#[1, 0, 0, 0, 0, 0, 0, 0, 14]⟩, .string ⟨#[9, 0, 3, 1, 0, 0, 0, 0, 0, 0, 0, 6, 1, 0, 0, 0, 0, 0, 0, 0, 2, 9, 0, 1, 1, 0, 0, 0, 0, 0, 0, 0, 2]⟩, .string ⟨#[5, 0, 1, 1, 0, 0, 0, 0, 0, 0, 0, 2]⟩], []⟩])
theorem k185 : Knows Tryz.prog 44 m185 := Knows.alike (fuel := 3000) progOk K4T_ok rfl (by kernel_rfl)
noncomputable def m186 : Memo := ([.string ⟨#[9, 0, 3, 1, 0, 0, 0, 0, 0, 0, 0, 6, 1, 0, 0, 0, 0, 0, 0, 0, 2, 9, 0, 1, 1, 0, 0, 0, 0, 0, 0, 0, 2]⟩], .bool true, [])
theorem k186 : Knows Tryz.prog 43 m186 := Knows.alike (fuel := 3000) progOk K4T_ok rfl (by kernel_rfl)
noncomputable def m187 : Memo := ([.string ⟨#[9, 0, 3, 1, 0, 0, 0, 0, 0, 0, 0, 14, 9, 0, 1, 1, 0, 0, 0, 0, 0, 0, 0, 2, 5, 0, 1, 1, 0, 0, 0, 0, 0, 0, 0, 2]⟩], .bool true, [])
theorem k187 : Knows Tryz.prog 43 m187 := Knows.alike (fuel := 3000) progOk K4T_ok rfl (by kernel_rfl)
noncomputable def m188 : Memo := ([.string ⟨#[9, 0, 3, 1, 0, 0, 0, 0, 0, 0, 0, 7, 9, 0, 1, 1, 0, 0, 0, 0, 0, 0, 0, 1, 9, 0, 2, 1, 0, 0, 0, 0, 0, 0, 0, 5, 1, 0, 0, 0, 0, 0, 0, 0, 0]⟩], .bool true, [])
theorem k188 : Knows Tryz.prog 43 m188 := Knows.alike (fuel := 3000) progOk K4T_ok rfl (by kernel_rfl)
noncomputable def m189 : Memo := ([.string ⟨#[9, 0, 3, 1, 0, 0, 0, 0, 0, 0, 0, 9, 9, 0, 2, 1, 0, 0, 0, 0, 0, 0, 0, 5, 1, 0, 0, 0, 0, 0, 0, 0, 0, 9, 0, 1, 1, 0, 0, 0, 0, 0, 0, 0, 1]⟩], .bool true, [])
theorem k189 : Knows Tryz.prog 43 m189 := Knows.alike (fuel := 3000) progOk K4T_ok rfl (by kernel_rfl)
noncomputable def m190 : Memo := ([.string ⟨#[9, 0, 4, 1, 0, 0, 0, 0, 0, 0, 0, 16, 9, 0, 1, 1, 0, 0, 0, 0, 0, 0, 0, 1, 5, 0, 0, 9, 0, 2, 1, 0, 0, 0, 0, 0, 0, 0, 5, 1, 0, 0, 0, 0, 0, 0, 0, 0]⟩], .bool true, [])
theorem k190 : Knows Tryz.prog 43 m190 := Knows.alike (fuel := 3000) progOk K4T_ok rfl (by kernel_rfl)
noncomputable def m191 : Memo := ([.string ⟨#[9, 0, 3, 1, 0, 0, 0, 0, 0, 0, 0, 14, 9, 0, 2, 1, 0, 0, 0, 0, 0, 0, 0, 5, 1, 0, 0, 0, 0, 0, 0, 0, 0, 5, 0, 0]⟩], .bool true, [])
theorem k191 : Knows Tryz.prog 43 m191 := Knows.alike (fuel := 3000) progOk K4T_ok rfl (by kernel_rfl)
noncomputable def m192 : Memo := ([.string ⟨#[9, 0, 3, 1, 0, 0, 0, 0, 0, 0, 0, 9, 9, 0, 1, 1, 0, 0, 0, 0, 0, 0, 0, 1, 9, 0, 2, 1, 0, 0, 0, 0, 0, 0, 0, 5, 1, 0, 0, 0, 0, 0, 0, 0, 0]⟩], .bool true, [])
theorem k192 : Knows Tryz.prog 43 m192 := Knows.alike (fuel := 3000) progOk K4T_ok rfl (by kernel_rfl)
noncomputable def m193 : Memo := ([.string ⟨#[9, 0, 3, 1, 0, 0, 0, 0, 0, 0, 0, 11, 9, 0, 1, 1, 0, 0, 0, 0, 0, 0, 0, 1, 9, 0, 2, 1, 0, 0, 0, 0, 0, 0, 0, 5, 1, 0, 0, 0, 0, 0, 0, 0, 0]⟩], .bool true, [])
theorem k193 : Knows Tryz.prog 43 m193 := Knows.alike (fuel := 3000) progOk K4T_ok rfl (by kernel_rfl)
noncomputable def m194 : Memo := ([.string ⟨#[9, 0, 3, 1, 0, 0, 0, 0, 0, 0, 0, 8, 9, 0, 2, 1, 0, 0, 0, 0, 0, 0, 0, 5, 1, 0, 0, 0, 0, 0, 0, 0, 0, 9, 0, 2, 1, 0, 0, 0, 0, 0, 0, 0, 5, 1, 0, 0, 0, 0, 0, 0, 0, 0]⟩], .bool true, [])
theorem k194 : Knows Tryz.prog 43 m194 := Knows.alike (fuel := 3000) progOk K4T_ok rfl (by kernel_rfl)
noncomputable def m195 : Memo := ([.string ⟨#[9, 0, 3, 1, 0, 0, 0, 0, 0, 0, 0, 6, 1, 0, 0, 0, 0, 0, 0, 0, 4, 9, 0, 2, 1, 0, 0, 0, 0, 0, 0, 0, 5, 1, 0, 0, 0, 0, 0, 0, 0, 0]⟩], .bool true, [])
theorem k195 : Knows Tryz.prog 43 m195 := Knows.alike (fuel := 3000) progOk K4T_ok rfl (by kernel_rfl)
noncomputable def ms20_5 : List Memo := [m172]
theorem ks20_5 : KnowsAll Tryz.prog 20 ms20_5 := ⟨k172, trivial⟩
noncomputable def ms33_5 : List Memo := [m162]
theorem ks33_5 : KnowsAll Tryz.prog 33 ms33_5 := ⟨k162, trivial⟩
noncomputable def ms43_5 : List Memo := [m182, m183, m184, m186, m187, m188, m189, m190, m191, m192, m193, m194, m195]
theorem ks43_5 : KnowsAll Tryz.prog 43 ms43_5 := ⟨k182, k183, k184, k186, k187, k188, k189, k190, k191, k192, k193, k194, k195, trivial⟩
noncomputable def ms44_5 : List Memo := [m134, m135, m144, m145, m163, m165, m166, m170, m171, m174, m175, m176, m177, m178, m179, m180, m181, m185]
theorem ks44_5 : KnowsAll Tryz.prog 44 ms44_5 := ⟨k134, k135, k144, k145, k163, k165, k166, k170, k171, k174, k175, k176, k177, k178, k179, k180, k181, k185, trivial⟩
noncomputable def ms45_5 : List Memo := [m173]
theorem ks45_5 : KnowsAll Tryz.prog 45 ms45_5 := ⟨k173, trivial⟩
noncomputable def ms54_5 : List Memo := [m100, m118, m132, m139, m168]
theorem ks54_5 : KnowsAll Tryz.prog 54 ms54_5 := ⟨k100, k118, k132, k139, k168, trivial⟩
noncomputable def ms59_5 : List Memo := [m164]
theorem ks59_5 : KnowsAll Tryz.prog 59 ms59_5 := ⟨k164, trivial⟩
noncomputable def ms76_5 : List Memo := [m88]
theorem ks76_5 : KnowsAll Tryz.prog 76 ms76_5 := ⟨k88, trivial⟩
noncomputable def ms84_5 : List Memo := [m82, m98, m104, m105, m119, m120, m133, m136, m137, m142, m143, m146, m148, m150, m152, m154, m156, m158, m160, m169]
theorem ks84_5 : KnowsAll Tryz.prog 84 ms84_5 := ⟨k82, k98, k104, k105, k119, k120, k133, k136, k137, k142, k143, k146, k148, k150, k152, k154, k156, k158, k160, k169, trivial⟩
noncomputable def ms102_5 : List Memo := [m130, m167]
theorem ks102_5 : KnowsAll Tryz.prog 102 ms102_5 := ⟨k130, k167, trivial⟩
noncomputable def ms107_5 : List Memo := [m64]
theorem ks107_5 : KnowsAll Tryz.prog 107 ms107_5 := ⟨k64, trivial⟩
noncomputable def ms109_5 : List Memo := [m59, m63, m75, m78, m85]
theorem ks109_5 : KnowsAll Tryz.prog 109 ms109_5 := ⟨k59, k63, k75, k78, k85, trivial⟩
noncomputable def ms110_5 : List Memo := [m86, m110]
theorem ks110_5 : KnowsAll Tryz.prog 110 ms110_5 := ⟨k86, k110, trivial⟩
noncomputable def ms112_5 : List Memo := [m102, m113]
theorem ks112_5 : KnowsAll Tryz.prog 112 ms112_5 := ⟨k102, k113, trivial⟩
noncomputable def ms133_5 : List Memo := [m81, m99]
theorem ks133_5 : KnowsAll Tryz.prog 133 ms133_5 := ⟨k81, k99, trivial⟩
noncomputable def ms135_5 : List Memo := [m68, m116]
theorem ks135_5 : KnowsAll Tryz.prog 135 ms135_5 := ⟨k68, k116, trivial⟩
noncomputable def ms140_5 : List Memo := [m14, m17, m19, m31, m33, m45, m47, m49, m51, m52, m54, m56, m57, m80]
theorem ks140_5 : KnowsAll Tryz.prog 140 ms140_5 := ⟨k14, k17, k19, k31, k33, k45, k47, k49, k51, k52, k54, k56, k57, k80, trivial⟩
noncomputable def ms141_5 : List Memo := [m11, m13, m16, m27, m29, m37, m38, m43, m44, m46, m53, m55]
theorem ks141_5 : KnowsAll Tryz.prog 141 ms141_5 := ⟨k11, k13, k16, k27, k29, k37, k38, k43, k44, k46, k53, k55, trivial⟩
noncomputable def ms147_5 : List Memo := [m12, m15, m18, m48, m50]
theorem ks147_5 : KnowsAll Tryz.prog 147 ms147_5 := ⟨k12, k15, k18, k48, k50, trivial⟩
noncomputable def ms155_5 : List Memo := [m0, m8, m20, m23, m34, m36]
theorem ks155_5 : KnowsAll Tryz.prog 155 ms155_5 := ⟨k0, k8, k20, k23, k34, k36, trivial⟩
noncomputable def ms156_5 : List Memo := [m1, m2, m3, m4, m5, m6, m7, m9, m10, m21, m22, m24, m25, m26, m35, m58, m60, m61, m62, m74, m76, m77, m84, m101, m109, m111, m112, m140]
theorem ks156_5 : KnowsAll Tryz.prog 156 ms156_5 := ⟨k1, k2, k3, k4, k5, k6, k7, k9, k10, k21, k22, k24, k25, k26, k35, k58, k60, k61, k62, k74, k76, k77, k84, k101, k109, k111, k112, k140, trivial⟩
noncomputable def ms159_5 : List Memo := [m73, m108, m138]
theorem ks159_5 : KnowsAll Tryz.prog 159 ms159_5 := ⟨k73, k108, k138, trivial⟩
noncomputable def ms207_5 : List Memo := [m30]
theorem ks207_5 : KnowsAll Tryz.prog 207 ms207_5 := ⟨k30, trivial⟩
noncomputable def ms220_5 : List Memo := [m28, m32, m39, m40, m41, m42, m65, m66, m67, m69, m70, m71, m72, m79, m83, m87, m89, m90, m91, m92, m93, m94, m95, m96, m103, m106, m107, m114, m115, m117, m123, m124, m125, m126, m127, m128, m129, m131, m141]
theorem ks220_5 : KnowsAll Tryz.prog 220 ms220_5 := ⟨k28, k32, k39, k40, k41, k42, k65, k66, k67, k69, k70, k71, k72, k79, k83, k87, k89, k90, k91, k92, k93, k94, k95, k96, k103, k106, k107, k114, k115, k117, k123, k124, k125, k126, k127, k128, k129, k131, k141, trivial⟩
noncomputable def ms313_5 : List Memo := [m97, m121, m122, m147, m149, m151, m153, m155, m157, m159, m161]
theorem ks313_5 : KnowsAll Tryz.prog 313 ms313_5 := ⟨k97, k121, k122, k147, k149, k151, k153, k155, k157, k159, k161, trivial⟩
noncomputable def K5T : Tbl := (((((((((((((((((((((((((KA.memo 20 ms20_5).memo 33 ms33_5).memo 43 ms43_5).memo 44 ms44_5).memo 45 ms45_5).memo 54 ms54_5).memo 59 ms59_5).memo 76 ms76_5).memo 84 ms84_5).memo 102 ms102_5).memo 107 ms107_5).memo 109 ms109_5).memo 110 ms110_5).memo 112 ms112_5).memo 133 ms133_5).memo 135 ms135_5).memo 140 ms140_5).memo 141 ms141_5).memo 147 ms147_5).memo 155 ms155_5).memo 156 ms156_5).memo 159 ms159_5).memo 207 ms207_5).memo 220 ms220_5).memo 313 ms313_5)
theorem K5T_ok : KOk Tryz.prog K5T := (KOk.memoAll (KOk.memoAll (KOk.memoAll (KOk.memoAll (KOk.memoAll (KOk.memoAll (KOk.memoAll (KOk.memoAll (KOk.memoAll (KOk.memoAll (KOk.memoAll (KOk.memoAll (KOk.memoAll (KOk.memoAll (KOk.memoAll (KOk.memoAll (KOk.memoAll (KOk.memoAll (KOk.memoAll (KOk.memoAll (KOk.memoAll (KOk.memoAll (KOk.memoAll (KOk.memoAll (KOk.memoAll KA_ok ks20_5) ks33_5) ks43_5) ks44_5) ks45_5) ks54_5) ks59_5) ks76_5) ks84_5) ks102_5) ks107_5) ks109_5) ks110_5) ks112_5) ks133_5) ks135_5) ks140_5) ks141_5) ks147_5) ks155_5) ks156_5) ks159_5) ks207_5) ks220_5) ks313_5)
noncomputable def m196 : Memo := ([.string ⟨#[9, 0, 4, 1, 0, 0, 0, 0, 0, 0, 0, 16, 9, 0, 1, 1, 0, 0, 0, 0, 0, 0, 0, 2, 5, 0, 0, 9, 0, 1, 1, 0, 0, 0, 0, 0, 0, 0, 2]⟩], .slice (some ⟨0, 0, none⟩) 2 2, [⟨2, 25, 1, [.string ⟨#[9, 0, 1, 1, 0, 0, 0, 0, 0, 0, 0, 2]⟩, .string ⟨#[9, 0, 1, 1, 0, 0, 0, 0, 0, 0, 0, 2]⟩], []⟩])
theorem k196 : Knows Tryz.prog 50 m196 := Knows.alike (fuel := 3000) progOk K5T_ok rfl (by kernel_rfl)
noncomputable def m197 : Memo := ([.string ⟨#[9, 0, 4, 1, 0, 0, 0, 0, 0, 0, 0, 16, 9, 0, 1, 1, 0, 0, 0, 0, 0, 0, 0, 2, 5, 0, 0, 9, 0, 1, 1, 0, 0, 0, 0, 0, 0, 0, 2]⟩], .tuple #[.slice none 0 0, .slice none 0 0], [])
theorem k197 : Knows Tryz.prog 171 m197 := Knows.alike (fuel := 3000) progOk K5T_ok rfl (by kernel_rfl)
noncomputable def m198 : Memo := ([.string ⟨#[9, 0, 4, 1, 0, 0, 0, 0, 0, 0, 0, 16, 9, 0, 1, 1, 0, 0, 0, 0, 0, 0, 0, 2, 5, 0, 0, 9, 0, 1, 1, 0, 0, 0, 0, 0, 0, 0, 2]⟩], .slice none 0 0, [])
theorem k198 : Knows Tryz.prog 177 m198 := Knows.alike (fuel := 3000) progOk K5T_ok rfl (by kernel_rfl)
noncomputable def m199 : Memo := ([.int .i64 16, .string ⟨#[9, 0, 1, 1, 0, 0, 0, 0, 0, 0, 0, 4]⟩, .slice none 0 0, .string ⟨#[9, 0, 1, 1, 0, 0, 0, 0, 0, 0, 0, 2]⟩], .string ⟨#[9, 0, 4, 1, 0, 0, 0, 0, 0, 0, 0, 16, 9, 0, 1, 1, 0, 0, 0, 0, 0, 0, 0, 4, 5, 0, 0, 9, 0, 1, 1, 0, 0, 0, 0, 0, 0, 0, 2]⟩, [])
theorem k199 : Knows Tryz.prog 174 m199 := Knows.alike (fuel := 3000) progOk K5T_ok rfl (by kernel_rfl)
noncomputable def m200 : Memo := ([.int .i64 16, .string ⟨#[9, 0, 1, 1, 0, 0, 0, 0, 0, 0, 0, 2]⟩, .slice none 0 0, .string ⟨#[9, 0, 1, 1, 0, 0, 0, 0, 0, 0, 0, 4]⟩], .string ⟨#[9, 0, 4, 1, 0, 0, 0, 0, 0, 0, 0, 16, 9, 0, 1, 1, 0, 0, 0, 0, 0, 0, 0, 2, 5, 0, 0, 9, 0, 1, 1, 0, 0, 0, 0, 0, 0, 0, 4]⟩, [])
theorem k200 : Knows Tryz.prog 174 m200 := Knows.alike (fuel := 3000) progOk K5T_ok rfl (by kernel_rfl)
noncomputable def m201 : Memo := ([.string ⟨#[9, 0, 3, 1, 0, 0, 0, 0, 0, 0, 0, 14, 9, 0, 3, 1, 0, 0, 0, 0, 0, 0, 0, 6, 1, 0, 0, 0, 0, 0, 0, 0, 2, 9, 0, 1, 1, 0, 0, 0, 0, 0, 0, 0, 2, 5, 0, 1, 1, 0, 0, 0, 0, 0, 0, 0, 2]⟩], .bool true, [])
theorem k201 : Knows Tryz.prog 43 m201 := Knows.alike (fuel := 3000) progOk K5T_ok rfl (by kernel_rfl)
noncomputable def m202 : Memo := ([.string ⟨#[9, 0, 3, 1, 0, 0, 0, 0, 0, 0, 0, 6, 1, 0, 0, 0, 0, 0, 0, 0, 2, 9, 0, 1, 1, 0, 0, 0, 0, 0, 0, 0, 2]⟩], .slice (some ⟨0, 0, none⟩) 1 1, [⟨2, 70, 2, [.int .i64 2, .string ⟨#[9, 0, 1, 1, 0, 0, 0, 0, 0, 0, 0, 2]⟩], []⟩])
theorem k202 : Knows Tryz.prog 121 m202 := Knows.alike (fuel := 3000) progOk K5T_ok rfl (by kernel_rfl)
noncomputable def m203 : Memo := ([.int .i64 7, .string ⟨#[9, 0, 1, 1, 0, 0, 0, 0, 0, 0, 0, 1]⟩, .string ⟨#[9, 0, 2, 1, 0, 0, 0, 0, 0, 0, 0, 5, 1, 0, 0, 0, 0, 0, 0, 0, 0]⟩], .string ⟨#[9, 0, 3, 1, 0, 0, 0, 0, 0, 0, 0, 7, 9, 0, 1, 1, 0, 0, 0, 0, 0, 0, 0, 1, 9, 0, 2, 1, 0, 0, 0, 0, 0, 0, 0, 5, 1, 0, 0, 0, 0, 0, 0, 0, 0]⟩, [])
theorem k203 : Knows Tryz.prog 172 m203 := Knows.alike (fuel := 3000) progOk K5T_ok rfl (by kernel_rfl)
noncomputable def m204 : Memo := ([.string ⟨#[9, 0, 3, 1, 0, 0, 0, 0, 0, 0, 0, 7, 9, 0, 1, 1, 0, 0, 0, 0, 0, 0, 0, 1, 9, 0, 2, 1, 0, 0, 0, 0, 0, 0, 0, 5, 1, 0, 0, 0, 0, 0, 0, 0, 0]⟩], .slice (some ⟨0, 0, none⟩) 2 2, [⟨2, 25, 1, [.string ⟨#[9, 0, 1, 1, 0, 0, 0, 0, 0, 0, 0, 1]⟩, .string ⟨#[9, 0, 2, 1, 0, 0, 0, 0, 0, 0, 0, 5, 1, 0, 0, 0, 0, 0, 0, 0, 0]⟩], []⟩])
theorem k204 : Knows Tryz.prog 50 m204 := Knows.alike (fuel := 3000) progOk K5T_ok rfl (by kernel_rfl)
noncomputable def m205 : Memo := ([.int .i64 9, .string ⟨#[9, 0, 2, 1, 0, 0, 0, 0, 0, 0, 0, 5, 1, 0, 0, 0, 0, 0, 0, 0, 0]⟩, .string ⟨#[9, 0, 1, 1, 0, 0, 0, 0, 0, 0, 0, 1]⟩], .string ⟨#[9, 0, 3, 1, 0, 0, 0, 0, 0, 0, 0, 9, 9, 0, 2, 1, 0, 0, 0, 0, 0, 0, 0, 5, 1, 0, 0, 0, 0, 0, 0, 0, 0, 9, 0, 1, 1, 0, 0, 0, 0, 0, 0, 0, 1]⟩, [])
theorem k205 : Knows Tryz.prog 172 m205 := Knows.alike (fuel := 3000) progOk K5T_ok rfl (by kernel_rfl)
noncomputable def m206 : Memo := ([.string ⟨#[9, 0, 3, 1, 0, 0, 0, 0, 0, 0, 0, 9, 9, 0, 2, 1, 0, 0, 0, 0, 0, 0, 0, 5, 1, 0, 0, 0, 0, 0, 0, 0, 0, 9, 0, 1, 1, 0, 0, 0, 0, 0, 0, 0, 1]⟩], .slice (some ⟨0, 0, none⟩) 2 2, [⟨2, 25, 1, [.string ⟨#[9, 0, 2, 1, 0, 0, 0, 0, 0, 0, 0, 5, 1, 0, 0, 0, 0, 0, 0, 0, 0]⟩, .string ⟨#[9, 0, 1, 1, 0, 0, 0, 0, 0, 0, 0, 1]⟩], []⟩])
theorem k206 : Knows Tryz.prog 50 m206 := Knows.alike (fuel := 3000) progOk K5T_ok rfl (by kernel_rfl)
noncomputable def m207 : Memo := ([.int .i64 16, .string ⟨#[9, 0, 1, 1, 0, 0, 0, 0, 0, 0, 0, 1]⟩, .slice none 0 0, .string ⟨#[9, 0, 2, 1, 0, 0, 0, 0, 0, 0, 0, 5, 1, 0, 0, 0, 0, 0, 0, 0, 0]⟩], .string ⟨#[9, 0, 4, 1, 0, 0, 0, 0, 0, 0, 0, 16, 9, 0, 1, 1, 0, 0, 0, 0, 0, 0, 0, 1, 5, 0, 0, 9, 0, 2, 1, 0, 0, 0, 0, 0, 0, 0, 5, 1, 0, 0, 0, 0, 0, 0, 0, 0]⟩, [])
theorem k207 : Knows Tryz.prog 174 m207 := Knows.alike (fuel := 3000) progOk K5T_ok rfl (by kernel_rfl)
noncomputable def m208 : Memo := ([.string ⟨#[9, 0, 4, 1, 0, 0, 0, 0, 0, 0, 0, 16, 9, 0, 1, 1, 0, 0, 0, 0, 0, 0, 0, 1, 5, 0, 0, 9, 0, 2, 1, 0, 0, 0, 0, 0, 0, 0, 5, 1, 0, 0, 0, 0, 0, 0, 0, 0]⟩], .slice (some ⟨0, 0, none⟩) 2 2, [⟨2, 25, 1, [.string ⟨#[9, 0, 1, 1, 0, 0, 0, 0, 0, 0, 0, 1]⟩, .string ⟨#[9, 0, 2, 1, 0, 0, 0, 0, 0, 0, 0, 5, 1, 0, 0, 0, 0, 0, 0, 0, 0]⟩], []⟩])
theorem k208 : Knows Tryz.prog 50 m208 := Knows.alike (fuel := 3000) progOk K5T_ok rfl (by kernel_rfl)
noncomputable def m209 : Memo := ([.string ⟨#[9, 0, 2, 1, 0, 0, 0, 0, 0, 0, 0, 5, 1, 0, 0, 0, 0, 0, 0, 0, 0]⟩, .slice none 0 0], .string ⟨#[9, 0, 3, 1, 0, 0, 0, 0, 0, 0, 0, 14, 9, 0, 2, 1, 0, 0, 0, 0, 0, 0, 0, 5, 1, 0, 0, 0, 0, 0, 0, 0, 0, 5, 0, 0]⟩, [])
theorem k209 : Knows Tryz.prog 175 m209 := Knows.alike (fuel := 3000) progOk K5T_ok rfl (by kernel_rfl)
noncomputable def m210 : Memo := ([.string ⟨#[9, 0, 3, 1, 0, 0, 0, 0, 0, 0, 0, 14, 9, 0, 2, 1, 0, 0, 0, 0, 0, 0, 0, 5, 1, 0, 0, 0, 0, 0, 0, 0, 0, 5, 0, 0]⟩], .slice (some ⟨0, 0, none⟩) 1 1, [⟨2, 25, 1, [.string ⟨#[9, 0, 2, 1, 0, 0, 0, 0, 0, 0, 0, 5, 1, 0, 0, 0, 0, 0, 0, 0, 0]⟩], []⟩])
theorem k210 : Knows Tryz.prog 50 m210 := Knows.alike (fuel := 3000) progOk K5T_ok rfl (by kernel_rfl)
noncomputable def m211 : Memo := ([.int .i64 9, .string ⟨#[9, 0, 1, 1, 0, 0, 0, 0, 0, 0, 0, 1]⟩, .string ⟨#[9, 0, 2, 1, 0, 0, 0, 0, 0, 0, 0, 5, 1, 0, 0, 0, 0, 0, 0, 0, 0]⟩], .string ⟨#[9, 0, 3, 1, 0, 0, 0, 0, 0, 0, 0, 9, 9, 0, 1, 1, 0, 0, 0, 0, 0, 0, 0, 1, 9, 0, 2, 1, 0, 0, 0, 0, 0, 0, 0, 5, 1, 0, 0, 0, 0, 0, 0, 0, 0]⟩, [])
theorem k211 : Knows Tryz.prog 172 m211 := Knows.alike (fuel := 3000) progOk K5T_ok rfl (by kernel_rfl)
noncomputable def m212 : Memo := ([.string ⟨#[9, 0, 3, 1, 0, 0, 0, 0, 0, 0, 0, 9, 9, 0, 1, 1, 0, 0, 0, 0, 0, 0, 0, 1, 9, 0, 2, 1, 0, 0, 0, 0, 0, 0, 0, 5, 1, 0, 0, 0, 0, 0, 0, 0, 0]⟩], .slice (some ⟨0, 0, none⟩) 2 2, [⟨2, 25, 1, [.string ⟨#[9, 0, 1, 1, 0, 0, 0, 0, 0, 0, 0, 1]⟩, .string ⟨#[9, 0, 2, 1, 0, 0, 0, 0, 0, 0, 0, 5, 1, 0, 0, 0, 0, 0, 0, 0, 0]⟩], []⟩])
theorem k212 : Knows Tryz.prog 50 m212 := Knows.alike (fuel := 3000) progOk K5T_ok rfl (by kernel_rfl)
noncomputable def m213 : Memo := ([.string ⟨#[9, 0, 3, 1, 0, 0, 0, 0, 0, 0, 0, 9, 9, 0, 1, 1, 0, 0, 0, 0, 0, 0, 0, 1, 9, 0, 2, 1, 0, 0, 0, 0, 0, 0, 0, 5, 1, 0, 0, 0, 0, 0, 0, 0, 0]⟩], .tuple #[.slice none 0 0, .slice none 0 0], [])
theorem k213 : Knows Tryz.prog 171 m213 := Knows.alike (fuel := 3000) progOk K5T_ok rfl (by kernel_rfl)
noncomputable def m214 : Memo := ([.int .i64 11, .string ⟨#[9, 0, 1, 1, 0, 0, 0, 0, 0, 0, 0, 1]⟩, .string ⟨#[9, 0, 2, 1, 0, 0, 0, 0, 0, 0, 0, 5, 1, 0, 0, 0, 0, 0, 0, 0, 0]⟩], .string ⟨#[9, 0, 3, 1, 0, 0, 0, 0, 0, 0, 0, 11, 9, 0, 1, 1, 0, 0, 0, 0, 0, 0, 0, 1, 9, 0, 2, 1, 0, 0, 0, 0, 0, 0, 0, 5, 1, 0, 0, 0, 0, 0, 0, 0, 0]⟩, [])
theorem k214 : Knows Tryz.prog 172 m214 := Knows.alike (fuel := 3000) progOk K5T_ok rfl (by kernel_rfl)
noncomputable def m215 : Memo := ([.string ⟨#[9, 0, 3, 1, 0, 0, 0, 0, 0, 0, 0, 11, 9, 0, 1, 1, 0, 0, 0, 0, 0, 0, 0, 1, 9, 0, 2, 1, 0, 0, 0, 0, 0, 0, 0, 5, 1, 0, 0, 0, 0, 0, 0, 0, 0]⟩], .slice (some ⟨0, 0, none⟩) 2 2, [⟨2, 25, 1, [.string ⟨#[9, 0, 1, 1, 0, 0, 0, 0, 0, 0, 0, 1]⟩, .string ⟨#[9, 0, 2, 1, 0, 0, 0, 0, 0, 0, 0, 5, 1, 0, 0, 0, 0, 0, 0, 0, 0]⟩], []⟩])
theorem k215 : Knows Tryz.prog 50 m215 := Knows.alike (fuel := 3000) progOk K5T_ok rfl (by kernel_rfl)
noncomputable def m216 : Memo := ([.string ⟨#[9, 0, 3, 1, 0, 0, 0, 0, 0, 0, 0, 11, 9, 0, 1, 1, 0, 0, 0, 0, 0, 0, 0, 1, 9, 0, 2, 1, 0, 0, 0, 0, 0, 0, 0, 5, 1, 0, 0, 0, 0, 0, 0, 0, 0]⟩], .tuple #[.slice none 0 0, .slice none 0 0], [])
theorem k216 : Knows Tryz.prog 171 m216 := Knows.alike (fuel := 3000) progOk K5T_ok rfl (by kernel_rfl)
noncomputable def m217 : Memo := ([.int .i64 8, .string ⟨#[9, 0, 2, 1, 0, 0, 0, 0, 0, 0, 0, 5, 1, 0, 0, 0, 0, 0, 0, 0, 0]⟩, .string ⟨#[9, 0, 2, 1, 0, 0, 0, 0, 0, 0, 0, 5, 1, 0, 0, 0, 0, 0, 0, 0, 0]⟩], .string ⟨#[9, 0, 3, 1, 0, 0, 0, 0, 0, 0, 0, 8, 9, 0, 2, 1, 0, 0, 0, 0, 0, 0, 0, 5, 1, 0, 0, 0, 0, 0, 0, 0, 0, 9, 0, 2, 1, 0, 0, 0, 0, 0, 0, 0, 5, 1, 0, 0, 0, 0, 0, 0, 0, 0]⟩, [])
theorem k217 : Knows Tryz.prog 172 m217 := Knows.alike (fuel := 3000) progOk K5T_ok rfl (by kernel_rfl)
noncomputable def m218 : Memo := ([.string ⟨#[9, 0, 3, 1, 0, 0, 0, 0, 0, 0, 0, 8, 9, 0, 2, 1, 0, 0, 0, 0, 0, 0, 0, 5, 1, 0, 0, 0, 0, 0, 0, 0, 0, 9, 0, 2, 1, 0, 0, 0, 0, 0, 0, 0, 5, 1, 0, 0, 0, 0, 0, 0, 0, 0]⟩], .slice (some ⟨0, 0, none⟩) 2 2, [⟨2, 25, 1, [.string ⟨#[9, 0, 2, 1, 0, 0, 0, 0, 0, 0, 0, 5, 1, 0, 0, 0, 0, 0, 0, 0, 0]⟩, .string ⟨#[9, 0, 2, 1, 0, 0, 0, 0, 0, 0, 0, 5, 1, 0, 0, 0, 0, 0, 0, 0, 0]⟩], []⟩])
theorem k218 : Knows Tryz.prog 50 m218 := Knows.alike (fuel := 3000) progOk K5T_ok rfl (by kernel_rfl)
noncomputable def m219 : Memo := ([.string ⟨#[9, 0, 3, 1, 0, 0, 0, 0, 0, 0, 0, 6, 1, 0, 0, 0, 0, 0, 0, 0, 4, 9, 0, 2, 1, 0, 0, 0, 0, 0, 0, 0, 5, 1, 0, 0, 0, 0, 0, 0, 0, 0]⟩], .slice (some ⟨0, 0, none⟩) 1 1, [⟨2, 70, 2, [.int .i64 4, .string ⟨#[9, 0, 2, 1, 0, 0, 0, 0, 0, 0, 0, 5, 1, 0, 0, 0, 0, 0, 0, 0, 0]⟩], []⟩])
theorem k219 : Knows Tryz.prog 121 m219 := Knows.alike (fuel := 3000) progOk K5T_ok rfl (by kernel_rfl)
noncomputable def ms20_6 : List Memo := [m172]
theorem ks20_6 : KnowsAll Tryz.prog 20 ms20_6 := ⟨k172, trivial⟩
noncomputable def ms33_6 : List Memo := [m162]
theorem ks33_6 : KnowsAll Tryz.prog 33 ms33_6 := ⟨k162, trivial⟩
noncomputable def ms43_6 : List Memo := [m182, m183, m184, m186, m187, m188, m189, m190, m191, m192, m193, m194, m195, m201]
theorem ks43_6 : KnowsAll Tryz.prog 43 ms43_6 := ⟨k182, k183, k184, k186, k187, k188, k189, k190, k191, k192, k193, k194, k195, k201, trivial⟩
noncomputable def ms44_6 : List Memo := [m134, m135, m144, m145, m163, m165, m166, m170, m171, m174, m175, m176, m177, m178, m179, m180, m181, m185]
theorem ks44_6 : KnowsAll Tryz.prog 44 ms44_6 := ⟨k134, k135, k144, k145, k163, k165, k166, k170, k171, k174, k175, k176, k177, k178, k179, k180, k181, k185, trivial⟩
noncomputable def ms45_6 : List Memo := [m173]
theorem ks45_6 : KnowsAll Tryz.prog 45 ms45_6 := ⟨k173, trivial⟩
noncomputable def ms50_6 : List Memo := [m196, m204, m206, m208, m210, m212, m215, m218]
theorem ks50_6 : KnowsAll Tryz.prog 50 ms50_6 := ⟨k196, k204, k206, k208, k210, k212, k215, k218, trivial⟩
noncomputable def ms54_6 : List Memo := [m100, m118, m132, m139, m168]
theorem ks54_6 : KnowsAll Tryz.prog 54 ms54_6 := ⟨k100, k118, k132, k139, k168, trivial⟩
noncomputable def ms59_6 : List Memo := [m164]
theorem ks59_6 : KnowsAll Tryz.prog 59 ms59_6 := ⟨k164, trivial⟩
noncomputable def ms76_6 : List Memo := [m88]
theorem ks76_6 : KnowsAll Tryz.prog 76 ms76_6 := ⟨k88, trivial⟩
noncomputable def ms84_6 : List Memo := [m82, m98, m104, m105, m119, m120, m133, m136, m137, m142, m143, m146, m148, m150, m152, m154, m156, m158, m160, m169]
theorem ks84_6 : KnowsAll Tryz.prog 84 ms84_6 := ⟨k82, k98, k104, k105, k119, k120, k133, k136, k137, k142, k143, k146, k148, k150, k152, k154, k156, k158, k160, k169, trivial⟩
noncomputable def ms102_6 : List Memo := [m130, m167]
theorem ks102_6 : KnowsAll Tryz.prog 102 ms102_6 := ⟨k130, k167, trivial⟩
noncomputable def ms107_6 : List Memo := [m64]
theorem ks107_6 : KnowsAll Tryz.prog 107 ms107_6 := ⟨k64, trivial⟩
noncomputable def ms109_6 : List Memo := [m59, m63, m75, m78, m85]
theorem ks109_6 : KnowsAll Tryz.prog 109 ms109_6 := ⟨k59, k63, k75, k78, k85, trivial⟩
noncomputable def ms110_6 : List Memo := [m86, m110]
theorem ks110_6 : KnowsAll Tryz.prog 110 ms110_6 := ⟨k86, k110, trivial⟩
noncomputable def ms112_6 : List Memo := [m102, m113]
theorem ks112_6 : KnowsAll Tryz.prog 112 ms112_6 := ⟨k102, k113, trivial⟩
noncomputable def ms121_6 : List Memo := [m202, m219]
theorem ks121_6 : KnowsAll Tryz.prog 121 ms121_6 := ⟨k202, k219, trivial⟩
noncomputable def ms133_6 : List Memo := [m81, m99]
theorem ks133_6 : KnowsAll Tryz.prog 133 ms133_6 := ⟨k81, k99, trivial⟩
noncomputable def ms135_6 : List Memo := [m68, m116]
theorem ks135_6 : KnowsAll Tryz.prog 135 ms135_6 := ⟨k68, k116, trivial⟩
noncomputable def ms140_6 : List Memo := [m14, m17, m19, m31, m33, m45, m47, m49, m51, m52, m54, m56, m57, m80]
theorem ks140_6 : KnowsAll Tryz.prog 140 ms140_6 := ⟨k14, k17, k19, k31, k33, k45, k47, k49, k51, k52, k54, k56, k57, k80, trivial⟩
noncomputable def ms141_6 : List Memo := [m11, m13, m16, m27, m29, m37, m38, m43, m44, m46, m53, m55]
theorem ks141_6 : KnowsAll Tryz.prog 141 ms141_6 := ⟨k11, k13, k16, k27, k29, k37, k38, k43, k44, k46, k53, k55, trivial⟩
noncomputable def ms147_6 : List Memo := [m12, m15, m18, m48, m50]
theorem ks147_6 : KnowsAll Tryz.prog 147 ms147_6 := ⟨k12, k15, k18, k48, k50, trivial⟩
noncomputable def ms155_6 : List Memo := [m0, m8, m20, m23, m34, m36]
theorem ks155_6 : KnowsAll Tryz.prog 155 ms155_6 := ⟨k0, k8, k20, k23, k34, k36, trivial⟩
noncomputable def ms156_6 : List Memo := [m1, m2, m3, m4, m5, m6, m7, m9, m10, m21, m22, m24, m25, m26, m35, m58, m60, m61, m62, m74, m76, m77, m84, m101, m109, m111, m112, m140]
theorem ks156_6 : KnowsAll Tryz.prog 156 ms156_6 := ⟨k1, k2, k3, k4, k5, k6, k7, k9, k10, k21, k22, k24, k25, k26, k35, k58, k60, k61, k62, k74, k76, k77, k84, k101, k109, k111, k112, k140, trivial⟩
noncomputable def ms159_6 : List Memo := [m73, m108, m138]
theorem ks159_6 : KnowsAll Tryz.prog 159 ms159_6 := ⟨k73, k108, k138, trivial⟩
noncomputable def ms171_6 : List Memo := [m197, m213, m216]
theorem ks171_6 : KnowsAll Tryz.prog 171 ms171_6 := ⟨k197, k213, k216, trivial⟩
noncomputable def ms172_6 : List Memo := [m203, m205, m211, m214, m217]
theorem ks172_6 : KnowsAll Tryz.prog 172 ms172_6 := ⟨k203, k205, k211, k214, k217, trivial⟩
noncomputable def ms174_6 : List Memo := [m199, m200, m207]
theorem ks174_6 : KnowsAll Tryz.prog 174 ms174_6 := ⟨k199, k200, k207, trivial⟩
noncomputable def ms175_6 : List Memo := [m209]
theorem ks175_6 : KnowsAll Tryz.prog 175 ms175_6 := ⟨k209, trivial⟩
noncomputable def ms177_6 : List Memo := [m198]
theorem ks177_6 : KnowsAll Tryz.prog 177 ms177_6 := ⟨k198, trivial⟩
noncomputable def ms207_6 : List Memo := [m30]
theorem ks207_6 : KnowsAll Tryz.prog 207 ms207_6 := ⟨k30, trivial⟩
noncomputable def ms220_6 : List Memo := [m28, m32, m39, m40, m41, m42, m65, m66, m67, m69, m70, m71, m72, m79, m83, m87, m89, m90, m91, m92, m93, m94, m95, m96, m103, m106, m107, m114, m115, m117, m123, m124, m125, m126, m127, m128, m129, m131, m141]
theorem ks220_6 : KnowsAll Tryz.prog 220 ms220_6 := ⟨k28, k32, k39, k40, k41, k42, k65, k66, k67, k69, k70, k71, k72, k79, k83, k87, k89, k90, k91, k92, k93, k94, k95, k96, k103, k106, k107, k114, k115, k117, k123, k124, k125, k126, k127, k128, k129, k131, k141, trivial⟩
noncomputable def ms313_6 : List Memo := [m97, m121, m122, m147, m149, m151, m153, m155, m157, m159, m161]
theorem ks313_6 : KnowsAll Tryz.prog 313 ms313_6 := ⟨k97, k121, k122, k147, k149, k151, k153, k155, k157, k159, k161, trivial⟩
noncomputable def K6T : Tbl := ((((((((((((((((((((((((((((((((KA.memo 20 ms20_6).memo 33 ms33_6).memo 43 ms43_6).memo 44 ms44_6).memo 45 ms45_6).memo 50 ms50_6).memo 54 ms54_6).memo 59 ms59_6).memo 76 ms76_6).memo 84 ms84_6).memo 102 ms102_6).memo 107 ms107_6).memo 109 ms109_6).memo 110 ms110_6).memo 112 ms112_6).memo 121 ms121_6).memo 133 ms133_6).memo 135 ms135_6).memo 140 ms140_6).memo 141 ms141_6).memo 147 ms147_6).memo 155 ms155_6).memo 156 ms156_6).memo 159 ms159_6).memo 171 ms171_6).memo 172 ms172_6).memo 174 ms174_6).memo 175 ms175_6).memo 177 ms177_6).memo 207 ms207_6).memo 220 ms220_6).memo 313 ms313_6)
theorem K6T_ok : KOk Tryz.prog K6T := (KOk.memoAll (KOk.memoAll (KOk.memoAll (KOk.memoAll (KOk.memoAll (KOk.memoAll (KOk.memoAll (KOk.memoAll (KOk.memoAll (KOk.memoAll (KOk.memoAll (KOk.memoAll (KOk.memoAll (KOk.memoAll (KOk.memoAll (KOk.memoAll (KOk.memoAll (KOk.memoAll (KOk.memoAll (KOk.memoAll (KOk.memoAll (KOk.memoAll (KOk.memoAll (KOk.memoAll (KOk.memoAll (KOk.memoAll (KOk.memoAll (KOk.memoAll (KOk.memoAll (KOk.memoAll (KOk.memoAll (KOk.memoAll KA_ok ks20_6) ks33_6) ks43_6) ks44_6) ks45_6) ks50_6) ks54_6) ks59_6) ks76_6) ks84_6) ks102_6) ks107_6) ks109_6) ks110_6) ks112_6) ks121_6) ks133_6) ks135_6) ks140_6) ks141_6) ks147_6) ks155_6) ks156_6) ks159_6) ks171_6) ks172_6) ks174_6) ks175_6) ks177_6) ks207_6) ks220_6) ks313_6)
noncomputable def m220 : Memo := ([.string ⟨#[9, 0, 3, 1, 0, 0, 0, 0, 0, 0, 0, 14, 9, 0, 3, 1, 0, 0, 0, 0, 0, 0, 0, 6, 1, 0, 0, 0, 0, 0, 0, 0, 2, 9, 0, 1, 1, 0, 0, 0, 0, 0, 0, 0, 2, 5, 0, 1, 1, 0, 0, 0, 0, 0, 0, 0, 2]⟩], .slice (some ⟨0, 0, none⟩) 1 1, [⟨2, 25, 1, [.string ⟨#[9, 0, 3, 1, 0, 0, 0, 0, 0, 0, 0, 6, 1, 0, 0, 0, 0, 0, 0, 0, 2, 9, 0, 1, 1, 0, 0, 0, 0, 0, 0, 0, 2]⟩], []⟩])
theorem k220 : Knows Tryz.prog 50 m220 := Knows.alike (fuel := 3000) progOk K6T_ok rfl (by kernel_rfl)
noncomputable def m221 : Memo := ([.string ⟨#[9, 0, 3, 1, 0, 0, 0, 0, 0, 0, 0, 6, 1, 0, 0, 0, 0, 0, 0, 0, 2, 9, 0, 1, 1, 0, 0, 0, 0, 0, 0, 0, 2]⟩], .tuple #[.slice (some ⟨0, 0, none⟩) 1 18446744073709551617, .bool true], [⟨2, 166, 3, [.int .i64 2, .string ⟨#[9, 0, 1, 1, 0, 0, 0, 0, 0, 0, 0, 2]⟩, .slice none 0 0], []⟩])
theorem k221 : Knows Tryz.prog 59 m221 := Knows.alike (fuel := 3000) progOk K6T_ok rfl (by kernel_rfl)
noncomputable def m222 : Memo := ([.string ⟨#[9, 0, 3, 1, 0, 0, 0, 0, 0, 0, 0, 14, 9, 0, 3, 1, 0, 0, 0, 0, 0, 0, 0, 6, 1, 0, 0, 0, 0, 0, 0, 0, 2, 9, 0, 1, 1, 0, 0, 0, 0, 0, 0, 0, 2, 5, 0, 1, 1, 0, 0, 0, 0, 0, 0, 0, 2]⟩], .tuple #[.slice (some ⟨0, 0, none⟩) 1 1, .slice none 0 0], [⟨2, 3, 1, [.int .i64 2], []⟩])
theorem k222 : Knows Tryz.prog 171 m222 := Knows.alike (fuel := 3000) progOk K6T_ok rfl (by kernel_rfl)
noncomputable def m223 : Memo := ([.string ⟨#[9, 0, 3, 1, 0, 0, 0, 0, 0, 0, 0, 11, 9, 0, 1, 1, 0, 0, 0, 0, 0, 0, 0, 1, 9, 0, 2, 1, 0, 0, 0, 0, 0, 0, 0, 5, 1, 0, 0, 0, 0, 0, 0, 0, 0]⟩, .slice none 0 0], .slice (some ⟨0, 0, none⟩) 1 18446744073709551617, [⟨2, 166, 3, [.int .i64 0, .string ⟨#[9, 0, 2, 1, 0, 0, 0, 0, 0, 0, 0, 5, 1, 0, 0, 0, 0, 0, 0, 0, 0]⟩, .slice none 0 0], []⟩])
theorem k223 : Knows Tryz.prog 63 m223 := Knows.alike (fuel := 3000) progOk K6T_ok rfl (by kernel_rfl)
noncomputable def m224 : Memo := ([.string ⟨#[9, 0, 3, 1, 0, 0, 0, 0, 0, 0, 0, 8, 9, 0, 2, 1, 0, 0, 0, 0, 0, 0, 0, 5, 1, 0, 0, 0, 0, 0, 0, 0, 0, 9, 0, 2, 1, 0, 0, 0, 0, 0, 0, 0, 5, 1, 0, 0, 0, 0, 0, 0, 0, 0]⟩], .tuple #[.slice (some ⟨0, 0, none⟩) 2 18446744073709551618, .bool true], [⟨2, 166, 3, [.int .i64 0, .string ⟨#[9, 0, 2, 1, 0, 0, 0, 0, 0, 0, 0, 5, 1, 0, 0, 0, 0, 0, 0, 0, 0]⟩, .slice none 0 0, .int .i64 0, .string ⟨#[9, 0, 2, 1, 0, 0, 0, 0, 0, 0, 0, 5, 1, 0, 0, 0, 0, 0, 0, 0, 0]⟩, .slice none 0 0], []⟩])
theorem k224 : Knows Tryz.prog 59 m224 := Knows.alike (fuel := 3000) progOk K6T_ok rfl (by kernel_rfl)
noncomputable def m225 : Memo := ([.string ⟨#[9, 0, 3, 1, 0, 0, 0, 0, 0, 0, 0, 6, 1, 0, 0, 0, 0, 0, 0, 0, 4, 9, 0, 2, 1, 0, 0, 0, 0, 0, 0, 0, 5, 1, 0, 0, 0, 0, 0, 0, 0, 0]⟩], .tuple #[.slice (some ⟨0, 0, none⟩) 1 18446744073709551617, .bool true], [⟨2, 166, 3, [.int .i64 4, .string ⟨#[9, 0, 2, 1, 0, 0, 0, 0, 0, 0, 0, 5, 1, 0, 0, 0, 0, 0, 0, 0, 0]⟩, .slice none 0 0], []⟩])
theorem k225 : Knows Tryz.prog 59 m225 := Knows.alike (fuel := 3000) progOk K6T_ok rfl (by kernel_rfl)
noncomputable def ms20_7 : List Memo := [m172]
theorem ks20_7 : KnowsAll Tryz.prog 20 ms20_7 := ⟨k172, trivial⟩
noncomputable def ms33_7 : List Memo := [m162]
theorem ks33_7 : KnowsAll Tryz.prog 33 ms33_7 := ⟨k162, trivial⟩
noncomputable def ms43_7 : List Memo := [m182, m183, m184, m186, m187, m188, m189, m190, m191, m192, m193, m194, m195, m201]
theorem ks43_7 : KnowsAll Tryz.prog 43 ms43_7 := ⟨k182, k183, k184, k186, k187, k188, k189, k190, k191, k192, k193, k194, k195, k201, trivial⟩
noncomputable def ms44_7 : List Memo := [m134, m135, m144, m145, m163, m165, m166, m170, m171, m174, m175, m176, m177, m178, m179, m180, m181, m185]
theorem ks44_7 : KnowsAll Tryz.prog 44 ms44_7 := ⟨k134, k135, k144, k145, k163, k165, k166, k170, k171, k174, k175, k176, k177, k178, k179, k180, k181, k185, trivial⟩
noncomputable def ms45_7 : List Memo := [m173]
theorem ks45_7 : KnowsAll Tryz.prog 45 ms45_7 := ⟨k173, trivial⟩
noncomputable def ms50_7 : List Memo := [m196, m204, m206, m208, m210, m212, m215, m218, m220]
theorem ks50_7 : KnowsAll Tryz.prog 50 ms50_7 := ⟨k196, k204, k206, k208, k210, k212, k215, k218, k220, trivial⟩
noncomputable def ms54_7 : List Memo := [m100, m118, m132, m139, m168]
theorem ks54_7 : KnowsAll Tryz.prog 54 ms54_7 := ⟨k100, k118, k132, k139, k168, trivial⟩
noncomputable def ms59_7 : List Memo := [m164, m221, m224, m225]
theorem ks59_7 : KnowsAll Tryz.prog 59 ms59_7 := ⟨k164, k221, k224, k225, trivial⟩
noncomputable def ms63_7 : List Memo := [m223]
theorem ks63_7 : KnowsAll Tryz.prog 63 ms63_7 := ⟨k223, trivial⟩
noncomputable def ms76_7 : List Memo := [m88]
theorem ks76_7 : KnowsAll Tryz.prog 76 ms76_7 := ⟨k88, trivial⟩
noncomputable def ms84_7 : List Memo := [m82, m98, m104, m105, m119, m120, m133, m136, m137, m142, m143, m146, m148, m150, m152, m154, m156, m158, m160, m169]
theorem ks84_7 : KnowsAll Tryz.prog 84 ms84_7 := ⟨k82, k98, k104, k105, k119, k120, k133, k136, k137, k142, k143, k146, k148, k150, k152, k154, k156, k158, k160, k169, trivial⟩
noncomputable def ms102_7 : List Memo := [m130, m167]
theorem ks102_7 : KnowsAll Tryz.prog 102 ms102_7 := ⟨k130, k167, trivial⟩
noncomputable def ms107_7 : List Memo := [m64]
theorem ks107_7 : KnowsAll Tryz.prog 107 ms107_7 := ⟨k64, trivial⟩
noncomputable def ms109_7 : List Memo := [m59, m63, m75, m78, m85]
theorem ks109_7 : KnowsAll Tryz.prog 109 ms109_7 := ⟨k59, k63, k75, k78, k85, trivial⟩
noncomputable def ms110_7 : List Memo := [m86, m110]
theorem ks110_7 : KnowsAll Tryz.prog 110 ms110_7 := ⟨k86, k110, trivial⟩
noncomputable def ms112_7 : List Memo := [m102, m113]
theorem ks112_7 : KnowsAll Tryz.prog 112 ms112_7 := ⟨k102, k113, trivial⟩
noncomputable def ms121_7 : List Memo := [m202, m219]
theorem ks121_7 : KnowsAll Tryz.prog 121 ms121_7 := ⟨k202, k219, trivial⟩
noncomputable def ms133_7 : List Memo := [m81, m99]
theorem ks133_7 : KnowsAll Tryz.prog 133 ms133_7 := ⟨k81, k99, trivial⟩
noncomputable def ms135_7 : List Memo := [m68, m116]
theorem ks135_7 : KnowsAll Tryz.prog 135 ms135_7 := ⟨k68, k116, trivial⟩
noncomputable def ms140_7 : List Memo := [m14, m17, m19, m31, m33, m45, m47, m49, m51, m52, m54, m56, m57, m80]
theorem ks140_7 : KnowsAll Tryz.prog 140 ms140_7 := ⟨k14, k17, k19, k31, k33, k45, k47, k49, k51, k52, k54, k56, k57, k80, trivial⟩
noncomputable def ms141_7 : List Memo := [m11, m13, m16, m27, m29, m37, m38, m43, m44, m46, m53, m55]
theorem ks141_7 : KnowsAll Tryz.prog 141 ms141_7 := ⟨k11, k13, k16, k27, k29, k37, k38, k43, k44, k46, k53, k55, trivial⟩
noncomputable def ms147_7 : List Memo := [m12, m15, m18, m48, m50]
theorem ks147_7 : KnowsAll Tryz.prog 147 ms147_7 := ⟨k12, k15, k18, k48, k50, trivial⟩
noncomputable def ms155_7 : List Memo := [m0, m8, m20, m23, m34, m36]
theorem ks155_7 : KnowsAll Tryz.prog 155 ms155_7 := ⟨k0, k8, k20, k23, k34, k36, trivial⟩
noncomputable def ms156_7 : List Memo := [m1, m2, m3, m4, m5, m6, m7, m9, m10, m21, m22, m24, m25, m26, m35, m58, m60, m61, m62, m74, m76, m77, m84, m101, m109, m111, m112, m140]
theorem ks156_7 : KnowsAll Tryz.prog 156 ms156_7 := ⟨k1, k2, k3, k4, k5, k6, k7, k9, k10, k21, k22, k24, k25, k26, k35, k58, k60, k61, k62, k74, k76, k77, k84, k101, k109, k111, k112, k140, trivial⟩
noncomputable def ms159_7 : List Memo := [m73, m108, m138]
theorem ks159_7 : KnowsAll Tryz.prog 159 ms159_7 := ⟨k73, k108, k138, trivial⟩
noncomputable def ms171_7 : List Memo := [m197, m213, m216, m222]
theorem ks171_7 : KnowsAll Tryz.prog 171 ms171_7 := ⟨k197, k213, k216, k222, trivial⟩
noncomputable def ms172_7 : List Memo := [m203, m205, m211, m214, m217]
theorem ks172_7 : KnowsAll Tryz.prog 172 ms172_7 := ⟨k203, k205, k211, k214, k217, trivial⟩
noncomputable def ms174_7 : List Memo := [m199, m200, m207]
theorem ks174_7 : KnowsAll Tryz.prog 174 ms174_7 := ⟨k199, k200, k207, trivial⟩
noncomputable def ms175_7 : List Memo := [m209]
theorem ks175_7 : KnowsAll Tryz.prog 175 ms175_7 := ⟨k209, trivial⟩
noncomputable def ms177_7 : List Memo := [m198]
theorem ks177_7 : KnowsAll Tryz.prog 177 ms177_7 := ⟨k198, trivial⟩
noncomputable def ms207_7 : List Memo := [m30]
theorem ks207_7 : KnowsAll Tryz.prog 207 ms207_7 := ⟨k30, trivial⟩
noncomputable def ms220_7 : List Memo := [m28, m32, m39, m40, m41, m42, m65, m66, m67, m69, m70, m71, m72, m79, m83, m87, m89, m90, m91, m92, m93, m94, m95, m96, m103, m106, m107, m114, m115, m117, m123, m124, m125, m126, m127, m128, m129, m131, m141]
theorem ks220_7 : KnowsAll Tryz.prog 220 ms220_7 := ⟨k28, k32, k39, k40, k41, k42, k65, k66, k67, k69, k70, k71, k72, k79, k83, k87, k89, k90, k91, k92, k93, k94, k95, k96, k103, k106, k107, k114, k115, k117, k123, k124, k125, k126, k127, k128, k129, k131, k141, trivial⟩
noncomputable def ms313_7 : List Memo := [m97, m121, m122, m147, m149, m151, m153, m155, m157, m159, m161]
theorem ks313_7 : KnowsAll Tryz.prog 313 ms313_7 := ⟨k97, k121, k122, k147, k149, k151, k153, k155, k157, k159, k161, trivial⟩
noncomputable def K7T : Tbl := (((((((((((((((((((((((((((((((((KA.memo 20 ms20_7).memo 33 ms33_7).memo 43 ms43_7).memo 44 ms44_7).memo 45 ms45_7).memo 50 ms50_7).memo 54 ms54_7).memo 59 ms59_7).memo 63 ms63_7).memo 76 ms76_7).memo 84 ms84_7).memo 102 ms102_7).memo 107 ms107_7).memo 109 ms109_7).memo 110 ms110_7).memo 112 ms112_7).memo 121 ms121_7).memo 133 ms133_7).memo 135 ms135_7).memo 140 ms140_7).memo 141 ms141_7).memo 147 ms147_7).memo 155 ms155_7).memo 156 ms156_7).memo 159 ms159_7).memo 171 ms171_7).memo 172 ms172_7).memo 174 ms174_7).memo 175 ms175_7).memo 177 ms177_7).memo 207 ms207_7).memo 220 ms220_7).memo 313 ms313_7)
theorem K7T_ok : KOk Tryz.prog K7T := (KOk.memoAll (KOk.memoAll (KOk.memoAll (KOk.memoAll (KOk.memoAll (KOk.memoAll (KOk.memoAll (KOk.memoAll (KOk.memoAll (KOk.memoAll (KOk.memoAll (KOk.memoAll (KOk.memoAll (KOk.memoAll (KOk.memoAll (KOk.memoAll (KOk.memoAll (KOk.memoAll (KOk.memoAll (KOk.memoAll (KOk.memoAll (KOk.memoAll (KOk.memoAll (KOk.memoAll (KOk.memoAll (KOk.memoAll (KOk.memoAll (KOk.memoAll (KOk.memoAll (KOk.memoAll (KOk.memoAll (KOk.memoAll (KOk.memoAll KA_ok ks20_7) ks33_7) ks43_7) ks44_7) ks45_7) ks50_7) ks54_7) ks59_7) ks63_7) ks76_7) ks84_7) ks102_7) ks107_7) ks109_7) ks110_7) ks112_7) ks121_7) ks133_7) ks135_7) ks140_7) ks141_7) ks147_7) ks155_7) ks156_7) ks159_7) ks171_7) ks172_7) ks174_7) ks175_7) ks177_7) ks207_7) ks220_7) ks313_7)
noncomputable abbrev KT : Tbl := K7T
theorem KT_ok : KOk Tryz.prog KT := K7T_ok
end Go.Proofs.YtacpdefmnijhnaaGreat.U19
