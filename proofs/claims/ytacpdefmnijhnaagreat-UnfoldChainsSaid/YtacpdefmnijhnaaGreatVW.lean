/- Closed calls that are known, each by its own run. -/
import Derived.Test.YtacpdefmnijhnaaGreatVB
import Derived.KernelRfl
set_option linter.unusedVariables false
namespace Go.Proofs.YtacpdefmnijhnaaGreat.U18.Aw
open Abs U
noncomputable def m0 : Memo := ([.string ⟨#[0, 0, 0, 0, 0, 0, 0, 5]⟩], .int .i64 5, [])
theorem k0 : Knows Tryz.prog 155 m0 := Knows.alike (fuel := 3000) progOk KDot_ok rfl (by kernel_rfl)
noncomputable def m1 : Memo := ([.string ⟨#[0, 0, 0, 0, 0, 0, 0, 0]⟩], .int .i64 0, [])
theorem k1 : Knows Tryz.prog 155 m1 := Knows.alike (fuel := 3000) progOk KDot_ok rfl (by kernel_rfl)
noncomputable def m2 : Memo := ([.string ⟨#[0, 0, 0, 0, 0, 0, 0, 1]⟩], .int .i64 1, [])
theorem k2 : Knows Tryz.prog 155 m2 := Knows.alike (fuel := 3000) progOk KDot_ok rfl (by kernel_rfl)
noncomputable def m3 : Memo := ([.string ⟨#[10, 0, 0]⟩, .int .i64 32, .bool true], .tuple #[.int .i64 3, .slice none 0 0, .int .i64 1], [])
theorem k3 : Knows Tryz.prog 156 m3 := Knows.alike (fuel := 3000) progOk KDot_ok rfl (by kernel_rfl)
noncomputable def m4 : Memo := ([.string ⟨#[10, 0, 0]⟩, .int .i64 31, .bool true], .tuple #[.int .i64 3, .slice none 0 0, .int .i64 1], [])
theorem k4 : Knows Tryz.prog 156 m4 := Knows.alike (fuel := 3000) progOk KDot_ok rfl (by kernel_rfl)
noncomputable def m5 : Memo := ([.string ⟨#[10, 0, 1]⟩, .int .i64 32, .bool true], .tuple #[.int .i64 3, .slice none 0 0, .int .i64 1], [])
theorem k5 : Knows Tryz.prog 156 m5 := Knows.alike (fuel := 3000) progOk KDot_ok rfl (by kernel_rfl)
noncomputable def m6 : Memo := ([.string ⟨#[10, 0, 1]⟩, .int .i64 31, .bool true], .tuple #[.int .i64 3, .slice none 0 0, .int .i64 1], [])
theorem k6 : Knows Tryz.prog 156 m6 := Knows.alike (fuel := 3000) progOk KDot_ok rfl (by kernel_rfl)
noncomputable def m7 : Memo := ([.string ⟨#[10, 0, 2]⟩, .int .i64 32, .bool true], .tuple #[.int .i64 3, .slice none 0 0, .int .i64 1], [])
theorem k7 : Knows Tryz.prog 156 m7 := Knows.alike (fuel := 3000) progOk KDot_ok rfl (by kernel_rfl)
noncomputable def m8 : Memo := ([.string ⟨#[10, 0, 2]⟩, .int .i64 31, .bool true], .tuple #[.int .i64 3, .slice none 0 0, .int .i64 1], [])
theorem k8 : Knows Tryz.prog 156 m8 := Knows.alike (fuel := 3000) progOk KDot_ok rfl (by kernel_rfl)
noncomputable def m9 : Memo := ([.string ⟨#[10, 0, 3]⟩, .int .i64 32, .bool true], .tuple #[.int .i64 3, .slice none 0 0, .int .i64 1], [])
theorem k9 : Knows Tryz.prog 156 m9 := Knows.alike (fuel := 3000) progOk KDot_ok rfl (by kernel_rfl)
noncomputable def m10 : Memo := ([.string ⟨#[10, 0, 3]⟩, .int .i64 31, .bool true], .tuple #[.int .i64 3, .slice none 0 0, .int .i64 1], [])
theorem k10 : Knows Tryz.prog 156 m10 := Knows.alike (fuel := 3000) progOk KDot_ok rfl (by kernel_rfl)
noncomputable def m11 : Memo := ([.string ⟨#[1, 0, 0, 0, 0, 0, 0, 0, 5]⟩], .int .i64 5, [])
theorem k11 : Knows Tryz.prog 141 m11 := Knows.alike (fuel := 3000) progOk KDot_ok rfl (by kernel_rfl)
noncomputable def m12 : Memo := ([.string ⟨#[9, 0, 2, 1, 0, 0, 0, 0, 0, 0, 0, 5, 1, 0, 0, 0, 0, 0, 0, 0, 0]⟩], .slice (some ⟨0, 0, none⟩) 2 2, [⟨2, 25, 1, [.string ⟨#[1, 0, 0, 0, 0, 0, 0, 0, 5]⟩, .string ⟨#[1, 0, 0, 0, 0, 0, 0, 0, 0]⟩], []⟩])
theorem k12 : Knows Tryz.prog 140 m12 := Knows.alike (fuel := 3000) progOk KDot_ok rfl (by kernel_rfl)
noncomputable def m13 : Memo := ([.string ⟨#[1, 0, 0, 0, 0, 0, 0, 0, 0]⟩], .int .i64 0, [])
theorem k13 : Knows Tryz.prog 141 m13 := Knows.alike (fuel := 3000) progOk KDot_ok rfl (by kernel_rfl)
noncomputable def m14 : Memo := ([.string ⟨#[9, 0, 2, 1, 0, 0, 0, 0, 0, 0, 0, 5, 1, 0, 0, 0, 0, 0, 0, 0, 1]⟩], .slice (some ⟨0, 0, none⟩) 2 2, [⟨2, 25, 1, [.string ⟨#[1, 0, 0, 0, 0, 0, 0, 0, 5]⟩, .string ⟨#[1, 0, 0, 0, 0, 0, 0, 0, 1]⟩], []⟩])
theorem k14 : Knows Tryz.prog 140 m14 := Knows.alike (fuel := 3000) progOk KDot_ok rfl (by kernel_rfl)
noncomputable def m15 : Memo := ([.string ⟨#[1, 0, 0, 0, 0, 0, 0, 0, 1]⟩], .int .i64 1, [])
theorem k15 : Knows Tryz.prog 141 m15 := Knows.alike (fuel := 3000) progOk KDot_ok rfl (by kernel_rfl)
noncomputable def m16 : Memo := ([.string ⟨#[7, 0, 1, 10, 0, 1]⟩], .slice (some ⟨0, 0, none⟩) 1 1, [⟨2, 25, 1, [.string ⟨#[10, 0, 1]⟩], []⟩])
theorem k16 : Knows Tryz.prog 140 m16 := Knows.alike (fuel := 3000) progOk KDot_ok rfl (by kernel_rfl)
noncomputable def m17 : Memo := ([.string ⟨#[1, 0, 0, 0, 0, 0, 0, 0, 6]⟩], .int .i64 6, [])
theorem k17 : Knows Tryz.prog 141 m17 := Knows.alike (fuel := 3000) progOk KDot_ok rfl (by kernel_rfl)
noncomputable def m18 : Memo := ([.string ⟨#[9, 0, 2, 1, 0, 0, 0, 0, 0, 0, 0, 5, 1, 0, 0, 0, 0, 0, 0, 0, 0]⟩], .int .i64 21, [])
theorem k18 : Knows Tryz.prog 207 m18 := Knows.alike (fuel := 3000) progOk KDot_ok rfl (by kernel_rfl)
noncomputable def m19 : Memo := ([.string ⟨#[1, 0, 0, 0, 0, 0, 0, 0, 3]⟩], .int .i64 3, [])
theorem k19 : Knows Tryz.prog 141 m19 := Knows.alike (fuel := 3000) progOk KDot_ok rfl (by kernel_rfl)
noncomputable def m20 : Memo := ([.string ⟨#[0, 0, 0, 0, 0, 0, 0, 6]⟩], .int .i64 6, [])
theorem k20 : Knows Tryz.prog 155 m20 := Knows.alike (fuel := 3000) progOk KDot_ok rfl (by kernel_rfl)
noncomputable def m21 : Memo := ([.string ⟨#[0, 0, 0, 0, 0, 0, 0, 3]⟩], .int .i64 3, [])
theorem k21 : Knows Tryz.prog 155 m21 := Knows.alike (fuel := 3000) progOk KDot_ok rfl (by kernel_rfl)
noncomputable def ms140_0 : List Memo := [m12, m14, m16]
theorem ks140_0 : KnowsAll Tryz.prog 140 ms140_0 := ⟨k12, k14, k16, trivial⟩
noncomputable def ms141_0 : List Memo := [m11, m13, m15, m17, m19]
theorem ks141_0 : KnowsAll Tryz.prog 141 ms141_0 := ⟨k11, k13, k15, k17, k19, trivial⟩
noncomputable def ms155_0 : List Memo := [m0, m1, m2, m20, m21]
theorem ks155_0 : KnowsAll Tryz.prog 155 ms155_0 := ⟨k0, k1, k2, k20, k21, trivial⟩
noncomputable def ms156_0 : List Memo := [m3, m4, m5, m6, m7, m8, m9, m10]
theorem ks156_0 : KnowsAll Tryz.prog 156 ms156_0 := ⟨k3, k4, k5, k6, k7, k8, k9, k10, trivial⟩
noncomputable def ms207_0 : List Memo := [m18]
theorem ks207_0 : KnowsAll Tryz.prog 207 ms207_0 := ⟨k18, trivial⟩
noncomputable def K0T : Tbl := (((((KDot.memo 140 ms140_0).memo 141 ms141_0).memo 155 ms155_0).memo 156 ms156_0).memo 207 ms207_0)
theorem K0T_ok : KOk Tryz.prog K0T := (KOk.memoAll (KOk.memoAll (KOk.memoAll (KOk.memoAll (KOk.memoAll KDot_ok ks140_0) ks141_0) ks155_0) ks156_0) ks207_0)
noncomputable def m22 : Memo := ([.string ⟨#[1, 0, 0, 0, 0, 0, 0, 0, 5]⟩], .bool true, [])
theorem k22 : Knows Tryz.prog 53 m22 := Knows.alike (fuel := 3000) progOk K0T_ok rfl (by kernel_rfl)
noncomputable def m23 : Memo := ([.string ⟨#[1, 0, 0, 0, 0, 0, 0, 0, 0]⟩], .bool true, [])
theorem k23 : Knows Tryz.prog 53 m23 := Knows.alike (fuel := 3000) progOk K0T_ok rfl (by kernel_rfl)
noncomputable def m24 : Memo := ([.string ⟨#[9, 0, 2, 1, 0, 0, 0, 0, 0, 0, 0, 5, 1, 0, 0, 0, 0, 0, 0, 0, 0]⟩, .int .i64 32, .bool false], .tuple #[.int .i64 21, .slice (some ⟨0, 0, none⟩) 2 18446744073709551618, .int .i64 2], [⟨2, 25, 1, [.string ⟨#[1, 0, 0, 0, 0, 0, 0, 0, 5]⟩, .string ⟨#[1, 0, 0, 0, 0, 0, 0, 0, 0]⟩], []⟩])
theorem k24 : Knows Tryz.prog 156 m24 := Knows.alike (fuel := 3000) progOk K0T_ok rfl (by kernel_rfl)
noncomputable def m25 : Memo := ([.string ⟨#[1, 0, 0, 0, 0, 0, 0, 0, 1]⟩], .bool true, [])
theorem k25 : Knows Tryz.prog 53 m25 := Knows.alike (fuel := 3000) progOk K0T_ok rfl (by kernel_rfl)
noncomputable def m26 : Memo := ([.string ⟨#[9, 0, 2, 1, 0, 0, 0, 0, 0, 0, 0, 5, 1, 0, 0, 0, 0, 0, 0, 0, 1]⟩, .int .i64 32, .bool false], .tuple #[.int .i64 21, .slice (some ⟨0, 0, none⟩) 2 18446744073709551618, .int .i64 2], [⟨2, 25, 1, [.string ⟨#[1, 0, 0, 0, 0, 0, 0, 0, 5]⟩, .string ⟨#[1, 0, 0, 0, 0, 0, 0, 0, 1]⟩], []⟩])
theorem k26 : Knows Tryz.prog 156 m26 := Knows.alike (fuel := 3000) progOk K0T_ok rfl (by kernel_rfl)
noncomputable def m27 : Memo := ([.string ⟨#[10, 0, 0]⟩], .bool true, [])
theorem k27 : Knows Tryz.prog 53 m27 := Knows.alike (fuel := 3000) progOk K0T_ok rfl (by kernel_rfl)
noncomputable def m28 : Memo := ([.string ⟨#[7, 0, 1, 10, 0, 0]⟩, .int .i64 32, .bool true], .tuple #[.int .i64 6, .slice (some ⟨0, 0, none⟩) 1 18446744073709551617, .int .i64 2], [⟨2, 25, 1, [.string ⟨#[10, 0, 0]⟩], []⟩])
theorem k28 : Knows Tryz.prog 156 m28 := Knows.alike (fuel := 3000) progOk K0T_ok rfl (by kernel_rfl)
noncomputable def m29 : Memo := ([.string ⟨#[10, 0, 1]⟩], .bool true, [])
theorem k29 : Knows Tryz.prog 53 m29 := Knows.alike (fuel := 3000) progOk K0T_ok rfl (by kernel_rfl)
noncomputable def m30 : Memo := ([.string ⟨#[7, 0, 1, 10, 0, 1]⟩, .int .i64 32, .bool true], .tuple #[.int .i64 6, .slice (some ⟨0, 0, none⟩) 1 18446744073709551617, .int .i64 2], [⟨2, 25, 1, [.string ⟨#[10, 0, 1]⟩], []⟩])
theorem k30 : Knows Tryz.prog 156 m30 := Knows.alike (fuel := 3000) progOk K0T_ok rfl (by kernel_rfl)
noncomputable def m31 : Memo := ([.string ⟨#[10, 0, 2]⟩], .bool true, [])
theorem k31 : Knows Tryz.prog 53 m31 := Knows.alike (fuel := 3000) progOk K0T_ok rfl (by kernel_rfl)
noncomputable def m32 : Memo := ([.string ⟨#[7, 0, 1, 10, 0, 2]⟩, .int .i64 32, .bool true], .tuple #[.int .i64 6, .slice (some ⟨0, 0, none⟩) 1 18446744073709551617, .int .i64 2], [⟨2, 25, 1, [.string ⟨#[10, 0, 2]⟩], []⟩])
theorem k32 : Knows Tryz.prog 156 m32 := Knows.alike (fuel := 3000) progOk K0T_ok rfl (by kernel_rfl)
noncomputable def m33 : Memo := ([.string ⟨#[10, 0, 3]⟩], .bool true, [])
theorem k33 : Knows Tryz.prog 53 m33 := Knows.alike (fuel := 3000) progOk K0T_ok rfl (by kernel_rfl)
noncomputable def m34 : Memo := ([.string ⟨#[7, 0, 1, 10, 0, 3]⟩, .int .i64 32, .bool true], .tuple #[.int .i64 6, .slice (some ⟨0, 0, none⟩) 1 18446744073709551617, .int .i64 2], [⟨2, 25, 1, [.string ⟨#[10, 0, 3]⟩], []⟩])
theorem k34 : Knows Tryz.prog 156 m34 := Knows.alike (fuel := 3000) progOk K0T_ok rfl (by kernel_rfl)
noncomputable def m35 : Memo := ([.string ⟨#[7, 0, 1, 10, 0, 0]⟩, .int .i64 1], .int .i64 6, [])
theorem k35 : Knows Tryz.prog 220 m35 := Knows.alike (fuel := 3000) progOk K0T_ok rfl (by kernel_rfl)
noncomputable def m36 : Memo := ([.string ⟨#[7, 0, 1, 10, 0, 1]⟩, .int .i64 1], .int .i64 6, [])
theorem k36 : Knows Tryz.prog 220 m36 := Knows.alike (fuel := 3000) progOk K0T_ok rfl (by kernel_rfl)
noncomputable def m37 : Memo := ([.string ⟨#[7, 0, 1, 10, 0, 2]⟩, .int .i64 1], .int .i64 6, [])
theorem k37 : Knows Tryz.prog 220 m37 := Knows.alike (fuel := 3000) progOk K0T_ok rfl (by kernel_rfl)
noncomputable def m38 : Memo := ([.string ⟨#[7, 0, 1, 10, 0, 3]⟩, .int .i64 1], .int .i64 6, [])
theorem k38 : Knows Tryz.prog 220 m38 := Knows.alike (fuel := 3000) progOk K0T_ok rfl (by kernel_rfl)
noncomputable def m39 : Memo := ([.string ⟨#[9, 0, 3, 1, 0, 0, 0, 0, 0, 0, 0, 6, 1, 0, 0, 0, 0, 0, 0, 0, 3, 9, 0, 2, 1, 0, 0, 0, 0, 0, 0, 0, 5, 1, 0, 0, 0, 0, 0, 0, 0, 0]⟩], .slice (some ⟨0, 0, none⟩) 3 3, [⟨2, 25, 1, [.string ⟨#[1, 0, 0, 0, 0, 0, 0, 0, 6]⟩, .string ⟨#[1, 0, 0, 0, 0, 0, 0, 0, 3]⟩, .string ⟨#[9, 0, 2, 1, 0, 0, 0, 0, 0, 0, 0, 5, 1, 0, 0, 0, 0, 0, 0, 0, 0]⟩], []⟩])
theorem k39 : Knows Tryz.prog 140 m39 := Knows.alike (fuel := 3000) progOk K0T_ok rfl (by kernel_rfl)
noncomputable def m40 : Memo := ([.string ⟨#[1, 0, 0, 0, 0, 0, 0, 0, 6]⟩], .bool true, [])
theorem k40 : Knows Tryz.prog 53 m40 := Knows.alike (fuel := 3000) progOk K0T_ok rfl (by kernel_rfl)
noncomputable def m41 : Memo := ([.string ⟨#[1, 0, 0, 0, 0, 0, 0, 0, 3]⟩], .bool true, [])
theorem k41 : Knows Tryz.prog 53 m41 := Knows.alike (fuel := 3000) progOk K0T_ok rfl (by kernel_rfl)
noncomputable def m42 : Memo := ([.string ⟨#[9, 0, 2, 1, 0, 0, 0, 0, 0, 0, 0, 5, 1, 0, 0, 0, 0, 0, 0, 0, 0]⟩, .int .i64 31, .bool false], .tuple #[.int .i64 21, .slice (some ⟨0, 0, none⟩) 2 18446744073709551618, .int .i64 2], [⟨2, 25, 1, [.string ⟨#[1, 0, 0, 0, 0, 0, 0, 0, 5]⟩, .string ⟨#[1, 0, 0, 0, 0, 0, 0, 0, 0]⟩], []⟩])
theorem k42 : Knows Tryz.prog 156 m42 := Knows.alike (fuel := 3000) progOk K0T_ok rfl (by kernel_rfl)
noncomputable def ms53_1 : List Memo := [m22, m23, m25, m27, m29, m31, m33, m40, m41]
theorem ks53_1 : KnowsAll Tryz.prog 53 ms53_1 := ⟨k22, k23, k25, k27, k29, k31, k33, k40, k41, trivial⟩
noncomputable def ms140_1 : List Memo := [m12, m14, m16, m39]
theorem ks140_1 : KnowsAll Tryz.prog 140 ms140_1 := ⟨k12, k14, k16, k39, trivial⟩
noncomputable def ms141_1 : List Memo := [m11, m13, m15, m17, m19]
theorem ks141_1 : KnowsAll Tryz.prog 141 ms141_1 := ⟨k11, k13, k15, k17, k19, trivial⟩
noncomputable def ms155_1 : List Memo := [m0, m1, m2, m20, m21]
theorem ks155_1 : KnowsAll Tryz.prog 155 ms155_1 := ⟨k0, k1, k2, k20, k21, trivial⟩
noncomputable def ms156_1 : List Memo := [m3, m4, m5, m6, m7, m8, m9, m10, m24, m26, m28, m30, m32, m34, m42]
theorem ks156_1 : KnowsAll Tryz.prog 156 ms156_1 := ⟨k3, k4, k5, k6, k7, k8, k9, k10, k24, k26, k28, k30, k32, k34, k42, trivial⟩
noncomputable def ms207_1 : List Memo := [m18]
theorem ks207_1 : KnowsAll Tryz.prog 207 ms207_1 := ⟨k18, trivial⟩
noncomputable def ms220_1 : List Memo := [m35, m36, m37, m38]
theorem ks220_1 : KnowsAll Tryz.prog 220 ms220_1 := ⟨k35, k36, k37, k38, trivial⟩
noncomputable def K1T : Tbl := (((((((KDot.memo 53 ms53_1).memo 140 ms140_1).memo 141 ms141_1).memo 155 ms155_1).memo 156 ms156_1).memo 207 ms207_1).memo 220 ms220_1)
theorem K1T_ok : KOk Tryz.prog K1T := (KOk.memoAll (KOk.memoAll (KOk.memoAll (KOk.memoAll (KOk.memoAll (KOk.memoAll (KOk.memoAll KDot_ok ks53_1) ks140_1) ks141_1) ks155_1) ks156_1) ks207_1) ks220_1)
noncomputable def m43 : Memo := ([.string ⟨#[9, 0, 2, 1, 0, 0, 0, 0, 0, 0, 0, 5, 1, 0, 0, 0, 0, 0, 0, 0, 0]⟩, .int .i64 32, .bool true], .tuple #[.int .i64 21, .slice (some ⟨0, 0, none⟩) 2 18446744073709551618, .int .i64 2], [⟨2, 25, 1, [.string ⟨#[1, 0, 0, 0, 0, 0, 0, 0, 5]⟩, .string ⟨#[1, 0, 0, 0, 0, 0, 0, 0, 0]⟩], []⟩])
theorem k43 : Knows Tryz.prog 156 m43 := Knows.alike (fuel := 3000) progOk K1T_ok rfl (by kernel_rfl)
noncomputable def m44 : Memo := ([.string ⟨#[9, 0, 2, 1, 0, 0, 0, 0, 0, 0, 0, 5, 1, 0, 0, 0, 0, 0, 0, 0, 1]⟩, .int .i64 32, .bool true], .tuple #[.int .i64 21, .slice (some ⟨0, 0, none⟩) 2 18446744073709551618, .int .i64 2], [⟨2, 25, 1, [.string ⟨#[1, 0, 0, 0, 0, 0, 0, 0, 5]⟩, .string ⟨#[1, 0, 0, 0, 0, 0, 0, 0, 1]⟩], []⟩])
theorem k44 : Knows Tryz.prog 156 m44 := Knows.alike (fuel := 3000) progOk K1T_ok rfl (by kernel_rfl)
noncomputable def m45 : Memo := ([.string ⟨#[7, 0, 1, 10, 0, 0]⟩], .bool true, [])
theorem k45 : Knows Tryz.prog 53 m45 := Knows.alike (fuel := 3000) progOk K1T_ok rfl (by kernel_rfl)
noncomputable def m46 : Memo := ([.string ⟨#[7, 0, 1, 10, 0, 1]⟩], .bool true, [])
theorem k46 : Knows Tryz.prog 53 m46 := Knows.alike (fuel := 3000) progOk K1T_ok rfl (by kernel_rfl)
noncomputable def m47 : Memo := ([.string ⟨#[7, 0, 1, 10, 0, 2]⟩], .bool true, [])
theorem k47 : Knows Tryz.prog 53 m47 := Knows.alike (fuel := 3000) progOk K1T_ok rfl (by kernel_rfl)
noncomputable def m48 : Memo := ([.string ⟨#[7, 0, 1, 10, 0, 3]⟩], .bool true, [])
theorem k48 : Knows Tryz.prog 53 m48 := Knows.alike (fuel := 3000) progOk K1T_ok rfl (by kernel_rfl)
noncomputable def m49 : Memo := ([.string ⟨#[9, 0, 2, 1, 0, 0, 0, 0, 0, 0, 0, 5, 1, 0, 0, 0, 0, 0, 0, 0, 0]⟩, .int .i64 1], .int .i64 21, [])
theorem k49 : Knows Tryz.prog 220 m49 := Knows.alike (fuel := 3000) progOk K1T_ok rfl (by kernel_rfl)
noncomputable def m50 : Memo := ([.string ⟨#[1, 0, 0, 0, 0, 0, 0, 0, 0]⟩, .int .i64 65535], .bool true, [])
theorem k50 : Knows Tryz.prog 76 m50 := Knows.alike (fuel := 3000) progOk K1T_ok rfl (by kernel_rfl)
noncomputable def m51 : Memo := ([.string ⟨#[7, 0, 1, 10, 0, 0]⟩, .int .i64 1], .int .i64 6, [])
theorem k51 : Knows Tryz.prog 147 m51 := Knows.alike (fuel := 3000) progOk K1T_ok rfl (by kernel_rfl)
noncomputable def m52 : Memo := ([.string ⟨#[7, 0, 1, 10, 0, 1]⟩, .int .i64 1], .int .i64 6, [])
theorem k52 : Knows Tryz.prog 147 m52 := Knows.alike (fuel := 3000) progOk K1T_ok rfl (by kernel_rfl)
noncomputable def m53 : Memo := ([.string ⟨#[7, 0, 1, 10, 0, 2]⟩, .int .i64 1], .int .i64 6, [])
theorem k53 : Knows Tryz.prog 147 m53 := Knows.alike (fuel := 3000) progOk K1T_ok rfl (by kernel_rfl)
noncomputable def m54 : Memo := ([.string ⟨#[7, 0, 1, 10, 0, 3]⟩, .int .i64 1], .int .i64 6, [])
theorem k54 : Knows Tryz.prog 147 m54 := Knows.alike (fuel := 3000) progOk K1T_ok rfl (by kernel_rfl)
noncomputable def m55 : Memo := ([.string ⟨#[9, 0, 2, 1, 0, 0, 0, 0, 0, 0, 0, 5, 1, 0, 0, 0, 0, 0, 0, 0, 1]⟩, .int .i64 1], .int .i64 21, [])
theorem k55 : Knows Tryz.prog 220 m55 := Knows.alike (fuel := 3000) progOk K1T_ok rfl (by kernel_rfl)
noncomputable def m56 : Memo := ([.string ⟨#[1, 0, 0, 0, 0, 0, 0, 0, 1]⟩, .int .i64 65535], .bool true, [])
theorem k56 : Knows Tryz.prog 76 m56 := Knows.alike (fuel := 3000) progOk K1T_ok rfl (by kernel_rfl)
noncomputable def m57 : Memo := ([.string ⟨#[9, 0, 2, 1, 0, 0, 0, 0, 0, 0, 0, 5, 1, 0, 0, 0, 0, 0, 0, 0, 0]⟩, .int .i64 2], .int .i64 21, [])
theorem k57 : Knows Tryz.prog 220 m57 := Knows.alike (fuel := 3000) progOk K1T_ok rfl (by kernel_rfl)
noncomputable def m58 : Memo := ([.string ⟨#[1, 0, 0, 0, 0, 0, 0, 0, 3]⟩], .tuple #[.int .i64 3, .bool true], [])
theorem k58 : Knows Tryz.prog 133 m58 := Knows.alike (fuel := 3000) progOk K1T_ok rfl (by kernel_rfl)
noncomputable def m59 : Memo := ([.string ⟨#[9, 0, 2, 1, 0, 0, 0, 0, 0, 0, 0, 5, 1, 0, 0, 0, 0, 0, 0, 0, 0]⟩, .int .i64 31, .bool true], .tuple #[.int .i64 21, .slice (some ⟨0, 0, none⟩) 2 18446744073709551618, .int .i64 2], [⟨2, 25, 1, [.string ⟨#[1, 0, 0, 0, 0, 0, 0, 0, 5]⟩, .string ⟨#[1, 0, 0, 0, 0, 0, 0, 0, 0]⟩], []⟩])
theorem k59 : Knows Tryz.prog 156 m59 := Knows.alike (fuel := 3000) progOk K1T_ok rfl (by kernel_rfl)
noncomputable def m60 : Memo := ([.string ⟨#[9, 0, 3, 1, 0, 0, 0, 0, 0, 0, 0, 6, 1, 0, 0, 0, 0, 0, 0, 0, 3, 9, 0, 2, 1, 0, 0, 0, 0, 0, 0, 0, 5, 1, 0, 0, 0, 0, 0, 0, 0, 0]⟩, .int .i64 32, .bool false], .tuple #[.int .i64 42, .slice (some ⟨0, 0, none⟩) 3 18446744073709551619, .int .i64 3], [⟨2, 25, 1, [.string ⟨#[1, 0, 0, 0, 0, 0, 0, 0, 6]⟩, .string ⟨#[1, 0, 0, 0, 0, 0, 0, 0, 3]⟩, .string ⟨#[9, 0, 2, 1, 0, 0, 0, 0, 0, 0, 0, 5, 1, 0, 0, 0, 0, 0, 0, 0, 0]⟩], []⟩])
theorem k60 : Knows Tryz.prog 156 m60 := Knows.alike (fuel := 3000) progOk K1T_ok rfl (by kernel_rfl)
noncomputable def ms53_2 : List Memo := [m22, m23, m25, m27, m29, m31, m33, m40, m41, m45, m46, m47, m48]
theorem ks53_2 : KnowsAll Tryz.prog 53 ms53_2 := ⟨k22, k23, k25, k27, k29, k31, k33, k40, k41, k45, k46, k47, k48, trivial⟩
noncomputable def ms76_2 : List Memo := [m50, m56]
theorem ks76_2 : KnowsAll Tryz.prog 76 ms76_2 := ⟨k50, k56, trivial⟩
noncomputable def ms133_2 : List Memo := [m58]
theorem ks133_2 : KnowsAll Tryz.prog 133 ms133_2 := ⟨k58, trivial⟩
noncomputable def ms140_2 : List Memo := [m12, m14, m16, m39]
theorem ks140_2 : KnowsAll Tryz.prog 140 ms140_2 := ⟨k12, k14, k16, k39, trivial⟩
noncomputable def ms141_2 : List Memo := [m11, m13, m15, m17, m19]
theorem ks141_2 : KnowsAll Tryz.prog 141 ms141_2 := ⟨k11, k13, k15, k17, k19, trivial⟩
noncomputable def ms147_2 : List Memo := [m51, m52, m53, m54]
theorem ks147_2 : KnowsAll Tryz.prog 147 ms147_2 := ⟨k51, k52, k53, k54, trivial⟩
noncomputable def ms155_2 : List Memo := [m0, m1, m2, m20, m21]
theorem ks155_2 : KnowsAll Tryz.prog 155 ms155_2 := ⟨k0, k1, k2, k20, k21, trivial⟩
noncomputable def ms156_2 : List Memo := [m3, m4, m5, m6, m7, m8, m9, m10, m24, m26, m28, m30, m32, m34, m42, m43, m44, m59, m60]
theorem ks156_2 : KnowsAll Tryz.prog 156 ms156_2 := ⟨k3, k4, k5, k6, k7, k8, k9, k10, k24, k26, k28, k30, k32, k34, k42, k43, k44, k59, k60, trivial⟩
noncomputable def ms207_2 : List Memo := [m18]
theorem ks207_2 : KnowsAll Tryz.prog 207 ms207_2 := ⟨k18, trivial⟩
noncomputable def ms220_2 : List Memo := [m35, m36, m37, m38, m49, m55, m57]
theorem ks220_2 : KnowsAll Tryz.prog 220 ms220_2 := ⟨k35, k36, k37, k38, k49, k55, k57, trivial⟩
noncomputable def K2T : Tbl := ((((((((((KDot.memo 53 ms53_2).memo 76 ms76_2).memo 133 ms133_2).memo 140 ms140_2).memo 141 ms141_2).memo 147 ms147_2).memo 155 ms155_2).memo 156 ms156_2).memo 207 ms207_2).memo 220 ms220_2)
theorem K2T_ok : KOk Tryz.prog K2T := (KOk.memoAll (KOk.memoAll (KOk.memoAll (KOk.memoAll (KOk.memoAll (KOk.memoAll (KOk.memoAll (KOk.memoAll (KOk.memoAll (KOk.memoAll KDot_ok ks53_2) ks76_2) ks133_2) ks140_2) ks141_2) ks147_2) ks155_2) ks156_2) ks207_2) ks220_2)
noncomputable def m61 : Memo := ([.string ⟨#[9, 0, 2, 1, 0, 0, 0, 0, 0, 0, 0, 5, 1, 0, 0, 0, 0, 0, 0, 0, 0]⟩], .bool true, [])
theorem k61 : Knows Tryz.prog 53 m61 := Knows.alike (fuel := 3000) progOk K2T_ok rfl (by kernel_rfl)
noncomputable def m62 : Memo := ([.string ⟨#[9, 0, 2, 1, 0, 0, 0, 0, 0, 0, 0, 5, 1, 0, 0, 0, 0, 0, 0, 0, 1]⟩], .bool true, [])
theorem k62 : Knows Tryz.prog 53 m62 := Knows.alike (fuel := 3000) progOk K2T_ok rfl (by kernel_rfl)
noncomputable def m63 : Memo := ([], .agg #[.slice (some ⟨0, 0, none⟩) 2 18446744073709551618, .slice (some ⟨1, 0, none⟩) 4 18446744073709551620, .slice none 0 0, .slice (some ⟨2, 0, none⟩) 4 18446744073709551620], [⟨2, 47, 6, [.string ⟨#[]⟩, .int .i64 0, .bool true, .int .i64 0, .int .i64 0, .slice (some ⟨3, 0, none⟩) 1 1, .string ⟨#[]⟩, .int .i64 0, .bool true, .int .i64 0, .int .i64 0, .slice (some ⟨4, 0, none⟩) 3 3], []⟩, ⟨2, 80, 4, [.string ⟨#[97]⟩, .int .i64 (-1), .slice none 0 0, .slice none 0 0, .string ⟨#[98]⟩, .int .i64 (-1), .slice none 0 0, .slice none 0 0, .string ⟨#[99]⟩, .int .i64 (-1), .slice none 0 0, .slice none 0 0, .string ⟨#[100]⟩, .int .i64 (-1), .slice none 0 0, .slice none 0 0], []⟩, ⟨2, 25, 1, [.string ⟨#[7, 0, 1, 10, 0, 0]⟩, .string ⟨#[7, 0, 1, 10, 0, 1]⟩, .string ⟨#[7, 0, 1, 10, 0, 2]⟩, .string ⟨#[7, 0, 1, 10, 0, 3]⟩], []⟩, ⟨1, 23, 0, [.int .i64 7, .int .i64 0, .int .i64 0], []⟩, ⟨1, 23, 0, [.int .i64 50, .int .i64 0, .int .i64 2, .int .i64 4, .int .i64 1, .int .i64 0, .int .i64 7, .int .i64 0, .int .i64 0], []⟩])
theorem k63 : Knows Tryz.prog 23 m63 := Knows.alike (fuel := 3000) progOk K2T_ok rfl (by kernel_rfl)
noncomputable def m64 : Memo := ([.string ⟨#[9, 0, 2, 1, 0, 0, 0, 0, 0, 0, 0, 5, 1, 0, 0, 0, 0, 0, 0, 0, 0]⟩, .int .i64 1], .int .i64 21, [])
theorem k64 : Knows Tryz.prog 147 m64 := Knows.alike (fuel := 3000) progOk K2T_ok rfl (by kernel_rfl)
noncomputable def m65 : Memo := ([.string ⟨#[9, 0, 2, 1, 0, 0, 0, 0, 0, 0, 0, 5, 1, 0, 0, 0, 0, 0, 0, 0, 1]⟩, .int .i64 1], .int .i64 21, [])
theorem k65 : Knows Tryz.prog 147 m65 := Knows.alike (fuel := 3000) progOk K2T_ok rfl (by kernel_rfl)
noncomputable def m66 : Memo := ([.string ⟨#[9, 0, 2, 1, 0, 0, 0, 0, 0, 0, 0, 5, 1, 0, 0, 0, 0, 0, 0, 0, 0]⟩, .int .i64 2], .int .i64 21, [])
theorem k66 : Knows Tryz.prog 147 m66 := Knows.alike (fuel := 3000) progOk K2T_ok rfl (by kernel_rfl)
noncomputable def m67 : Memo := ([.string ⟨#[9, 0, 3, 1, 0, 0, 0, 0, 0, 0, 0, 6, 1, 0, 0, 0, 0, 0, 0, 0, 3, 9, 0, 2, 1, 0, 0, 0, 0, 0, 0, 0, 5, 1, 0, 0, 0, 0, 0, 0, 0, 0]⟩, .int .i64 32, .bool true], .tuple #[.int .i64 42, .slice (some ⟨0, 0, none⟩) 3 18446744073709551619, .int .i64 3], [⟨2, 25, 1, [.string ⟨#[1, 0, 0, 0, 0, 0, 0, 0, 6]⟩, .string ⟨#[1, 0, 0, 0, 0, 0, 0, 0, 3]⟩, .string ⟨#[9, 0, 2, 1, 0, 0, 0, 0, 0, 0, 0, 5, 1, 0, 0, 0, 0, 0, 0, 0, 0]⟩], []⟩])
theorem k67 : Knows Tryz.prog 156 m67 := Knows.alike (fuel := 3000) progOk K2T_ok rfl (by kernel_rfl)
noncomputable def ms23_3 : List Memo := [m63]
theorem ks23_3 : KnowsAll Tryz.prog 23 ms23_3 := ⟨k63, trivial⟩
noncomputable def ms53_3 : List Memo := [m22, m23, m25, m27, m29, m31, m33, m40, m41, m45, m46, m47, m48, m61, m62]
theorem ks53_3 : KnowsAll Tryz.prog 53 ms53_3 := ⟨k22, k23, k25, k27, k29, k31, k33, k40, k41, k45, k46, k47, k48, k61, k62, trivial⟩
noncomputable def ms76_3 : List Memo := [m50, m56]
theorem ks76_3 : KnowsAll Tryz.prog 76 ms76_3 := ⟨k50, k56, trivial⟩
noncomputable def ms133_3 : List Memo := [m58]
theorem ks133_3 : KnowsAll Tryz.prog 133 ms133_3 := ⟨k58, trivial⟩
noncomputable def ms140_3 : List Memo := [m12, m14, m16, m39]
theorem ks140_3 : KnowsAll Tryz.prog 140 ms140_3 := ⟨k12, k14, k16, k39, trivial⟩
noncomputable def ms141_3 : List Memo := [m11, m13, m15, m17, m19]
theorem ks141_3 : KnowsAll Tryz.prog 141 ms141_3 := ⟨k11, k13, k15, k17, k19, trivial⟩
noncomputable def ms147_3 : List Memo := [m51, m52, m53, m54, m64, m65, m66]
theorem ks147_3 : KnowsAll Tryz.prog 147 ms147_3 := ⟨k51, k52, k53, k54, k64, k65, k66, trivial⟩
noncomputable def ms155_3 : List Memo := [m0, m1, m2, m20, m21]
theorem ks155_3 : KnowsAll Tryz.prog 155 ms155_3 := ⟨k0, k1, k2, k20, k21, trivial⟩
noncomputable def ms156_3 : List Memo := [m3, m4, m5, m6, m7, m8, m9, m10, m24, m26, m28, m30, m32, m34, m42, m43, m44, m59, m60, m67]
theorem ks156_3 : KnowsAll Tryz.prog 156 ms156_3 := ⟨k3, k4, k5, k6, k7, k8, k9, k10, k24, k26, k28, k30, k32, k34, k42, k43, k44, k59, k60, k67, trivial⟩
noncomputable def ms207_3 : List Memo := [m18]
theorem ks207_3 : KnowsAll Tryz.prog 207 ms207_3 := ⟨k18, trivial⟩
noncomputable def ms220_3 : List Memo := [m35, m36, m37, m38, m49, m55, m57]
theorem ks220_3 : KnowsAll Tryz.prog 220 ms220_3 := ⟨k35, k36, k37, k38, k49, k55, k57, trivial⟩
noncomputable def K3T : Tbl := (((((((((((KDot.memo 23 ms23_3).memo 53 ms53_3).memo 76 ms76_3).memo 133 ms133_3).memo 140 ms140_3).memo 141 ms141_3).memo 147 ms147_3).memo 155 ms155_3).memo 156 ms156_3).memo 207 ms207_3).memo 220 ms220_3)
theorem K3T_ok : KOk Tryz.prog K3T := (KOk.memoAll (KOk.memoAll (KOk.memoAll (KOk.memoAll (KOk.memoAll (KOk.memoAll (KOk.memoAll (KOk.memoAll (KOk.memoAll (KOk.memoAll (KOk.memoAll KDot_ok ks23_3) ks53_3) ks76_3) ks133_3) ks140_3) ks141_3) ks147_3) ks155_3) ks156_3) ks207_3) ks220_3)
noncomputable def m68 : Memo := ([.string ⟨#[9, 0, 3, 1, 0, 0, 0, 0, 0, 0, 0, 6, 1, 0, 0, 0, 0, 0, 0, 0, 3, 9, 0, 2, 1, 0, 0, 0, 0, 0, 0, 0, 5, 1, 0, 0, 0, 0, 0, 0, 0, 0]⟩, .int .i64 1], .int .i64 42, [])
theorem k68 : Knows Tryz.prog 220 m68 := Knows.alike (fuel := 3000) progOk K3T_ok rfl (by kernel_rfl)
noncomputable def m69 : Memo := ([.string ⟨#[9, 0, 3, 1, 0, 0, 0, 0, 0, 0, 0, 6, 1, 0, 0, 0, 0, 0, 0, 0, 3, 9, 0, 2, 1, 0, 0, 0, 0, 0, 0, 0, 5, 1, 0, 0, 0, 0, 0, 0, 0, 0]⟩], .bool true, [])
theorem k69 : Knows Tryz.prog 53 m69 := Knows.alike (fuel := 3000) progOk K3T_ok rfl (by kernel_rfl)
noncomputable def ms23_4 : List Memo := [m63]
theorem ks23_4 : KnowsAll Tryz.prog 23 ms23_4 := ⟨k63, trivial⟩
noncomputable def ms53_4 : List Memo := [m22, m23, m25, m27, m29, m31, m33, m40, m41, m45, m46, m47, m48, m61, m62, m69]
theorem ks53_4 : KnowsAll Tryz.prog 53 ms53_4 := ⟨k22, k23, k25, k27, k29, k31, k33, k40, k41, k45, k46, k47, k48, k61, k62, k69, trivial⟩
noncomputable def ms76_4 : List Memo := [m50, m56]
theorem ks76_4 : KnowsAll Tryz.prog 76 ms76_4 := ⟨k50, k56, trivial⟩
noncomputable def ms133_4 : List Memo := [m58]
theorem ks133_4 : KnowsAll Tryz.prog 133 ms133_4 := ⟨k58, trivial⟩
noncomputable def ms140_4 : List Memo := [m12, m14, m16, m39]
theorem ks140_4 : KnowsAll Tryz.prog 140 ms140_4 := ⟨k12, k14, k16, k39, trivial⟩
noncomputable def ms141_4 : List Memo := [m11, m13, m15, m17, m19]
theorem ks141_4 : KnowsAll Tryz.prog 141 ms141_4 := ⟨k11, k13, k15, k17, k19, trivial⟩
noncomputable def ms147_4 : List Memo := [m51, m52, m53, m54, m64, m65, m66]
theorem ks147_4 : KnowsAll Tryz.prog 147 ms147_4 := ⟨k51, k52, k53, k54, k64, k65, k66, trivial⟩
noncomputable def ms155_4 : List Memo := [m0, m1, m2, m20, m21]
theorem ks155_4 : KnowsAll Tryz.prog 155 ms155_4 := ⟨k0, k1, k2, k20, k21, trivial⟩
noncomputable def ms156_4 : List Memo := [m3, m4, m5, m6, m7, m8, m9, m10, m24, m26, m28, m30, m32, m34, m42, m43, m44, m59, m60, m67]
theorem ks156_4 : KnowsAll Tryz.prog 156 ms156_4 := ⟨k3, k4, k5, k6, k7, k8, k9, k10, k24, k26, k28, k30, k32, k34, k42, k43, k44, k59, k60, k67, trivial⟩
noncomputable def ms207_4 : List Memo := [m18]
theorem ks207_4 : KnowsAll Tryz.prog 207 ms207_4 := ⟨k18, trivial⟩
noncomputable def ms220_4 : List Memo := [m35, m36, m37, m38, m49, m55, m57, m68]
theorem ks220_4 : KnowsAll Tryz.prog 220 ms220_4 := ⟨k35, k36, k37, k38, k49, k55, k57, k68, trivial⟩
noncomputable def K4T : Tbl := (((((((((((KDot.memo 23 ms23_4).memo 53 ms53_4).memo 76 ms76_4).memo 133 ms133_4).memo 140 ms140_4).memo 141 ms141_4).memo 147 ms147_4).memo 155 ms155_4).memo 156 ms156_4).memo 207 ms207_4).memo 220 ms220_4)
theorem K4T_ok : KOk Tryz.prog K4T := (KOk.memoAll (KOk.memoAll (KOk.memoAll (KOk.memoAll (KOk.memoAll (KOk.memoAll (KOk.memoAll (KOk.memoAll (KOk.memoAll (KOk.memoAll (KOk.memoAll KDot_ok ks23_4) ks53_4) ks76_4) ks133_4) ks140_4) ks141_4) ks147_4) ks155_4) ks156_4) ks207_4) ks220_4)
noncomputable def m70 : Memo := ([.string ⟨#[9, 0, 2, 1, 0, 0, 0, 0, 0, 0, 0, 5, 1, 0, 0, 0, 0, 0, 0, 0, 0]⟩], .bool true, [])
theorem k70 : Knows Tryz.prog 54 m70 := Knows.alike (fuel := 3000) progOk K4T_ok rfl (by kernel_rfl)
noncomputable def m71 : Memo := ([.string ⟨#[9, 0, 2, 1, 0, 0, 0, 0, 0, 0, 0, 5, 1, 0, 0, 0, 0, 0, 0, 0, 1]⟩], .bool true, [])
theorem k71 : Knows Tryz.prog 54 m71 := Knows.alike (fuel := 3000) progOk K4T_ok rfl (by kernel_rfl)
noncomputable def m72 : Memo := ([.string ⟨#[9, 0, 3, 1, 0, 0, 0, 0, 0, 0, 0, 6, 1, 0, 0, 0, 0, 0, 0, 0, 3, 9, 0, 2, 1, 0, 0, 0, 0, 0, 0, 0, 5, 1, 0, 0, 0, 0, 0, 0, 0, 0]⟩, .int .i64 1], .int .i64 42, [])
theorem k72 : Knows Tryz.prog 147 m72 := Knows.alike (fuel := 3000) progOk K4T_ok rfl (by kernel_rfl)
noncomputable def ms23_5 : List Memo := [m63]
theorem ks23_5 : KnowsAll Tryz.prog 23 ms23_5 := ⟨k63, trivial⟩
noncomputable def ms53_5 : List Memo := [m22, m23, m25, m27, m29, m31, m33, m40, m41, m45, m46, m47, m48, m61, m62, m69]
theorem ks53_5 : KnowsAll Tryz.prog 53 ms53_5 := ⟨k22, k23, k25, k27, k29, k31, k33, k40, k41, k45, k46, k47, k48, k61, k62, k69, trivial⟩
noncomputable def ms54_5 : List Memo := [m70, m71]
theorem ks54_5 : KnowsAll Tryz.prog 54 ms54_5 := ⟨k70, k71, trivial⟩
noncomputable def ms76_5 : List Memo := [m50, m56]
theorem ks76_5 : KnowsAll Tryz.prog 76 ms76_5 := ⟨k50, k56, trivial⟩
noncomputable def ms133_5 : List Memo := [m58]
theorem ks133_5 : KnowsAll Tryz.prog 133 ms133_5 := ⟨k58, trivial⟩
noncomputable def ms140_5 : List Memo := [m12, m14, m16, m39]
theorem ks140_5 : KnowsAll Tryz.prog 140 ms140_5 := ⟨k12, k14, k16, k39, trivial⟩
noncomputable def ms141_5 : List Memo := [m11, m13, m15, m17, m19]
theorem ks141_5 : KnowsAll Tryz.prog 141 ms141_5 := ⟨k11, k13, k15, k17, k19, trivial⟩
noncomputable def ms147_5 : List Memo := [m51, m52, m53, m54, m64, m65, m66, m72]
theorem ks147_5 : KnowsAll Tryz.prog 147 ms147_5 := ⟨k51, k52, k53, k54, k64, k65, k66, k72, trivial⟩
noncomputable def ms155_5 : List Memo := [m0, m1, m2, m20, m21]
theorem ks155_5 : KnowsAll Tryz.prog 155 ms155_5 := ⟨k0, k1, k2, k20, k21, trivial⟩
noncomputable def ms156_5 : List Memo := [m3, m4, m5, m6, m7, m8, m9, m10, m24, m26, m28, m30, m32, m34, m42, m43, m44, m59, m60, m67]
theorem ks156_5 : KnowsAll Tryz.prog 156 ms156_5 := ⟨k3, k4, k5, k6, k7, k8, k9, k10, k24, k26, k28, k30, k32, k34, k42, k43, k44, k59, k60, k67, trivial⟩
noncomputable def ms207_5 : List Memo := [m18]
theorem ks207_5 : KnowsAll Tryz.prog 207 ms207_5 := ⟨k18, trivial⟩
noncomputable def ms220_5 : List Memo := [m35, m36, m37, m38, m49, m55, m57, m68]
theorem ks220_5 : KnowsAll Tryz.prog 220 ms220_5 := ⟨k35, k36, k37, k38, k49, k55, k57, k68, trivial⟩
noncomputable def K5T : Tbl := ((((((((((((KDot.memo 23 ms23_5).memo 53 ms53_5).memo 54 ms54_5).memo 76 ms76_5).memo 133 ms133_5).memo 140 ms140_5).memo 141 ms141_5).memo 147 ms147_5).memo 155 ms155_5).memo 156 ms156_5).memo 207 ms207_5).memo 220 ms220_5)
theorem K5T_ok : KOk Tryz.prog K5T := (KOk.memoAll (KOk.memoAll (KOk.memoAll (KOk.memoAll (KOk.memoAll (KOk.memoAll (KOk.memoAll (KOk.memoAll (KOk.memoAll (KOk.memoAll (KOk.memoAll (KOk.memoAll KDot_ok ks23_5) ks53_5) ks54_5) ks76_5) ks133_5) ks140_5) ks141_5) ks147_5) ks155_5) ks156_5) ks207_5) ks220_5)
noncomputable def m73 : Memo := ([.string ⟨#[9, 0, 2, 1, 0, 0, 0, 0, 0, 0, 0, 5, 1, 0, 0, 0, 0, 0, 0, 0, 0]⟩], .bool true, [])
theorem k73 : Knows Tryz.prog 43 m73 := Knows.alike (fuel := 3000) progOk K5T_ok rfl (by kernel_rfl)
noncomputable def m74 : Memo := ([.string ⟨#[9, 0, 3, 1, 0, 0, 0, 0, 0, 0, 0, 6, 1, 0, 0, 0, 0, 0, 0, 0, 3, 9, 0, 2, 1, 0, 0, 0, 0, 0, 0, 0, 5, 1, 0, 0, 0, 0, 0, 0, 0, 0]⟩], .bool true, [])
theorem k74 : Knows Tryz.prog 54 m74 := Knows.alike (fuel := 3000) progOk K5T_ok rfl (by kernel_rfl)
noncomputable def ms23_6 : List Memo := [m63]
theorem ks23_6 : KnowsAll Tryz.prog 23 ms23_6 := ⟨k63, trivial⟩
noncomputable def ms43_6 : List Memo := [m73]
theorem ks43_6 : KnowsAll Tryz.prog 43 ms43_6 := ⟨k73, trivial⟩
noncomputable def ms53_6 : List Memo := [m22, m23, m25, m27, m29, m31, m33, m40, m41, m45, m46, m47, m48, m61, m62, m69]
theorem ks53_6 : KnowsAll Tryz.prog 53 ms53_6 := ⟨k22, k23, k25, k27, k29, k31, k33, k40, k41, k45, k46, k47, k48, k61, k62, k69, trivial⟩
noncomputable def ms54_6 : List Memo := [m70, m71, m74]
theorem ks54_6 : KnowsAll Tryz.prog 54 ms54_6 := ⟨k70, k71, k74, trivial⟩
noncomputable def ms76_6 : List Memo := [m50, m56]
theorem ks76_6 : KnowsAll Tryz.prog 76 ms76_6 := ⟨k50, k56, trivial⟩
noncomputable def ms133_6 : List Memo := [m58]
theorem ks133_6 : KnowsAll Tryz.prog 133 ms133_6 := ⟨k58, trivial⟩
noncomputable def ms140_6 : List Memo := [m12, m14, m16, m39]
theorem ks140_6 : KnowsAll Tryz.prog 140 ms140_6 := ⟨k12, k14, k16, k39, trivial⟩
noncomputable def ms141_6 : List Memo := [m11, m13, m15, m17, m19]
theorem ks141_6 : KnowsAll Tryz.prog 141 ms141_6 := ⟨k11, k13, k15, k17, k19, trivial⟩
noncomputable def ms147_6 : List Memo := [m51, m52, m53, m54, m64, m65, m66, m72]
theorem ks147_6 : KnowsAll Tryz.prog 147 ms147_6 := ⟨k51, k52, k53, k54, k64, k65, k66, k72, trivial⟩
noncomputable def ms155_6 : List Memo := [m0, m1, m2, m20, m21]
theorem ks155_6 : KnowsAll Tryz.prog 155 ms155_6 := ⟨k0, k1, k2, k20, k21, trivial⟩
noncomputable def ms156_6 : List Memo := [m3, m4, m5, m6, m7, m8, m9, m10, m24, m26, m28, m30, m32, m34, m42, m43, m44, m59, m60, m67]
theorem ks156_6 : KnowsAll Tryz.prog 156 ms156_6 := ⟨k3, k4, k5, k6, k7, k8, k9, k10, k24, k26, k28, k30, k32, k34, k42, k43, k44, k59, k60, k67, trivial⟩
noncomputable def ms207_6 : List Memo := [m18]
theorem ks207_6 : KnowsAll Tryz.prog 207 ms207_6 := ⟨k18, trivial⟩
noncomputable def ms220_6 : List Memo := [m35, m36, m37, m38, m49, m55, m57, m68]
theorem ks220_6 : KnowsAll Tryz.prog 220 ms220_6 := ⟨k35, k36, k37, k38, k49, k55, k57, k68, trivial⟩
noncomputable def K6T : Tbl := (((((((((((((KDot.memo 23 ms23_6).memo 43 ms43_6).memo 53 ms53_6).memo 54 ms54_6).memo 76 ms76_6).memo 133 ms133_6).memo 140 ms140_6).memo 141 ms141_6).memo 147 ms147_6).memo 155 ms155_6).memo 156 ms156_6).memo 207 ms207_6).memo 220 ms220_6)
theorem K6T_ok : KOk Tryz.prog K6T := (KOk.memoAll (KOk.memoAll (KOk.memoAll (KOk.memoAll (KOk.memoAll (KOk.memoAll (KOk.memoAll (KOk.memoAll (KOk.memoAll (KOk.memoAll (KOk.memoAll (KOk.memoAll (KOk.memoAll KDot_ok ks23_6) ks43_6) ks53_6) ks54_6) ks76_6) ks133_6) ks140_6) ks141_6) ks147_6) ks155_6) ks156_6) ks207_6) ks220_6)
noncomputable def m75 : Memo := ([.int .i64 0, .slice none 0 0], .string ⟨#[9, 0, 2, 1, 0, 0, 0, 0, 0, 0, 0, 5, 1, 0, 0, 0, 0, 0, 0, 0, 0]⟩, [])
theorem k75 : Knows Tryz.prog 8 m75 := Knows.alike (fuel := 3000) progOk K6T_ok rfl (by kernel_rfl)
noncomputable def m76 : Memo := ([.int .i64 1, .slice none 0 0], .string ⟨#[9, 0, 2, 1, 0, 0, 0, 0, 0, 0, 0, 5, 1, 0, 0, 0, 0, 0, 0, 0, 1]⟩, [])
theorem k76 : Knows Tryz.prog 8 m76 := Knows.alike (fuel := 3000) progOk K6T_ok rfl (by kernel_rfl)
noncomputable def m77 : Memo := ([.string ⟨#[9, 0, 2, 1, 0, 0, 0, 0, 0, 0, 0, 5, 1, 0, 0, 0, 0, 0, 0, 0, 0]⟩], .tuple #[.int .i64 5, .slice (some ⟨0, 1, none⟩) 1 1], [⟨2, 25, 1, [.string ⟨#[1, 0, 0, 0, 0, 0, 0, 0, 5]⟩, .string ⟨#[1, 0, 0, 0, 0, 0, 0, 0, 0]⟩], []⟩])
theorem k77 : Knows Tryz.prog 86 m77 := Knows.alike (fuel := 3000) progOk K6T_ok rfl (by kernel_rfl)
noncomputable def m78 : Memo := ([.int .i64 0, .slice none 0 0], .string ⟨#[9, 0, 2, 1, 0, 0, 0, 0, 0, 0, 0, 5, 1, 0, 0, 0, 0, 0, 0, 0, 0]⟩, [])
theorem k78 : Knows Tryz.prog 381 m78 := Knows.alike (fuel := 3000) progOk K6T_ok rfl (by kernel_rfl)
noncomputable def m79 : Memo := ([.string ⟨#[9, 0, 2, 1, 0, 0, 0, 0, 0, 0, 0, 5, 1, 0, 0, 0, 0, 0, 0, 0, 0]⟩], .int .i64 5, [])
theorem k79 : Knows Tryz.prog 20 m79 := Knows.alike (fuel := 3000) progOk K6T_ok rfl (by kernel_rfl)
noncomputable def m80 : Memo := ([.string ⟨#[9, 0, 2, 1, 0, 0, 0, 0, 0, 0, 0, 5, 1, 0, 0, 0, 0, 0, 0, 0, 1]⟩], .bool true, [])
theorem k80 : Knows Tryz.prog 43 m80 := Knows.alike (fuel := 3000) progOk K6T_ok rfl (by kernel_rfl)
noncomputable def ms8_7 : List Memo := [m75, m76]
theorem ks8_7 : KnowsAll Tryz.prog 8 ms8_7 := ⟨k75, k76, trivial⟩
noncomputable def ms20_7 : List Memo := [m79]
theorem ks20_7 : KnowsAll Tryz.prog 20 ms20_7 := ⟨k79, trivial⟩
noncomputable def ms23_7 : List Memo := [m63]
theorem ks23_7 : KnowsAll Tryz.prog 23 ms23_7 := ⟨k63, trivial⟩
noncomputable def ms43_7 : List Memo := [m73, m80]
theorem ks43_7 : KnowsAll Tryz.prog 43 ms43_7 := ⟨k73, k80, trivial⟩
noncomputable def ms53_7 : List Memo := [m22, m23, m25, m27, m29, m31, m33, m40, m41, m45, m46, m47, m48, m61, m62, m69]
theorem ks53_7 : KnowsAll Tryz.prog 53 ms53_7 := ⟨k22, k23, k25, k27, k29, k31, k33, k40, k41, k45, k46, k47, k48, k61, k62, k69, trivial⟩
noncomputable def ms54_7 : List Memo := [m70, m71, m74]
theorem ks54_7 : KnowsAll Tryz.prog 54 ms54_7 := ⟨k70, k71, k74, trivial⟩
noncomputable def ms76_7 : List Memo := [m50, m56]
theorem ks76_7 : KnowsAll Tryz.prog 76 ms76_7 := ⟨k50, k56, trivial⟩
noncomputable def ms86_7 : List Memo := [m77]
theorem ks86_7 : KnowsAll Tryz.prog 86 ms86_7 := ⟨k77, trivial⟩
noncomputable def ms133_7 : List Memo := [m58]
theorem ks133_7 : KnowsAll Tryz.prog 133 ms133_7 := ⟨k58, trivial⟩
noncomputable def ms140_7 : List Memo := [m12, m14, m16, m39]
theorem ks140_7 : KnowsAll Tryz.prog 140 ms140_7 := ⟨k12, k14, k16, k39, trivial⟩
noncomputable def ms141_7 : List Memo := [m11, m13, m15, m17, m19]
theorem ks141_7 : KnowsAll Tryz.prog 141 ms141_7 := ⟨k11, k13, k15, k17, k19, trivial⟩
noncomputable def ms147_7 : List Memo := [m51, m52, m53, m54, m64, m65, m66, m72]
theorem ks147_7 : KnowsAll Tryz.prog 147 ms147_7 := ⟨k51, k52, k53, k54, k64, k65, k66, k72, trivial⟩
noncomputable def ms155_7 : List Memo := [m0, m1, m2, m20, m21]
theorem ks155_7 : KnowsAll Tryz.prog 155 ms155_7 := ⟨k0, k1, k2, k20, k21, trivial⟩
noncomputable def ms156_7 : List Memo := [m3, m4, m5, m6, m7, m8, m9, m10, m24, m26, m28, m30, m32, m34, m42, m43, m44, m59, m60, m67]
theorem ks156_7 : KnowsAll Tryz.prog 156 ms156_7 := ⟨k3, k4, k5, k6, k7, k8, k9, k10, k24, k26, k28, k30, k32, k34, k42, k43, k44, k59, k60, k67, trivial⟩
noncomputable def ms207_7 : List Memo := [m18]
theorem ks207_7 : KnowsAll Tryz.prog 207 ms207_7 := ⟨k18, trivial⟩
noncomputable def ms220_7 : List Memo := [m35, m36, m37, m38, m49, m55, m57, m68]
theorem ks220_7 : KnowsAll Tryz.prog 220 ms220_7 := ⟨k35, k36, k37, k38, k49, k55, k57, k68, trivial⟩
noncomputable def ms381_7 : List Memo := [m78]
theorem ks381_7 : KnowsAll Tryz.prog 381 ms381_7 := ⟨k78, trivial⟩
noncomputable def K7T : Tbl := (((((((((((((((((KDot.memo 8 ms8_7).memo 20 ms20_7).memo 23 ms23_7).memo 43 ms43_7).memo 53 ms53_7).memo 54 ms54_7).memo 76 ms76_7).memo 86 ms86_7).memo 133 ms133_7).memo 140 ms140_7).memo 141 ms141_7).memo 147 ms147_7).memo 155 ms155_7).memo 156 ms156_7).memo 207 ms207_7).memo 220 ms220_7).memo 381 ms381_7)
theorem K7T_ok : KOk Tryz.prog K7T := (KOk.memoAll (KOk.memoAll (KOk.memoAll (KOk.memoAll (KOk.memoAll (KOk.memoAll (KOk.memoAll (KOk.memoAll (KOk.memoAll (KOk.memoAll (KOk.memoAll (KOk.memoAll (KOk.memoAll (KOk.memoAll (KOk.memoAll (KOk.memoAll (KOk.memoAll KDot_ok ks8_7) ks20_7) ks23_7) ks43_7) ks53_7) ks54_7) ks76_7) ks86_7) ks133_7) ks140_7) ks141_7) ks147_7) ks155_7) ks156_7) ks207_7) ks220_7) ks381_7)
noncomputable def m81 : Memo := ([.string ⟨#[9, 0, 2, 1, 0, 0, 0, 0, 0, 0, 0, 5, 1, 0, 0, 0, 0, 0, 0, 0, 0]⟩], .tuple #[.int .i64 0, .slice (some ⟨0, 0, none⟩) 0 0, .bool true], [⟨1, 25, 0, [], []⟩])
theorem k81 : Knows Tryz.prog 45 m81 := Knows.alike (fuel := 3000) progOk K7T_ok rfl (by kernel_rfl)
noncomputable def m82 : Memo := ([.string ⟨#[9, 0, 2, 1, 0, 0, 0, 0, 0, 0, 0, 5, 1, 0, 0, 0, 0, 0, 0, 0, 1]⟩], .tuple #[.int .i64 5, .slice (some ⟨0, 1, none⟩) 1 1], [⟨2, 25, 1, [.string ⟨#[1, 0, 0, 0, 0, 0, 0, 0, 5]⟩, .string ⟨#[1, 0, 0, 0, 0, 0, 0, 0, 1]⟩], []⟩])
theorem k82 : Knows Tryz.prog 86 m82 := Knows.alike (fuel := 3000) progOk K7T_ok rfl (by kernel_rfl)
noncomputable def m83 : Memo := ([.string ⟨#[9, 0, 3, 1, 0, 0, 0, 0, 0, 0, 0, 6, 1, 0, 0, 0, 0, 0, 0, 0, 3, 9, 0, 2, 1, 0, 0, 0, 0, 0, 0, 0, 5, 1, 0, 0, 0, 0, 0, 0, 0, 0]⟩], .bool true, [])
theorem k83 : Knows Tryz.prog 43 m83 := Knows.alike (fuel := 3000) progOk K7T_ok rfl (by kernel_rfl)
noncomputable def ms8_8 : List Memo := [m75, m76]
theorem ks8_8 : KnowsAll Tryz.prog 8 ms8_8 := ⟨k75, k76, trivial⟩
noncomputable def ms20_8 : List Memo := [m79]
theorem ks20_8 : KnowsAll Tryz.prog 20 ms20_8 := ⟨k79, trivial⟩
noncomputable def ms23_8 : List Memo := [m63]
theorem ks23_8 : KnowsAll Tryz.prog 23 ms23_8 := ⟨k63, trivial⟩
noncomputable def ms43_8 : List Memo := [m73, m80, m83]
theorem ks43_8 : KnowsAll Tryz.prog 43 ms43_8 := ⟨k73, k80, k83, trivial⟩
noncomputable def ms45_8 : List Memo := [m81]
theorem ks45_8 : KnowsAll Tryz.prog 45 ms45_8 := ⟨k81, trivial⟩
noncomputable def ms53_8 : List Memo := [m22, m23, m25, m27, m29, m31, m33, m40, m41, m45, m46, m47, m48, m61, m62, m69]
theorem ks53_8 : KnowsAll Tryz.prog 53 ms53_8 := ⟨k22, k23, k25, k27, k29, k31, k33, k40, k41, k45, k46, k47, k48, k61, k62, k69, trivial⟩
noncomputable def ms54_8 : List Memo := [m70, m71, m74]
theorem ks54_8 : KnowsAll Tryz.prog 54 ms54_8 := ⟨k70, k71, k74, trivial⟩
noncomputable def ms76_8 : List Memo := [m50, m56]
theorem ks76_8 : KnowsAll Tryz.prog 76 ms76_8 := ⟨k50, k56, trivial⟩
noncomputable def ms86_8 : List Memo := [m77, m82]
theorem ks86_8 : KnowsAll Tryz.prog 86 ms86_8 := ⟨k77, k82, trivial⟩
noncomputable def ms133_8 : List Memo := [m58]
theorem ks133_8 : KnowsAll Tryz.prog 133 ms133_8 := ⟨k58, trivial⟩
noncomputable def ms140_8 : List Memo := [m12, m14, m16, m39]
theorem ks140_8 : KnowsAll Tryz.prog 140 ms140_8 := ⟨k12, k14, k16, k39, trivial⟩
noncomputable def ms141_8 : List Memo := [m11, m13, m15, m17, m19]
theorem ks141_8 : KnowsAll Tryz.prog 141 ms141_8 := ⟨k11, k13, k15, k17, k19, trivial⟩
noncomputable def ms147_8 : List Memo := [m51, m52, m53, m54, m64, m65, m66, m72]
theorem ks147_8 : KnowsAll Tryz.prog 147 ms147_8 := ⟨k51, k52, k53, k54, k64, k65, k66, k72, trivial⟩
noncomputable def ms155_8 : List Memo := [m0, m1, m2, m20, m21]
theorem ks155_8 : KnowsAll Tryz.prog 155 ms155_8 := ⟨k0, k1, k2, k20, k21, trivial⟩
noncomputable def ms156_8 : List Memo := [m3, m4, m5, m6, m7, m8, m9, m10, m24, m26, m28, m30, m32, m34, m42, m43, m44, m59, m60, m67]
theorem ks156_8 : KnowsAll Tryz.prog 156 ms156_8 := ⟨k3, k4, k5, k6, k7, k8, k9, k10, k24, k26, k28, k30, k32, k34, k42, k43, k44, k59, k60, k67, trivial⟩
noncomputable def ms207_8 : List Memo := [m18]
theorem ks207_8 : KnowsAll Tryz.prog 207 ms207_8 := ⟨k18, trivial⟩
noncomputable def ms220_8 : List Memo := [m35, m36, m37, m38, m49, m55, m57, m68]
theorem ks220_8 : KnowsAll Tryz.prog 220 ms220_8 := ⟨k35, k36, k37, k38, k49, k55, k57, k68, trivial⟩
noncomputable def ms381_8 : List Memo := [m78]
theorem ks381_8 : KnowsAll Tryz.prog 381 ms381_8 := ⟨k78, trivial⟩
noncomputable def K8T : Tbl := ((((((((((((((((((KDot.memo 8 ms8_8).memo 20 ms20_8).memo 23 ms23_8).memo 43 ms43_8).memo 45 ms45_8).memo 53 ms53_8).memo 54 ms54_8).memo 76 ms76_8).memo 86 ms86_8).memo 133 ms133_8).memo 140 ms140_8).memo 141 ms141_8).memo 147 ms147_8).memo 155 ms155_8).memo 156 ms156_8).memo 207 ms207_8).memo 220 ms220_8).memo 381 ms381_8)
theorem K8T_ok : KOk Tryz.prog K8T := (KOk.memoAll (KOk.memoAll (KOk.memoAll (KOk.memoAll (KOk.memoAll (KOk.memoAll (KOk.memoAll (KOk.memoAll (KOk.memoAll (KOk.memoAll (KOk.memoAll (KOk.memoAll (KOk.memoAll (KOk.memoAll (KOk.memoAll (KOk.memoAll (KOk.memoAll (KOk.memoAll KDot_ok ks8_8) ks20_8) ks23_8) ks43_8) ks45_8) ks53_8) ks54_8) ks76_8) ks86_8) ks133_8) ks140_8) ks141_8) ks147_8) ks155_8) ks156_8) ks207_8) ks220_8) ks381_8)
noncomputable def m84 : Memo := ([.string ⟨#[9, 0, 2, 1, 0, 0, 0, 0, 0, 0, 0, 5, 1, 0, 0, 0, 0, 0, 0, 0, 1]⟩], .tuple #[.int .i64 1, .slice (some ⟨0, 0, none⟩) 0 0, .bool true], [⟨1, 25, 0, [], []⟩])
theorem k84 : Knows Tryz.prog 45 m84 := Knows.alike (fuel := 3000) progOk K8T_ok rfl (by kernel_rfl)
noncomputable def m85 : Memo := ([.string ⟨#[9, 0, 3, 1, 0, 0, 0, 0, 0, 0, 0, 6, 1, 0, 0, 0, 0, 0, 0, 0, 3, 9, 0, 2, 1, 0, 0, 0, 0, 0, 0, 0, 5, 1, 0, 0, 0, 0, 0, 0, 0, 0]⟩], .int .i64 6, [])
theorem k85 : Knows Tryz.prog 20 m85 := Knows.alike (fuel := 3000) progOk K8T_ok rfl (by kernel_rfl)
noncomputable def m86 : Memo := ([.string ⟨#[9, 0, 3, 1, 0, 0, 0, 0, 0, 0, 0, 6, 1, 0, 0, 0, 0, 0, 0, 0, 3, 9, 0, 2, 1, 0, 0, 0, 0, 0, 0, 0, 5, 1, 0, 0, 0, 0, 0, 0, 0, 0]⟩], .tuple #[.int .i64 6, .slice (some ⟨0, 1, none⟩) 2 2], [⟨2, 25, 1, [.string ⟨#[1, 0, 0, 0, 0, 0, 0, 0, 6]⟩, .string ⟨#[1, 0, 0, 0, 0, 0, 0, 0, 3]⟩, .string ⟨#[9, 0, 2, 1, 0, 0, 0, 0, 0, 0, 0, 5, 1, 0, 0, 0, 0, 0, 0, 0, 0]⟩], []⟩])
theorem k86 : Knows Tryz.prog 86 m86 := Knows.alike (fuel := 3000) progOk K8T_ok rfl (by kernel_rfl)
noncomputable def ms8_9 : List Memo := [m75, m76]
theorem ks8_9 : KnowsAll Tryz.prog 8 ms8_9 := ⟨k75, k76, trivial⟩
noncomputable def ms20_9 : List Memo := [m79, m85]
theorem ks20_9 : KnowsAll Tryz.prog 20 ms20_9 := ⟨k79, k85, trivial⟩
noncomputable def ms23_9 : List Memo := [m63]
theorem ks23_9 : KnowsAll Tryz.prog 23 ms23_9 := ⟨k63, trivial⟩
noncomputable def ms43_9 : List Memo := [m73, m80, m83]
theorem ks43_9 : KnowsAll Tryz.prog 43 ms43_9 := ⟨k73, k80, k83, trivial⟩
noncomputable def ms45_9 : List Memo := [m81, m84]
theorem ks45_9 : KnowsAll Tryz.prog 45 ms45_9 := ⟨k81, k84, trivial⟩
noncomputable def ms53_9 : List Memo := [m22, m23, m25, m27, m29, m31, m33, m40, m41, m45, m46, m47, m48, m61, m62, m69]
theorem ks53_9 : KnowsAll Tryz.prog 53 ms53_9 := ⟨k22, k23, k25, k27, k29, k31, k33, k40, k41, k45, k46, k47, k48, k61, k62, k69, trivial⟩
noncomputable def ms54_9 : List Memo := [m70, m71, m74]
theorem ks54_9 : KnowsAll Tryz.prog 54 ms54_9 := ⟨k70, k71, k74, trivial⟩
noncomputable def ms76_9 : List Memo := [m50, m56]
theorem ks76_9 : KnowsAll Tryz.prog 76 ms76_9 := ⟨k50, k56, trivial⟩
noncomputable def ms86_9 : List Memo := [m77, m82, m86]
theorem ks86_9 : KnowsAll Tryz.prog 86 ms86_9 := ⟨k77, k82, k86, trivial⟩
noncomputable def ms133_9 : List Memo := [m58]
theorem ks133_9 : KnowsAll Tryz.prog 133 ms133_9 := ⟨k58, trivial⟩
noncomputable def ms140_9 : List Memo := [m12, m14, m16, m39]
theorem ks140_9 : KnowsAll Tryz.prog 140 ms140_9 := ⟨k12, k14, k16, k39, trivial⟩
noncomputable def ms141_9 : List Memo := [m11, m13, m15, m17, m19]
theorem ks141_9 : KnowsAll Tryz.prog 141 ms141_9 := ⟨k11, k13, k15, k17, k19, trivial⟩
noncomputable def ms147_9 : List Memo := [m51, m52, m53, m54, m64, m65, m66, m72]
theorem ks147_9 : KnowsAll Tryz.prog 147 ms147_9 := ⟨k51, k52, k53, k54, k64, k65, k66, k72, trivial⟩
noncomputable def ms155_9 : List Memo := [m0, m1, m2, m20, m21]
theorem ks155_9 : KnowsAll Tryz.prog 155 ms155_9 := ⟨k0, k1, k2, k20, k21, trivial⟩
noncomputable def ms156_9 : List Memo := [m3, m4, m5, m6, m7, m8, m9, m10, m24, m26, m28, m30, m32, m34, m42, m43, m44, m59, m60, m67]
theorem ks156_9 : KnowsAll Tryz.prog 156 ms156_9 := ⟨k3, k4, k5, k6, k7, k8, k9, k10, k24, k26, k28, k30, k32, k34, k42, k43, k44, k59, k60, k67, trivial⟩
noncomputable def ms207_9 : List Memo := [m18]
theorem ks207_9 : KnowsAll Tryz.prog 207 ms207_9 := ⟨k18, trivial⟩
noncomputable def ms220_9 : List Memo := [m35, m36, m37, m38, m49, m55, m57, m68]
theorem ks220_9 : KnowsAll Tryz.prog 220 ms220_9 := ⟨k35, k36, k37, k38, k49, k55, k57, k68, trivial⟩
noncomputable def ms381_9 : List Memo := [m78]
theorem ks381_9 : KnowsAll Tryz.prog 381 ms381_9 := ⟨k78, trivial⟩
noncomputable def K9T : Tbl := ((((((((((((((((((KDot.memo 8 ms8_9).memo 20 ms20_9).memo 23 ms23_9).memo 43 ms43_9).memo 45 ms45_9).memo 53 ms53_9).memo 54 ms54_9).memo 76 ms76_9).memo 86 ms86_9).memo 133 ms133_9).memo 140 ms140_9).memo 141 ms141_9).memo 147 ms147_9).memo 155 ms155_9).memo 156 ms156_9).memo 207 ms207_9).memo 220 ms220_9).memo 381 ms381_9)
theorem K9T_ok : KOk Tryz.prog K9T := (KOk.memoAll (KOk.memoAll (KOk.memoAll (KOk.memoAll (KOk.memoAll (KOk.memoAll (KOk.memoAll (KOk.memoAll (KOk.memoAll (KOk.memoAll (KOk.memoAll (KOk.memoAll (KOk.memoAll (KOk.memoAll (KOk.memoAll (KOk.memoAll (KOk.memoAll (KOk.memoAll KDot_ok ks8_9) ks20_9) ks23_9) ks43_9) ks45_9) ks53_9) ks54_9) ks76_9) ks86_9) ks133_9) ks140_9) ks141_9) ks147_9) ks155_9) ks156_9) ks207_9) ks220_9) ks381_9)
noncomputable def m87 : Memo := ([.string ⟨#[9, 0, 3, 1, 0, 0, 0, 0, 0, 0, 0, 6, 1, 0, 0, 0, 0, 0, 0, 0, 3, 9, 0, 2, 1, 0, 0, 0, 0, 0, 0, 0, 5, 1, 0, 0, 0, 0, 0, 0, 0, 0]⟩], .slice (some ⟨0, 0, none⟩) 1 1, [⟨2, 25, 1, [.string ⟨#[9, 0, 2, 1, 0, 0, 0, 0, 0, 0, 0, 5, 1, 0, 0, 0, 0, 0, 0, 0, 0]⟩], []⟩])
theorem k87 : Knows Tryz.prog 50 m87 := Knows.alike (fuel := 3000) progOk K9T_ok rfl (by kernel_rfl)
noncomputable def ms8_10 : List Memo := [m75, m76]
theorem ks8_10 : KnowsAll Tryz.prog 8 ms8_10 := ⟨k75, k76, trivial⟩
noncomputable def ms20_10 : List Memo := [m79, m85]
theorem ks20_10 : KnowsAll Tryz.prog 20 ms20_10 := ⟨k79, k85, trivial⟩
noncomputable def ms23_10 : List Memo := [m63]
theorem ks23_10 : KnowsAll Tryz.prog 23 ms23_10 := ⟨k63, trivial⟩
noncomputable def ms43_10 : List Memo := [m73, m80, m83]
theorem ks43_10 : KnowsAll Tryz.prog 43 ms43_10 := ⟨k73, k80, k83, trivial⟩
noncomputable def ms45_10 : List Memo := [m81, m84]
theorem ks45_10 : KnowsAll Tryz.prog 45 ms45_10 := ⟨k81, k84, trivial⟩
noncomputable def ms50_10 : List Memo := [m87]
theorem ks50_10 : KnowsAll Tryz.prog 50 ms50_10 := ⟨k87, trivial⟩
noncomputable def ms53_10 : List Memo := [m22, m23, m25, m27, m29, m31, m33, m40, m41, m45, m46, m47, m48, m61, m62, m69]
theorem ks53_10 : KnowsAll Tryz.prog 53 ms53_10 := ⟨k22, k23, k25, k27, k29, k31, k33, k40, k41, k45, k46, k47, k48, k61, k62, k69, trivial⟩
noncomputable def ms54_10 : List Memo := [m70, m71, m74]
theorem ks54_10 : KnowsAll Tryz.prog 54 ms54_10 := ⟨k70, k71, k74, trivial⟩
noncomputable def ms76_10 : List Memo := [m50, m56]
theorem ks76_10 : KnowsAll Tryz.prog 76 ms76_10 := ⟨k50, k56, trivial⟩
noncomputable def ms86_10 : List Memo := [m77, m82, m86]
theorem ks86_10 : KnowsAll Tryz.prog 86 ms86_10 := ⟨k77, k82, k86, trivial⟩
noncomputable def ms133_10 : List Memo := [m58]
theorem ks133_10 : KnowsAll Tryz.prog 133 ms133_10 := ⟨k58, trivial⟩
noncomputable def ms140_10 : List Memo := [m12, m14, m16, m39]
theorem ks140_10 : KnowsAll Tryz.prog 140 ms140_10 := ⟨k12, k14, k16, k39, trivial⟩
noncomputable def ms141_10 : List Memo := [m11, m13, m15, m17, m19]
theorem ks141_10 : KnowsAll Tryz.prog 141 ms141_10 := ⟨k11, k13, k15, k17, k19, trivial⟩
noncomputable def ms147_10 : List Memo := [m51, m52, m53, m54, m64, m65, m66, m72]
theorem ks147_10 : KnowsAll Tryz.prog 147 ms147_10 := ⟨k51, k52, k53, k54, k64, k65, k66, k72, trivial⟩
noncomputable def ms155_10 : List Memo := [m0, m1, m2, m20, m21]
theorem ks155_10 : KnowsAll Tryz.prog 155 ms155_10 := ⟨k0, k1, k2, k20, k21, trivial⟩
noncomputable def ms156_10 : List Memo := [m3, m4, m5, m6, m7, m8, m9, m10, m24, m26, m28, m30, m32, m34, m42, m43, m44, m59, m60, m67]
theorem ks156_10 : KnowsAll Tryz.prog 156 ms156_10 := ⟨k3, k4, k5, k6, k7, k8, k9, k10, k24, k26, k28, k30, k32, k34, k42, k43, k44, k59, k60, k67, trivial⟩
noncomputable def ms207_10 : List Memo := [m18]
theorem ks207_10 : KnowsAll Tryz.prog 207 ms207_10 := ⟨k18, trivial⟩
noncomputable def ms220_10 : List Memo := [m35, m36, m37, m38, m49, m55, m57, m68]
theorem ks220_10 : KnowsAll Tryz.prog 220 ms220_10 := ⟨k35, k36, k37, k38, k49, k55, k57, k68, trivial⟩
noncomputable def ms381_10 : List Memo := [m78]
theorem ks381_10 : KnowsAll Tryz.prog 381 ms381_10 := ⟨k78, trivial⟩
noncomputable def K10T : Tbl := (((((((((((((((((((KDot.memo 8 ms8_10).memo 20 ms20_10).memo 23 ms23_10).memo 43 ms43_10).memo 45 ms45_10).memo 50 ms50_10).memo 53 ms53_10).memo 54 ms54_10).memo 76 ms76_10).memo 86 ms86_10).memo 133 ms133_10).memo 140 ms140_10).memo 141 ms141_10).memo 147 ms147_10).memo 155 ms155_10).memo 156 ms156_10).memo 207 ms207_10).memo 220 ms220_10).memo 381 ms381_10)
theorem K10T_ok : KOk Tryz.prog K10T := (KOk.memoAll (KOk.memoAll (KOk.memoAll (KOk.memoAll (KOk.memoAll (KOk.memoAll (KOk.memoAll (KOk.memoAll (KOk.memoAll (KOk.memoAll (KOk.memoAll (KOk.memoAll (KOk.memoAll (KOk.memoAll (KOk.memoAll (KOk.memoAll (KOk.memoAll (KOk.memoAll (KOk.memoAll KDot_ok ks8_10) ks20_10) ks23_10) ks43_10) ks45_10) ks50_10) ks53_10) ks54_10) ks76_10) ks86_10) ks133_10) ks140_10) ks141_10) ks147_10) ks155_10) ks156_10) ks207_10) ks220_10) ks381_10)
noncomputable def m88 : Memo := ([.string ⟨#[9, 0, 3, 1, 0, 0, 0, 0, 0, 0, 0, 6, 1, 0, 0, 0, 0, 0, 0, 0, 3, 9, 0, 2, 1, 0, 0, 0, 0, 0, 0, 0, 5, 1, 0, 0, 0, 0, 0, 0, 0, 0]⟩], .slice (some ⟨0, 0, none⟩) 1 1, [⟨2, 25, 1, [.string ⟨#[9, 0, 2, 1, 0, 0, 0, 0, 0, 0, 0, 5, 1, 0, 0, 0, 0, 0, 0, 0, 0]⟩], []⟩])
theorem k88 : Knows Tryz.prog 26 m88 := Knows.alike (fuel := 3000) progOk K10T_ok rfl (by kernel_rfl)
noncomputable def ms8_11 : List Memo := [m75, m76]
theorem ks8_11 : KnowsAll Tryz.prog 8 ms8_11 := ⟨k75, k76, trivial⟩
noncomputable def ms20_11 : List Memo := [m79, m85]
theorem ks20_11 : KnowsAll Tryz.prog 20 ms20_11 := ⟨k79, k85, trivial⟩
noncomputable def ms23_11 : List Memo := [m63]
theorem ks23_11 : KnowsAll Tryz.prog 23 ms23_11 := ⟨k63, trivial⟩
noncomputable def ms26_11 : List Memo := [m88]
theorem ks26_11 : KnowsAll Tryz.prog 26 ms26_11 := ⟨k88, trivial⟩
noncomputable def ms43_11 : List Memo := [m73, m80, m83]
theorem ks43_11 : KnowsAll Tryz.prog 43 ms43_11 := ⟨k73, k80, k83, trivial⟩
noncomputable def ms45_11 : List Memo := [m81, m84]
theorem ks45_11 : KnowsAll Tryz.prog 45 ms45_11 := ⟨k81, k84, trivial⟩
noncomputable def ms50_11 : List Memo := [m87]
theorem ks50_11 : KnowsAll Tryz.prog 50 ms50_11 := ⟨k87, trivial⟩
noncomputable def ms53_11 : List Memo := [m22, m23, m25, m27, m29, m31, m33, m40, m41, m45, m46, m47, m48, m61, m62, m69]
theorem ks53_11 : KnowsAll Tryz.prog 53 ms53_11 := ⟨k22, k23, k25, k27, k29, k31, k33, k40, k41, k45, k46, k47, k48, k61, k62, k69, trivial⟩
noncomputable def ms54_11 : List Memo := [m70, m71, m74]
theorem ks54_11 : KnowsAll Tryz.prog 54 ms54_11 := ⟨k70, k71, k74, trivial⟩
noncomputable def ms76_11 : List Memo := [m50, m56]
theorem ks76_11 : KnowsAll Tryz.prog 76 ms76_11 := ⟨k50, k56, trivial⟩
noncomputable def ms86_11 : List Memo := [m77, m82, m86]
theorem ks86_11 : KnowsAll Tryz.prog 86 ms86_11 := ⟨k77, k82, k86, trivial⟩
noncomputable def ms133_11 : List Memo := [m58]
theorem ks133_11 : KnowsAll Tryz.prog 133 ms133_11 := ⟨k58, trivial⟩
noncomputable def ms140_11 : List Memo := [m12, m14, m16, m39]
theorem ks140_11 : KnowsAll Tryz.prog 140 ms140_11 := ⟨k12, k14, k16, k39, trivial⟩
noncomputable def ms141_11 : List Memo := [m11, m13, m15, m17, m19]
theorem ks141_11 : KnowsAll Tryz.prog 141 ms141_11 := ⟨k11, k13, k15, k17, k19, trivial⟩
noncomputable def ms147_11 : List Memo := [m51, m52, m53, m54, m64, m65, m66, m72]
theorem ks147_11 : KnowsAll Tryz.prog 147 ms147_11 := ⟨k51, k52, k53, k54, k64, k65, k66, k72, trivial⟩
noncomputable def ms155_11 : List Memo := [m0, m1, m2, m20, m21]
theorem ks155_11 : KnowsAll Tryz.prog 155 ms155_11 := ⟨k0, k1, k2, k20, k21, trivial⟩
noncomputable def ms156_11 : List Memo := [m3, m4, m5, m6, m7, m8, m9, m10, m24, m26, m28, m30, m32, m34, m42, m43, m44, m59, m60, m67]
theorem ks156_11 : KnowsAll Tryz.prog 156 ms156_11 := ⟨k3, k4, k5, k6, k7, k8, k9, k10, k24, k26, k28, k30, k32, k34, k42, k43, k44, k59, k60, k67, trivial⟩
noncomputable def ms207_11 : List Memo := [m18]
theorem ks207_11 : KnowsAll Tryz.prog 207 ms207_11 := ⟨k18, trivial⟩
noncomputable def ms220_11 : List Memo := [m35, m36, m37, m38, m49, m55, m57, m68]
theorem ks220_11 : KnowsAll Tryz.prog 220 ms220_11 := ⟨k35, k36, k37, k38, k49, k55, k57, k68, trivial⟩
noncomputable def ms381_11 : List Memo := [m78]
theorem ks381_11 : KnowsAll Tryz.prog 381 ms381_11 := ⟨k78, trivial⟩
noncomputable def K11T : Tbl := ((((((((((((((((((((KDot.memo 8 ms8_11).memo 20 ms20_11).memo 23 ms23_11).memo 26 ms26_11).memo 43 ms43_11).memo 45 ms45_11).memo 50 ms50_11).memo 53 ms53_11).memo 54 ms54_11).memo 76 ms76_11).memo 86 ms86_11).memo 133 ms133_11).memo 140 ms140_11).memo 141 ms141_11).memo 147 ms147_11).memo 155 ms155_11).memo 156 ms156_11).memo 207 ms207_11).memo 220 ms220_11).memo 381 ms381_11)
theorem K11T_ok : KOk Tryz.prog K11T := (KOk.memoAll (KOk.memoAll (KOk.memoAll (KOk.memoAll (KOk.memoAll (KOk.memoAll (KOk.memoAll (KOk.memoAll (KOk.memoAll (KOk.memoAll (KOk.memoAll (KOk.memoAll (KOk.memoAll (KOk.memoAll (KOk.memoAll (KOk.memoAll (KOk.memoAll (KOk.memoAll (KOk.memoAll (KOk.memoAll KDot_ok ks8_11) ks20_11) ks23_11) ks26_11) ks43_11) ks45_11) ks50_11) ks53_11) ks54_11) ks76_11) ks86_11) ks133_11) ks140_11) ks141_11) ks147_11) ks155_11) ks156_11) ks207_11) ks220_11) ks381_11)
noncomputable abbrev KT : Tbl := K11T
theorem KT_ok : KOk Tryz.prog KT := K11T_ok
end Go.Proofs.YtacpdefmnijhnaaGreat.U18.Aw
namespace Go.Proofs.YtacpdefmnijhnaaGreat.U18
open Abs U
theorem awake_knows : Knows Tryz.prog 9 ([], .bool true, []) := Knows.alike (fuel := 3000) progOk Aw.KT_ok rfl (by kernel_rfl)
end Go.Proofs.YtacpdefmnijhnaaGreat.U18
