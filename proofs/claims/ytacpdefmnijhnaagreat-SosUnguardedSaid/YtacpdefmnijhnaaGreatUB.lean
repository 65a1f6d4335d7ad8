/- Closed calls that are known, each by its own run. -/
import Derived.Test.YtacpdefmnijhnaaGreatUA
import Derived.KernelRfl
set_option linter.unusedVariables false
namespace Go.Proofs.YtacpdefmnijhnaaGreat.U
open Abs
noncomputable def m0 : Memo := ([.string ⟨#[10, 0, 0]⟩, .int .i64 32, .bool true], .tuple #[.int .i64 3, .slice none 0 0, .int .i64 1], [])
theorem k0 : Knows Tryz.prog 156 m0 := Knows.alike (fuel := 3000) progOk KD_ok rfl (by kernel_rfl)
noncomputable def m1 : Memo := ([.string ⟨#[10, 0, 0]⟩, .int .i64 31, .bool true], .tuple #[.int .i64 3, .slice none 0 0, .int .i64 1], [])
theorem k1 : Knows Tryz.prog 156 m1 := Knows.alike (fuel := 3000) progOk KD_ok rfl (by kernel_rfl)
noncomputable def m2 : Memo := ([.string ⟨#[10, 0, 1]⟩, .int .i64 32, .bool true], .tuple #[.int .i64 3, .slice none 0 0, .int .i64 1], [])
theorem k2 : Knows Tryz.prog 156 m2 := Knows.alike (fuel := 3000) progOk KD_ok rfl (by kernel_rfl)
noncomputable def m3 : Memo := ([.string ⟨#[10, 0, 1]⟩, .int .i64 31, .bool true], .tuple #[.int .i64 3, .slice none 0 0, .int .i64 1], [])
theorem k3 : Knows Tryz.prog 156 m3 := Knows.alike (fuel := 3000) progOk KD_ok rfl (by kernel_rfl)
noncomputable def m4 : Memo := ([.string ⟨#[10, 0, 2]⟩, .int .i64 32, .bool true], .tuple #[.int .i64 3, .slice none 0 0, .int .i64 1], [])
theorem k4 : Knows Tryz.prog 156 m4 := Knows.alike (fuel := 3000) progOk KD_ok rfl (by kernel_rfl)
noncomputable def m5 : Memo := ([.string ⟨#[10, 0, 2]⟩, .int .i64 31, .bool true], .tuple #[.int .i64 3, .slice none 0 0, .int .i64 1], [])
theorem k5 : Knows Tryz.prog 156 m5 := Knows.alike (fuel := 3000) progOk KD_ok rfl (by kernel_rfl)
noncomputable def m6 : Memo := ([.string ⟨#[10, 0, 3]⟩, .int .i64 32, .bool true], .tuple #[.int .i64 3, .slice none 0 0, .int .i64 1], [])
theorem k6 : Knows Tryz.prog 156 m6 := Knows.alike (fuel := 3000) progOk KD_ok rfl (by kernel_rfl)
noncomputable def m7 : Memo := ([.string ⟨#[10, 0, 3]⟩, .int .i64 31, .bool true], .tuple #[.int .i64 3, .slice none 0 0, .int .i64 1], [])
theorem k7 : Knows Tryz.prog 156 m7 := Knows.alike (fuel := 3000) progOk KD_ok rfl (by kernel_rfl)
noncomputable def m8 : Memo := ([.string ⟨#[1, 0, 0, 0, 0, 0, 0, 0, 2]⟩, .int .i64 32, .bool true], .tuple #[.int .i64 9, .slice none 0 0, .int .i64 1], [])
theorem k8 : Knows Tryz.prog 156 m8 := Knows.alike (fuel := 3000) progOk KD_ok rfl (by kernel_rfl)
noncomputable def m9 : Memo := ([.string ⟨#[1, 0, 0, 0, 0, 0, 0, 0, 2]⟩, .int .i64 31, .bool true], .tuple #[.int .i64 9, .slice none 0 0, .int .i64 1], [])
theorem k9 : Knows Tryz.prog 156 m9 := Knows.alike (fuel := 3000) progOk KD_ok rfl (by kernel_rfl)
noncomputable def m10 : Memo := ([.string ⟨#[0, 0, 0, 0, 0, 0, 0, 2]⟩], .int .i64 2, [])
theorem k10 : Knows Tryz.prog 155 m10 := Knows.alike (fuel := 3000) progOk KD_ok rfl (by kernel_rfl)
noncomputable def m11 : Memo := ([.string ⟨#[1, 0, 0, 0, 0, 0, 0, 0, 2]⟩, .int .i64 31, .bool false], .tuple #[.int .i64 9, .slice none 0 0, .int .i64 1], [])
theorem k11 : Knows Tryz.prog 156 m11 := Knows.alike (fuel := 3000) progOk KD_ok rfl (by kernel_rfl)
noncomputable def m12 : Memo := ([.string ⟨#[1, 0, 0, 0, 0, 0, 0, 0, 6]⟩, .int .i64 32, .bool true], .tuple #[.int .i64 9, .slice none 0 0, .int .i64 1], [])
theorem k12 : Knows Tryz.prog 156 m12 := Knows.alike (fuel := 3000) progOk KD_ok rfl (by kernel_rfl)
noncomputable def m13 : Memo := ([.string ⟨#[1, 0, 0, 0, 0, 0, 0, 0, 6, 1, 0, 0, 0, 0, 0, 0, 0, 2, 9, 0, 1, 1, 0, 0, 0, 0, 0, 0, 0, 2]⟩, .int .i64 31, .bool true], .tuple #[.int .i64 9, .slice none 0 0, .int .i64 1], [])
theorem k13 : Knows Tryz.prog 156 m13 := Knows.alike (fuel := 3000) progOk KD_ok rfl (by kernel_rfl)
noncomputable def m14 : Memo := ([.string ⟨#[1, 0, 0, 0, 0, 0, 0, 0, 2, 9, 0, 1, 1, 0, 0, 0, 0, 0, 0, 0, 2]⟩, .int .i64 31, .bool true], .tuple #[.int .i64 9, .slice none 0 0, .int .i64 1], [])
theorem k14 : Knows Tryz.prog 156 m14 := Knows.alike (fuel := 3000) progOk KD_ok rfl (by kernel_rfl)
noncomputable def m15 : Memo := ([.string ⟨#[1, 0, 0, 0, 0, 0, 0, 0, 2]⟩, .int .i64 30, .bool true], .tuple #[.int .i64 9, .slice none 0 0, .int .i64 1], [])
theorem k15 : Knows Tryz.prog 156 m15 := Knows.alike (fuel := 3000) progOk KD_ok rfl (by kernel_rfl)
noncomputable def m16 : Memo := ([.string ⟨#[0, 0, 0, 0, 0, 0, 0, 6]⟩], .int .i64 6, [])
theorem k16 : Knows Tryz.prog 155 m16 := Knows.alike (fuel := 3000) progOk KD_ok rfl (by kernel_rfl)
noncomputable def m17 : Memo := ([.string ⟨#[1, 0, 0, 0, 0, 0, 0, 0, 6, 1, 0, 0, 0, 0, 0, 0, 0, 2, 9, 0, 1, 1, 0, 0, 0, 0, 0, 0, 0, 2]⟩, .int .i64 31, .bool false], .tuple #[.int .i64 9, .slice none 0 0, .int .i64 1], [])
theorem k17 : Knows Tryz.prog 156 m17 := Knows.alike (fuel := 3000) progOk KD_ok rfl (by kernel_rfl)
noncomputable def m18 : Memo := ([.string ⟨#[1, 0, 0, 0, 0, 0, 0, 0, 2, 9, 0, 1, 1, 0, 0, 0, 0, 0, 0, 0, 2]⟩, .int .i64 31, .bool false], .tuple #[.int .i64 9, .slice none 0 0, .int .i64 1], [])
theorem k18 : Knows Tryz.prog 156 m18 := Knows.alike (fuel := 3000) progOk KD_ok rfl (by kernel_rfl)
noncomputable def m19 : Memo := ([.string ⟨#[1, 0, 0, 0, 0, 0, 0, 0, 2]⟩, .int .i64 30, .bool false], .tuple #[.int .i64 9, .slice none 0 0, .int .i64 1], [])
theorem k19 : Knows Tryz.prog 156 m19 := Knows.alike (fuel := 3000) progOk KD_ok rfl (by kernel_rfl)
noncomputable def m20 : Memo := ([.string ⟨#[1, 0, 0, 0, 0, 0, 0, 0, 6, 1, 0, 0, 0, 0, 0, 0, 0, 2, 9, 0, 1, 1, 0, 0, 0, 0, 0, 0, 0, 2]⟩, .int .i64 2], .int .i64 9, [])
theorem k20 : Knows Tryz.prog 147 m20 := Knows.alike (fuel := 3000) progOk KD_ok rfl (by kernel_rfl)
noncomputable def m21 : Memo := ([.string ⟨#[1, 0, 0, 0, 0, 0, 0, 0, 2, 9, 0, 1, 1, 0, 0, 0, 0, 0, 0, 0, 2]⟩, .int .i64 2], .int .i64 9, [])
theorem k21 : Knows Tryz.prog 147 m21 := Knows.alike (fuel := 3000) progOk KD_ok rfl (by kernel_rfl)
noncomputable def m22 : Memo := ([.string ⟨#[1, 0, 0, 0, 0, 0, 0, 0, 2]⟩, .int .i64 3], .int .i64 9, [])
theorem k22 : Knows Tryz.prog 147 m22 := Knows.alike (fuel := 3000) progOk KD_ok rfl (by kernel_rfl)
noncomputable def m23 : Memo := ([.string ⟨#[1, 0, 0, 0, 0, 0, 0, 0, 2]⟩], .int .i64 2, [])
theorem k23 : Knows Tryz.prog 141 m23 := Knows.alike (fuel := 3000) progOk KD_ok rfl (by kernel_rfl)
noncomputable def m24 : Memo := ([.string ⟨#[1, 0, 0, 0, 0, 0, 0, 0, 6]⟩], .int .i64 6, [])
theorem k24 : Knows Tryz.prog 141 m24 := Knows.alike (fuel := 3000) progOk KD_ok rfl (by kernel_rfl)
noncomputable def m25 : Memo := ([.string ⟨#[9, 0, 1, 1, 0, 0, 0, 0, 0, 0, 0, 2]⟩], .int .i64 12, [])
theorem k25 : Knows Tryz.prog 207 m25 := Knows.alike (fuel := 3000) progOk KD_ok rfl (by kernel_rfl)
noncomputable def m26 : Memo := ([.string ⟨#[1, 0, 0, 0, 0, 0, 0, 0, 6]⟩, .int .i64 1], .int .i64 9, [])
theorem k26 : Knows Tryz.prog 147 m26 := Knows.alike (fuel := 3000) progOk KD_ok rfl (by kernel_rfl)
noncomputable def m27 : Memo := ([.string ⟨#[1, 0, 0, 0, 0, 0, 0, 0, 2]⟩, .int .i64 1], .int .i64 9, [])
theorem k27 : Knows Tryz.prog 147 m27 := Knows.alike (fuel := 3000) progOk KD_ok rfl (by kernel_rfl)
noncomputable def m28 : Memo := ([.string ⟨#[1, 0, 0, 0, 0, 0, 0, 0, 2]⟩, .int .i64 2], .int .i64 9, [])
theorem k28 : Knows Tryz.prog 147 m28 := Knows.alike (fuel := 3000) progOk KD_ok rfl (by kernel_rfl)
noncomputable def m29 : Memo := ([.string ⟨#[9, 0, 1, 1, 0, 0, 0, 0, 0, 0, 0, 2]⟩], .slice (some ⟨0, 0, none⟩) 1 1, [⟨2, 25, 1, [.string ⟨#[1, 0, 0, 0, 0, 0, 0, 0, 2]⟩], []⟩])
theorem k29 : Knows Tryz.prog 140 m29 := Knows.alike (fuel := 3000) progOk KD_ok rfl (by kernel_rfl)
noncomputable def m30 : Memo := ([.string ⟨#[1, 0, 0, 0, 0, 0, 0, 0, 4]⟩, .int .i64 1], .int .i64 9, [])
theorem k30 : Knows Tryz.prog 147 m30 := Knows.alike (fuel := 3000) progOk KD_ok rfl (by kernel_rfl)
noncomputable def m31 : Memo := ([.string ⟨#[1, 0, 0, 0, 0, 0, 0, 0, 4]⟩, .int .i64 2], .int .i64 9, [])
theorem k31 : Knows Tryz.prog 147 m31 := Knows.alike (fuel := 3000) progOk KD_ok rfl (by kernel_rfl)
noncomputable def m32 : Memo := ([.string ⟨#[1, 0, 0, 0, 0, 0, 0, 0, 4]⟩], .int .i64 4, [])
theorem k32 : Knows Tryz.prog 141 m32 := Knows.alike (fuel := 3000) progOk KD_ok rfl (by kernel_rfl)
noncomputable def m33 : Memo := ([.string ⟨#[9, 0, 1, 1, 0, 0, 0, 0, 0, 0, 0, 4]⟩], .slice (some ⟨0, 0, none⟩) 1 1, [⟨2, 25, 1, [.string ⟨#[1, 0, 0, 0, 0, 0, 0, 0, 4]⟩], []⟩])
theorem k33 : Knows Tryz.prog 140 m33 := Knows.alike (fuel := 3000) progOk KD_ok rfl (by kernel_rfl)
noncomputable def ms140_0 : List Memo := [m29, m33]
theorem ks140_0 : KnowsAll Tryz.prog 140 ms140_0 := ⟨k29, k33, trivial⟩
noncomputable def ms141_0 : List Memo := [m23, m24, m32]
theorem ks141_0 : KnowsAll Tryz.prog 141 ms141_0 := ⟨k23, k24, k32, trivial⟩
noncomputable def ms147_0 : List Memo := [m20, m21, m22, m26, m27, m28, m30, m31]
theorem ks147_0 : KnowsAll Tryz.prog 147 ms147_0 := ⟨k20, k21, k22, k26, k27, k28, k30, k31, trivial⟩
noncomputable def ms155_0 : List Memo := [m10, m16]
theorem ks155_0 : KnowsAll Tryz.prog 155 ms155_0 := ⟨k10, k16, trivial⟩
noncomputable def ms156_0 : List Memo := [m0, m1, m2, m3, m4, m5, m6, m7, m8, m9, m11, m12, m13, m14, m15, m17, m18, m19]
theorem ks156_0 : KnowsAll Tryz.prog 156 ms156_0 := ⟨k0, k1, k2, k3, k4, k5, k6, k7, k8, k9, k11, k12, k13, k14, k15, k17, k18, k19, trivial⟩
noncomputable def ms207_0 : List Memo := [m25]
theorem ks207_0 : KnowsAll Tryz.prog 207 ms207_0 := ⟨k25, trivial⟩
noncomputable def K0T : Tbl := ((((((KD.memo 140 ms140_0).memo 141 ms141_0).memo 147 ms147_0).memo 155 ms155_0).memo 156 ms156_0).memo 207 ms207_0)
theorem K0T_ok : KOk Tryz.prog K0T := (KOk.memoAll (KOk.memoAll (KOk.memoAll (KOk.memoAll (KOk.memoAll (KOk.memoAll KD_ok ks140_0) ks141_0) ks147_0) ks155_0) ks156_0) ks207_0)
noncomputable def m34 : Memo := ([.string ⟨#[10, 0, 0]⟩], .bool true, [])
theorem k34 : Knows Tryz.prog 53 m34 := Knows.alike (fuel := 3000) progOk K0T_ok rfl (by kernel_rfl)
noncomputable def m35 : Memo := ([.string ⟨#[7, 0, 1, 10, 0, 0]⟩, .int .i64 32, .bool true], .tuple #[.int .i64 6, .slice (some ⟨0, 0, none⟩) 1 18446744073709551617, .int .i64 2], [⟨2, 25, 1, [.string ⟨#[10, 0, 0]⟩], []⟩])
theorem k35 : Knows Tryz.prog 156 m35 := Knows.alike (fuel := 3000) progOk K0T_ok rfl (by kernel_rfl)
noncomputable def m36 : Memo := ([.string ⟨#[10, 0, 1]⟩], .bool true, [])
theorem k36 : Knows Tryz.prog 53 m36 := Knows.alike (fuel := 3000) progOk K0T_ok rfl (by kernel_rfl)
noncomputable def m37 : Memo := ([.string ⟨#[7, 0, 1, 10, 0, 1]⟩, .int .i64 32, .bool true], .tuple #[.int .i64 6, .slice (some ⟨0, 0, none⟩) 1 18446744073709551617, .int .i64 2], [⟨2, 25, 1, [.string ⟨#[10, 0, 1]⟩], []⟩])
theorem k37 : Knows Tryz.prog 156 m37 := Knows.alike (fuel := 3000) progOk K0T_ok rfl (by kernel_rfl)
noncomputable def m38 : Memo := ([.string ⟨#[10, 0, 2]⟩], .bool true, [])
theorem k38 : Knows Tryz.prog 53 m38 := Knows.alike (fuel := 3000) progOk K0T_ok rfl (by kernel_rfl)
noncomputable def m39 : Memo := ([.string ⟨#[7, 0, 1, 10, 0, 2]⟩, .int .i64 32, .bool true], .tuple #[.int .i64 6, .slice (some ⟨0, 0, none⟩) 1 18446744073709551617, .int .i64 2], [⟨2, 25, 1, [.string ⟨#[10, 0, 2]⟩], []⟩])
theorem k39 : Knows Tryz.prog 156 m39 := Knows.alike (fuel := 3000) progOk K0T_ok rfl (by kernel_rfl)
noncomputable def m40 : Memo := ([.string ⟨#[10, 0, 3]⟩], .bool true, [])
theorem k40 : Knows Tryz.prog 53 m40 := Knows.alike (fuel := 3000) progOk K0T_ok rfl (by kernel_rfl)
noncomputable def m41 : Memo := ([.string ⟨#[7, 0, 1, 10, 0, 3]⟩, .int .i64 32, .bool true], .tuple #[.int .i64 6, .slice (some ⟨0, 0, none⟩) 1 18446744073709551617, .int .i64 2], [⟨2, 25, 1, [.string ⟨#[10, 0, 3]⟩], []⟩])
theorem k41 : Knows Tryz.prog 156 m41 := Knows.alike (fuel := 3000) progOk K0T_ok rfl (by kernel_rfl)
noncomputable def m42 : Memo := ([.string ⟨#[1, 0, 0, 0, 0, 0, 0, 0, 2]⟩], .bool true, [])
theorem k42 : Knows Tryz.prog 53 m42 := Knows.alike (fuel := 3000) progOk K0T_ok rfl (by kernel_rfl)
noncomputable def m43 : Memo := ([.string ⟨#[1, 0, 0, 0, 0, 0, 0, 0, 2]⟩, .int .i64 1, .int .i64 21], .bool true, [])
theorem k43 : Knows Tryz.prog 329 m43 := Knows.alike (fuel := 3000) progOk K0T_ok rfl (by kernel_rfl)
noncomputable def m44 : Memo := ([.string ⟨#[9, 0, 1, 1, 0, 0, 0, 0, 0, 0, 0, 2]⟩, .int .i64 32, .bool false], .tuple #[.int .i64 12, .slice (some ⟨0, 0, none⟩) 1 18446744073709551617, .int .i64 2], [⟨2, 25, 1, [.string ⟨#[1, 0, 0, 0, 0, 0, 0, 0, 2]⟩], []⟩])
theorem k44 : Knows Tryz.prog 156 m44 := Knows.alike (fuel := 3000) progOk K0T_ok rfl (by kernel_rfl)
noncomputable def m45 : Memo := ([.string ⟨#[1, 0, 0, 0, 0, 0, 0, 0, 6]⟩], .bool true, [])
theorem k45 : Knows Tryz.prog 53 m45 := Knows.alike (fuel := 3000) progOk K0T_ok rfl (by kernel_rfl)
noncomputable def m46 : Memo := ([.string ⟨#[1, 0, 0, 0, 0, 0, 0, 0, 6]⟩, .int .i64 1, .int .i64 21], .bool true, [])
theorem k46 : Knows Tryz.prog 329 m46 := Knows.alike (fuel := 3000) progOk K0T_ok rfl (by kernel_rfl)
noncomputable def m47 : Memo := ([.string ⟨#[9, 0, 1, 1, 0, 0, 0, 0, 0, 0, 0, 2]⟩, .int .i64 31, .bool false], .tuple #[.int .i64 12, .slice (some ⟨0, 0, none⟩) 1 18446744073709551617, .int .i64 2], [⟨2, 25, 1, [.string ⟨#[1, 0, 0, 0, 0, 0, 0, 0, 2]⟩], []⟩])
theorem k47 : Knows Tryz.prog 156 m47 := Knows.alike (fuel := 3000) progOk K0T_ok rfl (by kernel_rfl)
noncomputable def m48 : Memo := ([.string ⟨#[1, 0, 0, 0, 0, 0, 0, 0, 2]⟩, .int .i64 1, .int .i64 21], .bool true, [])
theorem k48 : Knows Tryz.prog 374 m48 := Knows.alike (fuel := 3000) progOk K0T_ok rfl (by kernel_rfl)
noncomputable def m49 : Memo := ([.string ⟨#[1, 0, 0, 0, 0, 0, 0, 0, 6]⟩, .int .i64 1, .int .i64 21], .bool true, [])
theorem k49 : Knows Tryz.prog 374 m49 := Knows.alike (fuel := 3000) progOk K0T_ok rfl (by kernel_rfl)
noncomputable def m50 : Memo := ([.string ⟨#[9, 0, 3, 1, 0, 0, 0, 0, 0, 0, 0, 6, 1, 0, 0, 0, 0, 0, 0, 0, 2, 9, 0, 1, 1, 0, 0, 0, 0, 0, 0, 0, 2]⟩], .slice (some ⟨0, 0, none⟩) 3 3, [⟨2, 25, 1, [.string ⟨#[1, 0, 0, 0, 0, 0, 0, 0, 6]⟩, .string ⟨#[1, 0, 0, 0, 0, 0, 0, 0, 2]⟩, .string ⟨#[9, 0, 1, 1, 0, 0, 0, 0, 0, 0, 0, 2]⟩], []⟩])
theorem k50 : Knows Tryz.prog 140 m50 := Knows.alike (fuel := 3000) progOk K0T_ok rfl (by kernel_rfl)
noncomputable def m51 : Memo := ([.string ⟨#[1, 0, 0, 0, 0, 0, 0, 0, 6]⟩], .int .i64 1, [])
theorem k51 : Knows Tryz.prog 83 m51 := Knows.alike (fuel := 3000) progOk K0T_ok rfl (by kernel_rfl)
noncomputable def m52 : Memo := ([.string ⟨#[1, 0, 0, 0, 0, 0, 0, 0, 2]⟩], .int .i64 1, [])
theorem k52 : Knows Tryz.prog 83 m52 := Knows.alike (fuel := 3000) progOk K0T_ok rfl (by kernel_rfl)
noncomputable def m53 : Memo := ([.string ⟨#[1, 0, 0, 0, 0, 0, 0, 0, 4]⟩], .bool false, [])
theorem k53 : Knows Tryz.prog 376 m53 := Knows.alike (fuel := 3000) progOk K0T_ok rfl (by kernel_rfl)
noncomputable def m54 : Memo := ([.string ⟨#[1, 0, 0, 0, 0, 0, 0, 0, 4]⟩, .int .i64 1, .int .i64 21], .bool true, [])
theorem k54 : Knows Tryz.prog 374 m54 := Knows.alike (fuel := 3000) progOk K0T_ok rfl (by kernel_rfl)
noncomputable def m55 : Memo := ([.string ⟨#[1, 0, 0, 0, 0, 0, 0, 0, 4]⟩], .int .i64 1, [])
theorem k55 : Knows Tryz.prog 83 m55 := Knows.alike (fuel := 3000) progOk K0T_ok rfl (by kernel_rfl)
noncomputable def ms53_1 : List Memo := [m34, m36, m38, m40, m42, m45]
theorem ks53_1 : KnowsAll Tryz.prog 53 ms53_1 := ⟨k34, k36, k38, k40, k42, k45, trivial⟩
noncomputable def ms83_1 : List Memo := [m51, m52, m55]
theorem ks83_1 : KnowsAll Tryz.prog 83 ms83_1 := ⟨k51, k52, k55, trivial⟩
noncomputable def ms140_1 : List Memo := [m29, m33, m50]
theorem ks140_1 : KnowsAll Tryz.prog 140 ms140_1 := ⟨k29, k33, k50, trivial⟩
noncomputable def ms141_1 : List Memo := [m23, m24, m32]
theorem ks141_1 : KnowsAll Tryz.prog 141 ms141_1 := ⟨k23, k24, k32, trivial⟩
noncomputable def ms147_1 : List Memo := [m20, m21, m22, m26, m27, m28, m30, m31]
theorem ks147_1 : KnowsAll Tryz.prog 147 ms147_1 := ⟨k20, k21, k22, k26, k27, k28, k30, k31, trivial⟩
noncomputable def ms155_1 : List Memo := [m10, m16]
theorem ks155_1 : KnowsAll Tryz.prog 155 ms155_1 := ⟨k10, k16, trivial⟩
noncomputable def ms156_1 : List Memo := [m0, m1, m2, m3, m4, m5, m6, m7, m8, m9, m11, m12, m13, m14, m15, m17, m18, m19, m35, m37, m39, m41, m44, m47]
theorem ks156_1 : KnowsAll Tryz.prog 156 ms156_1 := ⟨k0, k1, k2, k3, k4, k5, k6, k7, k8, k9, k11, k12, k13, k14, k15, k17, k18, k19, k35, k37, k39, k41, k44, k47, trivial⟩
noncomputable def ms207_1 : List Memo := [m25]
theorem ks207_1 : KnowsAll Tryz.prog 207 ms207_1 := ⟨k25, trivial⟩
noncomputable def ms329_1 : List Memo := [m43, m46]
theorem ks329_1 : KnowsAll Tryz.prog 329 ms329_1 := ⟨k43, k46, trivial⟩
noncomputable def ms374_1 : List Memo := [m48, m49, m54]
theorem ks374_1 : KnowsAll Tryz.prog 374 ms374_1 := ⟨k48, k49, k54, trivial⟩
noncomputable def ms376_1 : List Memo := [m53]
theorem ks376_1 : KnowsAll Tryz.prog 376 ms376_1 := ⟨k53, trivial⟩
noncomputable def K1T : Tbl := (((((((((((KD.memo 53 ms53_1).memo 83 ms83_1).memo 140 ms140_1).memo 141 ms141_1).memo 147 ms147_1).memo 155 ms155_1).memo 156 ms156_1).memo 207 ms207_1).memo 329 ms329_1).memo 374 ms374_1).memo 376 ms376_1)
theorem K1T_ok : KOk Tryz.prog K1T := (KOk.memoAll (KOk.memoAll (KOk.memoAll (KOk.memoAll (KOk.memoAll (KOk.memoAll (KOk.memoAll (KOk.memoAll (KOk.memoAll (KOk.memoAll (KOk.memoAll KD_ok ks53_1) ks83_1) ks140_1) ks141_1) ks147_1) ks155_1) ks156_1) ks207_1) ks329_1) ks374_1) ks376_1)
noncomputable def m56 : Memo := ([.string ⟨#[7, 0, 1, 10, 0, 0]⟩], .bool true, [])
theorem k56 : Knows Tryz.prog 53 m56 := Knows.alike (fuel := 3000) progOk K1T_ok rfl (by kernel_rfl)
noncomputable def m57 : Memo := ([.string ⟨#[7, 0, 1, 10, 0, 1]⟩], .bool true, [])
theorem k57 : Knows Tryz.prog 53 m57 := Knows.alike (fuel := 3000) progOk K1T_ok rfl (by kernel_rfl)
noncomputable def m58 : Memo := ([.string ⟨#[7, 0, 1, 10, 0, 2]⟩], .bool true, [])
theorem k58 : Knows Tryz.prog 53 m58 := Knows.alike (fuel := 3000) progOk K1T_ok rfl (by kernel_rfl)
noncomputable def m59 : Memo := ([.string ⟨#[7, 0, 1, 10, 0, 3]⟩], .bool true, [])
theorem k59 : Knows Tryz.prog 53 m59 := Knows.alike (fuel := 3000) progOk K1T_ok rfl (by kernel_rfl)
noncomputable def m60 : Memo := ([.string ⟨#[9, 0, 1, 1, 0, 0, 0, 0, 0, 0, 0, 2]⟩, .int .i64 32, .bool true], .tuple #[.int .i64 12, .slice (some ⟨0, 0, none⟩) 1 18446744073709551617, .int .i64 2], [⟨2, 25, 1, [.string ⟨#[1, 0, 0, 0, 0, 0, 0, 0, 2]⟩], []⟩])
theorem k60 : Knows Tryz.prog 156 m60 := Knows.alike (fuel := 3000) progOk K1T_ok rfl (by kernel_rfl)
noncomputable def m61 : Memo := ([.string ⟨#[1, 0, 0, 0, 0, 0, 0, 0, 2]⟩], .int .i64 1, [])
theorem k61 : Knows Tryz.prog 108 m61 := Knows.alike (fuel := 3000) progOk K1T_ok rfl (by kernel_rfl)
noncomputable def m62 : Memo := ([.string ⟨#[9, 0, 1, 1, 0, 0, 0, 0, 0, 0, 0, 2]⟩, .int .i64 31, .bool true], .tuple #[.int .i64 12, .slice (some ⟨0, 0, none⟩) 1 18446744073709551617, .int .i64 2], [⟨2, 25, 1, [.string ⟨#[1, 0, 0, 0, 0, 0, 0, 0, 2]⟩], []⟩])
theorem k62 : Knows Tryz.prog 156 m62 := Knows.alike (fuel := 3000) progOk K1T_ok rfl (by kernel_rfl)
noncomputable def m63 : Memo := ([.string ⟨#[9, 0, 3, 1, 0, 0, 0, 0, 0, 0, 0, 6, 1, 0, 0, 0, 0, 0, 0, 0, 2, 9, 0, 1, 1, 0, 0, 0, 0, 0, 0, 0, 2]⟩, .int .i64 32, .bool false], .tuple #[.int .i64 33, .slice (some ⟨0, 0, none⟩) 3 18446744073709551619, .int .i64 3], [⟨2, 25, 1, [.string ⟨#[1, 0, 0, 0, 0, 0, 0, 0, 6]⟩, .string ⟨#[1, 0, 0, 0, 0, 0, 0, 0, 2]⟩, .string ⟨#[9, 0, 1, 1, 0, 0, 0, 0, 0, 0, 0, 2]⟩], []⟩])
theorem k63 : Knows Tryz.prog 156 m63 := Knows.alike (fuel := 3000) progOk K1T_ok rfl (by kernel_rfl)
noncomputable def m64 : Memo := ([.string ⟨#[1, 0, 0, 0, 0, 0, 0, 0, 6]⟩], .int .i64 1, [])
theorem k64 : Knows Tryz.prog 108 m64 := Knows.alike (fuel := 3000) progOk K1T_ok rfl (by kernel_rfl)
noncomputable def m65 : Memo := ([.string ⟨#[9, 0, 1, 1, 0, 0, 0, 0, 0, 0, 0, 2]⟩, .int .i64 2], .int .i64 12, [])
theorem k65 : Knows Tryz.prog 220 m65 := Knows.alike (fuel := 3000) progOk K1T_ok rfl (by kernel_rfl)
noncomputable def m66 : Memo := ([.string ⟨#[1, 0, 0, 0, 0, 0, 0, 0, 6]⟩], .int .i64 6, [])
theorem k66 : Knows Tryz.prog 85 m66 := Knows.alike (fuel := 3000) progOk K1T_ok rfl (by kernel_rfl)
noncomputable def m67 : Memo := ([.string ⟨#[1, 0, 0, 0, 0, 0, 0, 0, 2]⟩], .int .i64 2, [])
theorem k67 : Knows Tryz.prog 85 m67 := Knows.alike (fuel := 3000) progOk K1T_ok rfl (by kernel_rfl)
noncomputable def m68 : Memo := ([.string ⟨#[9, 0, 1, 1, 0, 0, 0, 0, 0, 0, 0, 2]⟩, .int .i64 1], .int .i64 12, [])
theorem k68 : Knows Tryz.prog 220 m68 := Knows.alike (fuel := 3000) progOk K1T_ok rfl (by kernel_rfl)
noncomputable def m69 : Memo := ([.string ⟨#[9, 0, 1, 1, 0, 0, 0, 0, 0, 0, 0, 4]⟩, .int .i64 1], .int .i64 12, [])
theorem k69 : Knows Tryz.prog 220 m69 := Knows.alike (fuel := 3000) progOk K1T_ok rfl (by kernel_rfl)
noncomputable def m70 : Memo := ([.string ⟨#[1, 0, 0, 0, 0, 0, 0, 0, 4]⟩], .int .i64 4, [])
theorem k70 : Knows Tryz.prog 85 m70 := Knows.alike (fuel := 3000) progOk K1T_ok rfl (by kernel_rfl)
noncomputable def ms53_2 : List Memo := [m34, m36, m38, m40, m42, m45, m56, m57, m58, m59]
theorem ks53_2 : KnowsAll Tryz.prog 53 ms53_2 := ⟨k34, k36, k38, k40, k42, k45, k56, k57, k58, k59, trivial⟩
noncomputable def ms83_2 : List Memo := [m51, m52, m55]
theorem ks83_2 : KnowsAll Tryz.prog 83 ms83_2 := ⟨k51, k52, k55, trivial⟩
noncomputable def ms85_2 : List Memo := [m66, m67, m70]
theorem ks85_2 : KnowsAll Tryz.prog 85 ms85_2 := ⟨k66, k67, k70, trivial⟩
noncomputable def ms108_2 : List Memo := [m61, m64]
theorem ks108_2 : KnowsAll Tryz.prog 108 ms108_2 := ⟨k61, k64, trivial⟩
noncomputable def ms140_2 : List Memo := [m29, m33, m50]
theorem ks140_2 : KnowsAll Tryz.prog 140 ms140_2 := ⟨k29, k33, k50, trivial⟩
noncomputable def ms141_2 : List Memo := [m23, m24, m32]
theorem ks141_2 : KnowsAll Tryz.prog 141 ms141_2 := ⟨k23, k24, k32, trivial⟩
noncomputable def ms147_2 : List Memo := [m20, m21, m22, m26, m27, m28, m30, m31]
theorem ks147_2 : KnowsAll Tryz.prog 147 ms147_2 := ⟨k20, k21, k22, k26, k27, k28, k30, k31, trivial⟩
noncomputable def ms155_2 : List Memo := [m10, m16]
theorem ks155_2 : KnowsAll Tryz.prog 155 ms155_2 := ⟨k10, k16, trivial⟩
noncomputable def ms156_2 : List Memo := [m0, m1, m2, m3, m4, m5, m6, m7, m8, m9, m11, m12, m13, m14, m15, m17, m18, m19, m35, m37, m39, m41, m44, m47, m60, m62, m63]
theorem ks156_2 : KnowsAll Tryz.prog 156 ms156_2 := ⟨k0, k1, k2, k3, k4, k5, k6, k7, k8, k9, k11, k12, k13, k14, k15, k17, k18, k19, k35, k37, k39, k41, k44, k47, k60, k62, k63, trivial⟩
noncomputable def ms207_2 : List Memo := [m25]
theorem ks207_2 : KnowsAll Tryz.prog 207 ms207_2 := ⟨k25, trivial⟩
noncomputable def ms220_2 : List Memo := [m65, m68, m69]
theorem ks220_2 : KnowsAll Tryz.prog 220 ms220_2 := ⟨k65, k68, k69, trivial⟩
noncomputable def ms329_2 : List Memo := [m43, m46]
theorem ks329_2 : KnowsAll Tryz.prog 329 ms329_2 := ⟨k43, k46, trivial⟩
noncomputable def ms374_2 : List Memo := [m48, m49, m54]
theorem ks374_2 : KnowsAll Tryz.prog 374 ms374_2 := ⟨k48, k49, k54, trivial⟩
noncomputable def ms376_2 : List Memo := [m53]
theorem ks376_2 : KnowsAll Tryz.prog 376 ms376_2 := ⟨k53, trivial⟩
noncomputable def K2T : Tbl := ((((((((((((((KD.memo 53 ms53_2).memo 83 ms83_2).memo 85 ms85_2).memo 108 ms108_2).memo 140 ms140_2).memo 141 ms141_2).memo 147 ms147_2).memo 155 ms155_2).memo 156 ms156_2).memo 207 ms207_2).memo 220 ms220_2).memo 329 ms329_2).memo 374 ms374_2).memo 376 ms376_2)
theorem K2T_ok : KOk Tryz.prog K2T := (KOk.memoAll (KOk.memoAll (KOk.memoAll (KOk.memoAll (KOk.memoAll (KOk.memoAll (KOk.memoAll (KOk.memoAll (KOk.memoAll (KOk.memoAll (KOk.memoAll (KOk.memoAll (KOk.memoAll (KOk.memoAll KD_ok ks53_2) ks83_2) ks85_2) ks108_2) ks140_2) ks141_2) ks147_2) ks155_2) ks156_2) ks207_2) ks220_2) ks329_2) ks374_2) ks376_2)
noncomputable def m71 : Memo := ([.string ⟨#[9, 0, 1, 1, 0, 0, 0, 0, 0, 0, 0, 2]⟩], .bool true, [])
theorem k71 : Knows Tryz.prog 53 m71 := Knows.alike (fuel := 3000) progOk K2T_ok rfl (by kernel_rfl)
noncomputable def m72 : Memo := ([.string ⟨#[1, 0, 0, 0, 0, 0, 0, 0, 2]⟩], .int .i64 2, [])
theorem k72 : Knows Tryz.prog 109 m72 := Knows.alike (fuel := 3000) progOk K2T_ok rfl (by kernel_rfl)
noncomputable def m73 : Memo := ([.string ⟨#[9, 0, 3, 1, 0, 0, 0, 0, 0, 0, 0, 6, 1, 0, 0, 0, 0, 0, 0, 0, 2, 9, 0, 1, 1, 0, 0, 0, 0, 0, 0, 0, 2]⟩, .int .i64 32, .bool true], .tuple #[.int .i64 33, .slice (some ⟨0, 0, none⟩) 3 18446744073709551619, .int .i64 3], [⟨2, 25, 1, [.string ⟨#[1, 0, 0, 0, 0, 0, 0, 0, 6]⟩, .string ⟨#[1, 0, 0, 0, 0, 0, 0, 0, 2]⟩, .string ⟨#[9, 0, 1, 1, 0, 0, 0, 0, 0, 0, 0, 2]⟩], []⟩])
theorem k73 : Knows Tryz.prog 156 m73 := Knows.alike (fuel := 3000) progOk K2T_ok rfl (by kernel_rfl)
noncomputable def m74 : Memo := ([.string ⟨#[1, 0, 0, 0, 0, 0, 0, 0, 6]⟩], .int .i64 6, [])
theorem k74 : Knows Tryz.prog 109 m74 := Knows.alike (fuel := 3000) progOk K2T_ok rfl (by kernel_rfl)
noncomputable def m75 : Memo := ([.string ⟨#[9, 0, 1, 1, 0, 0, 0, 0, 0, 0, 0, 2]⟩, .int .i64 2], .int .i64 12, [])
theorem k75 : Knows Tryz.prog 147 m75 := Knows.alike (fuel := 3000) progOk K2T_ok rfl (by kernel_rfl)
noncomputable def m76 : Memo := ([.string ⟨#[1, 0, 0, 0, 0, 0, 0, 0, 2]⟩], .tuple #[.int .i64 2, .bool true], [])
theorem k76 : Knows Tryz.prog 133 m76 := Knows.alike (fuel := 3000) progOk K2T_ok rfl (by kernel_rfl)
noncomputable def m77 : Memo := ([.string ⟨#[9, 0, 1, 1, 0, 0, 0, 0, 0, 0, 0, 2]⟩, .int .i64 1], .int .i64 12, [])
theorem k77 : Knows Tryz.prog 147 m77 := Knows.alike (fuel := 3000) progOk K2T_ok rfl (by kernel_rfl)
noncomputable def m78 : Memo := ([.string ⟨#[9, 0, 1, 1, 0, 0, 0, 0, 0, 0, 0, 4]⟩, .int .i64 1], .int .i64 12, [])
theorem k78 : Knows Tryz.prog 147 m78 := Knows.alike (fuel := 3000) progOk K2T_ok rfl (by kernel_rfl)
noncomputable def ms53_3 : List Memo := [m34, m36, m38, m40, m42, m45, m56, m57, m58, m59, m71]
theorem ks53_3 : KnowsAll Tryz.prog 53 ms53_3 := ⟨k34, k36, k38, k40, k42, k45, k56, k57, k58, k59, k71, trivial⟩
noncomputable def ms83_3 : List Memo := [m51, m52, m55]
theorem ks83_3 : KnowsAll Tryz.prog 83 ms83_3 := ⟨k51, k52, k55, trivial⟩
noncomputable def ms85_3 : List Memo := [m66, m67, m70]
theorem ks85_3 : KnowsAll Tryz.prog 85 ms85_3 := ⟨k66, k67, k70, trivial⟩
noncomputable def ms108_3 : List Memo := [m61, m64]
theorem ks108_3 : KnowsAll Tryz.prog 108 ms108_3 := ⟨k61, k64, trivial⟩
noncomputable def ms109_3 : List Memo := [m72, m74]
theorem ks109_3 : KnowsAll Tryz.prog 109 ms109_3 := ⟨k72, k74, trivial⟩
noncomputable def ms133_3 : List Memo := [m76]
theorem ks133_3 : KnowsAll Tryz.prog 133 ms133_3 := ⟨k76, trivial⟩
noncomputable def ms140_3 : List Memo := [m29, m33, m50]
theorem ks140_3 : KnowsAll Tryz.prog 140 ms140_3 := ⟨k29, k33, k50, trivial⟩
noncomputable def ms141_3 : List Memo := [m23, m24, m32]
theorem ks141_3 : KnowsAll Tryz.prog 141 ms141_3 := ⟨k23, k24, k32, trivial⟩
noncomputable def ms147_3 : List Memo := [m20, m21, m22, m26, m27, m28, m30, m31, m75, m77, m78]
theorem ks147_3 : KnowsAll Tryz.prog 147 ms147_3 := ⟨k20, k21, k22, k26, k27, k28, k30, k31, k75, k77, k78, trivial⟩
noncomputable def ms155_3 : List Memo := [m10, m16]
theorem ks155_3 : KnowsAll Tryz.prog 155 ms155_3 := ⟨k10, k16, trivial⟩
noncomputable def ms156_3 : List Memo := [m0, m1, m2, m3, m4, m5, m6, m7, m8, m9, m11, m12, m13, m14, m15, m17, m18, m19, m35, m37, m39, m41, m44, m47, m60, m62, m63, m73]
theorem ks156_3 : KnowsAll Tryz.prog 156 ms156_3 := ⟨k0, k1, k2, k3, k4, k5, k6, k7, k8, k9, k11, k12, k13, k14, k15, k17, k18, k19, k35, k37, k39, k41, k44, k47, k60, k62, k63, k73, trivial⟩
noncomputable def ms207_3 : List Memo := [m25]
theorem ks207_3 : KnowsAll Tryz.prog 207 ms207_3 := ⟨k25, trivial⟩
noncomputable def ms220_3 : List Memo := [m65, m68, m69]
theorem ks220_3 : KnowsAll Tryz.prog 220 ms220_3 := ⟨k65, k68, k69, trivial⟩
noncomputable def ms329_3 : List Memo := [m43, m46]
theorem ks329_3 : KnowsAll Tryz.prog 329 ms329_3 := ⟨k43, k46, trivial⟩
noncomputable def ms374_3 : List Memo := [m48, m49, m54]
theorem ks374_3 : KnowsAll Tryz.prog 374 ms374_3 := ⟨k48, k49, k54, trivial⟩
noncomputable def ms376_3 : List Memo := [m53]
theorem ks376_3 : KnowsAll Tryz.prog 376 ms376_3 := ⟨k53, trivial⟩
noncomputable def K3T : Tbl := ((((((((((((((((KD.memo 53 ms53_3).memo 83 ms83_3).memo 85 ms85_3).memo 108 ms108_3).memo 109 ms109_3).memo 133 ms133_3).memo 140 ms140_3).memo 141 ms141_3).memo 147 ms147_3).memo 155 ms155_3).memo 156 ms156_3).memo 207 ms207_3).memo 220 ms220_3).memo 329 ms329_3).memo 374 ms374_3).memo 376 ms376_3)
theorem K3T_ok : KOk Tryz.prog K3T := (KOk.memoAll (KOk.memoAll (KOk.memoAll (KOk.memoAll (KOk.memoAll (KOk.memoAll (KOk.memoAll (KOk.memoAll (KOk.memoAll (KOk.memoAll (KOk.memoAll (KOk.memoAll (KOk.memoAll (KOk.memoAll (KOk.memoAll (KOk.memoAll KD_ok ks53_3) ks83_3) ks85_3) ks108_3) ks109_3) ks133_3) ks140_3) ks141_3) ks147_3) ks155_3) ks156_3) ks207_3) ks220_3) ks329_3) ks374_3) ks376_3)
noncomputable def m79 : Memo := ([.string ⟨#[9, 0, 1, 1, 0, 0, 0, 0, 0, 0, 0, 2]⟩], .slice (some ⟨0, 0, none⟩) 1 18446744073709551617, [⟨2, 25, 1, [.string ⟨#[1, 0, 0, 0, 0, 0, 0, 0, 2]⟩], []⟩])
theorem k79 : Knows Tryz.prog 107 m79 := Knows.alike (fuel := 3000) progOk K3T_ok rfl (by kernel_rfl)
noncomputable def m80 : Memo := ([.string ⟨#[9, 0, 1, 1, 0, 0, 0, 0, 0, 0, 0, 2]⟩], .int .i64 9, [])
theorem k80 : Knows Tryz.prog 108 m80 := Knows.alike (fuel := 3000) progOk K3T_ok rfl (by kernel_rfl)
noncomputable def m81 : Memo := ([.string ⟨#[9, 0, 3, 1, 0, 0, 0, 0, 0, 0, 0, 6, 1, 0, 0, 0, 0, 0, 0, 0, 2, 9, 0, 1, 1, 0, 0, 0, 0, 0, 0, 0, 2]⟩], .bool true, [])
theorem k81 : Knows Tryz.prog 53 m81 := Knows.alike (fuel := 3000) progOk K3T_ok rfl (by kernel_rfl)
noncomputable def m82 : Memo := ([.string ⟨#[1, 0, 0, 0, 0, 0, 0, 0, 2]⟩, .int .i64 2, .int .i64 1025], .bool true, [])
theorem k82 : Knows Tryz.prog 110 m82 := Knows.alike (fuel := 3000) progOk K3T_ok rfl (by kernel_rfl)
noncomputable def m83 : Memo := ([.string ⟨#[9, 0, 3, 1, 0, 0, 0, 0, 0, 0, 0, 6, 1, 0, 0, 0, 0, 0, 0, 0, 2, 9, 0, 1, 1, 0, 0, 0, 0, 0, 0, 0, 2]⟩, .int .i64 1], .int .i64 33, [])
theorem k83 : Knows Tryz.prog 220 m83 := Knows.alike (fuel := 3000) progOk K3T_ok rfl (by kernel_rfl)
noncomputable def m84 : Memo := ([.string ⟨#[9, 0, 1, 1, 0, 0, 0, 0, 0, 0, 0, 2]⟩], .int .i64 9, [])
theorem k84 : Knows Tryz.prog 83 m84 := Knows.alike (fuel := 3000) progOk K3T_ok rfl (by kernel_rfl)
noncomputable def m85 : Memo := ([.string ⟨#[9, 0, 1, 1, 0, 0, 0, 0, 0, 0, 0, 4]⟩], .int .i64 9, [])
theorem k85 : Knows Tryz.prog 83 m85 := Knows.alike (fuel := 3000) progOk K3T_ok rfl (by kernel_rfl)
noncomputable def ms53_4 : List Memo := [m34, m36, m38, m40, m42, m45, m56, m57, m58, m59, m71, m81]
theorem ks53_4 : KnowsAll Tryz.prog 53 ms53_4 := ⟨k34, k36, k38, k40, k42, k45, k56, k57, k58, k59, k71, k81, trivial⟩
noncomputable def ms83_4 : List Memo := [m51, m52, m55, m84, m85]
theorem ks83_4 : KnowsAll Tryz.prog 83 ms83_4 := ⟨k51, k52, k55, k84, k85, trivial⟩
noncomputable def ms85_4 : List Memo := [m66, m67, m70]
theorem ks85_4 : KnowsAll Tryz.prog 85 ms85_4 := ⟨k66, k67, k70, trivial⟩
noncomputable def ms107_4 : List Memo := [m79]
theorem ks107_4 : KnowsAll Tryz.prog 107 ms107_4 := ⟨k79, trivial⟩
noncomputable def ms108_4 : List Memo := [m61, m64, m80]
theorem ks108_4 : KnowsAll Tryz.prog 108 ms108_4 := ⟨k61, k64, k80, trivial⟩
noncomputable def ms109_4 : List Memo := [m72, m74]
theorem ks109_4 : KnowsAll Tryz.prog 109 ms109_4 := ⟨k72, k74, trivial⟩
noncomputable def ms110_4 : List Memo := [m82]
theorem ks110_4 : KnowsAll Tryz.prog 110 ms110_4 := ⟨k82, trivial⟩
noncomputable def ms133_4 : List Memo := [m76]
theorem ks133_4 : KnowsAll Tryz.prog 133 ms133_4 := ⟨k76, trivial⟩
noncomputable def ms140_4 : List Memo := [m29, m33, m50]
theorem ks140_4 : KnowsAll Tryz.prog 140 ms140_4 := ⟨k29, k33, k50, trivial⟩
noncomputable def ms141_4 : List Memo := [m23, m24, m32]
theorem ks141_4 : KnowsAll Tryz.prog 141 ms141_4 := ⟨k23, k24, k32, trivial⟩
noncomputable def ms147_4 : List Memo := [m20, m21, m22, m26, m27, m28, m30, m31, m75, m77, m78]
theorem ks147_4 : KnowsAll Tryz.prog 147 ms147_4 := ⟨k20, k21, k22, k26, k27, k28, k30, k31, k75, k77, k78, trivial⟩
noncomputable def ms155_4 : List Memo := [m10, m16]
theorem ks155_4 : KnowsAll Tryz.prog 155 ms155_4 := ⟨k10, k16, trivial⟩
noncomputable def ms156_4 : List Memo := [m0, m1, m2, m3, m4, m5, m6, m7, m8, m9, m11, m12, m13, m14, m15, m17, m18, m19, m35, m37, m39, m41, m44, m47, m60, m62, m63, m73]
theorem ks156_4 : KnowsAll Tryz.prog 156 ms156_4 := ⟨k0, k1, k2, k3, k4, k5, k6, k7, k8, k9, k11, k12, k13, k14, k15, k17, k18, k19, k35, k37, k39, k41, k44, k47, k60, k62, k63, k73, trivial⟩
noncomputable def ms207_4 : List Memo := [m25]
theorem ks207_4 : KnowsAll Tryz.prog 207 ms207_4 := ⟨k25, trivial⟩
noncomputable def ms220_4 : List Memo := [m65, m68, m69, m83]
theorem ks220_4 : KnowsAll Tryz.prog 220 ms220_4 := ⟨k65, k68, k69, k83, trivial⟩
noncomputable def ms329_4 : List Memo := [m43, m46]
theorem ks329_4 : KnowsAll Tryz.prog 329 ms329_4 := ⟨k43, k46, trivial⟩
noncomputable def ms374_4 : List Memo := [m48, m49, m54]
theorem ks374_4 : KnowsAll Tryz.prog 374 ms374_4 := ⟨k48, k49, k54, trivial⟩
noncomputable def ms376_4 : List Memo := [m53]
theorem ks376_4 : KnowsAll Tryz.prog 376 ms376_4 := ⟨k53, trivial⟩
noncomputable def K4T : Tbl := ((((((((((((((((((KD.memo 53 ms53_4).memo 83 ms83_4).memo 85 ms85_4).memo 107 ms107_4).memo 108 ms108_4).memo 109 ms109_4).memo 110 ms110_4).memo 133 ms133_4).memo 140 ms140_4).memo 141 ms141_4).memo 147 ms147_4).memo 155 ms155_4).memo 156 ms156_4).memo 207 ms207_4).memo 220 ms220_4).memo 329 ms329_4).memo 374 ms374_4).memo 376 ms376_4)
theorem K4T_ok : KOk Tryz.prog K4T := (KOk.memoAll (KOk.memoAll (KOk.memoAll (KOk.memoAll (KOk.memoAll (KOk.memoAll (KOk.memoAll (KOk.memoAll (KOk.memoAll (KOk.memoAll (KOk.memoAll (KOk.memoAll (KOk.memoAll (KOk.memoAll (KOk.memoAll (KOk.memoAll (KOk.memoAll (KOk.memoAll KD_ok ks53_4) ks83_4) ks85_4) ks107_4) ks108_4) ks109_4) ks110_4) ks133_4) ks140_4) ks141_4) ks147_4) ks155_4) ks156_4) ks207_4) ks220_4) ks329_4) ks374_4) ks376_4)
noncomputable def m86 : Memo := ([.string ⟨#[9, 0, 1, 1, 0, 0, 0, 0, 0, 0, 0, 2]⟩], .bool true, [])
theorem k86 : Knows Tryz.prog 54 m86 := Knows.alike (fuel := 3000) progOk K4T_ok rfl (by kernel_rfl)
noncomputable def m87 : Memo := ([.string ⟨#[9, 0, 3, 1, 0, 0, 0, 0, 0, 0, 0, 6, 1, 0, 0, 0, 0, 0, 0, 0, 2, 9, 0, 1, 1, 0, 0, 0, 0, 0, 0, 0, 2]⟩], .slice (some ⟨0, 0, none⟩) 3 18446744073709551619, [⟨2, 25, 1, [.string ⟨#[1, 0, 0, 0, 0, 0, 0, 0, 6]⟩, .string ⟨#[1, 0, 0, 0, 0, 0, 0, 0, 2]⟩, .string ⟨#[9, 0, 1, 1, 0, 0, 0, 0, 0, 0, 0, 2]⟩], []⟩])
theorem k87 : Knows Tryz.prog 107 m87 := Knows.alike (fuel := 3000) progOk K4T_ok rfl (by kernel_rfl)
noncomputable def m88 : Memo := ([.string ⟨#[9, 0, 3, 1, 0, 0, 0, 0, 0, 0, 0, 6, 1, 0, 0, 0, 0, 0, 0, 0, 2, 9, 0, 1, 1, 0, 0, 0, 0, 0, 0, 0, 2]⟩], .int .i64 9, [])
theorem k88 : Knows Tryz.prog 108 m88 := Knows.alike (fuel := 3000) progOk K4T_ok rfl (by kernel_rfl)
noncomputable def m89 : Memo := ([.string ⟨#[9, 0, 3, 1, 0, 0, 0, 0, 0, 0, 0, 6, 1, 0, 0, 0, 0, 0, 0, 0, 2, 9, 0, 1, 1, 0, 0, 0, 0, 0, 0, 0, 2]⟩, .int .i64 1], .int .i64 33, [])
theorem k89 : Knows Tryz.prog 147 m89 := Knows.alike (fuel := 3000) progOk K4T_ok rfl (by kernel_rfl)
noncomputable def m90 : Memo := ([.string ⟨#[9, 0, 1, 1, 0, 0, 0, 0, 0, 0, 0, 2]⟩], .slice (some ⟨0, 0, none⟩) 1 1, [⟨2, 25, 1, [.string ⟨#[1, 0, 0, 0, 0, 0, 0, 0, 2]⟩], []⟩])
theorem k90 : Knows Tryz.prog 84 m90 := Knows.alike (fuel := 3000) progOk K4T_ok rfl (by kernel_rfl)
noncomputable def m91 : Memo := ([.string ⟨#[9, 0, 1, 1, 0, 0, 0, 0, 0, 0, 0, 4]⟩], .slice (some ⟨0, 0, none⟩) 1 1, [⟨2, 25, 1, [.string ⟨#[1, 0, 0, 0, 0, 0, 0, 0, 4]⟩], []⟩])
theorem k91 : Knows Tryz.prog 84 m91 := Knows.alike (fuel := 3000) progOk K4T_ok rfl (by kernel_rfl)
noncomputable def ms53_5 : List Memo := [m34, m36, m38, m40, m42, m45, m56, m57, m58, m59, m71, m81]
theorem ks53_5 : KnowsAll Tryz.prog 53 ms53_5 := ⟨k34, k36, k38, k40, k42, k45, k56, k57, k58, k59, k71, k81, trivial⟩
noncomputable def ms54_5 : List Memo := [m86]
theorem ks54_5 : KnowsAll Tryz.prog 54 ms54_5 := ⟨k86, trivial⟩
noncomputable def ms83_5 : List Memo := [m51, m52, m55, m84, m85]
theorem ks83_5 : KnowsAll Tryz.prog 83 ms83_5 := ⟨k51, k52, k55, k84, k85, trivial⟩
noncomputable def ms84_5 : List Memo := [m90, m91]
theorem ks84_5 : KnowsAll Tryz.prog 84 ms84_5 := ⟨k90, k91, trivial⟩
noncomputable def ms85_5 : List Memo := [m66, m67, m70]
theorem ks85_5 : KnowsAll Tryz.prog 85 ms85_5 := ⟨k66, k67, k70, trivial⟩
noncomputable def ms107_5 : List Memo := [m79, m87]
theorem ks107_5 : KnowsAll Tryz.prog 107 ms107_5 := ⟨k79, k87, trivial⟩
noncomputable def ms108_5 : List Memo := [m61, m64, m80, m88]
theorem ks108_5 : KnowsAll Tryz.prog 108 ms108_5 := ⟨k61, k64, k80, k88, trivial⟩
noncomputable def ms109_5 : List Memo := [m72, m74]
theorem ks109_5 : KnowsAll Tryz.prog 109 ms109_5 := ⟨k72, k74, trivial⟩
noncomputable def ms110_5 : List Memo := [m82]
theorem ks110_5 : KnowsAll Tryz.prog 110 ms110_5 := ⟨k82, trivial⟩
noncomputable def ms133_5 : List Memo := [m76]
theorem ks133_5 : KnowsAll Tryz.prog 133 ms133_5 := ⟨k76, trivial⟩
noncomputable def ms140_5 : List Memo := [m29, m33, m50]
theorem ks140_5 : KnowsAll Tryz.prog 140 ms140_5 := ⟨k29, k33, k50, trivial⟩
noncomputable def ms141_5 : List Memo := [m23, m24, m32]
theorem ks141_5 : KnowsAll Tryz.prog 141 ms141_5 := ⟨k23, k24, k32, trivial⟩
noncomputable def ms147_5 : List Memo := [m20, m21, m22, m26, m27, m28, m30, m31, m75, m77, m78, m89]
theorem ks147_5 : KnowsAll Tryz.prog 147 ms147_5 := ⟨k20, k21, k22, k26, k27, k28, k30, k31, k75, k77, k78, k89, trivial⟩
noncomputable def ms155_5 : List Memo := [m10, m16]
theorem ks155_5 : KnowsAll Tryz.prog 155 ms155_5 := ⟨k10, k16, trivial⟩
noncomputable def ms156_5 : List Memo := [m0, m1, m2, m3, m4, m5, m6, m7, m8, m9, m11, m12, m13, m14, m15, m17, m18, m19, m35, m37, m39, m41, m44, m47, m60, m62, m63, m73]
theorem ks156_5 : KnowsAll Tryz.prog 156 ms156_5 := ⟨k0, k1, k2, k3, k4, k5, k6, k7, k8, k9, k11, k12, k13, k14, k15, k17, k18, k19, k35, k37, k39, k41, k44, k47, k60, k62, k63, k73, trivial⟩
noncomputable def ms207_5 : List Memo := [m25]
theorem ks207_5 : KnowsAll Tryz.prog 207 ms207_5 := ⟨k25, trivial⟩
noncomputable def ms220_5 : List Memo := [m65, m68, m69, m83]
theorem ks220_5 : KnowsAll Tryz.prog 220 ms220_5 := ⟨k65, k68, k69, k83, trivial⟩
noncomputable def ms329_5 : List Memo := [m43, m46]
theorem ks329_5 : KnowsAll Tryz.prog 329 ms329_5 := ⟨k43, k46, trivial⟩
noncomputable def ms374_5 : List Memo := [m48, m49, m54]
theorem ks374_5 : KnowsAll Tryz.prog 374 ms374_5 := ⟨k48, k49, k54, trivial⟩
noncomputable def ms376_5 : List Memo := [m53]
theorem ks376_5 : KnowsAll Tryz.prog 376 ms376_5 := ⟨k53, trivial⟩
noncomputable def K5T : Tbl := ((((((((((((((((((((KD.memo 53 ms53_5).memo 54 ms54_5).memo 83 ms83_5).memo 84 ms84_5).memo 85 ms85_5).memo 107 ms107_5).memo 108 ms108_5).memo 109 ms109_5).memo 110 ms110_5).memo 133 ms133_5).memo 140 ms140_5).memo 141 ms141_5).memo 147 ms147_5).memo 155 ms155_5).memo 156 ms156_5).memo 207 ms207_5).memo 220 ms220_5).memo 329 ms329_5).memo 374 ms374_5).memo 376 ms376_5)
theorem K5T_ok : KOk Tryz.prog K5T := (KOk.memoAll (KOk.memoAll (KOk.memoAll (KOk.memoAll (KOk.memoAll (KOk.memoAll (KOk.memoAll (KOk.memoAll (KOk.memoAll (KOk.memoAll (KOk.memoAll (KOk.memoAll (KOk.memoAll (KOk.memoAll (KOk.memoAll (KOk.memoAll (KOk.memoAll (KOk.memoAll (KOk.memoAll (KOk.memoAll KD_ok ks53_5) ks54_5) ks83_5) ks84_5) ks85_5) ks107_5) ks108_5) ks109_5) ks110_5) ks133_5) ks140_5) ks141_5) ks147_5) ks155_5) ks156_5) ks207_5) ks220_5) ks329_5) ks374_5) ks376_5)
noncomputable def m92 : Memo := ([.string ⟨#[9, 0, 1, 1, 0, 0, 0, 0, 0, 0, 0, 2]⟩], .bool true, [])
theorem k92 : Knows Tryz.prog 28 m92 := Knows.alike (fuel := 3000) progOk K5T_ok rfl (by kernel_rfl)
noncomputable def m93 : Memo := ([.string ⟨#[9, 0, 3, 1, 0, 0, 0, 0, 0, 0, 0, 6, 1, 0, 0, 0, 0, 0, 0, 0, 2, 9, 0, 1, 1, 0, 0, 0, 0, 0, 0, 0, 2]⟩], .bool true, [])
theorem k93 : Knows Tryz.prog 54 m93 := Knows.alike (fuel := 3000) progOk K5T_ok rfl (by kernel_rfl)
noncomputable def m94 : Memo := ([.string ⟨#[9, 0, 3, 1, 0, 0, 0, 0, 0, 0, 0, 6, 1, 0, 0, 0, 0, 0, 0, 0, 2, 9, 0, 1, 1, 0, 0, 0, 0, 0, 0, 0, 2]⟩], .int .i64 9, [])
theorem k94 : Knows Tryz.prog 83 m94 := Knows.alike (fuel := 3000) progOk K5T_ok rfl (by kernel_rfl)
noncomputable def m95 : Memo := ([.string ⟨#[9, 0, 1, 1, 0, 0, 0, 0, 0, 0, 0, 2]⟩], .tuple #[.int .i64 2, .slice (some ⟨0, 0, none⟩) 0 0], [⟨2, 25, 1, [.string ⟨#[1, 0, 0, 0, 0, 0, 0, 0, 2]⟩], []⟩])
theorem k95 : Knows Tryz.prog 44 m95 := Knows.alike (fuel := 3000) progOk K5T_ok rfl (by kernel_rfl)
noncomputable def m96 : Memo := ([.string ⟨#[9, 0, 1, 1, 0, 0, 0, 0, 0, 0, 0, 4]⟩], .bool true, [])
theorem k96 : Knows Tryz.prog 43 m96 := Knows.alike (fuel := 3000) progOk K5T_ok rfl (by kernel_rfl)
noncomputable def ms28_6 : List Memo := [m92]
theorem ks28_6 : KnowsAll Tryz.prog 28 ms28_6 := ⟨k92, trivial⟩
noncomputable def ms43_6 : List Memo := [m96]
theorem ks43_6 : KnowsAll Tryz.prog 43 ms43_6 := ⟨k96, trivial⟩
noncomputable def ms44_6 : List Memo := [m95]
theorem ks44_6 : KnowsAll Tryz.prog 44 ms44_6 := ⟨k95, trivial⟩
noncomputable def ms53_6 : List Memo := [m34, m36, m38, m40, m42, m45, m56, m57, m58, m59, m71, m81]
theorem ks53_6 : KnowsAll Tryz.prog 53 ms53_6 := ⟨k34, k36, k38, k40, k42, k45, k56, k57, k58, k59, k71, k81, trivial⟩
noncomputable def ms54_6 : List Memo := [m86, m93]
theorem ks54_6 : KnowsAll Tryz.prog 54 ms54_6 := ⟨k86, k93, trivial⟩
noncomputable def ms83_6 : List Memo := [m51, m52, m55, m84, m85, m94]
theorem ks83_6 : KnowsAll Tryz.prog 83 ms83_6 := ⟨k51, k52, k55, k84, k85, k94, trivial⟩
noncomputable def ms84_6 : List Memo := [m90, m91]
theorem ks84_6 : KnowsAll Tryz.prog 84 ms84_6 := ⟨k90, k91, trivial⟩
noncomputable def ms85_6 : List Memo := [m66, m67, m70]
theorem ks85_6 : KnowsAll Tryz.prog 85 ms85_6 := ⟨k66, k67, k70, trivial⟩
noncomputable def ms107_6 : List Memo := [m79, m87]
theorem ks107_6 : KnowsAll Tryz.prog 107 ms107_6 := ⟨k79, k87, trivial⟩
noncomputable def ms108_6 : List Memo := [m61, m64, m80, m88]
theorem ks108_6 : KnowsAll Tryz.prog 108 ms108_6 := ⟨k61, k64, k80, k88, trivial⟩
noncomputable def ms109_6 : List Memo := [m72, m74]
theorem ks109_6 : KnowsAll Tryz.prog 109 ms109_6 := ⟨k72, k74, trivial⟩
noncomputable def ms110_6 : List Memo := [m82]
theorem ks110_6 : KnowsAll Tryz.prog 110 ms110_6 := ⟨k82, trivial⟩
noncomputable def ms133_6 : List Memo := [m76]
theorem ks133_6 : KnowsAll Tryz.prog 133 ms133_6 := ⟨k76, trivial⟩
noncomputable def ms140_6 : List Memo := [m29, m33, m50]
theorem ks140_6 : KnowsAll Tryz.prog 140 ms140_6 := ⟨k29, k33, k50, trivial⟩
noncomputable def ms141_6 : List Memo := [m23, m24, m32]
theorem ks141_6 : KnowsAll Tryz.prog 141 ms141_6 := ⟨k23, k24, k32, trivial⟩
noncomputable def ms147_6 : List Memo := [m20, m21, m22, m26, m27, m28, m30, m31, m75, m77, m78, m89]
theorem ks147_6 : KnowsAll Tryz.prog 147 ms147_6 := ⟨k20, k21, k22, k26, k27, k28, k30, k31, k75, k77, k78, k89, trivial⟩
noncomputable def ms155_6 : List Memo := [m10, m16]
theorem ks155_6 : KnowsAll Tryz.prog 155 ms155_6 := ⟨k10, k16, trivial⟩
noncomputable def ms156_6 : List Memo := [m0, m1, m2, m3, m4, m5, m6, m7, m8, m9, m11, m12, m13, m14, m15, m17, m18, m19, m35, m37, m39, m41, m44, m47, m60, m62, m63, m73]
theorem ks156_6 : KnowsAll Tryz.prog 156 ms156_6 := ⟨k0, k1, k2, k3, k4, k5, k6, k7, k8, k9, k11, k12, k13, k14, k15, k17, k18, k19, k35, k37, k39, k41, k44, k47, k60, k62, k63, k73, trivial⟩
noncomputable def ms207_6 : List Memo := [m25]
theorem ks207_6 : KnowsAll Tryz.prog 207 ms207_6 := ⟨k25, trivial⟩
noncomputable def ms220_6 : List Memo := [m65, m68, m69, m83]
theorem ks220_6 : KnowsAll Tryz.prog 220 ms220_6 := ⟨k65, k68, k69, k83, trivial⟩
noncomputable def ms329_6 : List Memo := [m43, m46]
theorem ks329_6 : KnowsAll Tryz.prog 329 ms329_6 := ⟨k43, k46, trivial⟩
noncomputable def ms374_6 : List Memo := [m48, m49, m54]
theorem ks374_6 : KnowsAll Tryz.prog 374 ms374_6 := ⟨k48, k49, k54, trivial⟩
noncomputable def ms376_6 : List Memo := [m53]
theorem ks376_6 : KnowsAll Tryz.prog 376 ms376_6 := ⟨k53, trivial⟩
noncomputable def K6T : Tbl := (((((((((((((((((((((((KD.memo 28 ms28_6).memo 43 ms43_6).memo 44 ms44_6).memo 53 ms53_6).memo 54 ms54_6).memo 83 ms83_6).memo 84 ms84_6).memo 85 ms85_6).memo 107 ms107_6).memo 108 ms108_6).memo 109 ms109_6).memo 110 ms110_6).memo 133 ms133_6).memo 140 ms140_6).memo 141 ms141_6).memo 147 ms147_6).memo 155 ms155_6).memo 156 ms156_6).memo 207 ms207_6).memo 220 ms220_6).memo 329 ms329_6).memo 374 ms374_6).memo 376 ms376_6)
theorem K6T_ok : KOk Tryz.prog K6T := (KOk.memoAll (KOk.memoAll (KOk.memoAll (KOk.memoAll (KOk.memoAll (KOk.memoAll (KOk.memoAll (KOk.memoAll (KOk.memoAll (KOk.memoAll (KOk.memoAll (KOk.memoAll (KOk.memoAll (KOk.memoAll (KOk.memoAll (KOk.memoAll (KOk.memoAll (KOk.memoAll (KOk.memoAll (KOk.memoAll (KOk.memoAll (KOk.memoAll (KOk.memoAll KD_ok ks28_6) ks43_6) ks44_6) ks53_6) ks54_6) ks83_6) ks84_6) ks85_6) ks107_6) ks108_6) ks109_6) ks110_6) ks133_6) ks140_6) ks141_6) ks147_6) ks155_6) ks156_6) ks207_6) ks220_6) ks329_6) ks374_6) ks376_6)
noncomputable def m97 : Memo := ([.string ⟨#[9, 0, 3, 1, 0, 0, 0, 0, 0, 0, 0, 6, 1, 0, 0, 0, 0, 0, 0, 0, 2, 9, 0, 1, 1, 0, 0, 0, 0, 0, 0, 0, 2]⟩], .bool true, [])
theorem k97 : Knows Tryz.prog 28 m97 := Knows.alike (fuel := 3000) progOk K6T_ok rfl (by kernel_rfl)
noncomputable def m98 : Memo := ([.string ⟨#[9, 0, 3, 1, 0, 0, 0, 0, 0, 0, 0, 6, 1, 0, 0, 0, 0, 0, 0, 0, 2, 9, 0, 1, 1, 0, 0, 0, 0, 0, 0, 0, 2]⟩], .slice (some ⟨0, 0, none⟩) 3 3, [⟨2, 25, 1, [.string ⟨#[1, 0, 0, 0, 0, 0, 0, 0, 6]⟩, .string ⟨#[1, 0, 0, 0, 0, 0, 0, 0, 2]⟩, .string ⟨#[9, 0, 1, 1, 0, 0, 0, 0, 0, 0, 0, 2]⟩], []⟩])
theorem k98 : Knows Tryz.prog 84 m98 := Knows.alike (fuel := 3000) progOk K6T_ok rfl (by kernel_rfl)
noncomputable def m99 : Memo := ([.string ⟨#[9, 0, 1, 1, 0, 0, 0, 0, 0, 0, 0, 2]⟩], .bool true, [])
theorem k99 : Knows Tryz.prog 43 m99 := Knows.alike (fuel := 3000) progOk K6T_ok rfl (by kernel_rfl)
noncomputable def m100 : Memo := ([.string ⟨#[9, 0, 1, 1, 0, 0, 0, 0, 0, 0, 0, 4]⟩], .int .i64 4, [])
theorem k100 : Knows Tryz.prog 20 m100 := Knows.alike (fuel := 3000) progOk K6T_ok rfl (by kernel_rfl)
noncomputable def ms20_7 : List Memo := [m100]
theorem ks20_7 : KnowsAll Tryz.prog 20 ms20_7 := ⟨k100, trivial⟩
noncomputable def ms28_7 : List Memo := [m92, m97]
theorem ks28_7 : KnowsAll Tryz.prog 28 ms28_7 := ⟨k92, k97, trivial⟩
noncomputable def ms43_7 : List Memo := [m96, m99]
theorem ks43_7 : KnowsAll Tryz.prog 43 ms43_7 := ⟨k96, k99, trivial⟩
noncomputable def ms44_7 : List Memo := [m95]
theorem ks44_7 : KnowsAll Tryz.prog 44 ms44_7 := ⟨k95, trivial⟩
noncomputable def ms53_7 : List Memo := [m34, m36, m38, m40, m42, m45, m56, m57, m58, m59, m71, m81]
theorem ks53_7 : KnowsAll Tryz.prog 53 ms53_7 := ⟨k34, k36, k38, k40, k42, k45, k56, k57, k58, k59, k71, k81, trivial⟩
noncomputable def ms54_7 : List Memo := [m86, m93]
theorem ks54_7 : KnowsAll Tryz.prog 54 ms54_7 := ⟨k86, k93, trivial⟩
noncomputable def ms83_7 : List Memo := [m51, m52, m55, m84, m85, m94]
theorem ks83_7 : KnowsAll Tryz.prog 83 ms83_7 := ⟨k51, k52, k55, k84, k85, k94, trivial⟩
noncomputable def ms84_7 : List Memo := [m90, m91, m98]
theorem ks84_7 : KnowsAll Tryz.prog 84 ms84_7 := ⟨k90, k91, k98, trivial⟩
noncomputable def ms85_7 : List Memo := [m66, m67, m70]
theorem ks85_7 : KnowsAll Tryz.prog 85 ms85_7 := ⟨k66, k67, k70, trivial⟩
noncomputable def ms107_7 : List Memo := [m79, m87]
theorem ks107_7 : KnowsAll Tryz.prog 107 ms107_7 := ⟨k79, k87, trivial⟩
noncomputable def ms108_7 : List Memo := [m61, m64, m80, m88]
theorem ks108_7 : KnowsAll Tryz.prog 108 ms108_7 := ⟨k61, k64, k80, k88, trivial⟩
noncomputable def ms109_7 : List Memo := [m72, m74]
theorem ks109_7 : KnowsAll Tryz.prog 109 ms109_7 := ⟨k72, k74, trivial⟩
noncomputable def ms110_7 : List Memo := [m82]
theorem ks110_7 : KnowsAll Tryz.prog 110 ms110_7 := ⟨k82, trivial⟩
noncomputable def ms133_7 : List Memo := [m76]
theorem ks133_7 : KnowsAll Tryz.prog 133 ms133_7 := ⟨k76, trivial⟩
noncomputable def ms140_7 : List Memo := [m29, m33, m50]
theorem ks140_7 : KnowsAll Tryz.prog 140 ms140_7 := ⟨k29, k33, k50, trivial⟩
noncomputable def ms141_7 : List Memo := [m23, m24, m32]
theorem ks141_7 : KnowsAll Tryz.prog 141 ms141_7 := ⟨k23, k24, k32, trivial⟩
noncomputable def ms147_7 : List Memo := [m20, m21, m22, m26, m27, m28, m30, m31, m75, m77, m78, m89]
theorem ks147_7 : KnowsAll Tryz.prog 147 ms147_7 := ⟨k20, k21, k22, k26, k27, k28, k30, k31, k75, k77, k78, k89, trivial⟩
noncomputable def ms155_7 : List Memo := [m10, m16]
theorem ks155_7 : KnowsAll Tryz.prog 155 ms155_7 := ⟨k10, k16, trivial⟩
noncomputable def ms156_7 : List Memo := [m0, m1, m2, m3, m4, m5, m6, m7, m8, m9, m11, m12, m13, m14, m15, m17, m18, m19, m35, m37, m39, m41, m44, m47, m60, m62, m63, m73]
theorem ks156_7 : KnowsAll Tryz.prog 156 ms156_7 := ⟨k0, k1, k2, k3, k4, k5, k6, k7, k8, k9, k11, k12, k13, k14, k15, k17, k18, k19, k35, k37, k39, k41, k44, k47, k60, k62, k63, k73, trivial⟩
noncomputable def ms207_7 : List Memo := [m25]
theorem ks207_7 : KnowsAll Tryz.prog 207 ms207_7 := ⟨k25, trivial⟩
noncomputable def ms220_7 : List Memo := [m65, m68, m69, m83]
theorem ks220_7 : KnowsAll Tryz.prog 220 ms220_7 := ⟨k65, k68, k69, k83, trivial⟩
noncomputable def ms329_7 : List Memo := [m43, m46]
theorem ks329_7 : KnowsAll Tryz.prog 329 ms329_7 := ⟨k43, k46, trivial⟩
noncomputable def ms374_7 : List Memo := [m48, m49, m54]
theorem ks374_7 : KnowsAll Tryz.prog 374 ms374_7 := ⟨k48, k49, k54, trivial⟩
noncomputable def ms376_7 : List Memo := [m53]
theorem ks376_7 : KnowsAll Tryz.prog 376 ms376_7 := ⟨k53, trivial⟩
noncomputable def K7T : Tbl := ((((((((((((((((((((((((KD.memo 20 ms20_7).memo 28 ms28_7).memo 43 ms43_7).memo 44 ms44_7).memo 53 ms53_7).memo 54 ms54_7).memo 83 ms83_7).memo 84 ms84_7).memo 85 ms85_7).memo 107 ms107_7).memo 108 ms108_7).memo 109 ms109_7).memo 110 ms110_7).memo 133 ms133_7).memo 140 ms140_7).memo 141 ms141_7).memo 147 ms147_7).memo 155 ms155_7).memo 156 ms156_7).memo 207 ms207_7).memo 220 ms220_7).memo 329 ms329_7).memo 374 ms374_7).memo 376 ms376_7)
theorem K7T_ok : KOk Tryz.prog K7T := (KOk.memoAll (KOk.memoAll (KOk.memoAll (KOk.memoAll (KOk.memoAll (KOk.memoAll (KOk.memoAll (KOk.memoAll (KOk.memoAll (KOk.memoAll (KOk.memoAll (KOk.memoAll (KOk.memoAll (KOk.memoAll (KOk.memoAll (KOk.memoAll (KOk.memoAll (KOk.memoAll (KOk.memoAll (KOk.memoAll (KOk.memoAll (KOk.memoAll (KOk.memoAll (KOk.memoAll KD_ok ks20_7) ks28_7) ks43_7) ks44_7) ks53_7) ks54_7) ks83_7) ks84_7) ks85_7) ks107_7) ks108_7) ks109_7) ks110_7) ks133_7) ks140_7) ks141_7) ks147_7) ks155_7) ks156_7) ks207_7) ks220_7) ks329_7) ks374_7) ks376_7)
noncomputable def m101 : Memo := ([.string ⟨#[9, 0, 3, 1, 0, 0, 0, 0, 0, 0, 0, 6, 1, 0, 0, 0, 0, 0, 0, 0, 2, 9, 0, 1, 1, 0, 0, 0, 0, 0, 0, 0, 2]⟩], .bool true, [])
theorem k101 : Knows Tryz.prog 43 m101 := Knows.alike (fuel := 3000) progOk K7T_ok rfl (by kernel_rfl)
noncomputable def m102 : Memo := ([.string ⟨#[9, 0, 1, 1, 0, 0, 0, 0, 0, 0, 0, 2]⟩], .int .i64 2, [])
theorem k102 : Knows Tryz.prog 20 m102 := Knows.alike (fuel := 3000) progOk K7T_ok rfl (by kernel_rfl)
noncomputable def m103 : Memo := ([.string ⟨#[9, 0, 1, 1, 0, 0, 0, 0, 0, 0, 0, 4]⟩], .tuple #[.slice none 0 0, .bool true], [])
theorem k103 : Knows Tryz.prog 59 m103 := Knows.alike (fuel := 3000) progOk K7T_ok rfl (by kernel_rfl)
noncomputable def ms20_8 : List Memo := [m100, m102]
theorem ks20_8 : KnowsAll Tryz.prog 20 ms20_8 := ⟨k100, k102, trivial⟩
noncomputable def ms28_8 : List Memo := [m92, m97]
theorem ks28_8 : KnowsAll Tryz.prog 28 ms28_8 := ⟨k92, k97, trivial⟩
noncomputable def ms43_8 : List Memo := [m96, m99, m101]
theorem ks43_8 : KnowsAll Tryz.prog 43 ms43_8 := ⟨k96, k99, k101, trivial⟩
noncomputable def ms44_8 : List Memo := [m95]
theorem ks44_8 : KnowsAll Tryz.prog 44 ms44_8 := ⟨k95, trivial⟩
noncomputable def ms53_8 : List Memo := [m34, m36, m38, m40, m42, m45, m56, m57, m58, m59, m71, m81]
theorem ks53_8 : KnowsAll Tryz.prog 53 ms53_8 := ⟨k34, k36, k38, k40, k42, k45, k56, k57, k58, k59, k71, k81, trivial⟩
noncomputable def ms54_8 : List Memo := [m86, m93]
theorem ks54_8 : KnowsAll Tryz.prog 54 ms54_8 := ⟨k86, k93, trivial⟩
noncomputable def ms59_8 : List Memo := [m103]
theorem ks59_8 : KnowsAll Tryz.prog 59 ms59_8 := ⟨k103, trivial⟩
noncomputable def ms83_8 : List Memo := [m51, m52, m55, m84, m85, m94]
theorem ks83_8 : KnowsAll Tryz.prog 83 ms83_8 := ⟨k51, k52, k55, k84, k85, k94, trivial⟩
noncomputable def ms84_8 : List Memo := [m90, m91, m98]
theorem ks84_8 : KnowsAll Tryz.prog 84 ms84_8 := ⟨k90, k91, k98, trivial⟩
noncomputable def ms85_8 : List Memo := [m66, m67, m70]
theorem ks85_8 : KnowsAll Tryz.prog 85 ms85_8 := ⟨k66, k67, k70, trivial⟩
noncomputable def ms107_8 : List Memo := [m79, m87]
theorem ks107_8 : KnowsAll Tryz.prog 107 ms107_8 := ⟨k79, k87, trivial⟩
noncomputable def ms108_8 : List Memo := [m61, m64, m80, m88]
theorem ks108_8 : KnowsAll Tryz.prog 108 ms108_8 := ⟨k61, k64, k80, k88, trivial⟩
noncomputable def ms109_8 : List Memo := [m72, m74]
theorem ks109_8 : KnowsAll Tryz.prog 109 ms109_8 := ⟨k72, k74, trivial⟩
noncomputable def ms110_8 : List Memo := [m82]
theorem ks110_8 : KnowsAll Tryz.prog 110 ms110_8 := ⟨k82, trivial⟩
noncomputable def ms133_8 : List Memo := [m76]
theorem ks133_8 : KnowsAll Tryz.prog 133 ms133_8 := ⟨k76, trivial⟩
noncomputable def ms140_8 : List Memo := [m29, m33, m50]
theorem ks140_8 : KnowsAll Tryz.prog 140 ms140_8 := ⟨k29, k33, k50, trivial⟩
noncomputable def ms141_8 : List Memo := [m23, m24, m32]
theorem ks141_8 : KnowsAll Tryz.prog 141 ms141_8 := ⟨k23, k24, k32, trivial⟩
noncomputable def ms147_8 : List Memo := [m20, m21, m22, m26, m27, m28, m30, m31, m75, m77, m78, m89]
theorem ks147_8 : KnowsAll Tryz.prog 147 ms147_8 := ⟨k20, k21, k22, k26, k27, k28, k30, k31, k75, k77, k78, k89, trivial⟩
noncomputable def ms155_8 : List Memo := [m10, m16]
theorem ks155_8 : KnowsAll Tryz.prog 155 ms155_8 := ⟨k10, k16, trivial⟩
noncomputable def ms156_8 : List Memo := [m0, m1, m2, m3, m4, m5, m6, m7, m8, m9, m11, m12, m13, m14, m15, m17, m18, m19, m35, m37, m39, m41, m44, m47, m60, m62, m63, m73]
theorem ks156_8 : KnowsAll Tryz.prog 156 ms156_8 := ⟨k0, k1, k2, k3, k4, k5, k6, k7, k8, k9, k11, k12, k13, k14, k15, k17, k18, k19, k35, k37, k39, k41, k44, k47, k60, k62, k63, k73, trivial⟩
noncomputable def ms207_8 : List Memo := [m25]
theorem ks207_8 : KnowsAll Tryz.prog 207 ms207_8 := ⟨k25, trivial⟩
noncomputable def ms220_8 : List Memo := [m65, m68, m69, m83]
theorem ks220_8 : KnowsAll Tryz.prog 220 ms220_8 := ⟨k65, k68, k69, k83, trivial⟩
noncomputable def ms329_8 : List Memo := [m43, m46]
theorem ks329_8 : KnowsAll Tryz.prog 329 ms329_8 := ⟨k43, k46, trivial⟩
noncomputable def ms374_8 : List Memo := [m48, m49, m54]
theorem ks374_8 : KnowsAll Tryz.prog 374 ms374_8 := ⟨k48, k49, k54, trivial⟩
noncomputable def ms376_8 : List Memo := [m53]
theorem ks376_8 : KnowsAll Tryz.prog 376 ms376_8 := ⟨k53, trivial⟩
noncomputable def K8T : Tbl := (((((((((((((((((((((((((KD.memo 20 ms20_8).memo 28 ms28_8).memo 43 ms43_8).memo 44 ms44_8).memo 53 ms53_8).memo 54 ms54_8).memo 59 ms59_8).memo 83 ms83_8).memo 84 ms84_8).memo 85 ms85_8).memo 107 ms107_8).memo 108 ms108_8).memo 109 ms109_8).memo 110 ms110_8).memo 133 ms133_8).memo 140 ms140_8).memo 141 ms141_8).memo 147 ms147_8).memo 155 ms155_8).memo 156 ms156_8).memo 207 ms207_8).memo 220 ms220_8).memo 329 ms329_8).memo 374 ms374_8).memo 376 ms376_8)
theorem K8T_ok : KOk Tryz.prog K8T := (KOk.memoAll (KOk.memoAll (KOk.memoAll (KOk.memoAll (KOk.memoAll (KOk.memoAll (KOk.memoAll (KOk.memoAll (KOk.memoAll (KOk.memoAll (KOk.memoAll (KOk.memoAll (KOk.memoAll (KOk.memoAll (KOk.memoAll (KOk.memoAll (KOk.memoAll (KOk.memoAll (KOk.memoAll (KOk.memoAll (KOk.memoAll (KOk.memoAll (KOk.memoAll (KOk.memoAll (KOk.memoAll KD_ok ks20_8) ks28_8) ks43_8) ks44_8) ks53_8) ks54_8) ks59_8) ks83_8) ks84_8) ks85_8) ks107_8) ks108_8) ks109_8) ks110_8) ks133_8) ks140_8) ks141_8) ks147_8) ks155_8) ks156_8) ks207_8) ks220_8) ks329_8) ks374_8) ks376_8)
noncomputable def m104 : Memo := ([.string ⟨#[9, 0, 3, 1, 0, 0, 0, 0, 0, 0, 0, 6, 1, 0, 0, 0, 0, 0, 0, 0, 2, 9, 0, 1, 1, 0, 0, 0, 0, 0, 0, 0, 2]⟩], .int .i64 6, [])
theorem k104 : Knows Tryz.prog 20 m104 := Knows.alike (fuel := 3000) progOk K8T_ok rfl (by kernel_rfl)
noncomputable def m105 : Memo := ([.string ⟨#[9, 0, 3, 1, 0, 0, 0, 0, 0, 0, 0, 6, 1, 0, 0, 0, 0, 0, 0, 0, 2, 9, 0, 1, 1, 0, 0, 0, 0, 0, 0, 0, 2]⟩], .tuple #[.int .i64 6, .slice (some ⟨0, 1, none⟩) 2 2], [⟨2, 25, 1, [.string ⟨#[1, 0, 0, 0, 0, 0, 0, 0, 6]⟩, .string ⟨#[1, 0, 0, 0, 0, 0, 0, 0, 2]⟩, .string ⟨#[9, 0, 1, 1, 0, 0, 0, 0, 0, 0, 0, 2]⟩], []⟩])
theorem k105 : Knows Tryz.prog 86 m105 := Knows.alike (fuel := 3000) progOk K8T_ok rfl (by kernel_rfl)
noncomputable def m106 : Memo := ([.string ⟨#[9, 0, 1, 1, 0, 0, 0, 0, 0, 0, 0, 2]⟩], .tuple #[.slice (some ⟨0, 0, none⟩) 1 18446744073709551617, .bool true], [⟨2, 166, 3, [.int .i64 1, .string ⟨#[9, 0, 1, 1, 0, 0, 0, 0, 0, 0, 0, 4]⟩, .slice none 0 0], []⟩])
theorem k106 : Knows Tryz.prog 59 m106 := Knows.alike (fuel := 3000) progOk K8T_ok rfl (by kernel_rfl)
noncomputable def ms20_9 : List Memo := [m100, m102, m104]
theorem ks20_9 : KnowsAll Tryz.prog 20 ms20_9 := ⟨k100, k102, k104, trivial⟩
noncomputable def ms28_9 : List Memo := [m92, m97]
theorem ks28_9 : KnowsAll Tryz.prog 28 ms28_9 := ⟨k92, k97, trivial⟩
noncomputable def ms43_9 : List Memo := [m96, m99, m101]
theorem ks43_9 : KnowsAll Tryz.prog 43 ms43_9 := ⟨k96, k99, k101, trivial⟩
noncomputable def ms44_9 : List Memo := [m95]
theorem ks44_9 : KnowsAll Tryz.prog 44 ms44_9 := ⟨k95, trivial⟩
noncomputable def ms53_9 : List Memo := [m34, m36, m38, m40, m42, m45, m56, m57, m58, m59, m71, m81]
theorem ks53_9 : KnowsAll Tryz.prog 53 ms53_9 := ⟨k34, k36, k38, k40, k42, k45, k56, k57, k58, k59, k71, k81, trivial⟩
noncomputable def ms54_9 : List Memo := [m86, m93]
theorem ks54_9 : KnowsAll Tryz.prog 54 ms54_9 := ⟨k86, k93, trivial⟩
noncomputable def ms59_9 : List Memo := [m103, m106]
theorem ks59_9 : KnowsAll Tryz.prog 59 ms59_9 := ⟨k103, k106, trivial⟩
noncomputable def ms83_9 : List Memo := [m51, m52, m55, m84, m85, m94]
theorem ks83_9 : KnowsAll Tryz.prog 83 ms83_9 := ⟨k51, k52, k55, k84, k85, k94, trivial⟩
noncomputable def ms84_9 : List Memo := [m90, m91, m98]
theorem ks84_9 : KnowsAll Tryz.prog 84 ms84_9 := ⟨k90, k91, k98, trivial⟩
noncomputable def ms85_9 : List Memo := [m66, m67, m70]
theorem ks85_9 : KnowsAll Tryz.prog 85 ms85_9 := ⟨k66, k67, k70, trivial⟩
noncomputable def ms86_9 : List Memo := [m105]
theorem ks86_9 : KnowsAll Tryz.prog 86 ms86_9 := ⟨k105, trivial⟩
noncomputable def ms107_9 : List Memo := [m79, m87]
theorem ks107_9 : KnowsAll Tryz.prog 107 ms107_9 := ⟨k79, k87, trivial⟩
noncomputable def ms108_9 : List Memo := [m61, m64, m80, m88]
theorem ks108_9 : KnowsAll Tryz.prog 108 ms108_9 := ⟨k61, k64, k80, k88, trivial⟩
noncomputable def ms109_9 : List Memo := [m72, m74]
theorem ks109_9 : KnowsAll Tryz.prog 109 ms109_9 := ⟨k72, k74, trivial⟩
noncomputable def ms110_9 : List Memo := [m82]
theorem ks110_9 : KnowsAll Tryz.prog 110 ms110_9 := ⟨k82, trivial⟩
noncomputable def ms133_9 : List Memo := [m76]
theorem ks133_9 : KnowsAll Tryz.prog 133 ms133_9 := ⟨k76, trivial⟩
noncomputable def ms140_9 : List Memo := [m29, m33, m50]
theorem ks140_9 : KnowsAll Tryz.prog 140 ms140_9 := ⟨k29, k33, k50, trivial⟩
noncomputable def ms141_9 : List Memo := [m23, m24, m32]
theorem ks141_9 : KnowsAll Tryz.prog 141 ms141_9 := ⟨k23, k24, k32, trivial⟩
noncomputable def ms147_9 : List Memo := [m20, m21, m22, m26, m27, m28, m30, m31, m75, m77, m78, m89]
theorem ks147_9 : KnowsAll Tryz.prog 147 ms147_9 := ⟨k20, k21, k22, k26, k27, k28, k30, k31, k75, k77, k78, k89, trivial⟩
noncomputable def ms155_9 : List Memo := [m10, m16]
theorem ks155_9 : KnowsAll Tryz.prog 155 ms155_9 := ⟨k10, k16, trivial⟩
noncomputable def ms156_9 : List Memo := [m0, m1, m2, m3, m4, m5, m6, m7, m8, m9, m11, m12, m13, m14, m15, m17, m18, m19, m35, m37, m39, m41, m44, m47, m60, m62, m63, m73]
theorem ks156_9 : KnowsAll Tryz.prog 156 ms156_9 := ⟨k0, k1, k2, k3, k4, k5, k6, k7, k8, k9, k11, k12, k13, k14, k15, k17, k18, k19, k35, k37, k39, k41, k44, k47, k60, k62, k63, k73, trivial⟩
noncomputable def ms207_9 : List Memo := [m25]
theorem ks207_9 : KnowsAll Tryz.prog 207 ms207_9 := ⟨k25, trivial⟩
noncomputable def ms220_9 : List Memo := [m65, m68, m69, m83]
theorem ks220_9 : KnowsAll Tryz.prog 220 ms220_9 := ⟨k65, k68, k69, k83, trivial⟩
noncomputable def ms329_9 : List Memo := [m43, m46]
theorem ks329_9 : KnowsAll Tryz.prog 329 ms329_9 := ⟨k43, k46, trivial⟩
noncomputable def ms374_9 : List Memo := [m48, m49, m54]
theorem ks374_9 : KnowsAll Tryz.prog 374 ms374_9 := ⟨k48, k49, k54, trivial⟩
noncomputable def ms376_9 : List Memo := [m53]
theorem ks376_9 : KnowsAll Tryz.prog 376 ms376_9 := ⟨k53, trivial⟩
noncomputable def K9T : Tbl := ((((((((((((((((((((((((((KD.memo 20 ms20_9).memo 28 ms28_9).memo 43 ms43_9).memo 44 ms44_9).memo 53 ms53_9).memo 54 ms54_9).memo 59 ms59_9).memo 83 ms83_9).memo 84 ms84_9).memo 85 ms85_9).memo 86 ms86_9).memo 107 ms107_9).memo 108 ms108_9).memo 109 ms109_9).memo 110 ms110_9).memo 133 ms133_9).memo 140 ms140_9).memo 141 ms141_9).memo 147 ms147_9).memo 155 ms155_9).memo 156 ms156_9).memo 207 ms207_9).memo 220 ms220_9).memo 329 ms329_9).memo 374 ms374_9).memo 376 ms376_9)
theorem K9T_ok : KOk Tryz.prog K9T := (KOk.memoAll (KOk.memoAll (KOk.memoAll (KOk.memoAll (KOk.memoAll (KOk.memoAll (KOk.memoAll (KOk.memoAll (KOk.memoAll (KOk.memoAll (KOk.memoAll (KOk.memoAll (KOk.memoAll (KOk.memoAll (KOk.memoAll (KOk.memoAll (KOk.memoAll (KOk.memoAll (KOk.memoAll (KOk.memoAll (KOk.memoAll (KOk.memoAll (KOk.memoAll (KOk.memoAll (KOk.memoAll (KOk.memoAll KD_ok ks20_9) ks28_9) ks43_9) ks44_9) ks53_9) ks54_9) ks59_9) ks83_9) ks84_9) ks85_9) ks86_9) ks107_9) ks108_9) ks109_9) ks110_9) ks133_9) ks140_9) ks141_9) ks147_9) ks155_9) ks156_9) ks207_9) ks220_9) ks329_9) ks374_9) ks376_9)
noncomputable def m107 : Memo := ([.string ⟨#[9, 0, 3, 1, 0, 0, 0, 0, 0, 0, 0, 6, 1, 0, 0, 0, 0, 0, 0, 0, 2, 9, 0, 1, 1, 0, 0, 0, 0, 0, 0, 0, 2]⟩], .slice (some ⟨0, 0, none⟩) 1 1, [⟨2, 70, 2, [.int .i64 2, .string ⟨#[9, 0, 1, 1, 0, 0, 0, 0, 0, 0, 0, 2]⟩], []⟩])
theorem k107 : Knows Tryz.prog 121 m107 := Knows.alike (fuel := 3000) progOk K9T_ok rfl (by kernel_rfl)
noncomputable def ms20_10 : List Memo := [m100, m102, m104]
theorem ks20_10 : KnowsAll Tryz.prog 20 ms20_10 := ⟨k100, k102, k104, trivial⟩
noncomputable def ms28_10 : List Memo := [m92, m97]
theorem ks28_10 : KnowsAll Tryz.prog 28 ms28_10 := ⟨k92, k97, trivial⟩
noncomputable def ms43_10 : List Memo := [m96, m99, m101]
theorem ks43_10 : KnowsAll Tryz.prog 43 ms43_10 := ⟨k96, k99, k101, trivial⟩
noncomputable def ms44_10 : List Memo := [m95]
theorem ks44_10 : KnowsAll Tryz.prog 44 ms44_10 := ⟨k95, trivial⟩
noncomputable def ms53_10 : List Memo := [m34, m36, m38, m40, m42, m45, m56, m57, m58, m59, m71, m81]
theorem ks53_10 : KnowsAll Tryz.prog 53 ms53_10 := ⟨k34, k36, k38, k40, k42, k45, k56, k57, k58, k59, k71, k81, trivial⟩
noncomputable def ms54_10 : List Memo := [m86, m93]
theorem ks54_10 : KnowsAll Tryz.prog 54 ms54_10 := ⟨k86, k93, trivial⟩
noncomputable def ms59_10 : List Memo := [m103, m106]
theorem ks59_10 : KnowsAll Tryz.prog 59 ms59_10 := ⟨k103, k106, trivial⟩
noncomputable def ms83_10 : List Memo := [m51, m52, m55, m84, m85, m94]
theorem ks83_10 : KnowsAll Tryz.prog 83 ms83_10 := ⟨k51, k52, k55, k84, k85, k94, trivial⟩
noncomputable def ms84_10 : List Memo := [m90, m91, m98]
theorem ks84_10 : KnowsAll Tryz.prog 84 ms84_10 := ⟨k90, k91, k98, trivial⟩
noncomputable def ms85_10 : List Memo := [m66, m67, m70]
theorem ks85_10 : KnowsAll Tryz.prog 85 ms85_10 := ⟨k66, k67, k70, trivial⟩
noncomputable def ms86_10 : List Memo := [m105]
theorem ks86_10 : KnowsAll Tryz.prog 86 ms86_10 := ⟨k105, trivial⟩
noncomputable def ms107_10 : List Memo := [m79, m87]
theorem ks107_10 : KnowsAll Tryz.prog 107 ms107_10 := ⟨k79, k87, trivial⟩
noncomputable def ms108_10 : List Memo := [m61, m64, m80, m88]
theorem ks108_10 : KnowsAll Tryz.prog 108 ms108_10 := ⟨k61, k64, k80, k88, trivial⟩
noncomputable def ms109_10 : List Memo := [m72, m74]
theorem ks109_10 : KnowsAll Tryz.prog 109 ms109_10 := ⟨k72, k74, trivial⟩
noncomputable def ms110_10 : List Memo := [m82]
theorem ks110_10 : KnowsAll Tryz.prog 110 ms110_10 := ⟨k82, trivial⟩
noncomputable def ms121_10 : List Memo := [m107]
theorem ks121_10 : KnowsAll Tryz.prog 121 ms121_10 := ⟨k107, trivial⟩
noncomputable def ms133_10 : List Memo := [m76]
theorem ks133_10 : KnowsAll Tryz.prog 133 ms133_10 := ⟨k76, trivial⟩
noncomputable def ms140_10 : List Memo := [m29, m33, m50]
theorem ks140_10 : KnowsAll Tryz.prog 140 ms140_10 := ⟨k29, k33, k50, trivial⟩
noncomputable def ms141_10 : List Memo := [m23, m24, m32]
theorem ks141_10 : KnowsAll Tryz.prog 141 ms141_10 := ⟨k23, k24, k32, trivial⟩
noncomputable def ms147_10 : List Memo := [m20, m21, m22, m26, m27, m28, m30, m31, m75, m77, m78, m89]
theorem ks147_10 : KnowsAll Tryz.prog 147 ms147_10 := ⟨k20, k21, k22, k26, k27, k28, k30, k31, k75, k77, k78, k89, trivial⟩
noncomputable def ms155_10 : List Memo := [m10, m16]
theorem ks155_10 : KnowsAll Tryz.prog 155 ms155_10 := ⟨k10, k16, trivial⟩
noncomputable def ms156_10 : List Memo := [m0, m1, m2, m3, m4, m5, m6, m7, m8, m9, m11, m12, m13, m14, m15, m17, m18, m19, m35, m37, m39, m41, m44, m47, m60, m62, m63, m73]
theorem ks156_10 : KnowsAll Tryz.prog 156 ms156_10 := ⟨k0, k1, k2, k3, k4, k5, k6, k7, k8, k9, k11, k12, k13, k14, k15, k17, k18, k19, k35, k37, k39, k41, k44, k47, k60, k62, k63, k73, trivial⟩
noncomputable def ms207_10 : List Memo := [m25]
theorem ks207_10 : KnowsAll Tryz.prog 207 ms207_10 := ⟨k25, trivial⟩
noncomputable def ms220_10 : List Memo := [m65, m68, m69, m83]
theorem ks220_10 : KnowsAll Tryz.prog 220 ms220_10 := ⟨k65, k68, k69, k83, trivial⟩
noncomputable def ms329_10 : List Memo := [m43, m46]
theorem ks329_10 : KnowsAll Tryz.prog 329 ms329_10 := ⟨k43, k46, trivial⟩
noncomputable def ms374_10 : List Memo := [m48, m49, m54]
theorem ks374_10 : KnowsAll Tryz.prog 374 ms374_10 := ⟨k48, k49, k54, trivial⟩
noncomputable def ms376_10 : List Memo := [m53]
theorem ks376_10 : KnowsAll Tryz.prog 376 ms376_10 := ⟨k53, trivial⟩
noncomputable def K10T : Tbl := (((((((((((((((((((((((((((KD.memo 20 ms20_10).memo 28 ms28_10).memo 43 ms43_10).memo 44 ms44_10).memo 53 ms53_10).memo 54 ms54_10).memo 59 ms59_10).memo 83 ms83_10).memo 84 ms84_10).memo 85 ms85_10).memo 86 ms86_10).memo 107 ms107_10).memo 108 ms108_10).memo 109 ms109_10).memo 110 ms110_10).memo 121 ms121_10).memo 133 ms133_10).memo 140 ms140_10).memo 141 ms141_10).memo 147 ms147_10).memo 155 ms155_10).memo 156 ms156_10).memo 207 ms207_10).memo 220 ms220_10).memo 329 ms329_10).memo 374 ms374_10).memo 376 ms376_10)
theorem K10T_ok : KOk Tryz.prog K10T := (KOk.memoAll (KOk.memoAll (KOk.memoAll (KOk.memoAll (KOk.memoAll (KOk.memoAll (KOk.memoAll (KOk.memoAll (KOk.memoAll (KOk.memoAll (KOk.memoAll (KOk.memoAll (KOk.memoAll (KOk.memoAll (KOk.memoAll (KOk.memoAll (KOk.memoAll (KOk.memoAll (KOk.memoAll (KOk.memoAll (KOk.memoAll (KOk.memoAll (KOk.memoAll (KOk.memoAll (KOk.memoAll (KOk.memoAll (KOk.memoAll KD_ok ks20_10) ks28_10) ks43_10) ks44_10) ks53_10) ks54_10) ks59_10) ks83_10) ks84_10) ks85_10) ks86_10) ks107_10) ks108_10) ks109_10) ks110_10) ks121_10) ks133_10) ks140_10) ks141_10) ks147_10) ks155_10) ks156_10) ks207_10) ks220_10) ks329_10) ks374_10) ks376_10)
noncomputable def m108 : Memo := ([.string ⟨#[9, 0, 3, 1, 0, 0, 0, 0, 0, 0, 0, 6, 1, 0, 0, 0, 0, 0, 0, 0, 2, 9, 0, 1, 1, 0, 0, 0, 0, 0, 0, 0, 2]⟩], .tuple #[.slice (some ⟨0, 0, none⟩) 1 18446744073709551617, .bool true], [⟨2, 166, 3, [.int .i64 2, .string ⟨#[9, 0, 1, 1, 0, 0, 0, 0, 0, 0, 0, 2]⟩, .slice none 0 0], []⟩])
theorem k108 : Knows Tryz.prog 59 m108 := Knows.alike (fuel := 3000) progOk K10T_ok rfl (by kernel_rfl)
noncomputable def ms20_11 : List Memo := [m100, m102, m104]
theorem ks20_11 : KnowsAll Tryz.prog 20 ms20_11 := ⟨k100, k102, k104, trivial⟩
noncomputable def ms28_11 : List Memo := [m92, m97]
theorem ks28_11 : KnowsAll Tryz.prog 28 ms28_11 := ⟨k92, k97, trivial⟩
noncomputable def ms43_11 : List Memo := [m96, m99, m101]
theorem ks43_11 : KnowsAll Tryz.prog 43 ms43_11 := ⟨k96, k99, k101, trivial⟩
noncomputable def ms44_11 : List Memo := [m95]
theorem ks44_11 : KnowsAll Tryz.prog 44 ms44_11 := ⟨k95, trivial⟩
noncomputable def ms53_11 : List Memo := [m34, m36, m38, m40, m42, m45, m56, m57, m58, m59, m71, m81]
theorem ks53_11 : KnowsAll Tryz.prog 53 ms53_11 := ⟨k34, k36, k38, k40, k42, k45, k56, k57, k58, k59, k71, k81, trivial⟩
noncomputable def ms54_11 : List Memo := [m86, m93]
theorem ks54_11 : KnowsAll Tryz.prog 54 ms54_11 := ⟨k86, k93, trivial⟩
noncomputable def ms59_11 : List Memo := [m103, m106, m108]
theorem ks59_11 : KnowsAll Tryz.prog 59 ms59_11 := ⟨k103, k106, k108, trivial⟩
noncomputable def ms83_11 : List Memo := [m51, m52, m55, m84, m85, m94]
theorem ks83_11 : KnowsAll Tryz.prog 83 ms83_11 := ⟨k51, k52, k55, k84, k85, k94, trivial⟩
noncomputable def ms84_11 : List Memo := [m90, m91, m98]
theorem ks84_11 : KnowsAll Tryz.prog 84 ms84_11 := ⟨k90, k91, k98, trivial⟩
noncomputable def ms85_11 : List Memo := [m66, m67, m70]
theorem ks85_11 : KnowsAll Tryz.prog 85 ms85_11 := ⟨k66, k67, k70, trivial⟩
noncomputable def ms86_11 : List Memo := [m105]
theorem ks86_11 : KnowsAll Tryz.prog 86 ms86_11 := ⟨k105, trivial⟩
noncomputable def ms107_11 : List Memo := [m79, m87]
theorem ks107_11 : KnowsAll Tryz.prog 107 ms107_11 := ⟨k79, k87, trivial⟩
noncomputable def ms108_11 : List Memo := [m61, m64, m80, m88]
theorem ks108_11 : KnowsAll Tryz.prog 108 ms108_11 := ⟨k61, k64, k80, k88, trivial⟩
noncomputable def ms109_11 : List Memo := [m72, m74]
theorem ks109_11 : KnowsAll Tryz.prog 109 ms109_11 := ⟨k72, k74, trivial⟩
noncomputable def ms110_11 : List Memo := [m82]
theorem ks110_11 : KnowsAll Tryz.prog 110 ms110_11 := ⟨k82, trivial⟩
noncomputable def ms121_11 : List Memo := [m107]
theorem ks121_11 : KnowsAll Tryz.prog 121 ms121_11 := ⟨k107, trivial⟩
noncomputable def ms133_11 : List Memo := [m76]
theorem ks133_11 : KnowsAll Tryz.prog 133 ms133_11 := ⟨k76, trivial⟩
noncomputable def ms140_11 : List Memo := [m29, m33, m50]
theorem ks140_11 : KnowsAll Tryz.prog 140 ms140_11 := ⟨k29, k33, k50, trivial⟩
noncomputable def ms141_11 : List Memo := [m23, m24, m32]
theorem ks141_11 : KnowsAll Tryz.prog 141 ms141_11 := ⟨k23, k24, k32, trivial⟩
noncomputable def ms147_11 : List Memo := [m20, m21, m22, m26, m27, m28, m30, m31, m75, m77, m78, m89]
theorem ks147_11 : KnowsAll Tryz.prog 147 ms147_11 := ⟨k20, k21, k22, k26, k27, k28, k30, k31, k75, k77, k78, k89, trivial⟩
noncomputable def ms155_11 : List Memo := [m10, m16]
theorem ks155_11 : KnowsAll Tryz.prog 155 ms155_11 := ⟨k10, k16, trivial⟩
noncomputable def ms156_11 : List Memo := [m0, m1, m2, m3, m4, m5, m6, m7, m8, m9, m11, m12, m13, m14, m15, m17, m18, m19, m35, m37, m39, m41, m44, m47, m60, m62, m63, m73]
theorem ks156_11 : KnowsAll Tryz.prog 156 ms156_11 := ⟨k0, k1, k2, k3, k4, k5, k6, k7, k8, k9, k11, k12, k13, k14, k15, k17, k18, k19, k35, k37, k39, k41, k44, k47, k60, k62, k63, k73, trivial⟩
noncomputable def ms207_11 : List Memo := [m25]
theorem ks207_11 : KnowsAll Tryz.prog 207 ms207_11 := ⟨k25, trivial⟩
noncomputable def ms220_11 : List Memo := [m65, m68, m69, m83]
theorem ks220_11 : KnowsAll Tryz.prog 220 ms220_11 := ⟨k65, k68, k69, k83, trivial⟩
noncomputable def ms329_11 : List Memo := [m43, m46]
theorem ks329_11 : KnowsAll Tryz.prog 329 ms329_11 := ⟨k43, k46, trivial⟩
noncomputable def ms374_11 : List Memo := [m48, m49, m54]
theorem ks374_11 : KnowsAll Tryz.prog 374 ms374_11 := ⟨k48, k49, k54, trivial⟩
noncomputable def ms376_11 : List Memo := [m53]
theorem ks376_11 : KnowsAll Tryz.prog 376 ms376_11 := ⟨k53, trivial⟩
noncomputable def K11T : Tbl := (((((((((((((((((((((((((((KD.memo 20 ms20_11).memo 28 ms28_11).memo 43 ms43_11).memo 44 ms44_11).memo 53 ms53_11).memo 54 ms54_11).memo 59 ms59_11).memo 83 ms83_11).memo 84 ms84_11).memo 85 ms85_11).memo 86 ms86_11).memo 107 ms107_11).memo 108 ms108_11).memo 109 ms109_11).memo 110 ms110_11).memo 121 ms121_11).memo 133 ms133_11).memo 140 ms140_11).memo 141 ms141_11).memo 147 ms147_11).memo 155 ms155_11).memo 156 ms156_11).memo 207 ms207_11).memo 220 ms220_11).memo 329 ms329_11).memo 374 ms374_11).memo 376 ms376_11)
theorem K11T_ok : KOk Tryz.prog K11T := (KOk.memoAll (KOk.memoAll (KOk.memoAll (KOk.memoAll (KOk.memoAll (KOk.memoAll (KOk.memoAll (KOk.memoAll (KOk.memoAll (KOk.memoAll (KOk.memoAll (KOk.memoAll (KOk.memoAll (KOk.memoAll (KOk.memoAll (KOk.memoAll (KOk.memoAll (KOk.memoAll (KOk.memoAll (KOk.memoAll (KOk.memoAll (KOk.memoAll (KOk.memoAll (KOk.memoAll (KOk.memoAll (KOk.memoAll (KOk.memoAll KD_ok ks20_11) ks28_11) ks43_11) ks44_11) ks53_11) ks54_11) ks59_11) ks83_11) ks84_11) ks85_11) ks86_11) ks107_11) ks108_11) ks109_11) ks110_11) ks121_11) ks133_11) ks140_11) ks141_11) ks147_11) ks155_11) ks156_11) ks207_11) ks220_11) ks329_11) ks374_11) ks376_11)
noncomputable abbrev KT : Tbl := K11T
theorem KT_ok : KOk Tryz.prog KT := K11T_ok
end Go.Proofs.YtacpdefmnijhnaaGreat.U
