/- Closed calls that are known, each by its own run. -/
import Derived.Test.YtnjljcbmmechcaaGreatDenA
import Derived.KernelRfl
set_option linter.unusedVariables false
namespace Go.Proofs.YtnjljcbmmechcaaGreat.Den
open Abs
noncomputable def m0 : Memo := ([.string ⟨#[1, 0, 0, 0, 0, 0, 0, 0, 1]⟩, .int .i64 1], .int .i64 9, [])
theorem k0 : Knows Tryz.prog 254 m0 := Knows.alike (fuel := 300) progOk K1_ok rfl (by kernel_rfl)
noncomputable def m1 : Memo := ([.string ⟨#[1, 0, 0, 0, 0, 0, 0, 0, 1]⟩, .int .i64 2], .int .i64 9, [])
theorem k1 : Knows Tryz.prog 254 m1 := Knows.alike (fuel := 300) progOk K1_ok rfl (by kernel_rfl)
noncomputable def m2 : Memo := ([.string ⟨#[1, 0, 0, 0, 0, 0, 0, 0, 1]⟩], .int .i64 1, [])
theorem k2 : Knows Tryz.prog 161 m2 := Knows.alike (fuel := 300) progOk K1_ok rfl (by kernel_rfl)
noncomputable def m3 : Memo := ([.string ⟨#[1, 0, 0, 0, 0, 0, 0, 0, 6]⟩, .int .i64 1], .int .i64 9, [])
theorem k3 : Knows Tryz.prog 254 m3 := Knows.alike (fuel := 300) progOk K1_ok rfl (by kernel_rfl)
noncomputable def m4 : Memo := ([.string ⟨#[1, 0, 0, 0, 0, 0, 0, 0, 3]⟩, .int .i64 1], .int .i64 9, [])
theorem k4 : Knows Tryz.prog 254 m4 := Knows.alike (fuel := 300) progOk K1_ok rfl (by kernel_rfl)
noncomputable def m5 : Memo := ([.string ⟨#[1, 0, 0, 0, 0, 0, 0, 0, 6, 1, 0, 0, 0, 0, 0, 0, 0, 3, 9, 0, 1, 1, 0, 0, 0, 0, 0, 0, 0, 1]⟩, .int .i64 2], .int .i64 9, [])
theorem k5 : Knows Tryz.prog 254 m5 := Knows.alike (fuel := 300) progOk K1_ok rfl (by kernel_rfl)
noncomputable def m6 : Memo := ([.string ⟨#[1, 0, 0, 0, 0, 0, 0, 0, 3, 9, 0, 1, 1, 0, 0, 0, 0, 0, 0, 0, 1]⟩, .int .i64 2], .int .i64 9, [])
theorem k6 : Knows Tryz.prog 254 m6 := Knows.alike (fuel := 300) progOk K1_ok rfl (by kernel_rfl)
noncomputable def m7 : Memo := ([.string ⟨#[1, 0, 0, 0, 0, 0, 0, 0, 1]⟩, .int .i64 3], .int .i64 9, [])
theorem k7 : Knows Tryz.prog 254 m7 := Knows.alike (fuel := 300) progOk K1_ok rfl (by kernel_rfl)
noncomputable def m8 : Memo := ([.string ⟨#[1, 0, 0, 0, 0, 0, 0, 0, 6]⟩], .int .i64 6, [])
theorem k8 : Knows Tryz.prog 161 m8 := Knows.alike (fuel := 300) progOk K1_ok rfl (by kernel_rfl)
noncomputable def m9 : Memo := ([.string ⟨#[1, 0, 0, 0, 0, 0, 0, 0, 3]⟩], .int .i64 3, [])
theorem k9 : Knows Tryz.prog 161 m9 := Knows.alike (fuel := 300) progOk K1_ok rfl (by kernel_rfl)
noncomputable def m10 : Memo := ([.string ⟨#[1, 0, 0, 0, 0, 0, 0, 0, 2]⟩, .int .i64 1], .int .i64 9, [])
theorem k10 : Knows Tryz.prog 254 m10 := Knows.alike (fuel := 300) progOk K1_ok rfl (by kernel_rfl)
noncomputable def m11 : Memo := ([.string ⟨#[1, 0, 0, 0, 0, 0, 0, 0, 6, 1, 0, 0, 0, 0, 0, 0, 0, 2, 9, 0, 3, 1, 0, 0, 0, 0, 0, 0, 0, 6, 1, 0, 0, 0, 0, 0, 0, 0, 3, 9, 0, 1, 1, 0, 0, 0, 0, 0, 0, 0, 1]⟩, .int .i64 2], .int .i64 9, [])
theorem k11 : Knows Tryz.prog 254 m11 := Knows.alike (fuel := 300) progOk K1_ok rfl (by kernel_rfl)
noncomputable def m12 : Memo := ([.string ⟨#[1, 0, 0, 0, 0, 0, 0, 0, 2, 9, 0, 3, 1, 0, 0, 0, 0, 0, 0, 0, 6, 1, 0, 0, 0, 0, 0, 0, 0, 3, 9, 0, 1, 1, 0, 0, 0, 0, 0, 0, 0, 1]⟩, .int .i64 2], .int .i64 9, [])
theorem k12 : Knows Tryz.prog 254 m12 := Knows.alike (fuel := 300) progOk K1_ok rfl (by kernel_rfl)
noncomputable def m13 : Memo := ([.string ⟨#[1, 0, 0, 0, 0, 0, 0, 0, 6, 1, 0, 0, 0, 0, 0, 0, 0, 3, 9, 0, 1, 1, 0, 0, 0, 0, 0, 0, 0, 1]⟩, .int .i64 3], .int .i64 9, [])
theorem k13 : Knows Tryz.prog 254 m13 := Knows.alike (fuel := 300) progOk K1_ok rfl (by kernel_rfl)
noncomputable def m14 : Memo := ([.string ⟨#[1, 0, 0, 0, 0, 0, 0, 0, 3, 9, 0, 1, 1, 0, 0, 0, 0, 0, 0, 0, 1]⟩, .int .i64 3], .int .i64 9, [])
theorem k14 : Knows Tryz.prog 254 m14 := Knows.alike (fuel := 300) progOk K1_ok rfl (by kernel_rfl)
noncomputable def m15 : Memo := ([.string ⟨#[1, 0, 0, 0, 0, 0, 0, 0, 1]⟩, .int .i64 4], .int .i64 9, [])
theorem k15 : Knows Tryz.prog 254 m15 := Knows.alike (fuel := 300) progOk K1_ok rfl (by kernel_rfl)
noncomputable def m16 : Memo := ([.string ⟨#[1, 0, 0, 0, 0, 0, 0, 0, 2]⟩], .int .i64 2, [])
theorem k16 : Knows Tryz.prog 161 m16 := Knows.alike (fuel := 300) progOk K1_ok rfl (by kernel_rfl)
noncomputable def m17 : Memo := ([.string ⟨#[1, 0, 0, 0, 0, 0, 0, 0, 2]⟩, .int .i64 2], .int .i64 9, [])
theorem k17 : Knows Tryz.prog 254 m17 := Knows.alike (fuel := 300) progOk K1_ok rfl (by kernel_rfl)
noncomputable def m18 : Memo := ([.string ⟨#[1, 0, 0, 0, 0, 0, 0, 0, 14]⟩, .int .i64 1], .int .i64 9, [])
theorem k18 : Knows Tryz.prog 254 m18 := Knows.alike (fuel := 300) progOk K1_ok rfl (by kernel_rfl)
noncomputable def m19 : Memo := ([.string ⟨#[1, 0, 0, 0, 0, 0, 0, 0, 14, 9, 0, 3, 1, 0, 0, 0, 0, 0, 0, 0, 6, 1, 0, 0, 0, 0, 0, 0, 0, 2, 9, 0, 3, 1, 0, 0, 0, 0, 0, 0, 0, 6, 1, 0, 0, 0, 0, 0, 0, 0, 3, 9, 0, 1, 1, 0, 0, 0, 0, 0, 0, 0, 1, 5, 0, 1, 1, 0, 0, 0, 0, 0, 0, 0, 2]⟩, .int .i64 2], .int .i64 9, [])
theorem k19 : Knows Tryz.prog 254 m19 := Knows.alike (fuel := 300) progOk K1_ok rfl (by kernel_rfl)
noncomputable def m20 : Memo := ([.string ⟨#[1, 0, 0, 0, 0, 0, 0, 0, 6, 1, 0, 0, 0, 0, 0, 0, 0, 2, 9, 0, 3, 1, 0, 0, 0, 0, 0, 0, 0, 6, 1, 0, 0, 0, 0, 0, 0, 0, 3, 9, 0, 1, 1, 0, 0, 0, 0, 0, 0, 0, 1, 5, 0, 1, 1, 0, 0, 0, 0, 0, 0, 0, 2]⟩, .int .i64 3], .int .i64 9, [])
theorem k20 : Knows Tryz.prog 254 m20 := Knows.alike (fuel := 300) progOk K1_ok rfl (by kernel_rfl)
noncomputable def m21 : Memo := ([.string ⟨#[1, 0, 0, 0, 0, 0, 0, 0, 2, 9, 0, 3, 1, 0, 0, 0, 0, 0, 0, 0, 6, 1, 0, 0, 0, 0, 0, 0, 0, 3, 9, 0, 1, 1, 0, 0, 0, 0, 0, 0, 0, 1, 5, 0, 1, 1, 0, 0, 0, 0, 0, 0, 0, 2]⟩, .int .i64 3], .int .i64 9, [])
theorem k21 : Knows Tryz.prog 254 m21 := Knows.alike (fuel := 300) progOk K1_ok rfl (by kernel_rfl)
noncomputable def m22 : Memo := ([.string ⟨#[1, 0, 0, 0, 0, 0, 0, 0, 6, 1, 0, 0, 0, 0, 0, 0, 0, 3, 9, 0, 1, 1, 0, 0, 0, 0, 0, 0, 0, 1, 5, 0, 1, 1, 0, 0, 0, 0, 0, 0, 0, 2]⟩, .int .i64 4], .int .i64 9, [])
theorem k22 : Knows Tryz.prog 254 m22 := Knows.alike (fuel := 300) progOk K1_ok rfl (by kernel_rfl)
noncomputable def m23 : Memo := ([.string ⟨#[1, 0, 0, 0, 0, 0, 0, 0, 3, 9, 0, 1, 1, 0, 0, 0, 0, 0, 0, 0, 1, 5, 0, 1, 1, 0, 0, 0, 0, 0, 0, 0, 2]⟩, .int .i64 4], .int .i64 9, [])
theorem k23 : Knows Tryz.prog 254 m23 := Knows.alike (fuel := 300) progOk K1_ok rfl (by kernel_rfl)
noncomputable def m24 : Memo := ([.string ⟨#[1, 0, 0, 0, 0, 0, 0, 0, 1, 5, 0, 1, 1, 0, 0, 0, 0, 0, 0, 0, 2]⟩, .int .i64 5], .int .i64 9, [])
theorem k24 : Knows Tryz.prog 254 m24 := Knows.alike (fuel := 300) progOk K1_ok rfl (by kernel_rfl)
noncomputable def m25 : Memo := ([.string ⟨#[1, 0, 0, 0, 0, 0, 0, 0, 2]⟩, .int .i64 3], .int .i64 9, [])
theorem k25 : Knows Tryz.prog 254 m25 := Knows.alike (fuel := 300) progOk K1_ok rfl (by kernel_rfl)
noncomputable def m26 : Memo := ([.string ⟨#[1, 0, 0, 0, 0, 0, 0, 0, 14]⟩], .int .i64 14, [])
theorem k26 : Knows Tryz.prog 161 m26 := Knows.alike (fuel := 300) progOk K1_ok rfl (by kernel_rfl)
noncomputable def m27 : Memo := ([.string ⟨#[1, 0, 0, 0, 0, 0, 0, 0, 19]⟩, .int .i64 1], .int .i64 9, [])
theorem k27 : Knows Tryz.prog 254 m27 := Knows.alike (fuel := 300) progOk K1_ok rfl (by kernel_rfl)
noncomputable def m28 : Memo := ([.string ⟨#[1, 0, 0, 0, 0, 0, 0, 0, 19, 9, 0, 1, 1, 0, 0, 0, 0, 0, 0, 0, 1]⟩, .int .i64 2], .int .i64 9, [])
theorem k28 : Knows Tryz.prog 254 m28 := Knows.alike (fuel := 300) progOk K1_ok rfl (by kernel_rfl)
noncomputable def m29 : Memo := ([.string ⟨#[1, 0, 0, 0, 0, 0, 0, 0, 19]⟩], .int .i64 19, [])
theorem k29 : Knows Tryz.prog 161 m29 := Knows.alike (fuel := 300) progOk K1_ok rfl (by kernel_rfl)
noncomputable def m30 : Memo := ([.string ⟨#[5, 0, 0]⟩, .int .i64 1], .int .i64 3, [])
theorem k30 : Knows Tryz.prog 254 m30 := Knows.alike (fuel := 300) progOk K1_ok rfl (by kernel_rfl)
noncomputable def m31 : Memo := ([.string ⟨#[1, 0, 0, 0, 0, 0, 0, 0, 18]⟩, .int .i64 1], .int .i64 9, [])
theorem k31 : Knows Tryz.prog 254 m31 := Knows.alike (fuel := 300) progOk K1_ok rfl (by kernel_rfl)
noncomputable def m32 : Memo := ([.string ⟨#[1, 0, 0, 0, 0, 0, 0, 0, 18, 9, 0, 1, 1, 0, 0, 0, 0, 0, 0, 0, 1, 5, 0, 0]⟩, .int .i64 2], .int .i64 9, [])
theorem k32 : Knows Tryz.prog 254 m32 := Knows.alike (fuel := 300) progOk K1_ok rfl (by kernel_rfl)
noncomputable def m33 : Memo := ([.string ⟨#[1, 0, 0, 0, 0, 0, 0, 0, 1, 5, 0, 0]⟩, .int .i64 3], .int .i64 9, [])
theorem k33 : Knows Tryz.prog 254 m33 := Knows.alike (fuel := 300) progOk K1_ok rfl (by kernel_rfl)
noncomputable def m34 : Memo := ([.string ⟨#[5, 0, 0]⟩, .int .i64 2], .int .i64 3, [])
theorem k34 : Knows Tryz.prog 254 m34 := Knows.alike (fuel := 300) progOk K1_ok rfl (by kernel_rfl)
noncomputable def m35 : Memo := ([.string ⟨#[1, 0, 0, 0, 0, 0, 0, 0, 18]⟩], .int .i64 18, [])
theorem k35 : Knows Tryz.prog 161 m35 := Knows.alike (fuel := 300) progOk K1_ok rfl (by kernel_rfl)
noncomputable def m36 : Memo := ([.string ⟨#[1, 0, 0, 0, 0, 0, 0, 0, 6, 1, 0, 0, 0, 0, 0, 0, 0, 2, 9, 0, 1, 1, 0, 0, 0, 0, 0, 0, 0, 2]⟩, .int .i64 2], .int .i64 9, [])
theorem k36 : Knows Tryz.prog 254 m36 := Knows.alike (fuel := 300) progOk K1_ok rfl (by kernel_rfl)
noncomputable def m37 : Memo := ([.string ⟨#[1, 0, 0, 0, 0, 0, 0, 0, 2, 9, 0, 1, 1, 0, 0, 0, 0, 0, 0, 0, 2]⟩, .int .i64 2], .int .i64 9, [])
theorem k37 : Knows Tryz.prog 254 m37 := Knows.alike (fuel := 300) progOk K1_ok rfl (by kernel_rfl)
noncomputable def ms161_0 : List Memo := [m2, m8, m9, m16, m26, m29, m35]
theorem ks161_0 : KnowsAll Tryz.prog 161 ms161_0 := ⟨k2, k8, k9, k16, k26, k29, k35, trivial⟩
noncomputable def ms254_0 : List Memo := [m0, m1, m3, m4, m5, m6, m7, m10, m11, m12, m13, m14, m15, m17, m18, m19, m20, m21, m22, m23, m24, m25, m27, m28, m30, m31, m32, m33, m34, m36, m37]
theorem ks254_0 : KnowsAll Tryz.prog 254 ms254_0 := ⟨k0, k1, k3, k4, k5, k6, k7, k10, k11, k12, k13, k14, k15, k17, k18, k19, k20, k21, k22, k23, k24, k25, k27, k28, k30, k31, k32, k33, k34, k36, k37, trivial⟩
noncomputable def K0T : Tbl := ((K1.memo 161 ms161_0).memo 254 ms254_0)
theorem K0T_ok : KOk Tryz.prog K0T := (KOk.memoAll (KOk.memoAll K1_ok ks161_0) ks254_0)
noncomputable def m38 : Memo := ([.string ⟨#[1, 0, 0, 0, 0, 0, 0, 0, 1]⟩], .bool true, [])
theorem k38 : Knows Tryz.prog 200 m38 := Knows.alike (fuel := 300) progOk K0T_ok rfl (by kernel_rfl)
noncomputable def m39 : Memo := ([.string ⟨#[9, 0, 1, 1, 0, 0, 0, 0, 0, 0, 0, 1]⟩, .int .i64 1], .int .i64 12, [])
theorem k39 : Knows Tryz.prog 254 m39 := Knows.alike (fuel := 300) progOk K0T_ok rfl (by kernel_rfl)
noncomputable def m40 : Memo := ([.string ⟨#[1, 0, 0, 0, 0, 0, 0, 0, 6]⟩], .bool true, [])
theorem k40 : Knows Tryz.prog 200 m40 := Knows.alike (fuel := 300) progOk K0T_ok rfl (by kernel_rfl)
noncomputable def m41 : Memo := ([.string ⟨#[1, 0, 0, 0, 0, 0, 0, 0, 3]⟩], .bool true, [])
theorem k41 : Knows Tryz.prog 200 m41 := Knows.alike (fuel := 300) progOk K0T_ok rfl (by kernel_rfl)
noncomputable def m42 : Memo := ([.string ⟨#[9, 0, 1, 1, 0, 0, 0, 0, 0, 0, 0, 1]⟩, .int .i64 2], .int .i64 12, [])
theorem k42 : Knows Tryz.prog 254 m42 := Knows.alike (fuel := 300) progOk K0T_ok rfl (by kernel_rfl)
noncomputable def m43 : Memo := ([.string ⟨#[1, 0, 0, 0, 0, 0, 0, 0, 2]⟩], .bool true, [])
theorem k43 : Knows Tryz.prog 200 m43 := Knows.alike (fuel := 300) progOk K0T_ok rfl (by kernel_rfl)
noncomputable def m44 : Memo := ([.string ⟨#[9, 0, 1, 1, 0, 0, 0, 0, 0, 0, 0, 1]⟩, .int .i64 3], .int .i64 12, [])
theorem k44 : Knows Tryz.prog 254 m44 := Knows.alike (fuel := 300) progOk K0T_ok rfl (by kernel_rfl)
noncomputable def m45 : Memo := ([.string ⟨#[5, 0, 1, 1, 0, 0, 0, 0, 0, 0, 0, 2]⟩, .int .i64 1], .int .i64 12, [])
theorem k45 : Knows Tryz.prog 254 m45 := Knows.alike (fuel := 300) progOk K0T_ok rfl (by kernel_rfl)
noncomputable def m46 : Memo := ([.string ⟨#[1, 0, 0, 0, 0, 0, 0, 0, 14]⟩], .bool true, [])
theorem k46 : Knows Tryz.prog 200 m46 := Knows.alike (fuel := 300) progOk K0T_ok rfl (by kernel_rfl)
noncomputable def m47 : Memo := ([.string ⟨#[9, 0, 1, 1, 0, 0, 0, 0, 0, 0, 0, 1, 5, 0, 1, 1, 0, 0, 0, 0, 0, 0, 0, 2]⟩, .int .i64 4], .int .i64 12, [])
theorem k47 : Knows Tryz.prog 254 m47 := Knows.alike (fuel := 300) progOk K0T_ok rfl (by kernel_rfl)
noncomputable def m48 : Memo := ([.string ⟨#[5, 0, 1, 1, 0, 0, 0, 0, 0, 0, 0, 2]⟩, .int .i64 2], .int .i64 12, [])
theorem k48 : Knows Tryz.prog 254 m48 := Knows.alike (fuel := 300) progOk K0T_ok rfl (by kernel_rfl)
noncomputable def m49 : Memo := ([.string ⟨#[1, 0, 0, 0, 0, 0, 0, 0, 19]⟩], .bool true, [])
theorem k49 : Knows Tryz.prog 200 m49 := Knows.alike (fuel := 300) progOk K0T_ok rfl (by kernel_rfl)
noncomputable def m50 : Memo := ([.string ⟨#[5, 0, 0]⟩], .bool true, [])
theorem k50 : Knows Tryz.prog 200 m50 := Knows.alike (fuel := 300) progOk K0T_ok rfl (by kernel_rfl)
noncomputable def m51 : Memo := ([.string ⟨#[1, 0, 0, 0, 0, 0, 0, 0, 18]⟩], .bool true, [])
theorem k51 : Knows Tryz.prog 200 m51 := Knows.alike (fuel := 300) progOk K0T_ok rfl (by kernel_rfl)
noncomputable def m52 : Memo := ([.string ⟨#[9, 0, 1, 1, 0, 0, 0, 0, 0, 0, 0, 1, 5, 0, 0]⟩, .int .i64 2], .int .i64 12, [])
theorem k52 : Knows Tryz.prog 254 m52 := Knows.alike (fuel := 300) progOk K0T_ok rfl (by kernel_rfl)
noncomputable def m53 : Memo := ([.string ⟨#[9, 0, 1, 1, 0, 0, 0, 0, 0, 0, 0, 2]⟩, .int .i64 1], .int .i64 12, [])
theorem k53 : Knows Tryz.prog 254 m53 := Knows.alike (fuel := 300) progOk K0T_ok rfl (by kernel_rfl)
noncomputable def m54 : Memo := ([.string ⟨#[9, 0, 1, 1, 0, 0, 0, 0, 0, 0, 0, 2]⟩, .int .i64 2], .int .i64 12, [])
theorem k54 : Knows Tryz.prog 254 m54 := Knows.alike (fuel := 300) progOk K0T_ok rfl (by kernel_rfl)
noncomputable def ms161_1 : List Memo := [m2, m8, m9, m16, m26, m29, m35]
theorem ks161_1 : KnowsAll Tryz.prog 161 ms161_1 := ⟨k2, k8, k9, k16, k26, k29, k35, trivial⟩
noncomputable def ms200_1 : List Memo := [m38, m40, m41, m43, m46, m49, m50, m51]
theorem ks200_1 : KnowsAll Tryz.prog 200 ms200_1 := ⟨k38, k40, k41, k43, k46, k49, k50, k51, trivial⟩
noncomputable def ms254_1 : List Memo := [m0, m1, m3, m4, m5, m6, m7, m10, m11, m12, m13, m14, m15, m17, m18, m19, m20, m21, m22, m23, m24, m25, m27, m28, m30, m31, m32, m33, m34, m36, m37, m39, m42, m44, m45, m47, m48, m52, m53, m54]
theorem ks254_1 : KnowsAll Tryz.prog 254 ms254_1 := ⟨k0, k1, k3, k4, k5, k6, k7, k10, k11, k12, k13, k14, k15, k17, k18, k19, k20, k21, k22, k23, k24, k25, k27, k28, k30, k31, k32, k33, k34, k36, k37, k39, k42, k44, k45, k47, k48, k52, k53, k54, trivial⟩
noncomputable def K1T : Tbl := (((K1.memo 161 ms161_1).memo 200 ms200_1).memo 254 ms254_1)
theorem K1T_ok : KOk Tryz.prog K1T := (KOk.memoAll (KOk.memoAll (KOk.memoAll K1_ok ks161_1) ks200_1) ks254_1)
noncomputable def m55 : Memo := ([.string ⟨#[9, 0, 1, 1, 0, 0, 0, 0, 0, 0, 0, 1]⟩], .bool true, [])
theorem k55 : Knows Tryz.prog 200 m55 := Knows.alike (fuel := 300) progOk K1T_ok rfl (by kernel_rfl)
noncomputable def m56 : Memo := ([.string ⟨#[1, 0, 0, 0, 0, 0, 0, 0, 1]⟩], .int .i64 1, [])
theorem k56 : Knows Tryz.prog 155 m56 := Knows.alike (fuel := 300) progOk K1T_ok rfl (by kernel_rfl)
noncomputable def m57 : Memo := ([.string ⟨#[9, 0, 3, 1, 0, 0, 0, 0, 0, 0, 0, 6, 1, 0, 0, 0, 0, 0, 0, 0, 3, 9, 0, 1, 1, 0, 0, 0, 0, 0, 0, 0, 1]⟩, .int .i64 1], .int .i64 33, [])
theorem k57 : Knows Tryz.prog 254 m57 := Knows.alike (fuel := 300) progOk K1T_ok rfl (by kernel_rfl)
noncomputable def m58 : Memo := ([.string ⟨#[1, 0, 0, 0, 0, 0, 0, 0, 6]⟩], .int .i64 1, [])
theorem k58 : Knows Tryz.prog 155 m58 := Knows.alike (fuel := 300) progOk K1T_ok rfl (by kernel_rfl)
noncomputable def m59 : Memo := ([.string ⟨#[1, 0, 0, 0, 0, 0, 0, 0, 3]⟩], .int .i64 1, [])
theorem k59 : Knows Tryz.prog 155 m59 := Knows.alike (fuel := 300) progOk K1T_ok rfl (by kernel_rfl)
noncomputable def m60 : Memo := ([.string ⟨#[9, 0, 3, 1, 0, 0, 0, 0, 0, 0, 0, 6, 1, 0, 0, 0, 0, 0, 0, 0, 3, 9, 0, 1, 1, 0, 0, 0, 0, 0, 0, 0, 1]⟩, .int .i64 2], .int .i64 33, [])
theorem k60 : Knows Tryz.prog 254 m60 := Knows.alike (fuel := 300) progOk K1T_ok rfl (by kernel_rfl)
noncomputable def m61 : Memo := ([.string ⟨#[1, 0, 0, 0, 0, 0, 0, 0, 2]⟩], .int .i64 1, [])
theorem k61 : Knows Tryz.prog 155 m61 := Knows.alike (fuel := 300) progOk K1T_ok rfl (by kernel_rfl)
noncomputable def m62 : Memo := ([.string ⟨#[5, 0, 1, 1, 0, 0, 0, 0, 0, 0, 0, 2]⟩], .bool true, [])
theorem k62 : Knows Tryz.prog 200 m62 := Knows.alike (fuel := 300) progOk K1T_ok rfl (by kernel_rfl)
noncomputable def m63 : Memo := ([.string ⟨#[9, 0, 3, 1, 0, 0, 0, 0, 0, 0, 0, 6, 1, 0, 0, 0, 0, 0, 0, 0, 3, 9, 0, 1, 1, 0, 0, 0, 0, 0, 0, 0, 1, 5, 0, 1, 1, 0, 0, 0, 0, 0, 0, 0, 2]⟩, .int .i64 3], .int .i64 33, [])
theorem k63 : Knows Tryz.prog 254 m63 := Knows.alike (fuel := 300) progOk K1T_ok rfl (by kernel_rfl)
noncomputable def m64 : Memo := ([.string ⟨#[1, 0, 0, 0, 0, 0, 0, 0, 14]⟩], .int .i64 1, [])
theorem k64 : Knows Tryz.prog 155 m64 := Knows.alike (fuel := 300) progOk K1T_ok rfl (by kernel_rfl)
noncomputable def m65 : Memo := ([.string ⟨#[9, 0, 2, 1, 0, 0, 0, 0, 0, 0, 0, 19, 9, 0, 1, 1, 0, 0, 0, 0, 0, 0, 0, 1]⟩, .int .i64 1], .int .i64 24, [])
theorem k65 : Knows Tryz.prog 254 m65 := Knows.alike (fuel := 300) progOk K1T_ok rfl (by kernel_rfl)
noncomputable def m66 : Memo := ([.string ⟨#[1, 0, 0, 0, 0, 0, 0, 0, 19]⟩], .int .i64 1, [])
theorem k66 : Knows Tryz.prog 155 m66 := Knows.alike (fuel := 300) progOk K1T_ok rfl (by kernel_rfl)
noncomputable def m67 : Memo := ([.string ⟨#[9, 0, 3, 1, 0, 0, 0, 0, 0, 0, 0, 18, 9, 0, 1, 1, 0, 0, 0, 0, 0, 0, 0, 1, 5, 0, 0]⟩, .int .i64 1], .int .i64 27, [])
theorem k67 : Knows Tryz.prog 254 m67 := Knows.alike (fuel := 300) progOk K1T_ok rfl (by kernel_rfl)
noncomputable def m68 : Memo := ([.string ⟨#[1, 0, 0, 0, 0, 0, 0, 0, 18]⟩], .int .i64 1, [])
theorem k68 : Knows Tryz.prog 155 m68 := Knows.alike (fuel := 300) progOk K1T_ok rfl (by kernel_rfl)
noncomputable def m69 : Memo := ([.string ⟨#[5, 0, 0]⟩], .int .i64 5, [])
theorem k69 : Knows Tryz.prog 155 m69 := Knows.alike (fuel := 300) progOk K1T_ok rfl (by kernel_rfl)
noncomputable def m70 : Memo := ([.string ⟨#[9, 0, 1, 1, 0, 0, 0, 0, 0, 0, 0, 2]⟩], .bool true, [])
theorem k70 : Knows Tryz.prog 200 m70 := Knows.alike (fuel := 300) progOk K1T_ok rfl (by kernel_rfl)
noncomputable def m71 : Memo := ([.string ⟨#[9, 0, 3, 1, 0, 0, 0, 0, 0, 0, 0, 6, 1, 0, 0, 0, 0, 0, 0, 0, 2, 9, 0, 1, 1, 0, 0, 0, 0, 0, 0, 0, 2]⟩, .int .i64 1], .int .i64 33, [])
theorem k71 : Knows Tryz.prog 254 m71 := Knows.alike (fuel := 300) progOk K1T_ok rfl (by kernel_rfl)
noncomputable def ms155_2 : List Memo := [m56, m58, m59, m61, m64, m66, m68, m69]
theorem ks155_2 : KnowsAll Tryz.prog 155 ms155_2 := ⟨k56, k58, k59, k61, k64, k66, k68, k69, trivial⟩
noncomputable def ms161_2 : List Memo := [m2, m8, m9, m16, m26, m29, m35]
theorem ks161_2 : KnowsAll Tryz.prog 161 ms161_2 := ⟨k2, k8, k9, k16, k26, k29, k35, trivial⟩
noncomputable def ms200_2 : List Memo := [m38, m40, m41, m43, m46, m49, m50, m51, m55, m62, m70]
theorem ks200_2 : KnowsAll Tryz.prog 200 ms200_2 := ⟨k38, k40, k41, k43, k46, k49, k50, k51, k55, k62, k70, trivial⟩
noncomputable def ms254_2 : List Memo := [m0, m1, m3, m4, m5, m6, m7, m10, m11, m12, m13, m14, m15, m17, m18, m19, m20, m21, m22, m23, m24, m25, m27, m28, m30, m31, m32, m33, m34, m36, m37, m39, m42, m44, m45, m47, m48, m52, m53, m54, m57, m60, m63, m65, m67, m71]
theorem ks254_2 : KnowsAll Tryz.prog 254 ms254_2 := ⟨k0, k1, k3, k4, k5, k6, k7, k10, k11, k12, k13, k14, k15, k17, k18, k19, k20, k21, k22, k23, k24, k25, k27, k28, k30, k31, k32, k33, k34, k36, k37, k39, k42, k44, k45, k47, k48, k52, k53, k54, k57, k60, k63, k65, k67, k71, trivial⟩
noncomputable def K2T : Tbl := ((((K1.memo 155 ms155_2).memo 161 ms161_2).memo 200 ms200_2).memo 254 ms254_2)
theorem K2T_ok : KOk Tryz.prog K2T := (KOk.memoAll (KOk.memoAll (KOk.memoAll (KOk.memoAll K1_ok ks155_2) ks161_2) ks200_2) ks254_2)
noncomputable def m72 : Memo := ([.string ⟨#[9, 0, 1, 1, 0, 0, 0, 0, 0, 0, 0, 1]⟩], .int .i64 9, [])
theorem k72 : Knows Tryz.prog 155 m72 := Knows.alike (fuel := 300) progOk K2T_ok rfl (by kernel_rfl)
noncomputable def m73 : Memo := ([.string ⟨#[1, 0, 0, 0, 0, 0, 0, 0, 1]⟩], .int .i64 1, [])
theorem k73 : Knows Tryz.prog 83 m73 := Knows.alike (fuel := 300) progOk K2T_ok rfl (by kernel_rfl)
noncomputable def m74 : Memo := ([.string ⟨#[9, 0, 3, 1, 0, 0, 0, 0, 0, 0, 0, 6, 1, 0, 0, 0, 0, 0, 0, 0, 3, 9, 0, 1, 1, 0, 0, 0, 0, 0, 0, 0, 1]⟩], .bool true, [])
theorem k74 : Knows Tryz.prog 200 m74 := Knows.alike (fuel := 300) progOk K2T_ok rfl (by kernel_rfl)
noncomputable def m75 : Memo := ([.string ⟨#[1, 0, 0, 0, 0, 0, 0, 0, 6]⟩], .int .i64 6, [])
theorem k75 : Knows Tryz.prog 83 m75 := Knows.alike (fuel := 300) progOk K2T_ok rfl (by kernel_rfl)
noncomputable def m76 : Memo := ([.string ⟨#[1, 0, 0, 0, 0, 0, 0, 0, 3]⟩], .int .i64 3, [])
theorem k76 : Knows Tryz.prog 83 m76 := Knows.alike (fuel := 300) progOk K2T_ok rfl (by kernel_rfl)
noncomputable def m77 : Memo := ([.string ⟨#[9, 0, 3, 1, 0, 0, 0, 0, 0, 0, 0, 6, 1, 0, 0, 0, 0, 0, 0, 0, 2, 9, 0, 3, 1, 0, 0, 0, 0, 0, 0, 0, 6, 1, 0, 0, 0, 0, 0, 0, 0, 3, 9, 0, 1, 1, 0, 0, 0, 0, 0, 0, 0, 1]⟩, .int .i64 1], .int .i64 54, [])
theorem k77 : Knows Tryz.prog 254 m77 := Knows.alike (fuel := 300) progOk K2T_ok rfl (by kernel_rfl)
noncomputable def m78 : Memo := ([.string ⟨#[1, 0, 0, 0, 0, 0, 0, 0, 2]⟩], .int .i64 2, [])
theorem k78 : Knows Tryz.prog 83 m78 := Knows.alike (fuel := 300) progOk K2T_ok rfl (by kernel_rfl)
noncomputable def m79 : Memo := ([.string ⟨#[9, 0, 3, 1, 0, 0, 0, 0, 0, 0, 0, 6, 1, 0, 0, 0, 0, 0, 0, 0, 2, 9, 0, 3, 1, 0, 0, 0, 0, 0, 0, 0, 6, 1, 0, 0, 0, 0, 0, 0, 0, 3, 9, 0, 1, 1, 0, 0, 0, 0, 0, 0, 0, 1, 5, 0, 1, 1, 0, 0, 0, 0, 0, 0, 0, 2]⟩, .int .i64 2], .int .i64 54, [])
theorem k79 : Knows Tryz.prog 254 m79 := Knows.alike (fuel := 300) progOk K2T_ok rfl (by kernel_rfl)
noncomputable def m80 : Memo := ([.string ⟨#[1, 0, 0, 0, 0, 0, 0, 0, 14]⟩], .int .i64 14, [])
theorem k80 : Knows Tryz.prog 83 m80 := Knows.alike (fuel := 300) progOk K2T_ok rfl (by kernel_rfl)
noncomputable def m81 : Memo := ([.string ⟨#[5, 0, 1, 1, 0, 0, 0, 0, 0, 0, 0, 2]⟩], .int .i64 5, [])
theorem k81 : Knows Tryz.prog 155 m81 := Knows.alike (fuel := 300) progOk K2T_ok rfl (by kernel_rfl)
noncomputable def m82 : Memo := ([.string ⟨#[9, 0, 2, 1, 0, 0, 0, 0, 0, 0, 0, 19, 9, 0, 1, 1, 0, 0, 0, 0, 0, 0, 0, 1]⟩], .bool true, [])
theorem k82 : Knows Tryz.prog 200 m82 := Knows.alike (fuel := 300) progOk K2T_ok rfl (by kernel_rfl)
noncomputable def m83 : Memo := ([.string ⟨#[1, 0, 0, 0, 0, 0, 0, 0, 19]⟩], .int .i64 19, [])
theorem k83 : Knows Tryz.prog 83 m83 := Knows.alike (fuel := 300) progOk K2T_ok rfl (by kernel_rfl)
noncomputable def m84 : Memo := ([.string ⟨#[9, 0, 3, 1, 0, 0, 0, 0, 0, 0, 0, 18, 9, 0, 1, 1, 0, 0, 0, 0, 0, 0, 0, 1, 5, 0, 0]⟩], .bool true, [])
theorem k84 : Knows Tryz.prog 200 m84 := Knows.alike (fuel := 300) progOk K2T_ok rfl (by kernel_rfl)
noncomputable def m85 : Memo := ([.string ⟨#[1, 0, 0, 0, 0, 0, 0, 0, 18]⟩], .int .i64 18, [])
theorem k85 : Knows Tryz.prog 83 m85 := Knows.alike (fuel := 300) progOk K2T_ok rfl (by kernel_rfl)
noncomputable def m86 : Memo := ([.string ⟨#[5, 0, 0]⟩], .slice none 0 0, [])
theorem k86 : Knows Tryz.prog 156 m86 := Knows.alike (fuel := 300) progOk K2T_ok rfl (by kernel_rfl)
noncomputable def m87 : Memo := ([.string ⟨#[9, 0, 1, 1, 0, 0, 0, 0, 0, 0, 0, 2]⟩], .int .i64 9, [])
theorem k87 : Knows Tryz.prog 155 m87 := Knows.alike (fuel := 300) progOk K2T_ok rfl (by kernel_rfl)
noncomputable def m88 : Memo := ([.string ⟨#[9, 0, 3, 1, 0, 0, 0, 0, 0, 0, 0, 6, 1, 0, 0, 0, 0, 0, 0, 0, 2, 9, 0, 1, 1, 0, 0, 0, 0, 0, 0, 0, 2]⟩], .bool true, [])
theorem k88 : Knows Tryz.prog 200 m88 := Knows.alike (fuel := 300) progOk K2T_ok rfl (by kernel_rfl)
noncomputable def ms83_3 : List Memo := [m73, m75, m76, m78, m80, m83, m85]
theorem ks83_3 : KnowsAll Tryz.prog 83 ms83_3 := ⟨k73, k75, k76, k78, k80, k83, k85, trivial⟩
noncomputable def ms155_3 : List Memo := [m56, m58, m59, m61, m64, m66, m68, m69, m72, m81, m87]
theorem ks155_3 : KnowsAll Tryz.prog 155 ms155_3 := ⟨k56, k58, k59, k61, k64, k66, k68, k69, k72, k81, k87, trivial⟩
noncomputable def ms156_3 : List Memo := [m86]
theorem ks156_3 : KnowsAll Tryz.prog 156 ms156_3 := ⟨k86, trivial⟩
noncomputable def ms161_3 : List Memo := [m2, m8, m9, m16, m26, m29, m35]
theorem ks161_3 : KnowsAll Tryz.prog 161 ms161_3 := ⟨k2, k8, k9, k16, k26, k29, k35, trivial⟩
noncomputable def ms200_3 : List Memo := [m38, m40, m41, m43, m46, m49, m50, m51, m55, m62, m70, m74, m82, m84, m88]
theorem ks200_3 : KnowsAll Tryz.prog 200 ms200_3 := ⟨k38, k40, k41, k43, k46, k49, k50, k51, k55, k62, k70, k74, k82, k84, k88, trivial⟩
noncomputable def ms254_3 : List Memo := [m0, m1, m3, m4, m5, m6, m7, m10, m11, m12, m13, m14, m15, m17, m18, m19, m20, m21, m22, m23, m24, m25, m27, m28, m30, m31, m32, m33, m34, m36, m37, m39, m42, m44, m45, m47, m48, m52, m53, m54, m57, m60, m63, m65, m67, m71, m77, m79]
theorem ks254_3 : KnowsAll Tryz.prog 254 ms254_3 := ⟨k0, k1, k3, k4, k5, k6, k7, k10, k11, k12, k13, k14, k15, k17, k18, k19, k20, k21, k22, k23, k24, k25, k27, k28, k30, k31, k32, k33, k34, k36, k37, k39, k42, k44, k45, k47, k48, k52, k53, k54, k57, k60, k63, k65, k67, k71, k77, k79, trivial⟩
noncomputable def K3T : Tbl := ((((((K1.memo 83 ms83_3).memo 155 ms155_3).memo 156 ms156_3).memo 161 ms161_3).memo 200 ms200_3).memo 254 ms254_3)
theorem K3T_ok : KOk Tryz.prog K3T := (KOk.memoAll (KOk.memoAll (KOk.memoAll (KOk.memoAll (KOk.memoAll (KOk.memoAll K1_ok ks83_3) ks155_3) ks156_3) ks161_3) ks200_3) ks254_3)
noncomputable def m89 : Memo := ([.string ⟨#[9, 0, 1, 1, 0, 0, 0, 0, 0, 0, 0, 1]⟩], .slice (some ⟨0, 0, none⟩) 1 1, [⟨2, 33, 1, [.string ⟨#[1, 0, 0, 0, 0, 0, 0, 0, 1]⟩], []⟩])
theorem k89 : Knows Tryz.prog 156 m89 := Knows.alike (fuel := 300) progOk K3T_ok rfl (by kernel_rfl)
noncomputable def m90 : Memo := ([.string ⟨#[9, 0, 3, 1, 0, 0, 0, 0, 0, 0, 0, 6, 1, 0, 0, 0, 0, 0, 0, 0, 3, 9, 0, 1, 1, 0, 0, 0, 0, 0, 0, 0, 1]⟩], .int .i64 9, [])
theorem k90 : Knows Tryz.prog 155 m90 := Knows.alike (fuel := 300) progOk K3T_ok rfl (by kernel_rfl)
noncomputable def m91 : Memo := ([.string ⟨#[9, 0, 3, 1, 0, 0, 0, 0, 0, 0, 0, 6, 1, 0, 0, 0, 0, 0, 0, 0, 2, 9, 0, 3, 1, 0, 0, 0, 0, 0, 0, 0, 6, 1, 0, 0, 0, 0, 0, 0, 0, 3, 9, 0, 1, 1, 0, 0, 0, 0, 0, 0, 0, 1]⟩], .bool true, [])
theorem k91 : Knows Tryz.prog 200 m91 := Knows.alike (fuel := 300) progOk K3T_ok rfl (by kernel_rfl)
noncomputable def m92 : Memo := ([.string ⟨#[9, 0, 3, 1, 0, 0, 0, 0, 0, 0, 0, 14, 9, 0, 3, 1, 0, 0, 0, 0, 0, 0, 0, 6, 1, 0, 0, 0, 0, 0, 0, 0, 2, 9, 0, 3, 1, 0, 0, 0, 0, 0, 0, 0, 6, 1, 0, 0, 0, 0, 0, 0, 0, 3, 9, 0, 1, 1, 0, 0, 0, 0, 0, 0, 0, 1, 5, 0, 1, 1, 0, 0, 0, 0, 0, 0, 0, 2]⟩, .int .i64 1], .int .i64 78, [])
theorem k92 : Knows Tryz.prog 254 m92 := Knows.alike (fuel := 300) progOk K3T_ok rfl (by kernel_rfl)
noncomputable def m93 : Memo := ([.string ⟨#[5, 0, 1, 1, 0, 0, 0, 0, 0, 0, 0, 2]⟩], .slice (some ⟨0, 0, none⟩) 1 1, [⟨2, 33, 1, [.string ⟨#[1, 0, 0, 0, 0, 0, 0, 0, 2]⟩], []⟩])
theorem k93 : Knows Tryz.prog 156 m93 := Knows.alike (fuel := 300) progOk K3T_ok rfl (by kernel_rfl)
noncomputable def m94 : Memo := ([.string ⟨#[9, 0, 2, 1, 0, 0, 0, 0, 0, 0, 0, 19, 9, 0, 1, 1, 0, 0, 0, 0, 0, 0, 0, 1]⟩], .int .i64 9, [])
theorem k94 : Knows Tryz.prog 155 m94 := Knows.alike (fuel := 300) progOk K3T_ok rfl (by kernel_rfl)
noncomputable def m95 : Memo := ([.string ⟨#[9, 0, 3, 1, 0, 0, 0, 0, 0, 0, 0, 18, 9, 0, 1, 1, 0, 0, 0, 0, 0, 0, 0, 1, 5, 0, 0]⟩], .int .i64 9, [])
theorem k95 : Knows Tryz.prog 155 m95 := Knows.alike (fuel := 300) progOk K3T_ok rfl (by kernel_rfl)
noncomputable def m96 : Memo := ([.string ⟨#[9, 0, 1, 1, 0, 0, 0, 0, 0, 0, 0, 2]⟩], .slice (some ⟨0, 0, none⟩) 1 1, [⟨2, 33, 1, [.string ⟨#[1, 0, 0, 0, 0, 0, 0, 0, 2]⟩], []⟩])
theorem k96 : Knows Tryz.prog 156 m96 := Knows.alike (fuel := 300) progOk K3T_ok rfl (by kernel_rfl)
noncomputable def m97 : Memo := ([.string ⟨#[9, 0, 3, 1, 0, 0, 0, 0, 0, 0, 0, 6, 1, 0, 0, 0, 0, 0, 0, 0, 2, 9, 0, 1, 1, 0, 0, 0, 0, 0, 0, 0, 2]⟩], .int .i64 9, [])
theorem k97 : Knows Tryz.prog 155 m97 := Knows.alike (fuel := 300) progOk K3T_ok rfl (by kernel_rfl)
noncomputable def ms83_4 : List Memo := [m73, m75, m76, m78, m80, m83, m85]
theorem ks83_4 : KnowsAll Tryz.prog 83 ms83_4 := ⟨k73, k75, k76, k78, k80, k83, k85, trivial⟩
noncomputable def ms155_4 : List Memo := [m56, m58, m59, m61, m64, m66, m68, m69, m72, m81, m87, m90, m94, m95, m97]
theorem ks155_4 : KnowsAll Tryz.prog 155 ms155_4 := ⟨k56, k58, k59, k61, k64, k66, k68, k69, k72, k81, k87, k90, k94, k95, k97, trivial⟩
noncomputable def ms156_4 : List Memo := [m86, m89, m93, m96]
theorem ks156_4 : KnowsAll Tryz.prog 156 ms156_4 := ⟨k86, k89, k93, k96, trivial⟩
noncomputable def ms161_4 : List Memo := [m2, m8, m9, m16, m26, m29, m35]
theorem ks161_4 : KnowsAll Tryz.prog 161 ms161_4 := ⟨k2, k8, k9, k16, k26, k29, k35, trivial⟩
noncomputable def ms200_4 : List Memo := [m38, m40, m41, m43, m46, m49, m50, m51, m55, m62, m70, m74, m82, m84, m88, m91]
theorem ks200_4 : KnowsAll Tryz.prog 200 ms200_4 := ⟨k38, k40, k41, k43, k46, k49, k50, k51, k55, k62, k70, k74, k82, k84, k88, k91, trivial⟩
noncomputable def ms254_4 : List Memo := [m0, m1, m3, m4, m5, m6, m7, m10, m11, m12, m13, m14, m15, m17, m18, m19, m20, m21, m22, m23, m24, m25, m27, m28, m30, m31, m32, m33, m34, m36, m37, m39, m42, m44, m45, m47, m48, m52, m53, m54, m57, m60, m63, m65, m67, m71, m77, m79, m92]
theorem ks254_4 : KnowsAll Tryz.prog 254 ms254_4 := ⟨k0, k1, k3, k4, k5, k6, k7, k10, k11, k12, k13, k14, k15, k17, k18, k19, k20, k21, k22, k23, k24, k25, k27, k28, k30, k31, k32, k33, k34, k36, k37, k39, k42, k44, k45, k47, k48, k52, k53, k54, k57, k60, k63, k65, k67, k71, k77, k79, k92, trivial⟩
noncomputable def K4T : Tbl := ((((((K1.memo 83 ms83_4).memo 155 ms155_4).memo 156 ms156_4).memo 161 ms161_4).memo 200 ms200_4).memo 254 ms254_4)
theorem K4T_ok : KOk Tryz.prog K4T := (KOk.memoAll (KOk.memoAll (KOk.memoAll (KOk.memoAll (KOk.memoAll (KOk.memoAll K1_ok ks83_4) ks155_4) ks156_4) ks161_4) ks200_4) ks254_4)
noncomputable def m98 : Memo := ([.string ⟨#[9, 0, 1, 1, 0, 0, 0, 0, 0, 0, 0, 1]⟩], .bool true, [])
theorem k98 : Knows Tryz.prog 30 m98 := Knows.alike (fuel := 300) progOk K4T_ok rfl (by kernel_rfl)
noncomputable def m99 : Memo := ([.string ⟨#[9, 0, 3, 1, 0, 0, 0, 0, 0, 0, 0, 6, 1, 0, 0, 0, 0, 0, 0, 0, 3, 9, 0, 1, 1, 0, 0, 0, 0, 0, 0, 0, 1]⟩], .slice (some ⟨0, 0, none⟩) 3 3, [⟨2, 33, 1, [.string ⟨#[1, 0, 0, 0, 0, 0, 0, 0, 6]⟩, .string ⟨#[1, 0, 0, 0, 0, 0, 0, 0, 3]⟩, .string ⟨#[9, 0, 1, 1, 0, 0, 0, 0, 0, 0, 0, 1]⟩], []⟩])
theorem k99 : Knows Tryz.prog 156 m99 := Knows.alike (fuel := 300) progOk K4T_ok rfl (by kernel_rfl)
noncomputable def m100 : Memo := ([.string ⟨#[9, 0, 3, 1, 0, 0, 0, 0, 0, 0, 0, 6, 1, 0, 0, 0, 0, 0, 0, 0, 2, 9, 0, 3, 1, 0, 0, 0, 0, 0, 0, 0, 6, 1, 0, 0, 0, 0, 0, 0, 0, 3, 9, 0, 1, 1, 0, 0, 0, 0, 0, 0, 0, 1]⟩], .int .i64 9, [])
theorem k100 : Knows Tryz.prog 155 m100 := Knows.alike (fuel := 300) progOk K4T_ok rfl (by kernel_rfl)
noncomputable def m101 : Memo := ([.string ⟨#[9, 0, 3, 1, 0, 0, 0, 0, 0, 0, 0, 14, 9, 0, 3, 1, 0, 0, 0, 0, 0, 0, 0, 6, 1, 0, 0, 0, 0, 0, 0, 0, 2, 9, 0, 3, 1, 0, 0, 0, 0, 0, 0, 0, 6, 1, 0, 0, 0, 0, 0, 0, 0, 3, 9, 0, 1, 1, 0, 0, 0, 0, 0, 0, 0, 1, 5, 0, 1, 1, 0, 0, 0, 0, 0, 0, 0, 2]⟩], .bool true, [])
theorem k101 : Knows Tryz.prog 200 m101 := Knows.alike (fuel := 300) progOk K4T_ok rfl (by kernel_rfl)
noncomputable def m102 : Memo := ([.string ⟨#[9, 0, 2, 1, 0, 0, 0, 0, 0, 0, 0, 19, 9, 0, 1, 1, 0, 0, 0, 0, 0, 0, 0, 1]⟩], .slice (some ⟨0, 0, none⟩) 2 2, [⟨2, 33, 1, [.string ⟨#[1, 0, 0, 0, 0, 0, 0, 0, 19]⟩, .string ⟨#[9, 0, 1, 1, 0, 0, 0, 0, 0, 0, 0, 1]⟩], []⟩])
theorem k102 : Knows Tryz.prog 156 m102 := Knows.alike (fuel := 300) progOk K4T_ok rfl (by kernel_rfl)
noncomputable def m103 : Memo := ([.string ⟨#[9, 0, 3, 1, 0, 0, 0, 0, 0, 0, 0, 18, 9, 0, 1, 1, 0, 0, 0, 0, 0, 0, 0, 1, 5, 0, 0]⟩], .slice (some ⟨0, 0, none⟩) 3 3, [⟨2, 33, 1, [.string ⟨#[1, 0, 0, 0, 0, 0, 0, 0, 18]⟩, .string ⟨#[9, 0, 1, 1, 0, 0, 0, 0, 0, 0, 0, 1]⟩, .string ⟨#[5, 0, 0]⟩], []⟩])
theorem k103 : Knows Tryz.prog 156 m103 := Knows.alike (fuel := 300) progOk K4T_ok rfl (by kernel_rfl)
noncomputable def m104 : Memo := ([.string ⟨#[9, 0, 1, 1, 0, 0, 0, 0, 0, 0, 0, 2]⟩], .bool true, [])
theorem k104 : Knows Tryz.prog 30 m104 := Knows.alike (fuel := 300) progOk K4T_ok rfl (by kernel_rfl)
noncomputable def m105 : Memo := ([.string ⟨#[9, 0, 3, 1, 0, 0, 0, 0, 0, 0, 0, 6, 1, 0, 0, 0, 0, 0, 0, 0, 2, 9, 0, 1, 1, 0, 0, 0, 0, 0, 0, 0, 2]⟩], .slice (some ⟨0, 0, none⟩) 3 3, [⟨2, 33, 1, [.string ⟨#[1, 0, 0, 0, 0, 0, 0, 0, 6]⟩, .string ⟨#[1, 0, 0, 0, 0, 0, 0, 0, 2]⟩, .string ⟨#[9, 0, 1, 1, 0, 0, 0, 0, 0, 0, 0, 2]⟩], []⟩])
theorem k105 : Knows Tryz.prog 156 m105 := Knows.alike (fuel := 300) progOk K4T_ok rfl (by kernel_rfl)
noncomputable def ms30_5 : List Memo := [m98, m104]
theorem ks30_5 : KnowsAll Tryz.prog 30 ms30_5 := ⟨k98, k104, trivial⟩
noncomputable def ms83_5 : List Memo := [m73, m75, m76, m78, m80, m83, m85]
theorem ks83_5 : KnowsAll Tryz.prog 83 ms83_5 := ⟨k73, k75, k76, k78, k80, k83, k85, trivial⟩
noncomputable def ms155_5 : List Memo := [m56, m58, m59, m61, m64, m66, m68, m69, m72, m81, m87, m90, m94, m95, m97, m100]
theorem ks155_5 : KnowsAll Tryz.prog 155 ms155_5 := ⟨k56, k58, k59, k61, k64, k66, k68, k69, k72, k81, k87, k90, k94, k95, k97, k100, trivial⟩
noncomputable def ms156_5 : List Memo := [m86, m89, m93, m96, m99, m102, m103, m105]
theorem ks156_5 : KnowsAll Tryz.prog 156 ms156_5 := ⟨k86, k89, k93, k96, k99, k102, k103, k105, trivial⟩
noncomputable def ms161_5 : List Memo := [m2, m8, m9, m16, m26, m29, m35]
theorem ks161_5 : KnowsAll Tryz.prog 161 ms161_5 := ⟨k2, k8, k9, k16, k26, k29, k35, trivial⟩
noncomputable def ms200_5 : List Memo := [m38, m40, m41, m43, m46, m49, m50, m51, m55, m62, m70, m74, m82, m84, m88, m91, m101]
theorem ks200_5 : KnowsAll Tryz.prog 200 ms200_5 := ⟨k38, k40, k41, k43, k46, k49, k50, k51, k55, k62, k70, k74, k82, k84, k88, k91, k101, trivial⟩
noncomputable def ms254_5 : List Memo := [m0, m1, m3, m4, m5, m6, m7, m10, m11, m12, m13, m14, m15, m17, m18, m19, m20, m21, m22, m23, m24, m25, m27, m28, m30, m31, m32, m33, m34, m36, m37, m39, m42, m44, m45, m47, m48, m52, m53, m54, m57, m60, m63, m65, m67, m71, m77, m79, m92]
theorem ks254_5 : KnowsAll Tryz.prog 254 ms254_5 := ⟨k0, k1, k3, k4, k5, k6, k7, k10, k11, k12, k13, k14, k15, k17, k18, k19, k20, k21, k22, k23, k24, k25, k27, k28, k30, k31, k32, k33, k34, k36, k37, k39, k42, k44, k45, k47, k48, k52, k53, k54, k57, k60, k63, k65, k67, k71, k77, k79, k92, trivial⟩
noncomputable def K5T : Tbl := (((((((K1.memo 30 ms30_5).memo 83 ms83_5).memo 155 ms155_5).memo 156 ms156_5).memo 161 ms161_5).memo 200 ms200_5).memo 254 ms254_5)
theorem K5T_ok : KOk Tryz.prog K5T := (KOk.memoAll (KOk.memoAll (KOk.memoAll (KOk.memoAll (KOk.memoAll (KOk.memoAll (KOk.memoAll K1_ok ks30_5) ks83_5) ks155_5) ks156_5) ks161_5) ks200_5) ks254_5)
noncomputable def m106 : Memo := ([.string ⟨#[9, 0, 3, 1, 0, 0, 0, 0, 0, 0, 0, 6, 1, 0, 0, 0, 0, 0, 0, 0, 3, 9, 0, 1, 1, 0, 0, 0, 0, 0, 0, 0, 1]⟩], .bool true, [])
theorem k106 : Knows Tryz.prog 30 m106 := Knows.alike (fuel := 300) progOk K5T_ok rfl (by kernel_rfl)
noncomputable def m107 : Memo := ([.string ⟨#[9, 0, 3, 1, 0, 0, 0, 0, 0, 0, 0, 6, 1, 0, 0, 0, 0, 0, 0, 0, 2, 9, 0, 3, 1, 0, 0, 0, 0, 0, 0, 0, 6, 1, 0, 0, 0, 0, 0, 0, 0, 3, 9, 0, 1, 1, 0, 0, 0, 0, 0, 0, 0, 1]⟩], .slice (some ⟨0, 0, none⟩) 3 3, [⟨2, 33, 1, [.string ⟨#[1, 0, 0, 0, 0, 0, 0, 0, 6]⟩, .string ⟨#[1, 0, 0, 0, 0, 0, 0, 0, 2]⟩, .string ⟨#[9, 0, 3, 1, 0, 0, 0, 0, 0, 0, 0, 6, 1, 0, 0, 0, 0, 0, 0, 0, 3, 9, 0, 1, 1, 0, 0, 0, 0, 0, 0, 0, 1]⟩], []⟩])
theorem k107 : Knows Tryz.prog 156 m107 := Knows.alike (fuel := 300) progOk K5T_ok rfl (by kernel_rfl)
noncomputable def m108 : Memo := ([.string ⟨#[9, 0, 3, 1, 0, 0, 0, 0, 0, 0, 0, 14, 9, 0, 3, 1, 0, 0, 0, 0, 0, 0, 0, 6, 1, 0, 0, 0, 0, 0, 0, 0, 2, 9, 0, 3, 1, 0, 0, 0, 0, 0, 0, 0, 6, 1, 0, 0, 0, 0, 0, 0, 0, 3, 9, 0, 1, 1, 0, 0, 0, 0, 0, 0, 0, 1, 5, 0, 1, 1, 0, 0, 0, 0, 0, 0, 0, 2]⟩], .int .i64 9, [])
theorem k108 : Knows Tryz.prog 155 m108 := Knows.alike (fuel := 300) progOk K5T_ok rfl (by kernel_rfl)
noncomputable def m109 : Memo := ([.string ⟨#[9, 0, 1, 1, 0, 0, 0, 0, 0, 0, 0, 1]⟩], .slice none 0 0, [])
theorem k109 : Knows Tryz.prog 84 m109 := Knows.alike (fuel := 300) progOk K5T_ok rfl (by kernel_rfl)
noncomputable def m110 : Memo := ([.string ⟨#[9, 0, 1, 1, 0, 0, 0, 0, 0, 0, 0, 1]⟩], .int .i64 1, [])
theorem k110 : Knows Tryz.prog 49 m110 := Knows.alike (fuel := 300) progOk K5T_ok rfl (by kernel_rfl)
noncomputable def m111 : Memo := ([.string ⟨#[9, 0, 2, 1, 0, 0, 0, 0, 0, 0, 0, 19, 9, 0, 1, 1, 0, 0, 0, 0, 0, 0, 0, 1]⟩], .bool true, [])
theorem k111 : Knows Tryz.prog 30 m111 := Knows.alike (fuel := 300) progOk K5T_ok rfl (by kernel_rfl)
noncomputable def m112 : Memo := ([.string ⟨#[9, 0, 3, 1, 0, 0, 0, 0, 0, 0, 0, 18, 9, 0, 1, 1, 0, 0, 0, 0, 0, 0, 0, 1, 5, 0, 0]⟩], .bool true, [])
theorem k112 : Knows Tryz.prog 30 m112 := Knows.alike (fuel := 300) progOk K5T_ok rfl (by kernel_rfl)
noncomputable def m113 : Memo := ([.string ⟨#[9, 0, 3, 1, 0, 0, 0, 0, 0, 0, 0, 6, 1, 0, 0, 0, 0, 0, 0, 0, 2, 9, 0, 1, 1, 0, 0, 0, 0, 0, 0, 0, 2]⟩], .bool true, [])
theorem k113 : Knows Tryz.prog 30 m113 := Knows.alike (fuel := 300) progOk K5T_ok rfl (by kernel_rfl)
noncomputable def m114 : Memo := ([.string ⟨#[9, 0, 1, 1, 0, 0, 0, 0, 0, 0, 0, 2]⟩], .slice none 0 0, [])
theorem k114 : Knows Tryz.prog 84 m114 := Knows.alike (fuel := 300) progOk K5T_ok rfl (by kernel_rfl)
noncomputable def m115 : Memo := ([.string ⟨#[9, 0, 1, 1, 0, 0, 0, 0, 0, 0, 0, 2]⟩], .int .i64 2, [])
theorem k115 : Knows Tryz.prog 49 m115 := Knows.alike (fuel := 300) progOk K5T_ok rfl (by kernel_rfl)
noncomputable def ms30_6 : List Memo := [m98, m104, m106, m111, m112, m113]
theorem ks30_6 : KnowsAll Tryz.prog 30 ms30_6 := ⟨k98, k104, k106, k111, k112, k113, trivial⟩
noncomputable def ms49_6 : List Memo := [m110, m115]
theorem ks49_6 : KnowsAll Tryz.prog 49 ms49_6 := ⟨k110, k115, trivial⟩
noncomputable def ms83_6 : List Memo := [m73, m75, m76, m78, m80, m83, m85]
theorem ks83_6 : KnowsAll Tryz.prog 83 ms83_6 := ⟨k73, k75, k76, k78, k80, k83, k85, trivial⟩
noncomputable def ms84_6 : List Memo := [m109, m114]
theorem ks84_6 : KnowsAll Tryz.prog 84 ms84_6 := ⟨k109, k114, trivial⟩
noncomputable def ms155_6 : List Memo := [m56, m58, m59, m61, m64, m66, m68, m69, m72, m81, m87, m90, m94, m95, m97, m100, m108]
theorem ks155_6 : KnowsAll Tryz.prog 155 ms155_6 := ⟨k56, k58, k59, k61, k64, k66, k68, k69, k72, k81, k87, k90, k94, k95, k97, k100, k108, trivial⟩
noncomputable def ms156_6 : List Memo := [m86, m89, m93, m96, m99, m102, m103, m105, m107]
theorem ks156_6 : KnowsAll Tryz.prog 156 ms156_6 := ⟨k86, k89, k93, k96, k99, k102, k103, k105, k107, trivial⟩
noncomputable def ms161_6 : List Memo := [m2, m8, m9, m16, m26, m29, m35]
theorem ks161_6 : KnowsAll Tryz.prog 161 ms161_6 := ⟨k2, k8, k9, k16, k26, k29, k35, trivial⟩
noncomputable def ms200_6 : List Memo := [m38, m40, m41, m43, m46, m49, m50, m51, m55, m62, m70, m74, m82, m84, m88, m91, m101]
theorem ks200_6 : KnowsAll Tryz.prog 200 ms200_6 := ⟨k38, k40, k41, k43, k46, k49, k50, k51, k55, k62, k70, k74, k82, k84, k88, k91, k101, trivial⟩
noncomputable def ms254_6 : List Memo := [m0, m1, m3, m4, m5, m6, m7, m10, m11, m12, m13, m14, m15, m17, m18, m19, m20, m21, m22, m23, m24, m25, m27, m28, m30, m31, m32, m33, m34, m36, m37, m39, m42, m44, m45, m47, m48, m52, m53, m54, m57, m60, m63, m65, m67, m71, m77, m79, m92]
theorem ks254_6 : KnowsAll Tryz.prog 254 ms254_6 := ⟨k0, k1, k3, k4, k5, k6, k7, k10, k11, k12, k13, k14, k15, k17, k18, k19, k20, k21, k22, k23, k24, k25, k27, k28, k30, k31, k32, k33, k34, k36, k37, k39, k42, k44, k45, k47, k48, k52, k53, k54, k57, k60, k63, k65, k67, k71, k77, k79, k92, trivial⟩
noncomputable def K6T : Tbl := (((((((((K1.memo 30 ms30_6).memo 49 ms49_6).memo 83 ms83_6).memo 84 ms84_6).memo 155 ms155_6).memo 156 ms156_6).memo 161 ms161_6).memo 200 ms200_6).memo 254 ms254_6)
theorem K6T_ok : KOk Tryz.prog K6T := (KOk.memoAll (KOk.memoAll (KOk.memoAll (KOk.memoAll (KOk.memoAll (KOk.memoAll (KOk.memoAll (KOk.memoAll (KOk.memoAll K1_ok ks30_6) ks49_6) ks83_6) ks84_6) ks155_6) ks156_6) ks161_6) ks200_6) ks254_6)
noncomputable def m116 : Memo := ([.string ⟨#[9, 0, 3, 1, 0, 0, 0, 0, 0, 0, 0, 6, 1, 0, 0, 0, 0, 0, 0, 0, 2, 9, 0, 3, 1, 0, 0, 0, 0, 0, 0, 0, 6, 1, 0, 0, 0, 0, 0, 0, 0, 3, 9, 0, 1, 1, 0, 0, 0, 0, 0, 0, 0, 1]⟩], .bool true, [])
theorem k116 : Knows Tryz.prog 30 m116 := Knows.alike (fuel := 300) progOk K6T_ok rfl (by kernel_rfl)
noncomputable def m117 : Memo := ([.string ⟨#[9, 0, 3, 1, 0, 0, 0, 0, 0, 0, 0, 14, 9, 0, 3, 1, 0, 0, 0, 0, 0, 0, 0, 6, 1, 0, 0, 0, 0, 0, 0, 0, 2, 9, 0, 3, 1, 0, 0, 0, 0, 0, 0, 0, 6, 1, 0, 0, 0, 0, 0, 0, 0, 3, 9, 0, 1, 1, 0, 0, 0, 0, 0, 0, 0, 1, 5, 0, 1, 1, 0, 0, 0, 0, 0, 0, 0, 2]⟩], .slice (some ⟨0, 0, none⟩) 3 3, [⟨2, 33, 1, [.string ⟨#[1, 0, 0, 0, 0, 0, 0, 0, 14]⟩, .string ⟨#[9, 0, 3, 1, 0, 0, 0, 0, 0, 0, 0, 6, 1, 0, 0, 0, 0, 0, 0, 0, 2, 9, 0, 3, 1, 0, 0, 0, 0, 0, 0, 0, 6, 1, 0, 0, 0, 0, 0, 0, 0, 3, 9, 0, 1, 1, 0, 0, 0, 0, 0, 0, 0, 1]⟩, .string ⟨#[5, 0, 1, 1, 0, 0, 0, 0, 0, 0, 0, 2]⟩], []⟩])
theorem k117 : Knows Tryz.prog 156 m117 := Knows.alike (fuel := 300) progOk K6T_ok rfl (by kernel_rfl)
noncomputable def m118 : Memo := ([.string ⟨#[9, 0, 3, 1, 0, 0, 0, 0, 0, 0, 0, 6, 1, 0, 0, 0, 0, 0, 0, 0, 3, 9, 0, 1, 1, 0, 0, 0, 0, 0, 0, 0, 1]⟩], .slice (some ⟨0, 0, none⟩) 1 1, [⟨2, 33, 1, [.string ⟨#[9, 0, 1, 1, 0, 0, 0, 0, 0, 0, 0, 1]⟩], []⟩])
theorem k118 : Knows Tryz.prog 84 m118 := Knows.alike (fuel := 300) progOk K6T_ok rfl (by kernel_rfl)
noncomputable def m119 : Memo := ([.string ⟨#[9, 0, 1, 1, 0, 0, 0, 0, 0, 0, 0, 1]⟩], .slice none 0 0, [])
theorem k119 : Knows Tryz.prog 31 m119 := Knows.alike (fuel := 300) progOk K6T_ok rfl (by kernel_rfl)
noncomputable def m120 : Memo := ([.string ⟨#[9, 0, 3, 1, 0, 0, 0, 0, 0, 0, 0, 6, 1, 0, 0, 0, 0, 0, 0, 0, 3, 9, 0, 1, 1, 0, 0, 0, 0, 0, 0, 0, 1]⟩], .int .i64 6, [])
theorem k120 : Knows Tryz.prog 49 m120 := Knows.alike (fuel := 300) progOk K6T_ok rfl (by kernel_rfl)
noncomputable def m121 : Memo := ([.string ⟨#[9, 0, 1, 1, 0, 0, 0, 0, 0, 0, 0, 1]⟩], .bool false, [])
theorem k121 : Knows Tryz.prog 32 m121 := Knows.alike (fuel := 300) progOk K6T_ok rfl (by kernel_rfl)
noncomputable def m122 : Memo := ([.string ⟨#[9, 0, 3, 1, 0, 0, 0, 0, 0, 0, 0, 6, 1, 0, 0, 0, 0, 0, 0, 0, 3, 9, 0, 1, 1, 0, 0, 0, 0, 0, 0, 0, 1]⟩], .slice (some ⟨0, 0, none⟩) 1 1, [⟨2, 74, 2, [.int .i64 3, .string ⟨#[9, 0, 1, 1, 0, 0, 0, 0, 0, 0, 0, 1]⟩], []⟩])
theorem k122 : Knows Tryz.prog 93 m122 := Knows.alike (fuel := 300) progOk K6T_ok rfl (by kernel_rfl)
noncomputable def m123 : Memo := ([.string ⟨#[9, 0, 2, 1, 0, 0, 0, 0, 0, 0, 0, 19, 9, 0, 1, 1, 0, 0, 0, 0, 0, 0, 0, 1]⟩], .slice (some ⟨0, 0, none⟩) 1 1, [⟨2, 33, 1, [.string ⟨#[9, 0, 1, 1, 0, 0, 0, 0, 0, 0, 0, 1]⟩], []⟩])
theorem k123 : Knows Tryz.prog 84 m123 := Knows.alike (fuel := 300) progOk K6T_ok rfl (by kernel_rfl)
noncomputable def m124 : Memo := ([.string ⟨#[9, 0, 2, 1, 0, 0, 0, 0, 0, 0, 0, 19, 9, 0, 1, 1, 0, 0, 0, 0, 0, 0, 0, 1]⟩], .int .i64 19, [])
theorem k124 : Knows Tryz.prog 49 m124 := Knows.alike (fuel := 300) progOk K6T_ok rfl (by kernel_rfl)
noncomputable def m125 : Memo := ([.string ⟨#[9, 0, 3, 1, 0, 0, 0, 0, 0, 0, 0, 18, 9, 0, 1, 1, 0, 0, 0, 0, 0, 0, 0, 1, 5, 0, 0]⟩], .slice (some ⟨0, 0, none⟩) 1 1, [⟨2, 33, 1, [.string ⟨#[9, 0, 1, 1, 0, 0, 0, 0, 0, 0, 0, 1]⟩], []⟩])
theorem k125 : Knows Tryz.prog 84 m125 := Knows.alike (fuel := 300) progOk K6T_ok rfl (by kernel_rfl)
noncomputable def m126 : Memo := ([.string ⟨#[9, 0, 3, 1, 0, 0, 0, 0, 0, 0, 0, 18, 9, 0, 1, 1, 0, 0, 0, 0, 0, 0, 0, 1, 5, 0, 0]⟩], .int .i64 18, [])
theorem k126 : Knows Tryz.prog 49 m126 := Knows.alike (fuel := 300) progOk K6T_ok rfl (by kernel_rfl)
noncomputable def m127 : Memo := ([.string ⟨#[9, 0, 3, 1, 0, 0, 0, 0, 0, 0, 0, 6, 1, 0, 0, 0, 0, 0, 0, 0, 2, 9, 0, 1, 1, 0, 0, 0, 0, 0, 0, 0, 2]⟩], .slice (some ⟨0, 0, none⟩) 1 1, [⟨2, 33, 1, [.string ⟨#[9, 0, 1, 1, 0, 0, 0, 0, 0, 0, 0, 2]⟩], []⟩])
theorem k127 : Knows Tryz.prog 84 m127 := Knows.alike (fuel := 300) progOk K6T_ok rfl (by kernel_rfl)
noncomputable def m128 : Memo := ([.string ⟨#[9, 0, 1, 1, 0, 0, 0, 0, 0, 0, 0, 2]⟩], .slice none 0 0, [])
theorem k128 : Knows Tryz.prog 31 m128 := Knows.alike (fuel := 300) progOk K6T_ok rfl (by kernel_rfl)
noncomputable def m129 : Memo := ([.string ⟨#[9, 0, 3, 1, 0, 0, 0, 0, 0, 0, 0, 6, 1, 0, 0, 0, 0, 0, 0, 0, 2, 9, 0, 1, 1, 0, 0, 0, 0, 0, 0, 0, 2]⟩], .int .i64 6, [])
theorem k129 : Knows Tryz.prog 49 m129 := Knows.alike (fuel := 300) progOk K6T_ok rfl (by kernel_rfl)
noncomputable def m130 : Memo := ([.string ⟨#[9, 0, 1, 1, 0, 0, 0, 0, 0, 0, 0, 2]⟩], .bool false, [])
theorem k130 : Knows Tryz.prog 32 m130 := Knows.alike (fuel := 300) progOk K6T_ok rfl (by kernel_rfl)
noncomputable def m131 : Memo := ([.string ⟨#[9, 0, 3, 1, 0, 0, 0, 0, 0, 0, 0, 6, 1, 0, 0, 0, 0, 0, 0, 0, 2, 9, 0, 1, 1, 0, 0, 0, 0, 0, 0, 0, 2]⟩], .slice (some ⟨0, 0, none⟩) 1 1, [⟨2, 74, 2, [.int .i64 2, .string ⟨#[9, 0, 1, 1, 0, 0, 0, 0, 0, 0, 0, 2]⟩], []⟩])
theorem k131 : Knows Tryz.prog 93 m131 := Knows.alike (fuel := 300) progOk K6T_ok rfl (by kernel_rfl)
noncomputable def ms30_7 : List Memo := [m98, m104, m106, m111, m112, m113, m116]
theorem ks30_7 : KnowsAll Tryz.prog 30 ms30_7 := ⟨k98, k104, k106, k111, k112, k113, k116, trivial⟩
noncomputable def ms31_7 : List Memo := [m119, m128]
theorem ks31_7 : KnowsAll Tryz.prog 31 ms31_7 := ⟨k119, k128, trivial⟩
noncomputable def ms32_7 : List Memo := [m121, m130]
theorem ks32_7 : KnowsAll Tryz.prog 32 ms32_7 := ⟨k121, k130, trivial⟩
noncomputable def ms49_7 : List Memo := [m110, m115, m120, m124, m126, m129]
theorem ks49_7 : KnowsAll Tryz.prog 49 ms49_7 := ⟨k110, k115, k120, k124, k126, k129, trivial⟩
noncomputable def ms83_7 : List Memo := [m73, m75, m76, m78, m80, m83, m85]
theorem ks83_7 : KnowsAll Tryz.prog 83 ms83_7 := ⟨k73, k75, k76, k78, k80, k83, k85, trivial⟩
noncomputable def ms84_7 : List Memo := [m109, m114, m118, m123, m125, m127]
theorem ks84_7 : KnowsAll Tryz.prog 84 ms84_7 := ⟨k109, k114, k118, k123, k125, k127, trivial⟩
noncomputable def ms93_7 : List Memo := [m122, m131]
theorem ks93_7 : KnowsAll Tryz.prog 93 ms93_7 := ⟨k122, k131, trivial⟩
noncomputable def ms155_7 : List Memo := [m56, m58, m59, m61, m64, m66, m68, m69, m72, m81, m87, m90, m94, m95, m97, m100, m108]
theorem ks155_7 : KnowsAll Tryz.prog 155 ms155_7 := ⟨k56, k58, k59, k61, k64, k66, k68, k69, k72, k81, k87, k90, k94, k95, k97, k100, k108, trivial⟩
noncomputable def ms156_7 : List Memo := [m86, m89, m93, m96, m99, m102, m103, m105, m107, m117]
theorem ks156_7 : KnowsAll Tryz.prog 156 ms156_7 := ⟨k86, k89, k93, k96, k99, k102, k103, k105, k107, k117, trivial⟩
noncomputable def ms161_7 : List Memo := [m2, m8, m9, m16, m26, m29, m35]
theorem ks161_7 : KnowsAll Tryz.prog 161 ms161_7 := ⟨k2, k8, k9, k16, k26, k29, k35, trivial⟩
noncomputable def ms200_7 : List Memo := [m38, m40, m41, m43, m46, m49, m50, m51, m55, m62, m70, m74, m82, m84, m88, m91, m101]
theorem ks200_7 : KnowsAll Tryz.prog 200 ms200_7 := ⟨k38, k40, k41, k43, k46, k49, k50, k51, k55, k62, k70, k74, k82, k84, k88, k91, k101, trivial⟩
noncomputable def ms254_7 : List Memo := [m0, m1, m3, m4, m5, m6, m7, m10, m11, m12, m13, m14, m15, m17, m18, m19, m20, m21, m22, m23, m24, m25, m27, m28, m30, m31, m32, m33, m34, m36, m37, m39, m42, m44, m45, m47, m48, m52, m53, m54, m57, m60, m63, m65, m67, m71, m77, m79, m92]
theorem ks254_7 : KnowsAll Tryz.prog 254 ms254_7 := ⟨k0, k1, k3, k4, k5, k6, k7, k10, k11, k12, k13, k14, k15, k17, k18, k19, k20, k21, k22, k23, k24, k25, k27, k28, k30, k31, k32, k33, k34, k36, k37, k39, k42, k44, k45, k47, k48, k52, k53, k54, k57, k60, k63, k65, k67, k71, k77, k79, k92, trivial⟩
noncomputable def K7T : Tbl := ((((((((((((K1.memo 30 ms30_7).memo 31 ms31_7).memo 32 ms32_7).memo 49 ms49_7).memo 83 ms83_7).memo 84 ms84_7).memo 93 ms93_7).memo 155 ms155_7).memo 156 ms156_7).memo 161 ms161_7).memo 200 ms200_7).memo 254 ms254_7)
theorem K7T_ok : KOk Tryz.prog K7T := (KOk.memoAll (KOk.memoAll (KOk.memoAll (KOk.memoAll (KOk.memoAll (KOk.memoAll (KOk.memoAll (KOk.memoAll (KOk.memoAll (KOk.memoAll (KOk.memoAll (KOk.memoAll K1_ok ks30_7) ks31_7) ks32_7) ks49_7) ks83_7) ks84_7) ks93_7) ks155_7) ks156_7) ks161_7) ks200_7) ks254_7)
noncomputable def m132 : Memo := ([.string ⟨#[9, 0, 3, 1, 0, 0, 0, 0, 0, 0, 0, 14, 9, 0, 3, 1, 0, 0, 0, 0, 0, 0, 0, 6, 1, 0, 0, 0, 0, 0, 0, 0, 2, 9, 0, 3, 1, 0, 0, 0, 0, 0, 0, 0, 6, 1, 0, 0, 0, 0, 0, 0, 0, 3, 9, 0, 1, 1, 0, 0, 0, 0, 0, 0, 0, 1, 5, 0, 1, 1, 0, 0, 0, 0, 0, 0, 0, 2]⟩], .bool true, [])
theorem k132 : Knows Tryz.prog 30 m132 := Knows.alike (fuel := 300) progOk K7T_ok rfl (by kernel_rfl)
noncomputable def m133 : Memo := ([.string ⟨#[9, 0, 3, 1, 0, 0, 0, 0, 0, 0, 0, 6, 1, 0, 0, 0, 0, 0, 0, 0, 2, 9, 0, 3, 1, 0, 0, 0, 0, 0, 0, 0, 6, 1, 0, 0, 0, 0, 0, 0, 0, 3, 9, 0, 1, 1, 0, 0, 0, 0, 0, 0, 0, 1]⟩], .slice (some ⟨0, 0, none⟩) 1 1, [⟨2, 33, 1, [.string ⟨#[9, 0, 3, 1, 0, 0, 0, 0, 0, 0, 0, 6, 1, 0, 0, 0, 0, 0, 0, 0, 3, 9, 0, 1, 1, 0, 0, 0, 0, 0, 0, 0, 1]⟩], []⟩])
theorem k133 : Knows Tryz.prog 84 m133 := Knows.alike (fuel := 300) progOk K7T_ok rfl (by kernel_rfl)
noncomputable def m134 : Memo := ([.string ⟨#[9, 0, 3, 1, 0, 0, 0, 0, 0, 0, 0, 6, 1, 0, 0, 0, 0, 0, 0, 0, 3, 9, 0, 1, 1, 0, 0, 0, 0, 0, 0, 0, 1]⟩], .slice none 0 0, [])
theorem k134 : Knows Tryz.prog 31 m134 := Knows.alike (fuel := 300) progOk K7T_ok rfl (by kernel_rfl)
noncomputable def m135 : Memo := ([.string ⟨#[9, 0, 3, 1, 0, 0, 0, 0, 0, 0, 0, 6, 1, 0, 0, 0, 0, 0, 0, 0, 2, 9, 0, 3, 1, 0, 0, 0, 0, 0, 0, 0, 6, 1, 0, 0, 0, 0, 0, 0, 0, 3, 9, 0, 1, 1, 0, 0, 0, 0, 0, 0, 0, 1]⟩], .int .i64 6, [])
theorem k135 : Knows Tryz.prog 49 m135 := Knows.alike (fuel := 300) progOk K7T_ok rfl (by kernel_rfl)
noncomputable def m136 : Memo := ([.string ⟨#[9, 0, 3, 1, 0, 0, 0, 0, 0, 0, 0, 6, 1, 0, 0, 0, 0, 0, 0, 0, 3, 9, 0, 1, 1, 0, 0, 0, 0, 0, 0, 0, 1]⟩], .bool false, [])
theorem k136 : Knows Tryz.prog 32 m136 := Knows.alike (fuel := 300) progOk K7T_ok rfl (by kernel_rfl)
noncomputable def m137 : Memo := ([.string ⟨#[9, 0, 3, 1, 0, 0, 0, 0, 0, 0, 0, 6, 1, 0, 0, 0, 0, 0, 0, 0, 2, 9, 0, 3, 1, 0, 0, 0, 0, 0, 0, 0, 6, 1, 0, 0, 0, 0, 0, 0, 0, 3, 9, 0, 1, 1, 0, 0, 0, 0, 0, 0, 0, 1]⟩], .slice (some ⟨0, 0, none⟩) 1 1, [⟨2, 74, 2, [.int .i64 2, .string ⟨#[9, 0, 3, 1, 0, 0, 0, 0, 0, 0, 0, 6, 1, 0, 0, 0, 0, 0, 0, 0, 3, 9, 0, 1, 1, 0, 0, 0, 0, 0, 0, 0, 1]⟩], []⟩])
theorem k137 : Knows Tryz.prog 93 m137 := Knows.alike (fuel := 300) progOk K7T_ok rfl (by kernel_rfl)
noncomputable def m138 : Memo := ([.string ⟨#[9, 0, 2, 1, 0, 0, 0, 0, 0, 0, 0, 19, 9, 0, 1, 1, 0, 0, 0, 0, 0, 0, 0, 1]⟩], .slice none 0 0, [])
theorem k138 : Knows Tryz.prog 31 m138 := Knows.alike (fuel := 300) progOk K7T_ok rfl (by kernel_rfl)
noncomputable def m139 : Memo := ([.string ⟨#[9, 0, 2, 1, 0, 0, 0, 0, 0, 0, 0, 19, 9, 0, 1, 1, 0, 0, 0, 0, 0, 0, 0, 1]⟩], .bool false, [])
theorem k139 : Knows Tryz.prog 32 m139 := Knows.alike (fuel := 300) progOk K7T_ok rfl (by kernel_rfl)
noncomputable def m140 : Memo := ([.string ⟨#[9, 0, 3, 1, 0, 0, 0, 0, 0, 0, 0, 18, 9, 0, 1, 1, 0, 0, 0, 0, 0, 0, 0, 1, 5, 0, 0]⟩], .slice none 0 0, [])
theorem k140 : Knows Tryz.prog 31 m140 := Knows.alike (fuel := 300) progOk K7T_ok rfl (by kernel_rfl)
noncomputable def m141 : Memo := ([.string ⟨#[9, 0, 3, 1, 0, 0, 0, 0, 0, 0, 0, 18, 9, 0, 1, 1, 0, 0, 0, 0, 0, 0, 0, 1, 5, 0, 0]⟩], .bool false, [])
theorem k141 : Knows Tryz.prog 32 m141 := Knows.alike (fuel := 300) progOk K7T_ok rfl (by kernel_rfl)
noncomputable def m142 : Memo := ([.string ⟨#[9, 0, 3, 1, 0, 0, 0, 0, 0, 0, 0, 6, 1, 0, 0, 0, 0, 0, 0, 0, 2, 9, 0, 1, 1, 0, 0, 0, 0, 0, 0, 0, 2]⟩], .slice none 0 0, [])
theorem k142 : Knows Tryz.prog 31 m142 := Knows.alike (fuel := 300) progOk K7T_ok rfl (by kernel_rfl)
noncomputable def m143 : Memo := ([.string ⟨#[9, 0, 3, 1, 0, 0, 0, 0, 0, 0, 0, 6, 1, 0, 0, 0, 0, 0, 0, 0, 2, 9, 0, 1, 1, 0, 0, 0, 0, 0, 0, 0, 2]⟩], .bool false, [])
theorem k143 : Knows Tryz.prog 32 m143 := Knows.alike (fuel := 300) progOk K7T_ok rfl (by kernel_rfl)
noncomputable def ms30_8 : List Memo := [m98, m104, m106, m111, m112, m113, m116, m132]
theorem ks30_8 : KnowsAll Tryz.prog 30 ms30_8 := ⟨k98, k104, k106, k111, k112, k113, k116, k132, trivial⟩
noncomputable def ms31_8 : List Memo := [m119, m128, m134, m138, m140, m142]
theorem ks31_8 : KnowsAll Tryz.prog 31 ms31_8 := ⟨k119, k128, k134, k138, k140, k142, trivial⟩
noncomputable def ms32_8 : List Memo := [m121, m130, m136, m139, m141, m143]
theorem ks32_8 : KnowsAll Tryz.prog 32 ms32_8 := ⟨k121, k130, k136, k139, k141, k143, trivial⟩
noncomputable def ms49_8 : List Memo := [m110, m115, m120, m124, m126, m129, m135]
theorem ks49_8 : KnowsAll Tryz.prog 49 ms49_8 := ⟨k110, k115, k120, k124, k126, k129, k135, trivial⟩
noncomputable def ms83_8 : List Memo := [m73, m75, m76, m78, m80, m83, m85]
theorem ks83_8 : KnowsAll Tryz.prog 83 ms83_8 := ⟨k73, k75, k76, k78, k80, k83, k85, trivial⟩
noncomputable def ms84_8 : List Memo := [m109, m114, m118, m123, m125, m127, m133]
theorem ks84_8 : KnowsAll Tryz.prog 84 ms84_8 := ⟨k109, k114, k118, k123, k125, k127, k133, trivial⟩
noncomputable def ms93_8 : List Memo := [m122, m131, m137]
theorem ks93_8 : KnowsAll Tryz.prog 93 ms93_8 := ⟨k122, k131, k137, trivial⟩
noncomputable def ms155_8 : List Memo := [m56, m58, m59, m61, m64, m66, m68, m69, m72, m81, m87, m90, m94, m95, m97, m100, m108]
theorem ks155_8 : KnowsAll Tryz.prog 155 ms155_8 := ⟨k56, k58, k59, k61, k64, k66, k68, k69, k72, k81, k87, k90, k94, k95, k97, k100, k108, trivial⟩
noncomputable def ms156_8 : List Memo := [m86, m89, m93, m96, m99, m102, m103, m105, m107, m117]
theorem ks156_8 : KnowsAll Tryz.prog 156 ms156_8 := ⟨k86, k89, k93, k96, k99, k102, k103, k105, k107, k117, trivial⟩
noncomputable def ms161_8 : List Memo := [m2, m8, m9, m16, m26, m29, m35]
theorem ks161_8 : KnowsAll Tryz.prog 161 ms161_8 := ⟨k2, k8, k9, k16, k26, k29, k35, trivial⟩
noncomputable def ms200_8 : List Memo := [m38, m40, m41, m43, m46, m49, m50, m51, m55, m62, m70, m74, m82, m84, m88, m91, m101]
theorem ks200_8 : KnowsAll Tryz.prog 200 ms200_8 := ⟨k38, k40, k41, k43, k46, k49, k50, k51, k55, k62, k70, k74, k82, k84, k88, k91, k101, trivial⟩
noncomputable def ms254_8 : List Memo := [m0, m1, m3, m4, m5, m6, m7, m10, m11, m12, m13, m14, m15, m17, m18, m19, m20, m21, m22, m23, m24, m25, m27, m28, m30, m31, m32, m33, m34, m36, m37, m39, m42, m44, m45, m47, m48, m52, m53, m54, m57, m60, m63, m65, m67, m71, m77, m79, m92]
theorem ks254_8 : KnowsAll Tryz.prog 254 ms254_8 := ⟨k0, k1, k3, k4, k5, k6, k7, k10, k11, k12, k13, k14, k15, k17, k18, k19, k20, k21, k22, k23, k24, k25, k27, k28, k30, k31, k32, k33, k34, k36, k37, k39, k42, k44, k45, k47, k48, k52, k53, k54, k57, k60, k63, k65, k67, k71, k77, k79, k92, trivial⟩
noncomputable def K8T : Tbl := ((((((((((((K1.memo 30 ms30_8).memo 31 ms31_8).memo 32 ms32_8).memo 49 ms49_8).memo 83 ms83_8).memo 84 ms84_8).memo 93 ms93_8).memo 155 ms155_8).memo 156 ms156_8).memo 161 ms161_8).memo 200 ms200_8).memo 254 ms254_8)
theorem K8T_ok : KOk Tryz.prog K8T := (KOk.memoAll (KOk.memoAll (KOk.memoAll (KOk.memoAll (KOk.memoAll (KOk.memoAll (KOk.memoAll (KOk.memoAll (KOk.memoAll (KOk.memoAll (KOk.memoAll (KOk.memoAll K1_ok ks30_8) ks31_8) ks32_8) ks49_8) ks83_8) ks84_8) ks93_8) ks155_8) ks156_8) ks161_8) ks200_8) ks254_8)
noncomputable def m144 : Memo := ([.string ⟨#[9, 0, 3, 1, 0, 0, 0, 0, 0, 0, 0, 14, 9, 0, 3, 1, 0, 0, 0, 0, 0, 0, 0, 6, 1, 0, 0, 0, 0, 0, 0, 0, 2, 9, 0, 3, 1, 0, 0, 0, 0, 0, 0, 0, 6, 1, 0, 0, 0, 0, 0, 0, 0, 3, 9, 0, 1, 1, 0, 0, 0, 0, 0, 0, 0, 1, 5, 0, 1, 1, 0, 0, 0, 0, 0, 0, 0, 2]⟩], .slice (some ⟨0, 0, none⟩) 1 1, [⟨2, 33, 1, [.string ⟨#[9, 0, 3, 1, 0, 0, 0, 0, 0, 0, 0, 6, 1, 0, 0, 0, 0, 0, 0, 0, 2, 9, 0, 3, 1, 0, 0, 0, 0, 0, 0, 0, 6, 1, 0, 0, 0, 0, 0, 0, 0, 3, 9, 0, 1, 1, 0, 0, 0, 0, 0, 0, 0, 1]⟩], []⟩])
theorem k144 : Knows Tryz.prog 84 m144 := Knows.alike (fuel := 300) progOk K8T_ok rfl (by kernel_rfl)
noncomputable def m145 : Memo := ([.string ⟨#[9, 0, 3, 1, 0, 0, 0, 0, 0, 0, 0, 6, 1, 0, 0, 0, 0, 0, 0, 0, 2, 9, 0, 3, 1, 0, 0, 0, 0, 0, 0, 0, 6, 1, 0, 0, 0, 0, 0, 0, 0, 3, 9, 0, 1, 1, 0, 0, 0, 0, 0, 0, 0, 1]⟩], .slice none 0 0, [])
theorem k145 : Knows Tryz.prog 31 m145 := Knows.alike (fuel := 300) progOk K8T_ok rfl (by kernel_rfl)
noncomputable def m146 : Memo := ([.string ⟨#[9, 0, 3, 1, 0, 0, 0, 0, 0, 0, 0, 14, 9, 0, 3, 1, 0, 0, 0, 0, 0, 0, 0, 6, 1, 0, 0, 0, 0, 0, 0, 0, 2, 9, 0, 3, 1, 0, 0, 0, 0, 0, 0, 0, 6, 1, 0, 0, 0, 0, 0, 0, 0, 3, 9, 0, 1, 1, 0, 0, 0, 0, 0, 0, 0, 1, 5, 0, 1, 1, 0, 0, 0, 0, 0, 0, 0, 2]⟩], .int .i64 14, [])
theorem k146 : Knows Tryz.prog 49 m146 := Knows.alike (fuel := 300) progOk K8T_ok rfl (by kernel_rfl)
noncomputable def m147 : Memo := ([.string ⟨#[9, 0, 3, 1, 0, 0, 0, 0, 0, 0, 0, 6, 1, 0, 0, 0, 0, 0, 0, 0, 2, 9, 0, 3, 1, 0, 0, 0, 0, 0, 0, 0, 6, 1, 0, 0, 0, 0, 0, 0, 0, 3, 9, 0, 1, 1, 0, 0, 0, 0, 0, 0, 0, 1]⟩], .bool false, [])
theorem k147 : Knows Tryz.prog 32 m147 := Knows.alike (fuel := 300) progOk K8T_ok rfl (by kernel_rfl)
noncomputable def ms30_9 : List Memo := [m98, m104, m106, m111, m112, m113, m116, m132]
theorem ks30_9 : KnowsAll Tryz.prog 30 ms30_9 := ⟨k98, k104, k106, k111, k112, k113, k116, k132, trivial⟩
noncomputable def ms31_9 : List Memo := [m119, m128, m134, m138, m140, m142, m145]
theorem ks31_9 : KnowsAll Tryz.prog 31 ms31_9 := ⟨k119, k128, k134, k138, k140, k142, k145, trivial⟩
noncomputable def ms32_9 : List Memo := [m121, m130, m136, m139, m141, m143, m147]
theorem ks32_9 : KnowsAll Tryz.prog 32 ms32_9 := ⟨k121, k130, k136, k139, k141, k143, k147, trivial⟩
noncomputable def ms49_9 : List Memo := [m110, m115, m120, m124, m126, m129, m135, m146]
theorem ks49_9 : KnowsAll Tryz.prog 49 ms49_9 := ⟨k110, k115, k120, k124, k126, k129, k135, k146, trivial⟩
noncomputable def ms83_9 : List Memo := [m73, m75, m76, m78, m80, m83, m85]
theorem ks83_9 : KnowsAll Tryz.prog 83 ms83_9 := ⟨k73, k75, k76, k78, k80, k83, k85, trivial⟩
noncomputable def ms84_9 : List Memo := [m109, m114, m118, m123, m125, m127, m133, m144]
theorem ks84_9 : KnowsAll Tryz.prog 84 ms84_9 := ⟨k109, k114, k118, k123, k125, k127, k133, k144, trivial⟩
noncomputable def ms93_9 : List Memo := [m122, m131, m137]
theorem ks93_9 : KnowsAll Tryz.prog 93 ms93_9 := ⟨k122, k131, k137, trivial⟩
noncomputable def ms155_9 : List Memo := [m56, m58, m59, m61, m64, m66, m68, m69, m72, m81, m87, m90, m94, m95, m97, m100, m108]
theorem ks155_9 : KnowsAll Tryz.prog 155 ms155_9 := ⟨k56, k58, k59, k61, k64, k66, k68, k69, k72, k81, k87, k90, k94, k95, k97, k100, k108, trivial⟩
noncomputable def ms156_9 : List Memo := [m86, m89, m93, m96, m99, m102, m103, m105, m107, m117]
theorem ks156_9 : KnowsAll Tryz.prog 156 ms156_9 := ⟨k86, k89, k93, k96, k99, k102, k103, k105, k107, k117, trivial⟩
noncomputable def ms161_9 : List Memo := [m2, m8, m9, m16, m26, m29, m35]
theorem ks161_9 : KnowsAll Tryz.prog 161 ms161_9 := ⟨k2, k8, k9, k16, k26, k29, k35, trivial⟩
noncomputable def ms200_9 : List Memo := [m38, m40, m41, m43, m46, m49, m50, m51, m55, m62, m70, m74, m82, m84, m88, m91, m101]
theorem ks200_9 : KnowsAll Tryz.prog 200 ms200_9 := ⟨k38, k40, k41, k43, k46, k49, k50, k51, k55, k62, k70, k74, k82, k84, k88, k91, k101, trivial⟩
noncomputable def ms254_9 : List Memo := [m0, m1, m3, m4, m5, m6, m7, m10, m11, m12, m13, m14, m15, m17, m18, m19, m20, m21, m22, m23, m24, m25, m27, m28, m30, m31, m32, m33, m34, m36, m37, m39, m42, m44, m45, m47, m48, m52, m53, m54, m57, m60, m63, m65, m67, m71, m77, m79, m92]
theorem ks254_9 : KnowsAll Tryz.prog 254 ms254_9 := ⟨k0, k1, k3, k4, k5, k6, k7, k10, k11, k12, k13, k14, k15, k17, k18, k19, k20, k21, k22, k23, k24, k25, k27, k28, k30, k31, k32, k33, k34, k36, k37, k39, k42, k44, k45, k47, k48, k52, k53, k54, k57, k60, k63, k65, k67, k71, k77, k79, k92, trivial⟩
noncomputable def K9T : Tbl := ((((((((((((K1.memo 30 ms30_9).memo 31 ms31_9).memo 32 ms32_9).memo 49 ms49_9).memo 83 ms83_9).memo 84 ms84_9).memo 93 ms93_9).memo 155 ms155_9).memo 156 ms156_9).memo 161 ms161_9).memo 200 ms200_9).memo 254 ms254_9)
theorem K9T_ok : KOk Tryz.prog K9T := (KOk.memoAll (KOk.memoAll (KOk.memoAll (KOk.memoAll (KOk.memoAll (KOk.memoAll (KOk.memoAll (KOk.memoAll (KOk.memoAll (KOk.memoAll (KOk.memoAll (KOk.memoAll K1_ok ks30_9) ks31_9) ks32_9) ks49_9) ks83_9) ks84_9) ks93_9) ks155_9) ks156_9) ks161_9) ks200_9) ks254_9)
noncomputable def m148 : Memo := ([.string ⟨#[9, 0, 3, 1, 0, 0, 0, 0, 0, 0, 0, 14, 9, 0, 3, 1, 0, 0, 0, 0, 0, 0, 0, 6, 1, 0, 0, 0, 0, 0, 0, 0, 2, 9, 0, 3, 1, 0, 0, 0, 0, 0, 0, 0, 6, 1, 0, 0, 0, 0, 0, 0, 0, 3, 9, 0, 1, 1, 0, 0, 0, 0, 0, 0, 0, 1, 5, 0, 1, 1, 0, 0, 0, 0, 0, 0, 0, 2]⟩], .slice none 0 0, [])
theorem k148 : Knows Tryz.prog 31 m148 := Knows.alike (fuel := 300) progOk K9T_ok rfl (by kernel_rfl)
noncomputable def m149 : Memo := ([.string ⟨#[9, 0, 3, 1, 0, 0, 0, 0, 0, 0, 0, 14, 9, 0, 3, 1, 0, 0, 0, 0, 0, 0, 0, 6, 1, 0, 0, 0, 0, 0, 0, 0, 2, 9, 0, 3, 1, 0, 0, 0, 0, 0, 0, 0, 6, 1, 0, 0, 0, 0, 0, 0, 0, 3, 9, 0, 1, 1, 0, 0, 0, 0, 0, 0, 0, 1, 5, 0, 1, 1, 0, 0, 0, 0, 0, 0, 0, 2]⟩], .bool false, [])
theorem k149 : Knows Tryz.prog 32 m149 := Knows.alike (fuel := 300) progOk K9T_ok rfl (by kernel_rfl)
noncomputable def ms30_10 : List Memo := [m98, m104, m106, m111, m112, m113, m116, m132]
theorem ks30_10 : KnowsAll Tryz.prog 30 ms30_10 := ⟨k98, k104, k106, k111, k112, k113, k116, k132, trivial⟩
noncomputable def ms31_10 : List Memo := [m119, m128, m134, m138, m140, m142, m145, m148]
theorem ks31_10 : KnowsAll Tryz.prog 31 ms31_10 := ⟨k119, k128, k134, k138, k140, k142, k145, k148, trivial⟩
noncomputable def ms32_10 : List Memo := [m121, m130, m136, m139, m141, m143, m147, m149]
theorem ks32_10 : KnowsAll Tryz.prog 32 ms32_10 := ⟨k121, k130, k136, k139, k141, k143, k147, k149, trivial⟩
noncomputable def ms49_10 : List Memo := [m110, m115, m120, m124, m126, m129, m135, m146]
theorem ks49_10 : KnowsAll Tryz.prog 49 ms49_10 := ⟨k110, k115, k120, k124, k126, k129, k135, k146, trivial⟩
noncomputable def ms83_10 : List Memo := [m73, m75, m76, m78, m80, m83, m85]
theorem ks83_10 : KnowsAll Tryz.prog 83 ms83_10 := ⟨k73, k75, k76, k78, k80, k83, k85, trivial⟩
noncomputable def ms84_10 : List Memo := [m109, m114, m118, m123, m125, m127, m133, m144]
theorem ks84_10 : KnowsAll Tryz.prog 84 ms84_10 := ⟨k109, k114, k118, k123, k125, k127, k133, k144, trivial⟩
noncomputable def ms93_10 : List Memo := [m122, m131, m137]
theorem ks93_10 : KnowsAll Tryz.prog 93 ms93_10 := ⟨k122, k131, k137, trivial⟩
noncomputable def ms155_10 : List Memo := [m56, m58, m59, m61, m64, m66, m68, m69, m72, m81, m87, m90, m94, m95, m97, m100, m108]
theorem ks155_10 : KnowsAll Tryz.prog 155 ms155_10 := ⟨k56, k58, k59, k61, k64, k66, k68, k69, k72, k81, k87, k90, k94, k95, k97, k100, k108, trivial⟩
noncomputable def ms156_10 : List Memo := [m86, m89, m93, m96, m99, m102, m103, m105, m107, m117]
theorem ks156_10 : KnowsAll Tryz.prog 156 ms156_10 := ⟨k86, k89, k93, k96, k99, k102, k103, k105, k107, k117, trivial⟩
noncomputable def ms161_10 : List Memo := [m2, m8, m9, m16, m26, m29, m35]
theorem ks161_10 : KnowsAll Tryz.prog 161 ms161_10 := ⟨k2, k8, k9, k16, k26, k29, k35, trivial⟩
noncomputable def ms200_10 : List Memo := [m38, m40, m41, m43, m46, m49, m50, m51, m55, m62, m70, m74, m82, m84, m88, m91, m101]
theorem ks200_10 : KnowsAll Tryz.prog 200 ms200_10 := ⟨k38, k40, k41, k43, k46, k49, k50, k51, k55, k62, k70, k74, k82, k84, k88, k91, k101, trivial⟩
noncomputable def ms254_10 : List Memo := [m0, m1, m3, m4, m5, m6, m7, m10, m11, m12, m13, m14, m15, m17, m18, m19, m20, m21, m22, m23, m24, m25, m27, m28, m30, m31, m32, m33, m34, m36, m37, m39, m42, m44, m45, m47, m48, m52, m53, m54, m57, m60, m63, m65, m67, m71, m77, m79, m92]
theorem ks254_10 : KnowsAll Tryz.prog 254 ms254_10 := ⟨k0, k1, k3, k4, k5, k6, k7, k10, k11, k12, k13, k14, k15, k17, k18, k19, k20, k21, k22, k23, k24, k25, k27, k28, k30, k31, k32, k33, k34, k36, k37, k39, k42, k44, k45, k47, k48, k52, k53, k54, k57, k60, k63, k65, k67, k71, k77, k79, k92, trivial⟩
noncomputable def K10T : Tbl := ((((((((((((K1.memo 30 ms30_10).memo 31 ms31_10).memo 32 ms32_10).memo 49 ms49_10).memo 83 ms83_10).memo 84 ms84_10).memo 93 ms93_10).memo 155 ms155_10).memo 156 ms156_10).memo 161 ms161_10).memo 200 ms200_10).memo 254 ms254_10)
theorem K10T_ok : KOk Tryz.prog K10T := (KOk.memoAll (KOk.memoAll (KOk.memoAll (KOk.memoAll (KOk.memoAll (KOk.memoAll (KOk.memoAll (KOk.memoAll (KOk.memoAll (KOk.memoAll (KOk.memoAll (KOk.memoAll K1_ok ks30_10) ks31_10) ks32_10) ks49_10) ks83_10) ks84_10) ks93_10) ks155_10) ks156_10) ks161_10) ks200_10) ks254_10)
noncomputable abbrev KT : Tbl := K10T
theorem KT_ok : KOk Tryz.prog KT := K10T_ok
end Go.Proofs.YtnjljcbmmechcaaGreat.Den
