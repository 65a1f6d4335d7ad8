/- The inner search (function 51). -/
import Derived.Test.YtbknckiapcafdaaNestT
set_option linter.unusedSimpArgs false
set_option linter.unusedVariables false
namespace Go.Proofs.Ytbknckiapcafdaa.Nest
open Abs Abs2

theorem slice33a {σ : AS} {t : Int} : aBuildSlice Try.prog σ 33 1 [(0, .int .i64 t)] = some (.slice (some ⟨σ.next, 0, none⟩) 1 1, σ.new ⟨1, 3, 0, [.int .i64 t], []⟩) := by kernel_rfl
theorem src33 {σ : AS} {b : Nat} {t : Int} (h : σ.get b = ⟨1, 3, 0, [.int .i64 t], []⟩) (inf : TypeInfo) (hi : inf.size = 1) : aSource Try.prog σ false inf (.slice (some ⟨b, 0, none⟩) 1 1) = some (1, [.int .i64 t]) := by
  have hc : aCells σ ⟨b, 0, none⟩ 1 = some [.int .i64 t] := cells_at h rfl (Nat.le_refl _)
  unfold aSource
  simp only [Bool.false_eq_true, if_false, hi, Nat.mul_one, aCellsS_none, hc]

end Go.Proofs.Ytbknckiapcafdaa.Nest

/- The outer search (function 33). -/
set_option linter.unusedSimpArgs false
set_option linter.unusedVariables false
namespace Go.Proofs.Ytbknckiapcafdaa.Nest
open Abs Abs2

end Go.Proofs.Ytbknckiapcafdaa.Nest

/- The reference's Find (function 17). -/
set_option linter.unusedSimpArgs false
set_option linter.unusedVariables false
namespace Go.Proofs.Ytbknckiapcafdaa.Nest
open Abs Abs2

theorem info4 : ∃ inf, Try.prog.info? 4 = some inf ∧ inf.size = 1 ∧ inf.bytes = 1 ∧ inf.zero = some (.bool false) :=
  ⟨(Try.prog.info? 4).get!, by kernel_rfl, by kernel_rfl, by kernel_rfl, by kernel_rfl⟩

theorem make43 {σ : AS} {N : Nat} (h : N ≤ 1000000) : aMakeSlice Try.prog σ 43 (.int .i64 (N : Int)) (.int .i64 (N : Int)) = some (.slice (some ⟨σ.next, 0, none⟩) N N, σ.new ⟨1, 4, 0, List.replicate N (.bool false), []⟩) := by
  obtain ⟨inf, h1, h2, h3, h4⟩ := info4
  unfold aMakeSlice
  simp only [Try.underlying43, h1, h2, h3, h4]
  rw [if_pos ⟨by omega, by omega, by omega, by omega, rfl, by decide⟩]
  have e : ((Array.range ((N : Int).toNat * 1)).map fun i => (Value.bool false).cells[i % (Value.bool false).cells.size]!).toList = List.replicate N (.bool false) := by
    rw [Nat.mul_one]
    exact map_range_const (fun v : Value => v) (.bool false) (fun i => (Value.bool false).cells[i % (Value.bool false).cells.size]!) (fun i => by
      have : i % (Value.bool false).cells.size = 0 := Nat.mod_one i
      rw [this]; rfl) N
  rw [e]
  rfl

def initS (N : Nat) : SS := ⟨List.replicate N false, List.replicate N false, [], [], [], [], false⟩

/-- What the reference finds. -/
def findF (L : Lts) : List Arc × List Arc × Bool × Int :=
  if validB L = true then if (outerF L L.length (initS L.length) 0).found = true then ((outerF L L.length (initS L.length) 0).stem, (outerF L L.length (initS L.length) 0).loop, true, 0) else ([], [], false, 0)
  else ([], [], false, 1)

end Go.Proofs.Ytbknckiapcafdaa.Nest
