/- The closed facts that the row asks, one by one. -/
import Derived.Test.YtacpdefmnijhnaaGreatRows
import Derived.Test.YtacpdefmnijhnaaGreatChnD
import Derived.WalkKit
import Derived.ProofKit
namespace Go.Proofs.YtacpdefmnijhnaaGreat.unfoldChains
open Go.RowKit
set_option linter.unusedVariables false

theorem j12 : (Rows.unfoldChainsRow.named == Tryz.prog.varsNamed 3) = true := by kernel_rfl
theorem j13 : (Rows.unfoldChainsRow.maps == (Tryz.f3.params.toList ++ Rows.unfoldChainsSpec.plain.varTypes Tryz.prog).any (Tryz.prog.mapsRec ·)) = true := by kernel_rfl
theorem j14 : (Rows.unfoldChainsRow.ifaces == (Tryz.f3.params.toList ++ Rows.unfoldChainsSpec.plain.varTypes Tryz.prog).any (Tryz.prog.ifacesRec ·)) = true := by kernel_rfl
theorem j15 : (Rows.unfoldChainsRow.mapsOut == Tryz.prog.mapsAmong Tryz.f3.resultTypes.toList) = true := by kernel_rfl
theorem j16 : (Rows.unfoldChainsRow.loops == (Tryz.f3.params.toList ++ Rows.unfoldChainsSpec.plain.varTypes Tryz.prog).any (Tryz.prog.loopsFrom ·)) = true := by kernel_rfl
theorem j17 : (Rows.unfoldChainsRow.wideKeys == (Tryz.f3.params.toList ++ Rows.unfoldChainsSpec.plain.varTypes Tryz.prog ++ Tryz.f3.resultTypes.toList).any (Tryz.prog.wideKeysFrom ·)) = true := by kernel_rfl
theorem j18 : (Rows.unfoldChainsSpec.vars.all (Tryz.prog.varReadable ·)) = true := by kernel_rfl
theorem j19 : (Tryz.f3.resultTypes.all (fun t => Tryz.prog.readableRec t && decide (t < Tryz.prog.types.size))) = true := by kernel_rfl
theorem j20 : (Rows.unfoldChainsRow.ifacesOut == Tryz.f3.resultTypes.toList.any (Tryz.prog.ifacesRec ·)) = true := by kernel_rfl
theorem j21 : (Rows.unfoldChainsRow.loopsOut == Tryz.f3.resultTypes.toList.any (Tryz.prog.loopsFrom ·)) = true := by kernel_rfl
theorem j22 : (Rows.unfoldChainsRow.plainKeys == Tryz.prog.plainKeys) = true := by kernel_rfl
theorem j23 : (Rows.unfoldChainsRow.shortTexts.isNone) = true := by kernel_rfl
theorem j24 : (Tryz.prog.stopsHeard) = true := by kernel_rfl
theorem j25 : (Tryz.prog.mayEnter) = true := by kernel_rfl
theorem j26 : (Rows.unfoldChainsRow.lifted == Tryz.prog.liftsFinal) = true := by kernel_rfl
theorem j27 : (Tryz.prog.make == some Rows.unfoldChainsRow.make) = true := by kernel_rfl
theorem j28 : (Rows.unfoldChainsRow.kinds == (if Rows.unfoldChainsRow.domain.isEmpty then [] else Tryz.f3.params.toList.map fun t => match Tryz.prog.underlying t with | some (.int k) => some k | _ => none)) = true := by kernel_rfl
theorem j29 : (Rows.unfoldChainsRow.pinned == Rows.unfoldChainsRow.pinnedBy) = true := by kernel_rfl
theorem j30 : (Rows.unfoldChainsRow.veiled == (Tryz.f3.params.toList ++ Rows.unfoldChainsSpec.plain.varTypes Tryz.prog ++ Tryz.f3.resultTypes.toList).any (Tryz.prog.veiledRec ·)) = true := by kernel_rfl
theorem j31 : (Rows.unfoldChainsRow.veiledFits Tryz.prog Tryz.f3.params.toList (Tryz.f3.params.toList ++ Rows.unfoldChainsSpec.plain.varTypes Tryz.prog ++ Tryz.f3.resultTypes.toList)) = true := by kernel_rfl
set_option maxRecDepth 100000 in
theorem facts : joinedFacts Tryz.prog 3 Tryz.f3 Rows.unfoldChainsSpec Rows.unfoldChainsRow = true := by
  unfold joinedFacts
  simp only [Bool.and_eq_true]
  exact ⟨⟨⟨⟨⟨⟨⟨⟨⟨⟨⟨⟨⟨⟨⟨⟨⟨⟨⟨⟨⟨⟨⟨⟨⟨⟨⟨⟨⟨⟨⟨j0, j1⟩, j2⟩, j3⟩, j4⟩, j5⟩, j6⟩, j7⟩, j8⟩, j9⟩, j10⟩, j11⟩, j12⟩, j13⟩, j14⟩, j15⟩, j16⟩, j17⟩, j18⟩, j19⟩, j20⟩, j21⟩, j22⟩, j23⟩, j24⟩, j25⟩, j26⟩, j27⟩, j28⟩, j29⟩, j30⟩, j31⟩
theorem named_eq : Tryz.prog.funcNamed Rows.unfoldChainsRow.func = some 3 := by kernel_rfl
end Go.Proofs.YtacpdefmnijhnaaGreat.unfoldChains
