/-
  No cell of these rows narrows 'for every input' (looked for: loops, veiled, ifaces, maps, wideKeys, modest, calm, conditions, laid).
  DERIVED. THE GIVEN ROWS OF THIS SEAT. 4 by the template 'for every input the law returns true; each argument reads behind the call as it read before'; 0 by the template 'total and deterministic' (their statements: YtbknckiapcafdaaTotals.lean).
  GIVEN WITH THE SEED: the statements are not yours to turn. If you find one false, say at which input.
  Laid BY PROGRAM, IN A SANDBOX (cutbox-rows.mjs): the forced cells as the released guide's own fill.sh prints them over the translation b2fb259ab7454c2d… (all of the seat's roots in one cut). By AI agents, Wed Nov 11 2026. No macro, syntax, notation, axiom, sorry.
-/
import Derived.Test.YtbknckiapcafdaaChecked
import GoSem.Claim
import GoSem.ClaimJoined
import GoSem.ClaimMapViews
import Derived.JoinedTies
import Derived.KernelRfl
namespace Go.Proofs.Ytbknckiapcafdaa
/- THE CELL 'sum', in the pinned program and in every row, IS THE sha256 OF THE DUMP (.gsa) THAT YtbknckiapcafdaaProg.lean LOADS. Nothing in Lean hashes anything: it is a label: what it is worth is what the hold of that sum in a sandbox is worth. -/
noncomputable def Try.pinned : Pinned := { name := "ytbknckiapcafdaa", sum := "b2fb259ab7454c2dd019aec3f42f9768fd529d6ca149d5cb82c5d5efb2465532", checked := Try.checked }
namespace Rows
def none {H : Type} : Left H := { results := [], args := [] }

/-- 'cspchecklaw38.NestedExamples': WHATEVER THE INPUT: true; the input reads as it did. -/
def nestedExamplesSpec : ChangeSpec := { name := "nestedExamples", fn := fun _ => fun
  | [] => { results := [.lit (.bool true)], args := [] }
  | _ => none }
def nestedExamplesRow : OpenClaim := { program := "ytbknckiapcafdaa", sum := "b2fb259ab7454c2dd019aec3f42f9768fd529d6ca149d5cb82c5d5efb2465532", func := "cspcheck/cspchecklaw38.NestedExamples", spec := "nestedExamples", unfollowed := true, recurses := true, apart := false }
def NestedExamplesSaid : Prop := nestedExamplesRow.holds Try.pinned (OpenSpec.ofChange nestedExamplesSpec)

/-- ITS FALSE NEIGHBOUR: 'it returns false'. Refute it at one input. -/
def nestedExamplesWrong : ChangeSpec := { name := "nestedExamples", fn := fun _ => fun
  | [] => { results := [.lit (.bool false)], args := [] }
  | _ => none }
def NestedExamplesWrongFalsely : Prop := nestedExamplesRow.holds Try.pinned (OpenSpec.ofChange nestedExamplesWrong)

/-- 'cspchecklaw38.NestedFind': WHATEVER THE INPUT: true; the input reads as it did. -/
def nestedFindSpec : ChangeSpec := { name := "nestedFind", fn := fun _ => fun
  | [d1, d2] => { results := [.lit (.bool true)], args := [d1, d2] }
  | _ => none }
def nestedFindRow : OpenClaim := { program := "ytbknckiapcafdaa", sum := "b2fb259ab7454c2dd019aec3f42f9768fd529d6ca149d5cb82c5d5efb2465532", func := "cspcheck/cspchecklaw38.NestedFind", spec := "nestedFind", unfollowed := true, recurses := true, apart := false }
def NestedFindSaid : Prop := nestedFindRow.holds Try.pinned (OpenSpec.ofChange nestedFindSpec)

/-- ITS FALSE NEIGHBOUR: 'it returns false'. Refute it at one input. -/
def nestedFindWrong : ChangeSpec := { name := "nestedFind", fn := fun _ => fun
  | [d1, d2] => { results := [.lit (.bool false)], args := [d1, d2] }
  | _ => none }
def NestedFindWrongFalsely : Prop := nestedFindRow.holds Try.pinned (OpenSpec.ofChange nestedFindWrong)

/-- 'cspchecklaw38.NestedLasso': WHATEVER THE INPUT: true; the input reads as it did. -/
def nestedLassoSpec : ChangeSpec := { name := "nestedLasso", fn := fun _ => fun
  | [d1, d2, d3, d4] => { results := [.lit (.bool true)], args := [d1, d2, d3, d4] }
  | _ => none }
def nestedLassoRow : OpenClaim := { program := "ytbknckiapcafdaa", sum := "b2fb259ab7454c2dd019aec3f42f9768fd529d6ca149d5cb82c5d5efb2465532", func := "cspcheck/cspchecklaw38.NestedLasso", spec := "nestedLasso", unfollowed := true, recurses := true, apart := false }
def NestedLassoSaid : Prop := nestedLassoRow.holds Try.pinned (OpenSpec.ofChange nestedLassoSpec)

/-- ITS FALSE NEIGHBOUR: 'it returns false'. Refute it at one input. -/
def nestedLassoWrong : ChangeSpec := { name := "nestedLasso", fn := fun _ => fun
  | [d1, d2, d3, d4] => { results := [.lit (.bool false)], args := [d1, d2, d3, d4] }
  | _ => none }
def NestedLassoWrongFalsely : Prop := nestedLassoRow.holds Try.pinned (OpenSpec.ofChange nestedLassoWrong)

/-- 'cspchecklaw38.NestedDecides': WHATEVER THE INPUT: true; the input reads as it did. -/
def nestedDecidesSpec : ChangeSpec := { name := "nestedDecides", fn := fun _ => fun
  | [d] => { results := [.lit (.bool true)], args := [d] }
  | _ => none }
def nestedDecidesRow : OpenClaim := { program := "ytbknckiapcafdaa", sum := "b2fb259ab7454c2dd019aec3f42f9768fd529d6ca149d5cb82c5d5efb2465532", func := "cspcheck/cspchecklaw38.NestedDecides", spec := "nestedDecides", unfollowed := true, recurses := true, apart := false }
def NestedDecidesSaid : Prop := nestedDecidesRow.holds Try.pinned (OpenSpec.ofChange nestedDecidesSpec)

/-- ITS FALSE NEIGHBOUR: 'it returns false'. Refute it at one input. -/
def nestedDecidesWrong : ChangeSpec := { name := "nestedDecides", fn := fun _ => fun
  | [d] => { results := [.lit (.bool false)], args := [d] }
  | _ => none }
def NestedDecidesWrongFalsely : Prop := nestedDecidesRow.holds Try.pinned (OpenSpec.ofChange nestedDecidesWrong)

/- THE SECOND FORM. 'bulk': how many values and letters a reading holds, each counted each time it is reached (what is shared counts as often as it is met; a slice's spare places count too). A statement '..UptoSaid' is the law's where the arguments, and the package variables that the reading takes, are together of bulk at most 1048576: NARROWER than '..Said'. Prove '..Said' where nothing that the law and all that it calls make is longer than what came in: it says more and counts as full. Else prove '..UptoSaid'. A law counts once. -/
mutual
def uptoBulk {H : Type} : DataW H → Nat
  | .lit (.string bytes) => bytes.length + 1
  | .lit _ => 1
  | .nil => 1
  | .ptr d => uptoBulk d + 1
  | .slice elems spare => uptoBulkAll elems + uptoBulkAll spare + 1
  | .agg parts => uptoBulkAll parts + 1
  | .iface _ d => uptoBulk d + 1
  | .map entries => uptoBulkEntries entries + 1
  | .held _ => 1
def uptoBulkAll {H : Type} : List (DataW H) → Nat
  | [] => 0
  | d :: r => uptoBulk d + uptoBulkAll r
def uptoBulkEntries {H : Type} : List (Lit × DataW H) → Nat
  | [] => 0
  | x :: r => uptoBulkEntry x + uptoBulkEntries r
def uptoBulkEntry {H : Type} : Lit × DataW H → Nat
  | (.string bytes, d) => bytes.length + uptoBulk d + 1
  | (_, d) => uptoBulk d + 1
 end
def uptoSmall : (H : Type) → List (DataW H) → Bool := fun _ ds => decide (uptoBulkAll ds ≤ 1048576)
def OpenSpec.upto (s : _root_.Go.ChangeSpec) : _root_.Go.OpenSpec := { _root_.Go.OpenSpec.ofChange s with cond := some uptoSmall }

/-- 'cspchecklaw38.NestedExamples', WHERE WHAT IT READS IS OF BULK AT MOST 1048576: true; the input reads as it did. -/
def nestedExamplesUptoRow : OpenClaim := { program := "ytbknckiapcafdaa", sum := "b2fb259ab7454c2dd019aec3f42f9768fd529d6ca149d5cb82c5d5efb2465532", func := "cspcheck/cspchecklaw38.NestedExamples", spec := "nestedExamples", unfollowed := true, recurses := true, apart := false, narrowed := true }
def NestedExamplesUptoSaid : Prop := nestedExamplesUptoRow.holds Try.pinned (OpenSpec.upto nestedExamplesSpec)

/-- 'cspchecklaw38.NestedFind', WHERE WHAT IT READS IS OF BULK AT MOST 1048576: true; the input reads as it did. -/
def nestedFindUptoRow : OpenClaim := { program := "ytbknckiapcafdaa", sum := "b2fb259ab7454c2dd019aec3f42f9768fd529d6ca149d5cb82c5d5efb2465532", func := "cspcheck/cspchecklaw38.NestedFind", spec := "nestedFind", unfollowed := true, recurses := true, apart := false, narrowed := true }
def NestedFindUptoSaid : Prop := nestedFindUptoRow.holds Try.pinned (OpenSpec.upto nestedFindSpec)

/-- 'cspchecklaw38.NestedLasso', WHERE WHAT IT READS IS OF BULK AT MOST 1048576: true; the input reads as it did. -/
def nestedLassoUptoRow : OpenClaim := { program := "ytbknckiapcafdaa", sum := "b2fb259ab7454c2dd019aec3f42f9768fd529d6ca149d5cb82c5d5efb2465532", func := "cspcheck/cspchecklaw38.NestedLasso", spec := "nestedLasso", unfollowed := true, recurses := true, apart := false, narrowed := true }
def NestedLassoUptoSaid : Prop := nestedLassoUptoRow.holds Try.pinned (OpenSpec.upto nestedLassoSpec)

/-- 'cspchecklaw38.NestedDecides', WHERE WHAT IT READS IS OF BULK AT MOST 1048576: true; the input reads as it did. -/
def nestedDecidesUptoRow : OpenClaim := { program := "ytbknckiapcafdaa", sum := "b2fb259ab7454c2dd019aec3f42f9768fd529d6ca149d5cb82c5d5efb2465532", func := "cspcheck/cspchecklaw38.NestedDecides", spec := "nestedDecides", unfollowed := true, recurses := true, apart := false, narrowed := true }
def NestedDecidesUptoSaid : Prop := nestedDecidesUptoRow.holds Try.pinned (OpenSpec.upto nestedDecidesSpec)

end Rows
end Go.Proofs.Ytbknckiapcafdaa
