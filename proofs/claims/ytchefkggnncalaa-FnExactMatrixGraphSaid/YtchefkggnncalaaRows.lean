/-
  No cell of these rows narrows 'for every input' (looked for: loops, veiled, ifaces, maps, wideKeys, modest, calm, conditions, laid).
  DERIVED. THE GIVEN ROWS OF THIS SEAT. 11 by the template 'for every input the law returns true; each argument reads behind the call as it read before'; 0 by the template 'total and deterministic' (their statements: YtchefkggnncalaaTotals.lean).
  GIVEN WITH THE SEED: the statements are not yours to turn. If you find one false, say at which input.
  Laid BY PROGRAM, IN A SANDBOX (cutbox-rows.mjs): the forced cells as the released guide's own fill.sh prints them over the translation 5e998c9a37ef6d32… (all of the seat's roots in one cut). By AI agents, Wed Nov 11 2026. No macro, syntax, notation, axiom, sorry.
-/
import Derived.Test.YtchefkggnncalaaChecked
import GoSem.Claim
import GoSem.ClaimJoined
import GoSem.ClaimMapViews
import Derived.JoinedTies
import Derived.KernelRfl
namespace Go.Proofs.Ytchefkggnncalaa
/- THE CELL 'sum', in the pinned program and in every row, IS THE sha256 OF THE DUMP (.gsa) THAT YtchefkggnncalaaProg.lean LOADS. Nothing in Lean hashes anything: it is a label: what it is worth is what the hold of that sum in a sandbox is worth. -/
noncomputable def Try.pinned : Pinned := { name := "ytchefkggnncalaa", sum := "5e998c9a37ef6d32728ea4c8c889ab05ebb6be33e16afc7710a4d518c468c5a5", checked := Try.checked }
namespace Rows
def none {H : Type} : Left H := { results := [], args := [] }

/-- 'laws.FnExactValidGraph': WHATEVER THE INPUT: true; the input reads as it did. -/
def fnExactValidGraphSpec : ChangeSpec := { name := "fnExactValidGraph", fn := fun _ => fun
  | [d] => { results := [.lit (.bool true)], args := [d] }
  | _ => none }
def fnExactValidGraphRow : OpenClaim := { program := "ytchefkggnncalaa", sum := "5e998c9a37ef6d32728ea4c8c889ab05ebb6be33e16afc7710a4d518c468c5a5", func := "loop.example/degreeswaps/laws.FnExactValidGraph", spec := "fnExactValidGraph", apart := false }
def FnExactValidGraphSaid : Prop := fnExactValidGraphRow.holds Try.pinned (OpenSpec.ofChange fnExactValidGraphSpec)

/-- ITS FALSE NEIGHBOUR: 'it returns false'. Refute it at one input. -/
def fnExactValidGraphWrong : ChangeSpec := { name := "fnExactValidGraph", fn := fun _ => fun
  | [d] => { results := [.lit (.bool false)], args := [d] }
  | _ => none }
def FnExactValidGraphWrongFalsely : Prop := fnExactValidGraphRow.holds Try.pinned (OpenSpec.ofChange fnExactValidGraphWrong)

/-- 'laws.FnExactHasEdge': WHATEVER THE INPUT: true; the input reads as it did. -/
def fnExactHasEdgeSpec : ChangeSpec := { name := "fnExactHasEdge", fn := fun _ => fun
  | [d1, d2, d3] => { results := [.lit (.bool true)], args := [d1, d2, d3] }
  | _ => none }
def fnExactHasEdgeRow : OpenClaim := { program := "ytchefkggnncalaa", sum := "5e998c9a37ef6d32728ea4c8c889ab05ebb6be33e16afc7710a4d518c468c5a5", func := "loop.example/degreeswaps/laws.FnExactHasEdge", spec := "fnExactHasEdge", apart := false }
def FnExactHasEdgeSaid : Prop := fnExactHasEdgeRow.holds Try.pinned (OpenSpec.ofChange fnExactHasEdgeSpec)

/-- ITS FALSE NEIGHBOUR: 'it returns false'. Refute it at one input. -/
def fnExactHasEdgeWrong : ChangeSpec := { name := "fnExactHasEdge", fn := fun _ => fun
  | [d1, d2, d3] => { results := [.lit (.bool false)], args := [d1, d2, d3] }
  | _ => none }
def FnExactHasEdgeWrongFalsely : Prop := fnExactHasEdgeRow.holds Try.pinned (OpenSpec.ofChange fnExactHasEdgeWrong)

/-- 'laws.FnExactCodeGraph': WHATEVER THE INPUT: true; the input reads as it did. -/
def fnExactCodeGraphSpec : ChangeSpec := { name := "fnExactCodeGraph", fn := fun _ => fun
  | [d] => { results := [.lit (.bool true)], args := [d] }
  | _ => none }
def fnExactCodeGraphRow : OpenClaim := { program := "ytchefkggnncalaa", sum := "5e998c9a37ef6d32728ea4c8c889ab05ebb6be33e16afc7710a4d518c468c5a5", func := "loop.example/degreeswaps/laws.FnExactCodeGraph", spec := "fnExactCodeGraph", unfollowed := true, recurses := true, apart := false }
def FnExactCodeGraphSaid : Prop := fnExactCodeGraphRow.holds Try.pinned (OpenSpec.ofChange fnExactCodeGraphSpec)

/-- ITS FALSE NEIGHBOUR: 'it returns false'. Refute it at one input. -/
def fnExactCodeGraphWrong : ChangeSpec := { name := "fnExactCodeGraph", fn := fun _ => fun
  | [d] => { results := [.lit (.bool false)], args := [d] }
  | _ => none }
def FnExactCodeGraphWrongFalsely : Prop := fnExactCodeGraphRow.holds Try.pinned (OpenSpec.ofChange fnExactCodeGraphWrong)

/-- 'laws.FnExactIsPart': WHATEVER THE INPUT: true; the input reads as it did. -/
def fnExactIsPartSpec : ChangeSpec := { name := "fnExactIsPart", fn := fun _ => fun
  | [d1, d2] => { results := [.lit (.bool true)], args := [d1, d2] }
  | _ => none }
def fnExactIsPartRow : OpenClaim := { program := "ytchefkggnncalaa", sum := "5e998c9a37ef6d32728ea4c8c889ab05ebb6be33e16afc7710a4d518c468c5a5", func := "loop.example/degreeswaps/laws.FnExactIsPart", spec := "fnExactIsPart", unfollowed := true, recurses := true, apart := false }
def FnExactIsPartSaid : Prop := fnExactIsPartRow.holds Try.pinned (OpenSpec.ofChange fnExactIsPartSpec)

/-- ITS FALSE NEIGHBOUR: 'it returns false'. Refute it at one input. -/
def fnExactIsPartWrong : ChangeSpec := { name := "fnExactIsPart", fn := fun _ => fun
  | [d1, d2] => { results := [.lit (.bool false)], args := [d1, d2] }
  | _ => none }
def FnExactIsPartWrongFalsely : Prop := fnExactIsPartRow.holds Try.pinned (OpenSpec.ofChange fnExactIsPartWrong)

/-- 'laws.FnExactDifferenceOf': WHATEVER THE INPUT: true; the input reads as it did. -/
def fnExactDifferenceOfSpec : ChangeSpec := { name := "fnExactDifferenceOf", fn := fun _ => fun
  | [d1, d2] => { results := [.lit (.bool true)], args := [d1, d2] }
  | _ => none }
def fnExactDifferenceOfRow : OpenClaim := { program := "ytchefkggnncalaa", sum := "5e998c9a37ef6d32728ea4c8c889ab05ebb6be33e16afc7710a4d518c468c5a5", func := "loop.example/degreeswaps/laws.FnExactDifferenceOf", spec := "fnExactDifferenceOf", apart := false }
def FnExactDifferenceOfSaid : Prop := fnExactDifferenceOfRow.holds Try.pinned (OpenSpec.ofChange fnExactDifferenceOfSpec)

/-- ITS FALSE NEIGHBOUR: 'it returns false'. Refute it at one input. -/
def fnExactDifferenceOfWrong : ChangeSpec := { name := "fnExactDifferenceOf", fn := fun _ => fun
  | [d1, d2] => { results := [.lit (.bool false)], args := [d1, d2] }
  | _ => none }
def FnExactDifferenceOfWrongFalsely : Prop := fnExactDifferenceOfRow.holds Try.pinned (OpenSpec.ofChange fnExactDifferenceOfWrong)

/-- 'laws.FnExactDegreesOf': WHATEVER THE INPUT: true; the input reads as it did. -/
def fnExactDegreesOfSpec : ChangeSpec := { name := "fnExactDegreesOf", fn := fun _ => fun
  | [d] => { results := [.lit (.bool true)], args := [d] }
  | _ => none }
def fnExactDegreesOfRow : OpenClaim := { program := "ytchefkggnncalaa", sum := "5e998c9a37ef6d32728ea4c8c889ab05ebb6be33e16afc7710a4d518c468c5a5", func := "loop.example/degreeswaps/laws.FnExactDegreesOf", spec := "fnExactDegreesOf", apart := false }
def FnExactDegreesOfSaid : Prop := fnExactDegreesOfRow.holds Try.pinned (OpenSpec.ofChange fnExactDegreesOfSpec)

/-- ITS FALSE NEIGHBOUR: 'it returns false'. Refute it at one input. -/
def fnExactDegreesOfWrong : ChangeSpec := { name := "fnExactDegreesOf", fn := fun _ => fun
  | [d] => { results := [.lit (.bool false)], args := [d] }
  | _ => none }
def FnExactDegreesOfWrongFalsely : Prop := fnExactDegreesOfRow.holds Try.pinned (OpenSpec.ofChange fnExactDegreesOfWrong)

/-- 'laws.FnExactWeightGraph': WHATEVER THE INPUT: true; the input reads as it did. -/
def fnExactWeightGraphSpec : ChangeSpec := { name := "fnExactWeightGraph", fn := fun _ => fun
  | [d1, d2] => { results := [.lit (.bool true)], args := [d1, d2] }
  | _ => none }
def fnExactWeightGraphRow : OpenClaim := { program := "ytchefkggnncalaa", sum := "5e998c9a37ef6d32728ea4c8c889ab05ebb6be33e16afc7710a4d518c468c5a5", func := "loop.example/degreeswaps/laws.FnExactWeightGraph", spec := "fnExactWeightGraph", unfollowed := true, recurses := true, apart := false }
def FnExactWeightGraphSaid : Prop := fnExactWeightGraphRow.holds Try.pinned (OpenSpec.ofChange fnExactWeightGraphSpec)

/-- ITS FALSE NEIGHBOUR: 'it returns false'. Refute it at one input. -/
def fnExactWeightGraphWrong : ChangeSpec := { name := "fnExactWeightGraph", fn := fun _ => fun
  | [d1, d2] => { results := [.lit (.bool false)], args := [d1, d2] }
  | _ => none }
def FnExactWeightGraphWrongFalsely : Prop := fnExactWeightGraphRow.holds Try.pinned (OpenSpec.ofChange fnExactWeightGraphWrong)

/-- 'laws.FnExactIsNested': WHATEVER THE INPUT: true; the input reads as it did. -/
def fnExactIsNestedSpec : ChangeSpec := { name := "fnExactIsNested", fn := fun _ => fun
  | [d] => { results := [.lit (.bool true)], args := [d] }
  | _ => none }
def fnExactIsNestedRow : OpenClaim := { program := "ytchefkggnncalaa", sum := "5e998c9a37ef6d32728ea4c8c889ab05ebb6be33e16afc7710a4d518c468c5a5", func := "loop.example/degreeswaps/laws.FnExactIsNested", spec := "fnExactIsNested", unfollowed := true, recurses := true, apart := false }
def FnExactIsNestedSaid : Prop := fnExactIsNestedRow.holds Try.pinned (OpenSpec.ofChange fnExactIsNestedSpec)

/-- ITS FALSE NEIGHBOUR: 'it returns false'. Refute it at one input. -/
def fnExactIsNestedWrong : ChangeSpec := { name := "fnExactIsNested", fn := fun _ => fun
  | [d] => { results := [.lit (.bool false)], args := [d] }
  | _ => none }
def FnExactIsNestedWrongFalsely : Prop := fnExactIsNestedRow.holds Try.pinned (OpenSpec.ofChange fnExactIsNestedWrong)

/-- 'laws.FnExactUnionOf': WHATEVER THE INPUT: true; the input reads as it did. -/
def fnExactUnionOfSpec : ChangeSpec := { name := "fnExactUnionOf", fn := fun _ => fun
  | [d1, d2] => { results := [.lit (.bool true)], args := [d1, d2] }
  | _ => none }
def fnExactUnionOfRow : OpenClaim := { program := "ytchefkggnncalaa", sum := "5e998c9a37ef6d32728ea4c8c889ab05ebb6be33e16afc7710a4d518c468c5a5", func := "loop.example/degreeswaps/laws.FnExactUnionOf", spec := "fnExactUnionOf", unfollowed := true, recurses := true, apart := false }
def FnExactUnionOfSaid : Prop := fnExactUnionOfRow.holds Try.pinned (OpenSpec.ofChange fnExactUnionOfSpec)

/-- ITS FALSE NEIGHBOUR: 'it returns false'. Refute it at one input. -/
def fnExactUnionOfWrong : ChangeSpec := { name := "fnExactUnionOf", fn := fun _ => fun
  | [d1, d2] => { results := [.lit (.bool false)], args := [d1, d2] }
  | _ => none }
def FnExactUnionOfWrongFalsely : Prop := fnExactUnionOfRow.holds Try.pinned (OpenSpec.ofChange fnExactUnionOfWrong)

/-- 'laws.FnExactComplementGraph': WHATEVER THE INPUT: true; the input reads as it did. -/
def fnExactComplementGraphSpec : ChangeSpec := { name := "fnExactComplementGraph", fn := fun _ => fun
  | [d] => { results := [.lit (.bool true)], args := [d] }
  | _ => none }
def fnExactComplementGraphRow : OpenClaim := { program := "ytchefkggnncalaa", sum := "5e998c9a37ef6d32728ea4c8c889ab05ebb6be33e16afc7710a4d518c468c5a5", func := "loop.example/degreeswaps/laws.FnExactComplementGraph", spec := "fnExactComplementGraph", unfollowed := true, recurses := true, apart := false }
def FnExactComplementGraphSaid : Prop := fnExactComplementGraphRow.holds Try.pinned (OpenSpec.ofChange fnExactComplementGraphSpec)

/-- ITS FALSE NEIGHBOUR: 'it returns false'. Refute it at one input. -/
def fnExactComplementGraphWrong : ChangeSpec := { name := "fnExactComplementGraph", fn := fun _ => fun
  | [d] => { results := [.lit (.bool false)], args := [d] }
  | _ => none }
def FnExactComplementGraphWrongFalsely : Prop := fnExactComplementGraphRow.holds Try.pinned (OpenSpec.ofChange fnExactComplementGraphWrong)

/-- 'laws.FnExactMatrixGraph': WHATEVER THE INPUT: true; the input reads as it did. -/
def fnExactMatrixGraphSpec : ChangeSpec := { name := "fnExactMatrixGraph", fn := fun _ => fun
  | [d] => { results := [.lit (.bool true)], args := [d] }
  | _ => none }
def fnExactMatrixGraphRow : OpenClaim := { program := "ytchefkggnncalaa", sum := "5e998c9a37ef6d32728ea4c8c889ab05ebb6be33e16afc7710a4d518c468c5a5", func := "loop.example/degreeswaps/laws.FnExactMatrixGraph", spec := "fnExactMatrixGraph", unfollowed := true, recurses := true, apart := false }
def FnExactMatrixGraphSaid : Prop := fnExactMatrixGraphRow.holds Try.pinned (OpenSpec.ofChange fnExactMatrixGraphSpec)

/-- ITS FALSE NEIGHBOUR: 'it returns false'. Refute it at one input. -/
def fnExactMatrixGraphWrong : ChangeSpec := { name := "fnExactMatrixGraph", fn := fun _ => fun
  | [d] => { results := [.lit (.bool false)], args := [d] }
  | _ => none }
def FnExactMatrixGraphWrongFalsely : Prop := fnExactMatrixGraphRow.holds Try.pinned (OpenSpec.ofChange fnExactMatrixGraphWrong)

/- THE SECOND FORM. 'bulk': how many values and letters a reading holds, each counted each time it is reached (what is shared counts as often as it is met; a slice's spare places count too). A statement '..UptoSaid' is the law's where the arguments, and the package variables that the reading takes, are together of bulk at most 1048576: NARROWER than '..Said'. Prove '..Said' where nothing that the law and all that it calls make is longer than what came in: it says more and counts as full. Else prove '..UptoSaid'. A law counts once. -/
mutual
def uptoBulk {H : Type} : DataW H → Nat
  | .lit (.string bytes) => bytes.length + 1
  | .lit _ => 1
  | .nil => 1
  | .ptr d => uptoBulk d + 1
  | .slice elems spare => uptoBulkAll elems + uptoBulkAll spare + 1
  | .agg parts => uptoBulkAll parts + 1
  | .iface _ d => uptoBulk d + 1
  | .map entries => uptoBulkEntries entries + 1
  | .held _ => 1
def uptoBulkAll {H : Type} : List (DataW H) → Nat
  | [] => 0
  | d :: r => uptoBulk d + uptoBulkAll r
def uptoBulkEntries {H : Type} : List (Lit × DataW H) → Nat
  | [] => 0
  | x :: r => uptoBulkEntry x + uptoBulkEntries r
def uptoBulkEntry {H : Type} : Lit × DataW H → Nat
  | (.string bytes, d) => bytes.length + uptoBulk d + 1
  | (_, d) => uptoBulk d + 1
 end
def uptoSmall : (H : Type) → List (DataW H) → Bool := fun _ ds => decide (uptoBulkAll ds ≤ 1048576)
def OpenSpec.upto (s : _root_.Go.ChangeSpec) : _root_.Go.OpenSpec := { _root_.Go.OpenSpec.ofChange s with cond := some uptoSmall }

/-- 'laws.FnExactValidGraph', WHERE WHAT IT READS IS OF BULK AT MOST 1048576: true; the input reads as it did. -/
def fnExactValidGraphUptoRow : OpenClaim := { program := "ytchefkggnncalaa", sum := "5e998c9a37ef6d32728ea4c8c889ab05ebb6be33e16afc7710a4d518c468c5a5", func := "loop.example/degreeswaps/laws.FnExactValidGraph", spec := "fnExactValidGraph", apart := false, narrowed := true }
def FnExactValidGraphUptoSaid : Prop := fnExactValidGraphUptoRow.holds Try.pinned (OpenSpec.upto fnExactValidGraphSpec)

/-- 'laws.FnExactHasEdge', WHERE WHAT IT READS IS OF BULK AT MOST 1048576: true; the input reads as it did. -/
def fnExactHasEdgeUptoRow : OpenClaim := { program := "ytchefkggnncalaa", sum := "5e998c9a37ef6d32728ea4c8c889ab05ebb6be33e16afc7710a4d518c468c5a5", func := "loop.example/degreeswaps/laws.FnExactHasEdge", spec := "fnExactHasEdge", apart := false, narrowed := true }
def FnExactHasEdgeUptoSaid : Prop := fnExactHasEdgeUptoRow.holds Try.pinned (OpenSpec.upto fnExactHasEdgeSpec)

/-- 'laws.FnExactCodeGraph', WHERE WHAT IT READS IS OF BULK AT MOST 1048576: true; the input reads as it did. -/
def fnExactCodeGraphUptoRow : OpenClaim := { program := "ytchefkggnncalaa", sum := "5e998c9a37ef6d32728ea4c8c889ab05ebb6be33e16afc7710a4d518c468c5a5", func := "loop.example/degreeswaps/laws.FnExactCodeGraph", spec := "fnExactCodeGraph", unfollowed := true, recurses := true, apart := false, narrowed := true }
def FnExactCodeGraphUptoSaid : Prop := fnExactCodeGraphUptoRow.holds Try.pinned (OpenSpec.upto fnExactCodeGraphSpec)

/-- 'laws.FnExactIsPart', WHERE WHAT IT READS IS OF BULK AT MOST 1048576: true; the input reads as it did. -/
def fnExactIsPartUptoRow : OpenClaim := { program := "ytchefkggnncalaa", sum := "5e998c9a37ef6d32728ea4c8c889ab05ebb6be33e16afc7710a4d518c468c5a5", func := "loop.example/degreeswaps/laws.FnExactIsPart", spec := "fnExactIsPart", unfollowed := true, recurses := true, apart := false, narrowed := true }
def FnExactIsPartUptoSaid : Prop := fnExactIsPartUptoRow.holds Try.pinned (OpenSpec.upto fnExactIsPartSpec)

/-- 'laws.FnExactDifferenceOf', WHERE WHAT IT READS IS OF BULK AT MOST 1048576: true; the input reads as it did. -/
def fnExactDifferenceOfUptoRow : OpenClaim := { program := "ytchefkggnncalaa", sum := "5e998c9a37ef6d32728ea4c8c889ab05ebb6be33e16afc7710a4d518c468c5a5", func := "loop.example/degreeswaps/laws.FnExactDifferenceOf", spec := "fnExactDifferenceOf", apart := false, narrowed := true }
def FnExactDifferenceOfUptoSaid : Prop := fnExactDifferenceOfUptoRow.holds Try.pinned (OpenSpec.upto fnExactDifferenceOfSpec)

/-- 'laws.FnExactDegreesOf', WHERE WHAT IT READS IS OF BULK AT MOST 1048576: true; the input reads as it did. -/
def fnExactDegreesOfUptoRow : OpenClaim := { program := "ytchefkggnncalaa", sum := "5e998c9a37ef6d32728ea4c8c889ab05ebb6be33e16afc7710a4d518c468c5a5", func := "loop.example/degreeswaps/laws.FnExactDegreesOf", spec := "fnExactDegreesOf", apart := false, narrowed := true }
def FnExactDegreesOfUptoSaid : Prop := fnExactDegreesOfUptoRow.holds Try.pinned (OpenSpec.upto fnExactDegreesOfSpec)

/-- 'laws.FnExactWeightGraph', WHERE WHAT IT READS IS OF BULK AT MOST 1048576: true; the input reads as it did. -/
def fnExactWeightGraphUptoRow : OpenClaim := { program := "ytchefkggnncalaa", sum := "5e998c9a37ef6d32728ea4c8c889ab05ebb6be33e16afc7710a4d518c468c5a5", func := "loop.example/degreeswaps/laws.FnExactWeightGraph", spec := "fnExactWeightGraph", unfollowed := true, recurses := true, apart := false, narrowed := true }
def FnExactWeightGraphUptoSaid : Prop := fnExactWeightGraphUptoRow.holds Try.pinned (OpenSpec.upto fnExactWeightGraphSpec)

/-- 'laws.FnExactIsNested', WHERE WHAT IT READS IS OF BULK AT MOST 1048576: true; the input reads as it did. -/
def fnExactIsNestedUptoRow : OpenClaim := { program := "ytchefkggnncalaa", sum := "5e998c9a37ef6d32728ea4c8c889ab05ebb6be33e16afc7710a4d518c468c5a5", func := "loop.example/degreeswaps/laws.FnExactIsNested", spec := "fnExactIsNested", unfollowed := true, recurses := true, apart := false, narrowed := true }
def FnExactIsNestedUptoSaid : Prop := fnExactIsNestedUptoRow.holds Try.pinned (OpenSpec.upto fnExactIsNestedSpec)

/-- 'laws.FnExactUnionOf', WHERE WHAT IT READS IS OF BULK AT MOST 1048576: true; the input reads as it did. -/
def fnExactUnionOfUptoRow : OpenClaim := { program := "ytchefkggnncalaa", sum := "5e998c9a37ef6d32728ea4c8c889ab05ebb6be33e16afc7710a4d518c468c5a5", func := "loop.example/degreeswaps/laws.FnExactUnionOf", spec := "fnExactUnionOf", unfollowed := true, recurses := true, apart := false, narrowed := true }
def FnExactUnionOfUptoSaid : Prop := fnExactUnionOfUptoRow.holds Try.pinned (OpenSpec.upto fnExactUnionOfSpec)

/-- 'laws.FnExactComplementGraph', WHERE WHAT IT READS IS OF BULK AT MOST 1048576: true; the input reads as it did. -/
def fnExactComplementGraphUptoRow : OpenClaim := { program := "ytchefkggnncalaa", sum := "5e998c9a37ef6d32728ea4c8c889ab05ebb6be33e16afc7710a4d518c468c5a5", func := "loop.example/degreeswaps/laws.FnExactComplementGraph", spec := "fnExactComplementGraph", unfollowed := true, recurses := true, apart := false, narrowed := true }
def FnExactComplementGraphUptoSaid : Prop := fnExactComplementGraphUptoRow.holds Try.pinned (OpenSpec.upto fnExactComplementGraphSpec)

/-- 'laws.FnExactMatrixGraph', WHERE WHAT IT READS IS OF BULK AT MOST 1048576: true; the input reads as it did. -/
def fnExactMatrixGraphUptoRow : OpenClaim := { program := "ytchefkggnncalaa", sum := "5e998c9a37ef6d32728ea4c8c889ab05ebb6be33e16afc7710a4d518c468c5a5", func := "loop.example/degreeswaps/laws.FnExactMatrixGraph", spec := "fnExactMatrixGraph", unfollowed := true, recurses := true, apart := false, narrowed := true }
def FnExactMatrixGraphUptoSaid : Prop := fnExactMatrixGraphUptoRow.holds Try.pinned (OpenSpec.upto fnExactMatrixGraphSpec)

end Rows
end Go.Proofs.Ytchefkggnncalaa
