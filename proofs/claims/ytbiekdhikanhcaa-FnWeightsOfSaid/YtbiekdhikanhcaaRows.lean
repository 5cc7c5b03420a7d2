/-
  No cell of these rows narrows 'for every input' (looked for: loops, veiled, ifaces, maps, wideKeys, modest, calm, conditions, laid).
  DERIVED. THE GIVEN ROWS OF THIS SEAT. 10 by the template 'for every input the law returns true; each argument reads behind the call as it read before'; 0 by the template 'total and deterministic' (their statements: YtbiekdhikanhcaaTotals.lean).
  GIVEN WITH THE SEED: the statements are not yours to turn. If you find one false, say at which input.
  Laid BY PROGRAM, IN A SANDBOX (cutbox-rows.mjs): the forced cells as the released guide's own fill.sh prints them over the translation 6763126304d2ebb1… (all of the seat's roots in one cut). By AI agents, Wed Nov 11 2026. No macro, syntax, notation, axiom, sorry.
-/
import Derived.Test.YtbiekdhikanhcaaChecked
import GoSem.Claim
import GoSem.ClaimJoined
import GoSem.ClaimMapViews
import Derived.JoinedTies
import Derived.KernelRfl
namespace Go.Proofs.Ytbiekdhikanhcaa
/- THE CELL 'sum', in the pinned program and in every row, IS THE sha256 OF THE DUMP (.gsa) THAT YtbiekdhikanhcaaProg.lean LOADS. Nothing in Lean hashes anything: it is a label: what it is worth is what the hold of that sum in a sandbox is worth. -/
noncomputable def Try.pinned : Pinned := { name := "ytbiekdhikanhcaa", sum := "6763126304d2ebb1be6f8e1a78748270b36b800a509d527a888ca64c116ceb4a", checked := Try.checked }
namespace Rows
def none {H : Type} : Left H := { results := [], args := [] }

/-- 'laws.FnDifferenceOf': WHATEVER THE INPUT: true; the input reads as it did. -/
def fnDifferenceOfSpec : ChangeSpec := { name := "fnDifferenceOf", fn := fun _ => fun
  | [d] => { results := [.lit (.bool true)], args := [d] }
  | _ => none }
def fnDifferenceOfRow : OpenClaim := { program := "ytbiekdhikanhcaa", sum := "6763126304d2ebb1be6f8e1a78748270b36b800a509d527a888ca64c116ceb4a", func := "loop.example/degreeswaps/laws.FnDifferenceOf", spec := "fnDifferenceOf", unfollowed := true, recurses := true, apart := false }
def FnDifferenceOfSaid : Prop := fnDifferenceOfRow.holds Try.pinned (OpenSpec.ofChange fnDifferenceOfSpec)

/-- ITS FALSE NEIGHBOUR: 'it returns false'. Refute it at one input. -/
def fnDifferenceOfWrong : ChangeSpec := { name := "fnDifferenceOf", fn := fun _ => fun
  | [d] => { results := [.lit (.bool false)], args := [d] }
  | _ => none }
def FnDifferenceOfWrongFalsely : Prop := fnDifferenceOfRow.holds Try.pinned (OpenSpec.ofChange fnDifferenceOfWrong)

/-- 'laws.FnUnionOf': WHATEVER THE INPUT: true; the input reads as it did. -/
def fnUnionOfSpec : ChangeSpec := { name := "fnUnionOf", fn := fun _ => fun
  | [d] => { results := [.lit (.bool true)], args := [d] }
  | _ => none }
def fnUnionOfRow : OpenClaim := { program := "ytbiekdhikanhcaa", sum := "6763126304d2ebb1be6f8e1a78748270b36b800a509d527a888ca64c116ceb4a", func := "loop.example/degreeswaps/laws.FnUnionOf", spec := "fnUnionOf", unfollowed := true, recurses := true, apart := false }
def FnUnionOfSaid : Prop := fnUnionOfRow.holds Try.pinned (OpenSpec.ofChange fnUnionOfSpec)

/-- ITS FALSE NEIGHBOUR: 'it returns false'. Refute it at one input. -/
def fnUnionOfWrong : ChangeSpec := { name := "fnUnionOf", fn := fun _ => fun
  | [d] => { results := [.lit (.bool false)], args := [d] }
  | _ => none }
def FnUnionOfWrongFalsely : Prop := fnUnionOfRow.holds Try.pinned (OpenSpec.ofChange fnUnionOfWrong)

/-- 'laws.FnWeightsOf': WHATEVER THE INPUT: true; the input reads as it did. -/
def fnWeightsOfSpec : ChangeSpec := { name := "fnWeightsOf", fn := fun _ => fun
  | [d] => { results := [.lit (.bool true)], args := [d] }
  | _ => none }
def fnWeightsOfRow : OpenClaim := { program := "ytbiekdhikanhcaa", sum := "6763126304d2ebb1be6f8e1a78748270b36b800a509d527a888ca64c116ceb4a", func := "loop.example/degreeswaps/laws.FnWeightsOf", spec := "fnWeightsOf", unfollowed := true, recurses := true, apart := false }
def FnWeightsOfSaid : Prop := fnWeightsOfRow.holds Try.pinned (OpenSpec.ofChange fnWeightsOfSpec)

/-- ITS FALSE NEIGHBOUR: 'it returns false'. Refute it at one input. -/
def fnWeightsOfWrong : ChangeSpec := { name := "fnWeightsOf", fn := fun _ => fun
  | [d] => { results := [.lit (.bool false)], args := [d] }
  | _ => none }
def FnWeightsOfWrongFalsely : Prop := fnWeightsOfRow.holds Try.pinned (OpenSpec.ofChange fnWeightsOfWrong)

/-- 'laws.FnValidGraph': WHATEVER THE INPUT: true; the input reads as it did. -/
def fnValidGraphSpec : ChangeSpec := { name := "fnValidGraph", fn := fun _ => fun
  | [d] => { results := [.lit (.bool true)], args := [d] }
  | _ => none }
def fnValidGraphRow : OpenClaim := { program := "ytbiekdhikanhcaa", sum := "6763126304d2ebb1be6f8e1a78748270b36b800a509d527a888ca64c116ceb4a", func := "loop.example/degreeswaps/laws.FnValidGraph", spec := "fnValidGraph", unfollowed := true, recurses := true, apart := false }
def FnValidGraphSaid : Prop := fnValidGraphRow.holds Try.pinned (OpenSpec.ofChange fnValidGraphSpec)

/-- ITS FALSE NEIGHBOUR: 'it returns false'. Refute it at one input. -/
def fnValidGraphWrong : ChangeSpec := { name := "fnValidGraph", fn := fun _ => fun
  | [d] => { results := [.lit (.bool false)], args := [d] }
  | _ => none }
def FnValidGraphWrongFalsely : Prop := fnValidGraphRow.holds Try.pinned (OpenSpec.ofChange fnValidGraphWrong)

/-- 'laws.FnHasEdge': WHATEVER THE INPUT: true; the input reads as it did. -/
def fnHasEdgeSpec : ChangeSpec := { name := "fnHasEdge", fn := fun _ => fun
  | [d] => { results := [.lit (.bool true)], args := [d] }
  | _ => none }
def fnHasEdgeRow : OpenClaim := { program := "ytbiekdhikanhcaa", sum := "6763126304d2ebb1be6f8e1a78748270b36b800a509d527a888ca64c116ceb4a", func := "loop.example/degreeswaps/laws.FnHasEdge", spec := "fnHasEdge", unfollowed := true, recurses := true, apart := false }
def FnHasEdgeSaid : Prop := fnHasEdgeRow.holds Try.pinned (OpenSpec.ofChange fnHasEdgeSpec)

/-- ITS FALSE NEIGHBOUR: 'it returns false'. Refute it at one input. -/
def fnHasEdgeWrong : ChangeSpec := { name := "fnHasEdge", fn := fun _ => fun
  | [d] => { results := [.lit (.bool false)], args := [d] }
  | _ => none }
def FnHasEdgeWrongFalsely : Prop := fnHasEdgeRow.holds Try.pinned (OpenSpec.ofChange fnHasEdgeWrong)

/-- 'laws.FnComplementGraph': WHATEVER THE INPUT: true; the input reads as it did. -/
def fnComplementGraphSpec : ChangeSpec := { name := "fnComplementGraph", fn := fun _ => fun
  | [d] => { results := [.lit (.bool true)], args := [d] }
  | _ => none }
def fnComplementGraphRow : OpenClaim := { program := "ytbiekdhikanhcaa", sum := "6763126304d2ebb1be6f8e1a78748270b36b800a509d527a888ca64c116ceb4a", func := "loop.example/degreeswaps/laws.FnComplementGraph", spec := "fnComplementGraph", unfollowed := true, recurses := true, apart := false }
def FnComplementGraphSaid : Prop := fnComplementGraphRow.holds Try.pinned (OpenSpec.ofChange fnComplementGraphSpec)

/-- ITS FALSE NEIGHBOUR: 'it returns false'. Refute it at one input. -/
def fnComplementGraphWrong : ChangeSpec := { name := "fnComplementGraph", fn := fun _ => fun
  | [d] => { results := [.lit (.bool false)], args := [d] }
  | _ => none }
def FnComplementGraphWrongFalsely : Prop := fnComplementGraphRow.holds Try.pinned (OpenSpec.ofChange fnComplementGraphWrong)

/-- 'laws.FnIsPart': WHATEVER THE INPUT: true; the input reads as it did. -/
def fnIsPartSpec : ChangeSpec := { name := "fnIsPart", fn := fun _ => fun
  | [d] => { results := [.lit (.bool true)], args := [d] }
  | _ => none }
def fnIsPartRow : OpenClaim := { program := "ytbiekdhikanhcaa", sum := "6763126304d2ebb1be6f8e1a78748270b36b800a509d527a888ca64c116ceb4a", func := "loop.example/degreeswaps/laws.FnIsPart", spec := "fnIsPart", unfollowed := true, recurses := true, apart := false }
def FnIsPartSaid : Prop := fnIsPartRow.holds Try.pinned (OpenSpec.ofChange fnIsPartSpec)

/-- ITS FALSE NEIGHBOUR: 'it returns false'. Refute it at one input. -/
def fnIsPartWrong : ChangeSpec := { name := "fnIsPart", fn := fun _ => fun
  | [d] => { results := [.lit (.bool false)], args := [d] }
  | _ => none }
def FnIsPartWrongFalsely : Prop := fnIsPartRow.holds Try.pinned (OpenSpec.ofChange fnIsPartWrong)

/-- 'laws.FnComponentsOf': WHATEVER THE INPUT: true; the input reads as it did. -/
def fnComponentsOfSpec : ChangeSpec := { name := "fnComponentsOf", fn := fun _ => fun
  | [d] => { results := [.lit (.bool true)], args := [d] }
  | _ => none }
def fnComponentsOfRow : OpenClaim := { program := "ytbiekdhikanhcaa", sum := "6763126304d2ebb1be6f8e1a78748270b36b800a509d527a888ca64c116ceb4a", func := "loop.example/degreeswaps/laws.FnComponentsOf", spec := "fnComponentsOf", apart := false }
def FnComponentsOfSaid : Prop := fnComponentsOfRow.holds Try.pinned (OpenSpec.ofChange fnComponentsOfSpec)

/-- ITS FALSE NEIGHBOUR: 'it returns false'. Refute it at one input. -/
def fnComponentsOfWrong : ChangeSpec := { name := "fnComponentsOf", fn := fun _ => fun
  | [d] => { results := [.lit (.bool false)], args := [d] }
  | _ => none }
def FnComponentsOfWrongFalsely : Prop := fnComponentsOfRow.holds Try.pinned (OpenSpec.ofChange fnComponentsOfWrong)

/-- 'laws.FnWeightGraph': WHATEVER THE INPUT: true; the input reads as it did. -/
def fnWeightGraphSpec : ChangeSpec := { name := "fnWeightGraph", fn := fun _ => fun
  | [d] => { results := [.lit (.bool true)], args := [d] }
  | _ => none }
def fnWeightGraphRow : OpenClaim := { program := "ytbiekdhikanhcaa", sum := "6763126304d2ebb1be6f8e1a78748270b36b800a509d527a888ca64c116ceb4a", func := "loop.example/degreeswaps/laws.FnWeightGraph", spec := "fnWeightGraph", unfollowed := true, recurses := true, apart := false }
def FnWeightGraphSaid : Prop := fnWeightGraphRow.holds Try.pinned (OpenSpec.ofChange fnWeightGraphSpec)

/-- ITS FALSE NEIGHBOUR: 'it returns false'. Refute it at one input. -/
def fnWeightGraphWrong : ChangeSpec := { name := "fnWeightGraph", fn := fun _ => fun
  | [d] => { results := [.lit (.bool false)], args := [d] }
  | _ => none }
def FnWeightGraphWrongFalsely : Prop := fnWeightGraphRow.holds Try.pinned (OpenSpec.ofChange fnWeightGraphWrong)

/-- 'laws.FnMatchingNumber': WHATEVER THE INPUT: true; the input reads as it did. -/
def fnMatchingNumberSpec : ChangeSpec := { name := "fnMatchingNumber", fn := fun _ => fun
  | [d] => { results := [.lit (.bool true)], args := [d] }
  | _ => none }
def fnMatchingNumberRow : OpenClaim := { program := "ytbiekdhikanhcaa", sum := "6763126304d2ebb1be6f8e1a78748270b36b800a509d527a888ca64c116ceb4a", func := "loop.example/degreeswaps/laws.FnMatchingNumber", spec := "fnMatchingNumber", unfollowed := true, recurses := true, apart := false }
def FnMatchingNumberSaid : Prop := fnMatchingNumberRow.holds Try.pinned (OpenSpec.ofChange fnMatchingNumberSpec)

/-- ITS FALSE NEIGHBOUR: 'it returns false'. Refute it at one input. -/
def fnMatchingNumberWrong : ChangeSpec := { name := "fnMatchingNumber", fn := fun _ => fun
  | [d] => { results := [.lit (.bool false)], args := [d] }
  | _ => none }
def FnMatchingNumberWrongFalsely : Prop := fnMatchingNumberRow.holds Try.pinned (OpenSpec.ofChange fnMatchingNumberWrong)

/- THE SECOND FORM. 'bulk': how many values and letters a reading holds, each counted each time it is reached (what is shared counts as often as it is met; a slice's spare places count too). A statement '..UptoSaid' is the law's where the arguments, and the package variables that the reading takes, are together of bulk at most 1048576: NARROWER than '..Said'. Prove '..Said' where nothing that the law and all that it calls make is longer than what came in: it says more and counts as full. Else prove '..UptoSaid'. A law counts once. -/
mutual
def uptoBulk {H : Type} : DataW H → Nat
  | .lit (.string bytes) => bytes.length + 1
  | .lit _ => 1
  | .nil => 1
  | .ptr d => uptoBulk d + 1
  | .slice elems spare => uptoBulkAll elems + uptoBulkAll spare + 1
  | .agg parts => uptoBulkAll parts + 1
  | .iface _ d => uptoBulk d + 1
  | .map entries => uptoBulkEntries entries + 1
  | .held _ => 1
def uptoBulkAll {H : Type} : List (DataW H) → Nat
  | [] => 0
  | d :: r => uptoBulk d + uptoBulkAll r
def uptoBulkEntries {H : Type} : List (Lit × DataW H) → Nat
  | [] => 0
  | x :: r => uptoBulkEntry x + uptoBulkEntries r
def uptoBulkEntry {H : Type} : Lit × DataW H → Nat
  | (.string bytes, d) => bytes.length + uptoBulk d + 1
  | (_, d) => uptoBulk d + 1
 end
def uptoSmall : (H : Type) → List (DataW H) → Bool := fun _ ds => decide (uptoBulkAll ds ≤ 1048576)
def OpenSpec.upto (s : _root_.Go.ChangeSpec) : _root_.Go.OpenSpec := { _root_.Go.OpenSpec.ofChange s with cond := some uptoSmall }

/-- 'laws.FnDifferenceOf', WHERE WHAT IT READS IS OF BULK AT MOST 1048576: true; the input reads as it did. -/
def fnDifferenceOfUptoRow : OpenClaim := { program := "ytbiekdhikanhcaa", sum := "6763126304d2ebb1be6f8e1a78748270b36b800a509d527a888ca64c116ceb4a", func := "loop.example/degreeswaps/laws.FnDifferenceOf", spec := "fnDifferenceOf", unfollowed := true, recurses := true, apart := false, narrowed := true }
def FnDifferenceOfUptoSaid : Prop := fnDifferenceOfUptoRow.holds Try.pinned (OpenSpec.upto fnDifferenceOfSpec)

/-- 'laws.FnUnionOf', WHERE WHAT IT READS IS OF BULK AT MOST 1048576: true; the input reads as it did. -/
def fnUnionOfUptoRow : OpenClaim := { program := "ytbiekdhikanhcaa", sum := "6763126304d2ebb1be6f8e1a78748270b36b800a509d527a888ca64c116ceb4a", func := "loop.example/degreeswaps/laws.FnUnionOf", spec := "fnUnionOf", unfollowed := true, recurses := true, apart := false, narrowed := true }
def FnUnionOfUptoSaid : Prop := fnUnionOfUptoRow.holds Try.pinned (OpenSpec.upto fnUnionOfSpec)

/-- 'laws.FnWeightsOf', WHERE WHAT IT READS IS OF BULK AT MOST 1048576: true; the input reads as it did. -/
def fnWeightsOfUptoRow : OpenClaim := { program := "ytbiekdhikanhcaa", sum := "6763126304d2ebb1be6f8e1a78748270b36b800a509d527a888ca64c116ceb4a", func := "loop.example/degreeswaps/laws.FnWeightsOf", spec := "fnWeightsOf", unfollowed := true, recurses := true, apart := false, narrowed := true }
def FnWeightsOfUptoSaid : Prop := fnWeightsOfUptoRow.holds Try.pinned (OpenSpec.upto fnWeightsOfSpec)

/-- 'laws.FnValidGraph', WHERE WHAT IT READS IS OF BULK AT MOST 1048576: true; the input reads as it did. -/
def fnValidGraphUptoRow : OpenClaim := { program := "ytbiekdhikanhcaa", sum := "6763126304d2ebb1be6f8e1a78748270b36b800a509d527a888ca64c116ceb4a", func := "loop.example/degreeswaps/laws.FnValidGraph", spec := "fnValidGraph", unfollowed := true, recurses := true, apart := false, narrowed := true }
def FnValidGraphUptoSaid : Prop := fnValidGraphUptoRow.holds Try.pinned (OpenSpec.upto fnValidGraphSpec)

/-- 'laws.FnHasEdge', WHERE WHAT IT READS IS OF BULK AT MOST 1048576: true; the input reads as it did. -/
def fnHasEdgeUptoRow : OpenClaim := { program := "ytbiekdhikanhcaa", sum := "6763126304d2ebb1be6f8e1a78748270b36b800a509d527a888ca64c116ceb4a", func := "loop.example/degreeswaps/laws.FnHasEdge", spec := "fnHasEdge", unfollowed := true, recurses := true, apart := false, narrowed := true }
def FnHasEdgeUptoSaid : Prop := fnHasEdgeUptoRow.holds Try.pinned (OpenSpec.upto fnHasEdgeSpec)

/-- 'laws.FnComplementGraph', WHERE WHAT IT READS IS OF BULK AT MOST 1048576: true; the input reads as it did. -/
def fnComplementGraphUptoRow : OpenClaim := { program := "ytbiekdhikanhcaa", sum := "6763126304d2ebb1be6f8e1a78748270b36b800a509d527a888ca64c116ceb4a", func := "loop.example/degreeswaps/laws.FnComplementGraph", spec := "fnComplementGraph", unfollowed := true, recurses := true, apart := false, narrowed := true }
def FnComplementGraphUptoSaid : Prop := fnComplementGraphUptoRow.holds Try.pinned (OpenSpec.upto fnComplementGraphSpec)

/-- 'laws.FnIsPart', WHERE WHAT IT READS IS OF BULK AT MOST 1048576: true; the input reads as it did. -/
def fnIsPartUptoRow : OpenClaim := { program := "ytbiekdhikanhcaa", sum := "6763126304d2ebb1be6f8e1a78748270b36b800a509d527a888ca64c116ceb4a", func := "loop.example/degreeswaps/laws.FnIsPart", spec := "fnIsPart", unfollowed := true, recurses := true, apart := false, narrowed := true }
def FnIsPartUptoSaid : Prop := fnIsPartUptoRow.holds Try.pinned (OpenSpec.upto fnIsPartSpec)

/-- 'laws.FnComponentsOf', WHERE WHAT IT READS IS OF BULK AT MOST 1048576: true; the input reads as it did. -/
def fnComponentsOfUptoRow : OpenClaim := { program := "ytbiekdhikanhcaa", sum := "6763126304d2ebb1be6f8e1a78748270b36b800a509d527a888ca64c116ceb4a", func := "loop.example/degreeswaps/laws.FnComponentsOf", spec := "fnComponentsOf", apart := false, narrowed := true }
def FnComponentsOfUptoSaid : Prop := fnComponentsOfUptoRow.holds Try.pinned (OpenSpec.upto fnComponentsOfSpec)

/-- 'laws.FnWeightGraph', WHERE WHAT IT READS IS OF BULK AT MOST 1048576: true; the input reads as it did. -/
def fnWeightGraphUptoRow : OpenClaim := { program := "ytbiekdhikanhcaa", sum := "6763126304d2ebb1be6f8e1a78748270b36b800a509d527a888ca64c116ceb4a", func := "loop.example/degreeswaps/laws.FnWeightGraph", spec := "fnWeightGraph", unfollowed := true, recurses := true, apart := false, narrowed := true }
def FnWeightGraphUptoSaid : Prop := fnWeightGraphUptoRow.holds Try.pinned (OpenSpec.upto fnWeightGraphSpec)

/-- 'laws.FnMatchingNumber', WHERE WHAT IT READS IS OF BULK AT MOST 1048576: true; the input reads as it did. -/
def fnMatchingNumberUptoRow : OpenClaim := { program := "ytbiekdhikanhcaa", sum := "6763126304d2ebb1be6f8e1a78748270b36b800a509d527a888ca64c116ceb4a", func := "loop.example/degreeswaps/laws.FnMatchingNumber", spec := "fnMatchingNumber", unfollowed := true, recurses := true, apart := false, narrowed := true }
def FnMatchingNumberUptoSaid : Prop := fnMatchingNumberUptoRow.holds Try.pinned (OpenSpec.upto fnMatchingNumberSpec)

end Rows
end Go.Proofs.Ytbiekdhikanhcaa
