/-
  No cell of these rows narrows 'for every input' (looked for: loops, veiled, ifaces, maps, wideKeys, modest, calm, conditions, laid).
  DERIVED. THE GIVEN ROWS OF THIS SEAT. 11 by the template 'for every input the law returns true; each argument reads behind the call as it read before'; 0 by the template 'total and deterministic' (their statements: YtjghcegacgpehaaTotals.lean).
  GIVEN WITH THE SEED: the statements are not yours to turn. If you find one false, say at which input.
  Laid BY PROGRAM, IN A SANDBOX (cutbox-rows.mjs): the forced cells as the released guide's own fill.sh prints them over the translation aae3b99f9891e965… (all of the seat's roots in one cut). By AI agents, Wed Nov 11 2026. No macro, syntax, notation, axiom, sorry.
-/
import Derived.Test.YtjghcegacgpehaaChecked
import GoSem.Claim
import GoSem.ClaimJoined
import GoSem.ClaimMapViews
import Derived.JoinedTies
import Derived.KernelRfl
namespace Go.Proofs.Ytjghcegacgpehaa
/- THE CELL 'sum', in the pinned program and in every row, IS THE sha256 OF THE DUMP (.gsa) THAT YtjghcegacgpehaaProg.lean LOADS. Nothing in Lean hashes anything: it is a label: what it is worth is what the hold of that sum in a sandbox is worth. -/
noncomputable def Try.pinned : Pinned := { name := "ytjghcegacgpehaa", sum := "aae3b99f9891e9652aca9b2f38e05e75349d09c26f98f48984e1de4e30db1239", checked := Try.checked }
namespace Rows
def none {H : Type} : Left H := { results := [], args := [] }

/-- 'laws.FnDifferenceOf': WHATEVER THE INPUT: true; the input reads as it did. -/
def fnDifferenceOfSpec : ChangeSpec := { name := "fnDifferenceOf", fn := fun _ => fun
  | [d] => { results := [.lit (.bool true)], args := [d] }
  | _ => none }
def fnDifferenceOfRow : OpenClaim := { program := "ytjghcegacgpehaa", sum := "aae3b99f9891e9652aca9b2f38e05e75349d09c26f98f48984e1de4e30db1239", func := "loop.example/degreeswaps/laws.FnDifferenceOf", spec := "fnDifferenceOf", unfollowed := true, recurses := true, apart := false }
def FnDifferenceOfSaid : Prop := fnDifferenceOfRow.holds Try.pinned (OpenSpec.ofChange fnDifferenceOfSpec)

/-- ITS FALSE NEIGHBOUR: 'it returns false'. Refute it at one input. -/
def fnDifferenceOfWrong : ChangeSpec := { name := "fnDifferenceOf", fn := fun _ => fun
  | [d] => { results := [.lit (.bool false)], args := [d] }
  | _ => none }
def FnDifferenceOfWrongFalsely : Prop := fnDifferenceOfRow.holds Try.pinned (OpenSpec.ofChange fnDifferenceOfWrong)

/-- 'laws.FnUnionOf': WHATEVER THE INPUT: true; the input reads as it did. -/
def fnUnionOfSpec : ChangeSpec := { name := "fnUnionOf", fn := fun _ => fun
  | [d] => { results := [.lit (.bool true)], args := [d] }
  | _ => none }
def fnUnionOfRow : OpenClaim := { program := "ytjghcegacgpehaa", sum := "aae3b99f9891e9652aca9b2f38e05e75349d09c26f98f48984e1de4e30db1239", func := "loop.example/degreeswaps/laws.FnUnionOf", spec := "fnUnionOf", unfollowed := true, recurses := true, apart := false }
def FnUnionOfSaid : Prop := fnUnionOfRow.holds Try.pinned (OpenSpec.ofChange fnUnionOfSpec)

/-- ITS FALSE NEIGHBOUR: 'it returns false'. Refute it at one input. -/
def fnUnionOfWrong : ChangeSpec := { name := "fnUnionOf", fn := fun _ => fun
  | [d] => { results := [.lit (.bool false)], args := [d] }
  | _ => none }
def FnUnionOfWrongFalsely : Prop := fnUnionOfRow.holds Try.pinned (OpenSpec.ofChange fnUnionOfWrong)

/-- 'laws.FnValidTournament': WHATEVER THE INPUT: true; the input reads as it did. -/
def fnValidTournamentSpec : ChangeSpec := { name := "fnValidTournament", fn := fun _ => fun
  | [d] => { results := [.lit (.bool true)], args := [d] }
  | _ => none }
def fnValidTournamentRow : OpenClaim := { program := "ytjghcegacgpehaa", sum := "aae3b99f9891e9652aca9b2f38e05e75349d09c26f98f48984e1de4e30db1239", func := "loop.example/degreeswaps/laws.FnValidTournament", spec := "fnValidTournament", unfollowed := true, recurses := true, apart := false }
def FnValidTournamentSaid : Prop := fnValidTournamentRow.holds Try.pinned (OpenSpec.ofChange fnValidTournamentSpec)

/-- ITS FALSE NEIGHBOUR: 'it returns false'. Refute it at one input. -/
def fnValidTournamentWrong : ChangeSpec := { name := "fnValidTournament", fn := fun _ => fun
  | [d] => { results := [.lit (.bool false)], args := [d] }
  | _ => none }
def FnValidTournamentWrongFalsely : Prop := fnValidTournamentRow.holds Try.pinned (OpenSpec.ofChange fnValidTournamentWrong)

/-- 'laws.FnExactIsDigraphic': WHATEVER THE INPUT: true; the input reads as it did. -/
def fnExactIsDigraphicSpec : ChangeSpec := { name := "fnExactIsDigraphic", fn := fun _ => fun
  | [d1, d2] => { results := [.lit (.bool true)], args := [d1, d2] }
  | _ => none }
def fnExactIsDigraphicRow : OpenClaim := { program := "ytjghcegacgpehaa", sum := "aae3b99f9891e9652aca9b2f38e05e75349d09c26f98f48984e1de4e30db1239", func := "loop.example/degreeswaps/laws.FnExactIsDigraphic", spec := "fnExactIsDigraphic", unfollowed := true, recurses := true, apart := false }
def FnExactIsDigraphicSaid : Prop := fnExactIsDigraphicRow.holds Try.pinned (OpenSpec.ofChange fnExactIsDigraphicSpec)

/-- ITS FALSE NEIGHBOUR: 'it returns false'. Refute it at one input. -/
def fnExactIsDigraphicWrong : ChangeSpec := { name := "fnExactIsDigraphic", fn := fun _ => fun
  | [d1, d2] => { results := [.lit (.bool false)], args := [d1, d2] }
  | _ => none }
def FnExactIsDigraphicWrongFalsely : Prop := fnExactIsDigraphicRow.holds Try.pinned (OpenSpec.ofChange fnExactIsDigraphicWrong)

/-- 'laws.FnComplementDegrees': WHATEVER THE INPUT: true; the input reads as it did. -/
def fnComplementDegreesSpec : ChangeSpec := { name := "fnComplementDegrees", fn := fun _ => fun
  | [d] => { results := [.lit (.bool true)], args := [d] }
  | _ => none }
def fnComplementDegreesRow : OpenClaim := { program := "ytjghcegacgpehaa", sum := "aae3b99f9891e9652aca9b2f38e05e75349d09c26f98f48984e1de4e30db1239", func := "loop.example/degreeswaps/laws.FnComplementDegrees", spec := "fnComplementDegrees", unfollowed := true, recurses := true, apart := false }
def FnComplementDegreesSaid : Prop := fnComplementDegreesRow.holds Try.pinned (OpenSpec.ofChange fnComplementDegreesSpec)

/-- ITS FALSE NEIGHBOUR: 'it returns false'. Refute it at one input. -/
def fnComplementDegreesWrong : ChangeSpec := { name := "fnComplementDegrees", fn := fun _ => fun
  | [d] => { results := [.lit (.bool false)], args := [d] }
  | _ => none }
def FnComplementDegreesWrongFalsely : Prop := fnComplementDegreesRow.holds Try.pinned (OpenSpec.ofChange fnComplementDegreesWrong)

/-- 'laws.FnComponentsOf': WHATEVER THE INPUT: true; the input reads as it did. -/
def fnComponentsOfSpec : ChangeSpec := { name := "fnComponentsOf", fn := fun _ => fun
  | [d] => { results := [.lit (.bool true)], args := [d] }
  | _ => none }
def fnComponentsOfRow : OpenClaim := { program := "ytjghcegacgpehaa", sum := "aae3b99f9891e9652aca9b2f38e05e75349d09c26f98f48984e1de4e30db1239", func := "loop.example/degreeswaps/laws.FnComponentsOf", spec := "fnComponentsOf", apart := false }
def FnComponentsOfSaid : Prop := fnComponentsOfRow.holds Try.pinned (OpenSpec.ofChange fnComponentsOfSpec)

/-- ITS FALSE NEIGHBOUR: 'it returns false'. Refute it at one input. -/
def fnComponentsOfWrong : ChangeSpec := { name := "fnComponentsOf", fn := fun _ => fun
  | [d] => { results := [.lit (.bool false)], args := [d] }
  | _ => none }
def FnComponentsOfWrongFalsely : Prop := fnComponentsOfRow.holds Try.pinned (OpenSpec.ofChange fnComponentsOfWrong)

/-- 'laws.FnWeightGraph': WHATEVER THE INPUT: true; the input reads as it did. -/
def fnWeightGraphSpec : ChangeSpec := { name := "fnWeightGraph", fn := fun _ => fun
  | [d] => { results := [.lit (.bool true)], args := [d] }
  | _ => none }
def fnWeightGraphRow : OpenClaim := { program := "ytjghcegacgpehaa", sum := "aae3b99f9891e9652aca9b2f38e05e75349d09c26f98f48984e1de4e30db1239", func := "loop.example/degreeswaps/laws.FnWeightGraph", spec := "fnWeightGraph", unfollowed := true, recurses := true, apart := false }
def FnWeightGraphSaid : Prop := fnWeightGraphRow.holds Try.pinned (OpenSpec.ofChange fnWeightGraphSpec)

/-- ITS FALSE NEIGHBOUR: 'it returns false'. Refute it at one input. -/
def fnWeightGraphWrong : ChangeSpec := { name := "fnWeightGraph", fn := fun _ => fun
  | [d] => { results := [.lit (.bool false)], args := [d] }
  | _ => none }
def FnWeightGraphWrongFalsely : Prop := fnWeightGraphRow.holds Try.pinned (OpenSpec.ofChange fnWeightGraphWrong)

/-- 'laws.FnInterchangesOf': WHATEVER THE INPUT: true; the input reads as it did. -/
def fnInterchangesOfSpec : ChangeSpec := { name := "fnInterchangesOf", fn := fun _ => fun
  | [d] => { results := [.lit (.bool true)], args := [d] }
  | _ => none }
def fnInterchangesOfRow : OpenClaim := { program := "ytjghcegacgpehaa", sum := "aae3b99f9891e9652aca9b2f38e05e75349d09c26f98f48984e1de4e30db1239", func := "loop.example/degreeswaps/laws.FnInterchangesOf", spec := "fnInterchangesOf", unfollowed := true, recurses := true, apart := false }
def FnInterchangesOfSaid : Prop := fnInterchangesOfRow.holds Try.pinned (OpenSpec.ofChange fnInterchangesOfSpec)

/-- ITS FALSE NEIGHBOUR: 'it returns false'. Refute it at one input. -/
def fnInterchangesOfWrong : ChangeSpec := { name := "fnInterchangesOf", fn := fun _ => fun
  | [d] => { results := [.lit (.bool false)], args := [d] }
  | _ => none }
def FnInterchangesOfWrongFalsely : Prop := fnInterchangesOfRow.holds Try.pinned (OpenSpec.ofChange fnInterchangesOfWrong)

/-- 'laws.FnMatchingNumber': WHATEVER THE INPUT: true; the input reads as it did. -/
def fnMatchingNumberSpec : ChangeSpec := { name := "fnMatchingNumber", fn := fun _ => fun
  | [d] => { results := [.lit (.bool true)], args := [d] }
  | _ => none }
def fnMatchingNumberRow : OpenClaim := { program := "ytjghcegacgpehaa", sum := "aae3b99f9891e9652aca9b2f38e05e75349d09c26f98f48984e1de4e30db1239", func := "loop.example/degreeswaps/laws.FnMatchingNumber", spec := "fnMatchingNumber", unfollowed := true, recurses := true, apart := false }
def FnMatchingNumberSaid : Prop := fnMatchingNumberRow.holds Try.pinned (OpenSpec.ofChange fnMatchingNumberSpec)

/-- ITS FALSE NEIGHBOUR: 'it returns false'. Refute it at one input. -/
def fnMatchingNumberWrong : ChangeSpec := { name := "fnMatchingNumber", fn := fun _ => fun
  | [d] => { results := [.lit (.bool false)], args := [d] }
  | _ => none }
def FnMatchingNumberWrongFalsely : Prop := fnMatchingNumberRow.holds Try.pinned (OpenSpec.ofChange fnMatchingNumberWrong)

/-- 'laws.FnExactAllMatrices': WHATEVER THE INPUT: true; the input reads as it did. -/
def fnExactAllMatricesSpec : ChangeSpec := { name := "fnExactAllMatrices", fn := fun _ => fun
  | [d1, d2] => { results := [.lit (.bool true)], args := [d1, d2] }
  | _ => none }
def fnExactAllMatricesRow : OpenClaim := { program := "ytjghcegacgpehaa", sum := "aae3b99f9891e9652aca9b2f38e05e75349d09c26f98f48984e1de4e30db1239", func := "loop.example/degreeswaps/laws.FnExactAllMatrices", spec := "fnExactAllMatrices", unfollowed := true, recurses := true, apart := false }
def FnExactAllMatricesSaid : Prop := fnExactAllMatricesRow.holds Try.pinned (OpenSpec.ofChange fnExactAllMatricesSpec)

/-- ITS FALSE NEIGHBOUR: 'it returns false'. Refute it at one input. -/
def fnExactAllMatricesWrong : ChangeSpec := { name := "fnExactAllMatrices", fn := fun _ => fun
  | [d1, d2] => { results := [.lit (.bool false)], args := [d1, d2] }
  | _ => none }
def FnExactAllMatricesWrongFalsely : Prop := fnExactAllMatricesRow.holds Try.pinned (OpenSpec.ofChange fnExactAllMatricesWrong)

/-- 'laws.FnExactAllRealizations': WHATEVER THE INPUT: true; the input reads as it did. -/
def fnExactAllRealizationsSpec : ChangeSpec := { name := "fnExactAllRealizations", fn := fun _ => fun
  | [d] => { results := [.lit (.bool true)], args := [d] }
  | _ => none }
def fnExactAllRealizationsRow : OpenClaim := { program := "ytjghcegacgpehaa", sum := "aae3b99f9891e9652aca9b2f38e05e75349d09c26f98f48984e1de4e30db1239", func := "loop.example/degreeswaps/laws.FnExactAllRealizations", spec := "fnExactAllRealizations", unfollowed := true, recurses := true, apart := false }
def FnExactAllRealizationsSaid : Prop := fnExactAllRealizationsRow.holds Try.pinned (OpenSpec.ofChange fnExactAllRealizationsSpec)

/-- ITS FALSE NEIGHBOUR: 'it returns false'. Refute it at one input. -/
def fnExactAllRealizationsWrong : ChangeSpec := { name := "fnExactAllRealizations", fn := fun _ => fun
  | [d] => { results := [.lit (.bool false)], args := [d] }
  | _ => none }
def FnExactAllRealizationsWrongFalsely : Prop := fnExactAllRealizationsRow.holds Try.pinned (OpenSpec.ofChange fnExactAllRealizationsWrong)

/- THE SECOND FORM. 'bulk': how many values and letters a reading holds, each counted each time it is reached (what is shared counts as often as it is met; a slice's spare places count too). A statement '..UptoSaid' is the law's where the arguments, and the package variables that the reading takes, are together of bulk at most 1048576: NARROWER than '..Said'. Prove '..Said' where nothing that the law and all that it calls make is longer than what came in: it says more and counts as full. Else prove '..UptoSaid'. A law counts once. -/
mutual
def uptoBulk {H : Type} : DataW H → Nat
  | .lit (.string bytes) => bytes.length + 1
  | .lit _ => 1
  | .nil => 1
  | .ptr d => uptoBulk d + 1
  | .slice elems spare => uptoBulkAll elems + uptoBulkAll spare + 1
  | .agg parts => uptoBulkAll parts + 1
  | .iface _ d => uptoBulk d + 1
  | .map entries => uptoBulkEntries entries + 1
  | .held _ => 1
def uptoBulkAll {H : Type} : List (DataW H) → Nat
  | [] => 0
  | d :: r => uptoBulk d + uptoBulkAll r
def uptoBulkEntries {H : Type} : List (Lit × DataW H) → Nat
  | [] => 0
  | x :: r => uptoBulkEntry x + uptoBulkEntries r
def uptoBulkEntry {H : Type} : Lit × DataW H → Nat
  | (.string bytes, d) => bytes.length + uptoBulk d + 1
  | (_, d) => uptoBulk d + 1
 end
def uptoSmall : (H : Type) → List (DataW H) → Bool := fun _ ds => decide (uptoBulkAll ds ≤ 1048576)
def OpenSpec.upto (s : _root_.Go.ChangeSpec) : _root_.Go.OpenSpec := { _root_.Go.OpenSpec.ofChange s with cond := some uptoSmall }

/-- 'laws.FnDifferenceOf', WHERE WHAT IT READS IS OF BULK AT MOST 1048576: true; the input reads as it did. -/
def fnDifferenceOfUptoRow : OpenClaim := { program := "ytjghcegacgpehaa", sum := "aae3b99f9891e9652aca9b2f38e05e75349d09c26f98f48984e1de4e30db1239", func := "loop.example/degreeswaps/laws.FnDifferenceOf", spec := "fnDifferenceOf", unfollowed := true, recurses := true, apart := false, narrowed := true }
def FnDifferenceOfUptoSaid : Prop := fnDifferenceOfUptoRow.holds Try.pinned (OpenSpec.upto fnDifferenceOfSpec)

/-- 'laws.FnUnionOf', WHERE WHAT IT READS IS OF BULK AT MOST 1048576: true; the input reads as it did. -/
def fnUnionOfUptoRow : OpenClaim := { program := "ytjghcegacgpehaa", sum := "aae3b99f9891e9652aca9b2f38e05e75349d09c26f98f48984e1de4e30db1239", func := "loop.example/degreeswaps/laws.FnUnionOf", spec := "fnUnionOf", unfollowed := true, recurses := true, apart := false, narrowed := true }
def FnUnionOfUptoSaid : Prop := fnUnionOfUptoRow.holds Try.pinned (OpenSpec.upto fnUnionOfSpec)

/-- 'laws.FnValidTournament', WHERE WHAT IT READS IS OF BULK AT MOST 1048576: true; the input reads as it did. -/
def fnValidTournamentUptoRow : OpenClaim := { program := "ytjghcegacgpehaa", sum := "aae3b99f9891e9652aca9b2f38e05e75349d09c26f98f48984e1de4e30db1239", func := "loop.example/degreeswaps/laws.FnValidTournament", spec := "fnValidTournament", unfollowed := true, recurses := true, apart := false, narrowed := true }
def FnValidTournamentUptoSaid : Prop := fnValidTournamentUptoRow.holds Try.pinned (OpenSpec.upto fnValidTournamentSpec)

/-- 'laws.FnExactIsDigraphic', WHERE WHAT IT READS IS OF BULK AT MOST 1048576: true; the input reads as it did. -/
def fnExactIsDigraphicUptoRow : OpenClaim := { program := "ytjghcegacgpehaa", sum := "aae3b99f9891e9652aca9b2f38e05e75349d09c26f98f48984e1de4e30db1239", func := "loop.example/degreeswaps/laws.FnExactIsDigraphic", spec := "fnExactIsDigraphic", unfollowed := true, recurses := true, apart := false, narrowed := true }
def FnExactIsDigraphicUptoSaid : Prop := fnExactIsDigraphicUptoRow.holds Try.pinned (OpenSpec.upto fnExactIsDigraphicSpec)

/-- 'laws.FnComplementDegrees', WHERE WHAT IT READS IS OF BULK AT MOST 1048576: true; the input reads as it did. -/
def fnComplementDegreesUptoRow : OpenClaim := { program := "ytjghcegacgpehaa", sum := "aae3b99f9891e9652aca9b2f38e05e75349d09c26f98f48984e1de4e30db1239", func := "loop.example/degreeswaps/laws.FnComplementDegrees", spec := "fnComplementDegrees", unfollowed := true, recurses := true, apart := false, narrowed := true }
def FnComplementDegreesUptoSaid : Prop := fnComplementDegreesUptoRow.holds Try.pinned (OpenSpec.upto fnComplementDegreesSpec)

/-- 'laws.FnComponentsOf', WHERE WHAT IT READS IS OF BULK AT MOST 1048576: true; the input reads as it did. -/
def fnComponentsOfUptoRow : OpenClaim := { program := "ytjghcegacgpehaa", sum := "aae3b99f9891e9652aca9b2f38e05e75349d09c26f98f48984e1de4e30db1239", func := "loop.example/degreeswaps/laws.FnComponentsOf", spec := "fnComponentsOf", apart := false, narrowed := true }
def FnComponentsOfUptoSaid : Prop := fnComponentsOfUptoRow.holds Try.pinned (OpenSpec.upto fnComponentsOfSpec)

/-- 'laws.FnWeightGraph', WHERE WHAT IT READS IS OF BULK AT MOST 1048576: true; the input reads as it did. -/
def fnWeightGraphUptoRow : OpenClaim := { program := "ytjghcegacgpehaa", sum := "aae3b99f9891e9652aca9b2f38e05e75349d09c26f98f48984e1de4e30db1239", func := "loop.example/degreeswaps/laws.FnWeightGraph", spec := "fnWeightGraph", unfollowed := true, recurses := true, apart := false, narrowed := true }
def FnWeightGraphUptoSaid : Prop := fnWeightGraphUptoRow.holds Try.pinned (OpenSpec.upto fnWeightGraphSpec)

/-- 'laws.FnInterchangesOf', WHERE WHAT IT READS IS OF BULK AT MOST 1048576: true; the input reads as it did. -/
def fnInterchangesOfUptoRow : OpenClaim := { program := "ytjghcegacgpehaa", sum := "aae3b99f9891e9652aca9b2f38e05e75349d09c26f98f48984e1de4e30db1239", func := "loop.example/degreeswaps/laws.FnInterchangesOf", spec := "fnInterchangesOf", unfollowed := true, recurses := true, apart := false, narrowed := true }
def FnInterchangesOfUptoSaid : Prop := fnInterchangesOfUptoRow.holds Try.pinned (OpenSpec.upto fnInterchangesOfSpec)

/-- 'laws.FnMatchingNumber', WHERE WHAT IT READS IS OF BULK AT MOST 1048576: true; the input reads as it did. -/
def fnMatchingNumberUptoRow : OpenClaim := { program := "ytjghcegacgpehaa", sum := "aae3b99f9891e9652aca9b2f38e05e75349d09c26f98f48984e1de4e30db1239", func := "loop.example/degreeswaps/laws.FnMatchingNumber", spec := "fnMatchingNumber", unfollowed := true, recurses := true, apart := false, narrowed := true }
def FnMatchingNumberUptoSaid : Prop := fnMatchingNumberUptoRow.holds Try.pinned (OpenSpec.upto fnMatchingNumberSpec)

/-- 'laws.FnExactAllMatrices', WHERE WHAT IT READS IS OF BULK AT MOST 1048576: true; the input reads as it did. -/
def fnExactAllMatricesUptoRow : OpenClaim := { program := "ytjghcegacgpehaa", sum := "aae3b99f9891e9652aca9b2f38e05e75349d09c26f98f48984e1de4e30db1239", func := "loop.example/degreeswaps/laws.FnExactAllMatrices", spec := "fnExactAllMatrices", unfollowed := true, recurses := true, apart := false, narrowed := true }
def FnExactAllMatricesUptoSaid : Prop := fnExactAllMatricesUptoRow.holds Try.pinned (OpenSpec.upto fnExactAllMatricesSpec)

/-- 'laws.FnExactAllRealizations', WHERE WHAT IT READS IS OF BULK AT MOST 1048576: true; the input reads as it did. -/
def fnExactAllRealizationsUptoRow : OpenClaim := { program := "ytjghcegacgpehaa", sum := "aae3b99f9891e9652aca9b2f38e05e75349d09c26f98f48984e1de4e30db1239", func := "loop.example/degreeswaps/laws.FnExactAllRealizations", spec := "fnExactAllRealizations", unfollowed := true, recurses := true, apart := false, narrowed := true }
def FnExactAllRealizationsUptoSaid : Prop := fnExactAllRealizationsUptoRow.holds Try.pinned (OpenSpec.upto fnExactAllRealizationsSpec)

end Rows
end Go.Proofs.Ytjghcegacgpehaa
