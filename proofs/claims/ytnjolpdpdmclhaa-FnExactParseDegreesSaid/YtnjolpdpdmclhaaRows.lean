/-
  No cell of these rows narrows 'for every input' (looked for: loops, veiled, ifaces, maps, wideKeys, modest, calm, conditions, laid).
  DERIVED. THE GIVEN ROWS OF THIS SEAT. 10 by the template 'for every input the law returns true; each argument reads behind the call as it read before'; 0 by the template 'total and deterministic' (their statements: YtnjolpdpdmclhaaTotals.lean).
  GIVEN WITH THE SEED: the statements are not yours to turn. If you find one false, say at which input.
  Laid BY PROGRAM, IN A SANDBOX (cutbox-rows.mjs): the forced cells as the released guide's own fill.sh prints them over the translation a8eed76853d8a82c… (all of the seat's roots in one cut). By AI agents, Wed Nov 11 2026. No macro, syntax, notation, axiom, sorry.
-/
import Derived.Test.YtnjolpdpdmclhaaChecked
import GoSem.Claim
import GoSem.ClaimJoined
import GoSem.ClaimMapViews
import Derived.JoinedTies
import Derived.KernelRfl
namespace Go.Proofs.Ytnjolpdpdmclhaa
/- THE CELL 'sum', in the pinned program and in every row, IS THE sha256 OF THE DUMP (.gsa) THAT YtnjolpdpdmclhaaProg.lean LOADS. Nothing in Lean hashes anything: it is a label: what it is worth is what the hold of that sum in a sandbox is worth. -/
noncomputable def Try.pinned : Pinned := { name := "ytnjolpdpdmclhaa", sum := "a8eed76853d8a82c3a798007b914099d04dfe2a864aea74350aa0aff71d8c5de", checked := Try.checked }
namespace Rows
def none {H : Type} : Left H := { results := [], args := [] }

/-- 'laws.FnExactConstants': WHATEVER THE INPUT: true; the input reads as it did. -/
def fnExactConstantsSpec : ChangeSpec := { name := "fnExactConstants", fn := fun _ => fun
  | [] => { results := [.lit (.bool true)], args := [] }
  | _ => none }
def fnExactConstantsRow : OpenClaim := { program := "ytnjolpdpdmclhaa", sum := "a8eed76853d8a82c3a798007b914099d04dfe2a864aea74350aa0aff71d8c5de", func := "loop.example/degreeswaps/laws.FnExactConstants", spec := "fnExactConstants", apart := false }
def FnExactConstantsSaid : Prop := fnExactConstantsRow.holds Try.pinned (OpenSpec.ofChange fnExactConstantsSpec)

/-- ITS FALSE NEIGHBOUR: 'it returns false'. Refute it at one input. -/
def fnExactConstantsWrong : ChangeSpec := { name := "fnExactConstants", fn := fun _ => fun
  | [] => { results := [.lit (.bool false)], args := [] }
  | _ => none }
def FnExactConstantsWrongFalsely : Prop := fnExactConstantsRow.holds Try.pinned (OpenSpec.ofChange fnExactConstantsWrong)

/-- 'laws.FnExactValidDegrees': WHATEVER THE INPUT: true; the input reads as it did. -/
def fnExactValidDegreesSpec : ChangeSpec := { name := "fnExactValidDegrees", fn := fun _ => fun
  | [d] => { results := [.lit (.bool true)], args := [d] }
  | _ => none }
def fnExactValidDegreesRow : OpenClaim := { program := "ytnjolpdpdmclhaa", sum := "a8eed76853d8a82c3a798007b914099d04dfe2a864aea74350aa0aff71d8c5de", func := "loop.example/degreeswaps/laws.FnExactValidDegrees", spec := "fnExactValidDegrees", unfollowed := true, recurses := true, apart := false }
def FnExactValidDegreesSaid : Prop := fnExactValidDegreesRow.holds Try.pinned (OpenSpec.ofChange fnExactValidDegreesSpec)

/-- ITS FALSE NEIGHBOUR: 'it returns false'. Refute it at one input. -/
def fnExactValidDegreesWrong : ChangeSpec := { name := "fnExactValidDegrees", fn := fun _ => fun
  | [d] => { results := [.lit (.bool false)], args := [d] }
  | _ => none }
def FnExactValidDegreesWrongFalsely : Prop := fnExactValidDegreesRow.holds Try.pinned (OpenSpec.ofChange fnExactValidDegreesWrong)

/-- 'laws.FnExactValidMargins': WHATEVER THE INPUT: true; the input reads as it did. -/
def fnExactValidMarginsSpec : ChangeSpec := { name := "fnExactValidMargins", fn := fun _ => fun
  | [d1, d2] => { results := [.lit (.bool true)], args := [d1, d2] }
  | _ => none }
def fnExactValidMarginsRow : OpenClaim := { program := "ytnjolpdpdmclhaa", sum := "a8eed76853d8a82c3a798007b914099d04dfe2a864aea74350aa0aff71d8c5de", func := "loop.example/degreeswaps/laws.FnExactValidMargins", spec := "fnExactValidMargins", unfollowed := true, recurses := true, apart := false }
def FnExactValidMarginsSaid : Prop := fnExactValidMarginsRow.holds Try.pinned (OpenSpec.ofChange fnExactValidMarginsSpec)

/-- ITS FALSE NEIGHBOUR: 'it returns false'. Refute it at one input. -/
def fnExactValidMarginsWrong : ChangeSpec := { name := "fnExactValidMargins", fn := fun _ => fun
  | [d1, d2] => { results := [.lit (.bool false)], args := [d1, d2] }
  | _ => none }
def FnExactValidMarginsWrongFalsely : Prop := fnExactValidMarginsRow.holds Try.pinned (OpenSpec.ofChange fnExactValidMarginsWrong)

/-- 'laws.FnExactIsMultigraphic': WHATEVER THE INPUT: true; the input reads as it did. -/
def fnExactIsMultigraphicSpec : ChangeSpec := { name := "fnExactIsMultigraphic", fn := fun _ => fun
  | [d] => { results := [.lit (.bool true)], args := [d] }
  | _ => none }
def fnExactIsMultigraphicRow : OpenClaim := { program := "ytnjolpdpdmclhaa", sum := "a8eed76853d8a82c3a798007b914099d04dfe2a864aea74350aa0aff71d8c5de", func := "loop.example/degreeswaps/laws.FnExactIsMultigraphic", spec := "fnExactIsMultigraphic", unfollowed := true, recurses := true, apart := false }
def FnExactIsMultigraphicSaid : Prop := fnExactIsMultigraphicRow.holds Try.pinned (OpenSpec.ofChange fnExactIsMultigraphicSpec)

/-- ITS FALSE NEIGHBOUR: 'it returns false'. Refute it at one input. -/
def fnExactIsMultigraphicWrong : ChangeSpec := { name := "fnExactIsMultigraphic", fn := fun _ => fun
  | [d] => { results := [.lit (.bool false)], args := [d] }
  | _ => none }
def FnExactIsMultigraphicWrongFalsely : Prop := fnExactIsMultigraphicRow.holds Try.pinned (OpenSpec.ofChange fnExactIsMultigraphicWrong)

/-- 'laws.FnExactWeightsOf': WHATEVER THE INPUT: true; the input reads as it did. -/
def fnExactWeightsOfSpec : ChangeSpec := { name := "fnExactWeightsOf", fn := fun _ => fun
  | [d] => { results := [.lit (.bool true)], args := [d] }
  | _ => none }
def fnExactWeightsOfRow : OpenClaim := { program := "ytnjolpdpdmclhaa", sum := "a8eed76853d8a82c3a798007b914099d04dfe2a864aea74350aa0aff71d8c5de", func := "loop.example/degreeswaps/laws.FnExactWeightsOf", spec := "fnExactWeightsOf", apart := false }
def FnExactWeightsOfSaid : Prop := fnExactWeightsOfRow.holds Try.pinned (OpenSpec.ofChange fnExactWeightsOfSpec)

/-- ITS FALSE NEIGHBOUR: 'it returns false'. Refute it at one input. -/
def fnExactWeightsOfWrong : ChangeSpec := { name := "fnExactWeightsOf", fn := fun _ => fun
  | [d] => { results := [.lit (.bool false)], args := [d] }
  | _ => none }
def FnExactWeightsOfWrongFalsely : Prop := fnExactWeightsOfRow.holds Try.pinned (OpenSpec.ofChange fnExactWeightsOfWrong)

/-- 'laws.FnExactComplementDegrees': WHATEVER THE INPUT: true; the input reads as it did. -/
def fnExactComplementDegreesSpec : ChangeSpec := { name := "fnExactComplementDegrees", fn := fun _ => fun
  | [d] => { results := [.lit (.bool true)], args := [d] }
  | _ => none }
def fnExactComplementDegreesRow : OpenClaim := { program := "ytnjolpdpdmclhaa", sum := "a8eed76853d8a82c3a798007b914099d04dfe2a864aea74350aa0aff71d8c5de", func := "loop.example/degreeswaps/laws.FnExactComplementDegrees", spec := "fnExactComplementDegrees", unfollowed := true, recurses := true, apart := false }
def FnExactComplementDegreesSaid : Prop := fnExactComplementDegreesRow.holds Try.pinned (OpenSpec.ofChange fnExactComplementDegreesSpec)

/-- ITS FALSE NEIGHBOUR: 'it returns false'. Refute it at one input. -/
def fnExactComplementDegreesWrong : ChangeSpec := { name := "fnExactComplementDegrees", fn := fun _ => fun
  | [d] => { results := [.lit (.bool false)], args := [d] }
  | _ => none }
def FnExactComplementDegreesWrongFalsely : Prop := fnExactComplementDegreesRow.holds Try.pinned (OpenSpec.ofChange fnExactComplementDegreesWrong)

/-- 'laws.FnExactParseDegrees': WHATEVER THE INPUT: true; the input reads as it did. -/
def fnExactParseDegreesSpec : ChangeSpec := { name := "fnExactParseDegrees", fn := fun _ => fun
  | [d] => { results := [.lit (.bool true)], args := [d] }
  | _ => none }
def fnExactParseDegreesRow : OpenClaim := { program := "ytnjolpdpdmclhaa", sum := "a8eed76853d8a82c3a798007b914099d04dfe2a864aea74350aa0aff71d8c5de", func := "loop.example/degreeswaps/laws.FnExactParseDegrees", spec := "fnExactParseDegrees", unfollowed := true, recurses := true, apart := false }
def FnExactParseDegreesSaid : Prop := fnExactParseDegreesRow.holds Try.pinned (OpenSpec.ofChange fnExactParseDegreesSpec)

/-- ITS FALSE NEIGHBOUR: 'it returns false'. Refute it at one input. -/
def fnExactParseDegreesWrong : ChangeSpec := { name := "fnExactParseDegrees", fn := fun _ => fun
  | [d] => { results := [.lit (.bool false)], args := [d] }
  | _ => none }
def FnExactParseDegreesWrongFalsely : Prop := fnExactParseDegreesRow.holds Try.pinned (OpenSpec.ofChange fnExactParseDegreesWrong)

/-- 'laws.FnExactTransfer': WHATEVER THE INPUT: true; the input reads as it did. -/
def fnExactTransferSpec : ChangeSpec := { name := "fnExactTransfer", fn := fun _ => fun
  | [d1, d2, d3] => { results := [.lit (.bool true)], args := [d1, d2, d3] }
  | _ => none }
def fnExactTransferRow : OpenClaim := { program := "ytnjolpdpdmclhaa", sum := "a8eed76853d8a82c3a798007b914099d04dfe2a864aea74350aa0aff71d8c5de", func := "loop.example/degreeswaps/laws.FnExactTransfer", spec := "fnExactTransfer", unfollowed := true, recurses := true, apart := false }
def FnExactTransferSaid : Prop := fnExactTransferRow.holds Try.pinned (OpenSpec.ofChange fnExactTransferSpec)

/-- ITS FALSE NEIGHBOUR: 'it returns false'. Refute it at one input. -/
def fnExactTransferWrong : ChangeSpec := { name := "fnExactTransfer", fn := fun _ => fun
  | [d1, d2, d3] => { results := [.lit (.bool false)], args := [d1, d2, d3] }
  | _ => none }
def FnExactTransferWrongFalsely : Prop := fnExactTransferRow.holds Try.pinned (OpenSpec.ofChange fnExactTransferWrong)

/-- 'laws.FnExactConjugateOf': WHATEVER THE INPUT: true; the input reads as it did. -/
def fnExactConjugateOfSpec : ChangeSpec := { name := "fnExactConjugateOf", fn := fun _ => fun
  | [d] => { results := [.lit (.bool true)], args := [d] }
  | _ => none }
def fnExactConjugateOfRow : OpenClaim := { program := "ytnjolpdpdmclhaa", sum := "a8eed76853d8a82c3a798007b914099d04dfe2a864aea74350aa0aff71d8c5de", func := "loop.example/degreeswaps/laws.FnExactConjugateOf", spec := "fnExactConjugateOf", unfollowed := true, recurses := true, apart := false }
def FnExactConjugateOfSaid : Prop := fnExactConjugateOfRow.holds Try.pinned (OpenSpec.ofChange fnExactConjugateOfSpec)

/-- ITS FALSE NEIGHBOUR: 'it returns false'. Refute it at one input. -/
def fnExactConjugateOfWrong : ChangeSpec := { name := "fnExactConjugateOf", fn := fun _ => fun
  | [d] => { results := [.lit (.bool false)], args := [d] }
  | _ => none }
def FnExactConjugateOfWrongFalsely : Prop := fnExactConjugateOfRow.holds Try.pinned (OpenSpec.ofChange fnExactConjugateOfWrong)

/-- 'laws.FnComplementDegrees': WHATEVER THE INPUT: true; the input reads as it did. -/
def fnComplementDegreesSpec : ChangeSpec := { name := "fnComplementDegrees", fn := fun _ => fun
  | [d] => { results := [.lit (.bool true)], args := [d] }
  | _ => none }
def fnComplementDegreesRow : OpenClaim := { program := "ytnjolpdpdmclhaa", sum := "a8eed76853d8a82c3a798007b914099d04dfe2a864aea74350aa0aff71d8c5de", func := "loop.example/degreeswaps/laws.FnComplementDegrees", spec := "fnComplementDegrees", unfollowed := true, recurses := true, apart := false }
def FnComplementDegreesSaid : Prop := fnComplementDegreesRow.holds Try.pinned (OpenSpec.ofChange fnComplementDegreesSpec)

/-- ITS FALSE NEIGHBOUR: 'it returns false'. Refute it at one input. -/
def fnComplementDegreesWrong : ChangeSpec := { name := "fnComplementDegrees", fn := fun _ => fun
  | [d] => { results := [.lit (.bool false)], args := [d] }
  | _ => none }
def FnComplementDegreesWrongFalsely : Prop := fnComplementDegreesRow.holds Try.pinned (OpenSpec.ofChange fnComplementDegreesWrong)

/- THE SECOND FORM. 'bulk': how many values and letters a reading holds, each counted each time it is reached (what is shared counts as often as it is met; a slice's spare places count too). A statement '..UptoSaid' is the law's where the arguments, and the package variables that the reading takes, are together of bulk at most 1048576: NARROWER than '..Said'. Prove '..Said' where nothing that the law and all that it calls make is longer than what came in: it says more and counts as full. Else prove '..UptoSaid'. A law counts once. -/
mutual
def uptoBulk {H : Type} : DataW H → Nat
  | .lit (.string bytes) => bytes.length + 1
  | .lit _ => 1
  | .nil => 1
  | .ptr d => uptoBulk d + 1
  | .slice elems spare => uptoBulkAll elems + uptoBulkAll spare + 1
  | .agg parts => uptoBulkAll parts + 1
  | .iface _ d => uptoBulk d + 1
  | .map entries => uptoBulkEntries entries + 1
  | .held _ => 1
def uptoBulkAll {H : Type} : List (DataW H) → Nat
  | [] => 0
  | d :: r => uptoBulk d + uptoBulkAll r
def uptoBulkEntries {H : Type} : List (Lit × DataW H) → Nat
  | [] => 0
  | x :: r => uptoBulkEntry x + uptoBulkEntries r
def uptoBulkEntry {H : Type} : Lit × DataW H → Nat
  | (.string bytes, d) => bytes.length + uptoBulk d + 1
  | (_, d) => uptoBulk d + 1
 end
def uptoSmall : (H : Type) → List (DataW H) → Bool := fun _ ds => decide (uptoBulkAll ds ≤ 1048576)
def OpenSpec.upto (s : _root_.Go.ChangeSpec) : _root_.Go.OpenSpec := { _root_.Go.OpenSpec.ofChange s with cond := some uptoSmall }

/-- 'laws.FnExactConstants', WHERE WHAT IT READS IS OF BULK AT MOST 1048576: true; the input reads as it did. -/
def fnExactConstantsUptoRow : OpenClaim := { program := "ytnjolpdpdmclhaa", sum := "a8eed76853d8a82c3a798007b914099d04dfe2a864aea74350aa0aff71d8c5de", func := "loop.example/degreeswaps/laws.FnExactConstants", spec := "fnExactConstants", apart := false, narrowed := true }
def FnExactConstantsUptoSaid : Prop := fnExactConstantsUptoRow.holds Try.pinned (OpenSpec.upto fnExactConstantsSpec)

/-- 'laws.FnExactValidDegrees', WHERE WHAT IT READS IS OF BULK AT MOST 1048576: true; the input reads as it did. -/
def fnExactValidDegreesUptoRow : OpenClaim := { program := "ytnjolpdpdmclhaa", sum := "a8eed76853d8a82c3a798007b914099d04dfe2a864aea74350aa0aff71d8c5de", func := "loop.example/degreeswaps/laws.FnExactValidDegrees", spec := "fnExactValidDegrees", unfollowed := true, recurses := true, apart := false, narrowed := true }
def FnExactValidDegreesUptoSaid : Prop := fnExactValidDegreesUptoRow.holds Try.pinned (OpenSpec.upto fnExactValidDegreesSpec)

/-- 'laws.FnExactValidMargins', WHERE WHAT IT READS IS OF BULK AT MOST 1048576: true; the input reads as it did. -/
def fnExactValidMarginsUptoRow : OpenClaim := { program := "ytnjolpdpdmclhaa", sum := "a8eed76853d8a82c3a798007b914099d04dfe2a864aea74350aa0aff71d8c5de", func := "loop.example/degreeswaps/laws.FnExactValidMargins", spec := "fnExactValidMargins", unfollowed := true, recurses := true, apart := false, narrowed := true }
def FnExactValidMarginsUptoSaid : Prop := fnExactValidMarginsUptoRow.holds Try.pinned (OpenSpec.upto fnExactValidMarginsSpec)

/-- 'laws.FnExactIsMultigraphic', WHERE WHAT IT READS IS OF BULK AT MOST 1048576: true; the input reads as it did. -/
def fnExactIsMultigraphicUptoRow : OpenClaim := { program := "ytnjolpdpdmclhaa", sum := "a8eed76853d8a82c3a798007b914099d04dfe2a864aea74350aa0aff71d8c5de", func := "loop.example/degreeswaps/laws.FnExactIsMultigraphic", spec := "fnExactIsMultigraphic", unfollowed := true, recurses := true, apart := false, narrowed := true }
def FnExactIsMultigraphicUptoSaid : Prop := fnExactIsMultigraphicUptoRow.holds Try.pinned (OpenSpec.upto fnExactIsMultigraphicSpec)

/-- 'laws.FnExactWeightsOf', WHERE WHAT IT READS IS OF BULK AT MOST 1048576: true; the input reads as it did. -/
def fnExactWeightsOfUptoRow : OpenClaim := { program := "ytnjolpdpdmclhaa", sum := "a8eed76853d8a82c3a798007b914099d04dfe2a864aea74350aa0aff71d8c5de", func := "loop.example/degreeswaps/laws.FnExactWeightsOf", spec := "fnExactWeightsOf", apart := false, narrowed := true }
def FnExactWeightsOfUptoSaid : Prop := fnExactWeightsOfUptoRow.holds Try.pinned (OpenSpec.upto fnExactWeightsOfSpec)

/-- 'laws.FnExactComplementDegrees', WHERE WHAT IT READS IS OF BULK AT MOST 1048576: true; the input reads as it did. -/
def fnExactComplementDegreesUptoRow : OpenClaim := { program := "ytnjolpdpdmclhaa", sum := "a8eed76853d8a82c3a798007b914099d04dfe2a864aea74350aa0aff71d8c5de", func := "loop.example/degreeswaps/laws.FnExactComplementDegrees", spec := "fnExactComplementDegrees", unfollowed := true, recurses := true, apart := false, narrowed := true }
def FnExactComplementDegreesUptoSaid : Prop := fnExactComplementDegreesUptoRow.holds Try.pinned (OpenSpec.upto fnExactComplementDegreesSpec)

/-- 'laws.FnExactParseDegrees', WHERE WHAT IT READS IS OF BULK AT MOST 1048576: true; the input reads as it did. -/
def fnExactParseDegreesUptoRow : OpenClaim := { program := "ytnjolpdpdmclhaa", sum := "a8eed76853d8a82c3a798007b914099d04dfe2a864aea74350aa0aff71d8c5de", func := "loop.example/degreeswaps/laws.FnExactParseDegrees", spec := "fnExactParseDegrees", unfollowed := true, recurses := true, apart := false, narrowed := true }
def FnExactParseDegreesUptoSaid : Prop := fnExactParseDegreesUptoRow.holds Try.pinned (OpenSpec.upto fnExactParseDegreesSpec)

/-- 'laws.FnExactTransfer', WHERE WHAT IT READS IS OF BULK AT MOST 1048576: true; the input reads as it did. -/
def fnExactTransferUptoRow : OpenClaim := { program := "ytnjolpdpdmclhaa", sum := "a8eed76853d8a82c3a798007b914099d04dfe2a864aea74350aa0aff71d8c5de", func := "loop.example/degreeswaps/laws.FnExactTransfer", spec := "fnExactTransfer", unfollowed := true, recurses := true, apart := false, narrowed := true }
def FnExactTransferUptoSaid : Prop := fnExactTransferUptoRow.holds Try.pinned (OpenSpec.upto fnExactTransferSpec)

/-- 'laws.FnExactConjugateOf', WHERE WHAT IT READS IS OF BULK AT MOST 1048576: true; the input reads as it did. -/
def fnExactConjugateOfUptoRow : OpenClaim := { program := "ytnjolpdpdmclhaa", sum := "a8eed76853d8a82c3a798007b914099d04dfe2a864aea74350aa0aff71d8c5de", func := "loop.example/degreeswaps/laws.FnExactConjugateOf", spec := "fnExactConjugateOf", unfollowed := true, recurses := true, apart := false, narrowed := true }
def FnExactConjugateOfUptoSaid : Prop := fnExactConjugateOfUptoRow.holds Try.pinned (OpenSpec.upto fnExactConjugateOfSpec)

/-- 'laws.FnComplementDegrees', WHERE WHAT IT READS IS OF BULK AT MOST 1048576: true; the input reads as it did. -/
def fnComplementDegreesUptoRow : OpenClaim := { program := "ytnjolpdpdmclhaa", sum := "a8eed76853d8a82c3a798007b914099d04dfe2a864aea74350aa0aff71d8c5de", func := "loop.example/degreeswaps/laws.FnComplementDegrees", spec := "fnComplementDegrees", unfollowed := true, recurses := true, apart := false, narrowed := true }
def FnComplementDegreesUptoSaid : Prop := fnComplementDegreesUptoRow.holds Try.pinned (OpenSpec.upto fnComplementDegreesSpec)

end Rows
end Go.Proofs.Ytnjolpdpdmclhaa
