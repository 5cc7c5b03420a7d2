/-
  No cell of these rows narrows 'for every input' (looked for: loops, veiled, ifaces, maps, wideKeys, modest, calm, conditions, laid).
  DERIVED. THE GIVEN ROWS OF THIS SEAT. 8 by the template 'for every input the law returns true; each argument reads behind the call as it read before'; 0 by the template 'total and deterministic' (their statements: YtjmiafkkbganlaaTotals.lean).
  GIVEN WITH THE SEED: the statements are not yours to turn. If you find one false, say at which input.
  Laid BY PROGRAM, IN A SANDBOX (cutbox-rows.mjs): the forced cells as the released guide's own fill.sh prints them over the translation c8b0d9cf1062f003… (all of the seat's roots in one cut). By AI agents, Wed Nov 11 2026. No macro, syntax, notation, axiom, sorry.
-/
import Derived.Test.YtjmiafkkbganlaaChecked
import GoSem.Claim
import GoSem.ClaimJoined
import GoSem.ClaimMapViews
import Derived.JoinedTies
import Derived.KernelRfl
namespace Go.Proofs.Ytjmiafkkbganlaa
/- THE CELL 'sum', in the pinned program and in every row, IS THE sha256 OF THE DUMP (.gsa) THAT YtjmiafkkbganlaaProg.lean LOADS. Nothing in Lean hashes anything: it is a label: what it is worth is what the hold of that sum in a sandbox is worth. -/
noncomputable def Try.pinned : Pinned := { name := "ytjmiafkkbganlaa", sum := "c8b0d9cf1062f0032e2d46711ca23bb952f1d19f3e726f2510ca8df823d4b077", checked := Try.checked }
namespace Rows
def none {H : Type} : Left H := { results := [], args := [] }

/-- 'laws.FnExactFactorOf': WHATEVER THE INPUT: true; the input reads as it did. -/
def fnExactFactorOfSpec : ChangeSpec := { name := "fnExactFactorOf", fn := fun _ => fun
  | [d1, d2] => { results := [.lit (.bool true)], args := [d1, d2] }
  | _ => none }
def fnExactFactorOfRow : OpenClaim := { program := "ytjmiafkkbganlaa", sum := "c8b0d9cf1062f0032e2d46711ca23bb952f1d19f3e726f2510ca8df823d4b077", func := "loop.example/degreeswaps/laws.FnExactFactorOf", spec := "fnExactFactorOf", unfollowed := true, recurses := true, apart := false }
def FnExactFactorOfSaid : Prop := fnExactFactorOfRow.holds Try.pinned (OpenSpec.ofChange fnExactFactorOfSpec)

/-- ITS FALSE NEIGHBOUR: 'it returns false'. Refute it at one input. -/
def fnExactFactorOfWrong : ChangeSpec := { name := "fnExactFactorOf", fn := fun _ => fun
  | [d1, d2] => { results := [.lit (.bool false)], args := [d1, d2] }
  | _ => none }
def FnExactFactorOfWrongFalsely : Prop := fnExactFactorOfRow.holds Try.pinned (OpenSpec.ofChange fnExactFactorOfWrong)

/-- 'laws.FnExactCountRealizations': WHATEVER THE INPUT: true; the input reads as it did. -/
def fnExactCountRealizationsSpec : ChangeSpec := { name := "fnExactCountRealizations", fn := fun _ => fun
  | [d] => { results := [.lit (.bool true)], args := [d] }
  | _ => none }
def fnExactCountRealizationsRow : OpenClaim := { program := "ytjmiafkkbganlaa", sum := "c8b0d9cf1062f0032e2d46711ca23bb952f1d19f3e726f2510ca8df823d4b077", func := "loop.example/degreeswaps/laws.FnExactCountRealizations", spec := "fnExactCountRealizations", unfollowed := true, recurses := true, apart := false }
def FnExactCountRealizationsSaid : Prop := fnExactCountRealizationsRow.holds Try.pinned (OpenSpec.ofChange fnExactCountRealizationsSpec)

/-- ITS FALSE NEIGHBOUR: 'it returns false'. Refute it at one input. -/
def fnExactCountRealizationsWrong : ChangeSpec := { name := "fnExactCountRealizations", fn := fun _ => fun
  | [d] => { results := [.lit (.bool false)], args := [d] }
  | _ => none }
def FnExactCountRealizationsWrongFalsely : Prop := fnExactCountRealizationsRow.holds Try.pinned (OpenSpec.ofChange fnExactCountRealizationsWrong)

/-- 'laws.FnExactIsConnected': WHATEVER THE INPUT: true; the input reads as it did. -/
def fnExactIsConnectedSpec : ChangeSpec := { name := "fnExactIsConnected", fn := fun _ => fun
  | [d] => { results := [.lit (.bool true)], args := [d] }
  | _ => none }
def fnExactIsConnectedRow : OpenClaim := { program := "ytjmiafkkbganlaa", sum := "c8b0d9cf1062f0032e2d46711ca23bb952f1d19f3e726f2510ca8df823d4b077", func := "loop.example/degreeswaps/laws.FnExactIsConnected", spec := "fnExactIsConnected", apart := false }
def FnExactIsConnectedSaid : Prop := fnExactIsConnectedRow.holds Try.pinned (OpenSpec.ofChange fnExactIsConnectedSpec)

/-- ITS FALSE NEIGHBOUR: 'it returns false'. Refute it at one input. -/
def fnExactIsConnectedWrong : ChangeSpec := { name := "fnExactIsConnected", fn := fun _ => fun
  | [d] => { results := [.lit (.bool false)], args := [d] }
  | _ => none }
def FnExactIsConnectedWrongFalsely : Prop := fnExactIsConnectedRow.holds Try.pinned (OpenSpec.ofChange fnExactIsConnectedWrong)

/-- 'laws.FnExactDeficiencyOf': WHATEVER THE INPUT: true; the input reads as it did. -/
def fnExactDeficiencyOfSpec : ChangeSpec := { name := "fnExactDeficiencyOf", fn := fun _ => fun
  | [d] => { results := [.lit (.bool true)], args := [d] }
  | _ => none }
def fnExactDeficiencyOfRow : OpenClaim := { program := "ytjmiafkkbganlaa", sum := "c8b0d9cf1062f0032e2d46711ca23bb952f1d19f3e726f2510ca8df823d4b077", func := "loop.example/degreeswaps/laws.FnExactDeficiencyOf", spec := "fnExactDeficiencyOf", unfollowed := true, recurses := true, apart := false }
def FnExactDeficiencyOfSaid : Prop := fnExactDeficiencyOfRow.holds Try.pinned (OpenSpec.ofChange fnExactDeficiencyOfSpec)

/-- ITS FALSE NEIGHBOUR: 'it returns false'. Refute it at one input. -/
def fnExactDeficiencyOfWrong : ChangeSpec := { name := "fnExactDeficiencyOf", fn := fun _ => fun
  | [d] => { results := [.lit (.bool false)], args := [d] }
  | _ => none }
def FnExactDeficiencyOfWrongFalsely : Prop := fnExactDeficiencyOfRow.holds Try.pinned (OpenSpec.ofChange fnExactDeficiencyOfWrong)

/-- 'laws.FnExactMatchingNumber': WHATEVER THE INPUT: true; the input reads as it did. -/
def fnExactMatchingNumberSpec : ChangeSpec := { name := "fnExactMatchingNumber", fn := fun _ => fun
  | [d] => { results := [.lit (.bool true)], args := [d] }
  | _ => none }
def fnExactMatchingNumberRow : OpenClaim := { program := "ytjmiafkkbganlaa", sum := "c8b0d9cf1062f0032e2d46711ca23bb952f1d19f3e726f2510ca8df823d4b077", func := "loop.example/degreeswaps/laws.FnExactMatchingNumber", spec := "fnExactMatchingNumber", unfollowed := true, recurses := true, apart := false }
def FnExactMatchingNumberSaid : Prop := fnExactMatchingNumberRow.holds Try.pinned (OpenSpec.ofChange fnExactMatchingNumberSpec)

/-- ITS FALSE NEIGHBOUR: 'it returns false'. Refute it at one input. -/
def fnExactMatchingNumberWrong : ChangeSpec := { name := "fnExactMatchingNumber", fn := fun _ => fun
  | [d] => { results := [.lit (.bool false)], args := [d] }
  | _ => none }
def FnExactMatchingNumberWrongFalsely : Prop := fnExactMatchingNumberRow.holds Try.pinned (OpenSpec.ofChange fnExactMatchingNumberWrong)

/-- 'laws.FnExactComponentsOf': WHATEVER THE INPUT: true; the input reads as it did. -/
def fnExactComponentsOfSpec : ChangeSpec := { name := "fnExactComponentsOf", fn := fun _ => fun
  | [d] => { results := [.lit (.bool true)], args := [d] }
  | _ => none }
def fnExactComponentsOfRow : OpenClaim := { program := "ytjmiafkkbganlaa", sum := "c8b0d9cf1062f0032e2d46711ca23bb952f1d19f3e726f2510ca8df823d4b077", func := "loop.example/degreeswaps/laws.FnExactComponentsOf", spec := "fnExactComponentsOf", apart := false }
def FnExactComponentsOfSaid : Prop := fnExactComponentsOfRow.holds Try.pinned (OpenSpec.ofChange fnExactComponentsOfSpec)

/-- ITS FALSE NEIGHBOUR: 'it returns false'. Refute it at one input. -/
def fnExactComponentsOfWrong : ChangeSpec := { name := "fnExactComponentsOf", fn := fun _ => fun
  | [d] => { results := [.lit (.bool false)], args := [d] }
  | _ => none }
def FnExactComponentsOfWrongFalsely : Prop := fnExactComponentsOfRow.holds Try.pinned (OpenSpec.ofChange fnExactComponentsOfWrong)

/-- 'laws.FnExactAllRealizations': WHATEVER THE INPUT: true; the input reads as it did. -/
def fnExactAllRealizationsSpec : ChangeSpec := { name := "fnExactAllRealizations", fn := fun _ => fun
  | [d] => { results := [.lit (.bool true)], args := [d] }
  | _ => none }
def fnExactAllRealizationsRow : OpenClaim := { program := "ytjmiafkkbganlaa", sum := "c8b0d9cf1062f0032e2d46711ca23bb952f1d19f3e726f2510ca8df823d4b077", func := "loop.example/degreeswaps/laws.FnExactAllRealizations", spec := "fnExactAllRealizations", unfollowed := true, recurses := true, apart := false }
def FnExactAllRealizationsSaid : Prop := fnExactAllRealizationsRow.holds Try.pinned (OpenSpec.ofChange fnExactAllRealizationsSpec)

/-- ITS FALSE NEIGHBOUR: 'it returns false'. Refute it at one input. -/
def fnExactAllRealizationsWrong : ChangeSpec := { name := "fnExactAllRealizations", fn := fun _ => fun
  | [d] => { results := [.lit (.bool false)], args := [d] }
  | _ => none }
def FnExactAllRealizationsWrongFalsely : Prop := fnExactAllRealizationsRow.holds Try.pinned (OpenSpec.ofChange fnExactAllRealizationsWrong)

/-- 'laws.FnExactForcedEdges': WHATEVER THE INPUT: true; the input reads as it did. -/
def fnExactForcedEdgesSpec : ChangeSpec := { name := "fnExactForcedEdges", fn := fun _ => fun
  | [d] => { results := [.lit (.bool true)], args := [d] }
  | _ => none }
def fnExactForcedEdgesRow : OpenClaim := { program := "ytjmiafkkbganlaa", sum := "c8b0d9cf1062f0032e2d46711ca23bb952f1d19f3e726f2510ca8df823d4b077", func := "loop.example/degreeswaps/laws.FnExactForcedEdges", spec := "fnExactForcedEdges", unfollowed := true, recurses := true, apart := false }
def FnExactForcedEdgesSaid : Prop := fnExactForcedEdgesRow.holds Try.pinned (OpenSpec.ofChange fnExactForcedEdgesSpec)

/-- ITS FALSE NEIGHBOUR: 'it returns false'. Refute it at one input. -/
def fnExactForcedEdgesWrong : ChangeSpec := { name := "fnExactForcedEdges", fn := fun _ => fun
  | [d] => { results := [.lit (.bool false)], args := [d] }
  | _ => none }
def FnExactForcedEdgesWrongFalsely : Prop := fnExactForcedEdgesRow.holds Try.pinned (OpenSpec.ofChange fnExactForcedEdgesWrong)

/- THE SECOND FORM. 'bulk': how many values and letters a reading holds, each counted each time it is reached (what is shared counts as often as it is met; a slice's spare places count too). A statement '..UptoSaid' is the law's where the arguments, and the package variables that the reading takes, are together of bulk at most 1048576: NARROWER than '..Said'. Prove '..Said' where nothing that the law and all that it calls make is longer than what came in: it says more and counts as full. Else prove '..UptoSaid'. A law counts once. -/
mutual
def uptoBulk {H : Type} : DataW H → Nat
  | .lit (.string bytes) => bytes.length + 1
  | .lit _ => 1
  | .nil => 1
  | .ptr d => uptoBulk d + 1
  | .slice elems spare => uptoBulkAll elems + uptoBulkAll spare + 1
  | .agg parts => uptoBulkAll parts + 1
  | .iface _ d => uptoBulk d + 1
  | .map entries => uptoBulkEntries entries + 1
  | .held _ => 1
def uptoBulkAll {H : Type} : List (DataW H) → Nat
  | [] => 0
  | d :: r => uptoBulk d + uptoBulkAll r
def uptoBulkEntries {H : Type} : List (Lit × DataW H) → Nat
  | [] => 0
  | x :: r => uptoBulkEntry x + uptoBulkEntries r
def uptoBulkEntry {H : Type} : Lit × DataW H → Nat
  | (.string bytes, d) => bytes.length + uptoBulk d + 1
  | (_, d) => uptoBulk d + 1
 end
def uptoSmall : (H : Type) → List (DataW H) → Bool := fun _ ds => decide (uptoBulkAll ds ≤ 1048576)
def OpenSpec.upto (s : _root_.Go.ChangeSpec) : _root_.Go.OpenSpec := { _root_.Go.OpenSpec.ofChange s with cond := some uptoSmall }

/-- 'laws.FnExactFactorOf', WHERE WHAT IT READS IS OF BULK AT MOST 1048576: true; the input reads as it did. -/
def fnExactFactorOfUptoRow : OpenClaim := { program := "ytjmiafkkbganlaa", sum := "c8b0d9cf1062f0032e2d46711ca23bb952f1d19f3e726f2510ca8df823d4b077", func := "loop.example/degreeswaps/laws.FnExactFactorOf", spec := "fnExactFactorOf", unfollowed := true, recurses := true, apart := false, narrowed := true }
def FnExactFactorOfUptoSaid : Prop := fnExactFactorOfUptoRow.holds Try.pinned (OpenSpec.upto fnExactFactorOfSpec)

/-- 'laws.FnExactCountRealizations', WHERE WHAT IT READS IS OF BULK AT MOST 1048576: true; the input reads as it did. -/
def fnExactCountRealizationsUptoRow : OpenClaim := { program := "ytjmiafkkbganlaa", sum := "c8b0d9cf1062f0032e2d46711ca23bb952f1d19f3e726f2510ca8df823d4b077", func := "loop.example/degreeswaps/laws.FnExactCountRealizations", spec := "fnExactCountRealizations", unfollowed := true, recurses := true, apart := false, narrowed := true }
def FnExactCountRealizationsUptoSaid : Prop := fnExactCountRealizationsUptoRow.holds Try.pinned (OpenSpec.upto fnExactCountRealizationsSpec)

/-- 'laws.FnExactIsConnected', WHERE WHAT IT READS IS OF BULK AT MOST 1048576: true; the input reads as it did. -/
def fnExactIsConnectedUptoRow : OpenClaim := { program := "ytjmiafkkbganlaa", sum := "c8b0d9cf1062f0032e2d46711ca23bb952f1d19f3e726f2510ca8df823d4b077", func := "loop.example/degreeswaps/laws.FnExactIsConnected", spec := "fnExactIsConnected", apart := false, narrowed := true }
def FnExactIsConnectedUptoSaid : Prop := fnExactIsConnectedUptoRow.holds Try.pinned (OpenSpec.upto fnExactIsConnectedSpec)

/-- 'laws.FnExactDeficiencyOf', WHERE WHAT IT READS IS OF BULK AT MOST 1048576: true; the input reads as it did. -/
def fnExactDeficiencyOfUptoRow : OpenClaim := { program := "ytjmiafkkbganlaa", sum := "c8b0d9cf1062f0032e2d46711ca23bb952f1d19f3e726f2510ca8df823d4b077", func := "loop.example/degreeswaps/laws.FnExactDeficiencyOf", spec := "fnExactDeficiencyOf", unfollowed := true, recurses := true, apart := false, narrowed := true }
def FnExactDeficiencyOfUptoSaid : Prop := fnExactDeficiencyOfUptoRow.holds Try.pinned (OpenSpec.upto fnExactDeficiencyOfSpec)

/-- 'laws.FnExactMatchingNumber', WHERE WHAT IT READS IS OF BULK AT MOST 1048576: true; the input reads as it did. -/
def fnExactMatchingNumberUptoRow : OpenClaim := { program := "ytjmiafkkbganlaa", sum := "c8b0d9cf1062f0032e2d46711ca23bb952f1d19f3e726f2510ca8df823d4b077", func := "loop.example/degreeswaps/laws.FnExactMatchingNumber", spec := "fnExactMatchingNumber", unfollowed := true, recurses := true, apart := false, narrowed := true }
def FnExactMatchingNumberUptoSaid : Prop := fnExactMatchingNumberUptoRow.holds Try.pinned (OpenSpec.upto fnExactMatchingNumberSpec)

/-- 'laws.FnExactComponentsOf', WHERE WHAT IT READS IS OF BULK AT MOST 1048576: true; the input reads as it did. -/
def fnExactComponentsOfUptoRow : OpenClaim := { program := "ytjmiafkkbganlaa", sum := "c8b0d9cf1062f0032e2d46711ca23bb952f1d19f3e726f2510ca8df823d4b077", func := "loop.example/degreeswaps/laws.FnExactComponentsOf", spec := "fnExactComponentsOf", apart := false, narrowed := true }
def FnExactComponentsOfUptoSaid : Prop := fnExactComponentsOfUptoRow.holds Try.pinned (OpenSpec.upto fnExactComponentsOfSpec)

/-- 'laws.FnExactAllRealizations', WHERE WHAT IT READS IS OF BULK AT MOST 1048576: true; the input reads as it did. -/
def fnExactAllRealizationsUptoRow : OpenClaim := { program := "ytjmiafkkbganlaa", sum := "c8b0d9cf1062f0032e2d46711ca23bb952f1d19f3e726f2510ca8df823d4b077", func := "loop.example/degreeswaps/laws.FnExactAllRealizations", spec := "fnExactAllRealizations", unfollowed := true, recurses := true, apart := false, narrowed := true }
def FnExactAllRealizationsUptoSaid : Prop := fnExactAllRealizationsUptoRow.holds Try.pinned (OpenSpec.upto fnExactAllRealizationsSpec)

/-- 'laws.FnExactForcedEdges', WHERE WHAT IT READS IS OF BULK AT MOST 1048576: true; the input reads as it did. -/
def fnExactForcedEdgesUptoRow : OpenClaim := { program := "ytjmiafkkbganlaa", sum := "c8b0d9cf1062f0032e2d46711ca23bb952f1d19f3e726f2510ca8df823d4b077", func := "loop.example/degreeswaps/laws.FnExactForcedEdges", spec := "fnExactForcedEdges", unfollowed := true, recurses := true, apart := false, narrowed := true }
def FnExactForcedEdgesUptoSaid : Prop := fnExactForcedEdgesUptoRow.holds Try.pinned (OpenSpec.upto fnExactForcedEdgesSpec)

end Rows
end Go.Proofs.Ytjmiafkkbganlaa
