/-
  No cell of these rows narrows 'for every input' (looked for: loops, veiled, ifaces, maps, wideKeys, modest, calm, conditions, laid).
  DERIVED. THE GIVEN ROWS OF THIS SEAT. 6 by the template 'for every input the law returns true; each argument reads behind the call as it read before'; 0 by the template 'total and deterministic' (their statements: YtmlaohohbadgbaaTotals.lean).
  GIVEN WITH THE SEED: the statements are not yours to turn. If you find one false, say at which input.
  Laid BY PROGRAM, IN A SANDBOX (cutbox-rows.mjs): the forced cells as the released guide's own fill.sh prints them over the translation 36750cf5a09d8b4c… (all of the seat's roots in one cut). By AI agents, Wed Nov 11 2026. No macro, syntax, notation, axiom, sorry.
-/
import Derived.Test.YtmlaohohbadgbaaChecked
import GoSem.Claim
import GoSem.ClaimJoined
import GoSem.ClaimMapViews
import Derived.JoinedTies
import Derived.KernelRfl
namespace Go.Proofs.Ytmlaohohbadgbaa
/- THE CELL 'sum', in the pinned program and in every row, IS THE sha256 OF THE DUMP (.gsa) THAT YtmlaohohbadgbaaProg.lean LOADS. Nothing in Lean hashes anything: it is a label: what it is worth is what the hold of that sum in a sandbox is worth. -/
noncomputable def Try.pinned : Pinned := { name := "ytmlaohohbadgbaa", sum := "36750cf5a09d8b4c98313767fb34c8ca1af27e333fe71b37d19fff12fa9eea35", checked := Try.checked }
namespace Rows
def none {H : Type} : Left H := { results := [], args := [] }

/-- 'laws.FnValidMatrix': WHATEVER THE INPUT: true; the input reads as it did. -/
def fnValidMatrixSpec : ChangeSpec := { name := "fnValidMatrix", fn := fun _ => fun
  | [d] => { results := [.lit (.bool true)], args := [d] }
  | _ => none }
def fnValidMatrixRow : OpenClaim := { program := "ytmlaohohbadgbaa", sum := "36750cf5a09d8b4c98313767fb34c8ca1af27e333fe71b37d19fff12fa9eea35", func := "loop.example/degreeswaps/laws.FnValidMatrix", spec := "fnValidMatrix", unfollowed := true, recurses := true, apart := false }
def FnValidMatrixSaid : Prop := fnValidMatrixRow.holds Try.pinned (OpenSpec.ofChange fnValidMatrixSpec)

/-- ITS FALSE NEIGHBOUR: 'it returns false'. Refute it at one input. -/
def fnValidMatrixWrong : ChangeSpec := { name := "fnValidMatrix", fn := fun _ => fun
  | [d] => { results := [.lit (.bool false)], args := [d] }
  | _ => none }
def FnValidMatrixWrongFalsely : Prop := fnValidMatrixRow.holds Try.pinned (OpenSpec.ofChange fnValidMatrixWrong)

/-- 'laws.FnValidTournament': WHATEVER THE INPUT: true; the input reads as it did. -/
def fnValidTournamentSpec : ChangeSpec := { name := "fnValidTournament", fn := fun _ => fun
  | [d] => { results := [.lit (.bool true)], args := [d] }
  | _ => none }
def fnValidTournamentRow : OpenClaim := { program := "ytmlaohohbadgbaa", sum := "36750cf5a09d8b4c98313767fb34c8ca1af27e333fe71b37d19fff12fa9eea35", func := "loop.example/degreeswaps/laws.FnValidTournament", spec := "fnValidTournament", unfollowed := true, recurses := true, apart := false }
def FnValidTournamentSaid : Prop := fnValidTournamentRow.holds Try.pinned (OpenSpec.ofChange fnValidTournamentSpec)

/-- ITS FALSE NEIGHBOUR: 'it returns false'. Refute it at one input. -/
def fnValidTournamentWrong : ChangeSpec := { name := "fnValidTournament", fn := fun _ => fun
  | [d] => { results := [.lit (.bool false)], args := [d] }
  | _ => none }
def FnValidTournamentWrongFalsely : Prop := fnValidTournamentRow.holds Try.pinned (OpenSpec.ofChange fnValidTournamentWrong)

/-- 'laws.FnTransposeMatrix': WHATEVER THE INPUT: true; the input reads as it did. -/
def fnTransposeMatrixSpec : ChangeSpec := { name := "fnTransposeMatrix", fn := fun _ => fun
  | [d] => { results := [.lit (.bool true)], args := [d] }
  | _ => none }
def fnTransposeMatrixRow : OpenClaim := { program := "ytmlaohohbadgbaa", sum := "36750cf5a09d8b4c98313767fb34c8ca1af27e333fe71b37d19fff12fa9eea35", func := "loop.example/degreeswaps/laws.FnTransposeMatrix", spec := "fnTransposeMatrix", unfollowed := true, recurses := true, apart := false }
def FnTransposeMatrixSaid : Prop := fnTransposeMatrixRow.holds Try.pinned (OpenSpec.ofChange fnTransposeMatrixSpec)

/-- ITS FALSE NEIGHBOUR: 'it returns false'. Refute it at one input. -/
def fnTransposeMatrixWrong : ChangeSpec := { name := "fnTransposeMatrix", fn := fun _ => fun
  | [d] => { results := [.lit (.bool false)], args := [d] }
  | _ => none }
def FnTransposeMatrixWrongFalsely : Prop := fnTransposeMatrixRow.holds Try.pinned (OpenSpec.ofChange fnTransposeMatrixWrong)

/-- 'laws.FnFlipMatrix': WHATEVER THE INPUT: true; the input reads as it did. -/
def fnFlipMatrixSpec : ChangeSpec := { name := "fnFlipMatrix", fn := fun _ => fun
  | [d] => { results := [.lit (.bool true)], args := [d] }
  | _ => none }
def fnFlipMatrixRow : OpenClaim := { program := "ytmlaohohbadgbaa", sum := "36750cf5a09d8b4c98313767fb34c8ca1af27e333fe71b37d19fff12fa9eea35", func := "loop.example/degreeswaps/laws.FnFlipMatrix", spec := "fnFlipMatrix", unfollowed := true, recurses := true, apart := false }
def FnFlipMatrixSaid : Prop := fnFlipMatrixRow.holds Try.pinned (OpenSpec.ofChange fnFlipMatrixSpec)

/-- ITS FALSE NEIGHBOUR: 'it returns false'. Refute it at one input. -/
def fnFlipMatrixWrong : ChangeSpec := { name := "fnFlipMatrix", fn := fun _ => fun
  | [d] => { results := [.lit (.bool false)], args := [d] }
  | _ => none }
def FnFlipMatrixWrongFalsely : Prop := fnFlipMatrixRow.holds Try.pinned (OpenSpec.ofChange fnFlipMatrixWrong)

/-- 'laws.FnInterchange': WHATEVER THE INPUT: true; the input reads as it did. -/
def fnInterchangeSpec : ChangeSpec := { name := "fnInterchange", fn := fun _ => fun
  | [d] => { results := [.lit (.bool true)], args := [d] }
  | _ => none }
def fnInterchangeRow : OpenClaim := { program := "ytmlaohohbadgbaa", sum := "36750cf5a09d8b4c98313767fb34c8ca1af27e333fe71b37d19fff12fa9eea35", func := "loop.example/degreeswaps/laws.FnInterchange", spec := "fnInterchange", unfollowed := true, recurses := true, apart := false }
def FnInterchangeSaid : Prop := fnInterchangeRow.holds Try.pinned (OpenSpec.ofChange fnInterchangeSpec)

/-- ITS FALSE NEIGHBOUR: 'it returns false'. Refute it at one input. -/
def fnInterchangeWrong : ChangeSpec := { name := "fnInterchange", fn := fun _ => fun
  | [d] => { results := [.lit (.bool false)], args := [d] }
  | _ => none }
def FnInterchangeWrongFalsely : Prop := fnInterchangeRow.holds Try.pinned (OpenSpec.ofChange fnInterchangeWrong)

/-- 'laws.FnInterchangesOf': WHATEVER THE INPUT: true; the input reads as it did. -/
def fnInterchangesOfSpec : ChangeSpec := { name := "fnInterchangesOf", fn := fun _ => fun
  | [d] => { results := [.lit (.bool true)], args := [d] }
  | _ => none }
def fnInterchangesOfRow : OpenClaim := { program := "ytmlaohohbadgbaa", sum := "36750cf5a09d8b4c98313767fb34c8ca1af27e333fe71b37d19fff12fa9eea35", func := "loop.example/degreeswaps/laws.FnInterchangesOf", spec := "fnInterchangesOf", unfollowed := true, recurses := true, apart := false }
def FnInterchangesOfSaid : Prop := fnInterchangesOfRow.holds Try.pinned (OpenSpec.ofChange fnInterchangesOfSpec)

/-- ITS FALSE NEIGHBOUR: 'it returns false'. Refute it at one input. -/
def fnInterchangesOfWrong : ChangeSpec := { name := "fnInterchangesOf", fn := fun _ => fun
  | [d] => { results := [.lit (.bool false)], args := [d] }
  | _ => none }
def FnInterchangesOfWrongFalsely : Prop := fnInterchangesOfRow.holds Try.pinned (OpenSpec.ofChange fnInterchangesOfWrong)

/- THE SECOND FORM. 'bulk': how many values and letters a reading holds, each counted each time it is reached (what is shared counts as often as it is met; a slice's spare places count too). A statement '..UptoSaid' is the law's where the arguments, and the package variables that the reading takes, are together of bulk at most 1048576: NARROWER than '..Said'. Prove '..Said' where nothing that the law and all that it calls make is longer than what came in: it says more and counts as full. Else prove '..UptoSaid'. A law counts once. -/
mutual
def uptoBulk {H : Type} : DataW H → Nat
  | .lit (.string bytes) => bytes.length + 1
  | .lit _ => 1
  | .nil => 1
  | .ptr d => uptoBulk d + 1
  | .slice elems spare => uptoBulkAll elems + uptoBulkAll spare + 1
  | .agg parts => uptoBulkAll parts + 1
  | .iface _ d => uptoBulk d + 1
  | .map entries => uptoBulkEntries entries + 1
  | .held _ => 1
def uptoBulkAll {H : Type} : List (DataW H) → Nat
  | [] => 0
  | d :: r => uptoBulk d + uptoBulkAll r
def uptoBulkEntries {H : Type} : List (Lit × DataW H) → Nat
  | [] => 0
  | x :: r => uptoBulkEntry x + uptoBulkEntries r
def uptoBulkEntry {H : Type} : Lit × DataW H → Nat
  | (.string bytes, d) => bytes.length + uptoBulk d + 1
  | (_, d) => uptoBulk d + 1
 end
def uptoSmall : (H : Type) → List (DataW H) → Bool := fun _ ds => decide (uptoBulkAll ds ≤ 1048576)
def OpenSpec.upto (s : _root_.Go.ChangeSpec) : _root_.Go.OpenSpec := { _root_.Go.OpenSpec.ofChange s with cond := some uptoSmall }

/-- 'laws.FnValidMatrix', WHERE WHAT IT READS IS OF BULK AT MOST 1048576: true; the input reads as it did. -/
def fnValidMatrixUptoRow : OpenClaim := { program := "ytmlaohohbadgbaa", sum := "36750cf5a09d8b4c98313767fb34c8ca1af27e333fe71b37d19fff12fa9eea35", func := "loop.example/degreeswaps/laws.FnValidMatrix", spec := "fnValidMatrix", unfollowed := true, recurses := true, apart := false, narrowed := true }
def FnValidMatrixUptoSaid : Prop := fnValidMatrixUptoRow.holds Try.pinned (OpenSpec.upto fnValidMatrixSpec)

/-- 'laws.FnValidTournament', WHERE WHAT IT READS IS OF BULK AT MOST 1048576: true; the input reads as it did. -/
def fnValidTournamentUptoRow : OpenClaim := { program := "ytmlaohohbadgbaa", sum := "36750cf5a09d8b4c98313767fb34c8ca1af27e333fe71b37d19fff12fa9eea35", func := "loop.example/degreeswaps/laws.FnValidTournament", spec := "fnValidTournament", unfollowed := true, recurses := true, apart := false, narrowed := true }
def FnValidTournamentUptoSaid : Prop := fnValidTournamentUptoRow.holds Try.pinned (OpenSpec.upto fnValidTournamentSpec)

/-- 'laws.FnTransposeMatrix', WHERE WHAT IT READS IS OF BULK AT MOST 1048576: true; the input reads as it did. -/
def fnTransposeMatrixUptoRow : OpenClaim := { program := "ytmlaohohbadgbaa", sum := "36750cf5a09d8b4c98313767fb34c8ca1af27e333fe71b37d19fff12fa9eea35", func := "loop.example/degreeswaps/laws.FnTransposeMatrix", spec := "fnTransposeMatrix", unfollowed := true, recurses := true, apart := false, narrowed := true }
def FnTransposeMatrixUptoSaid : Prop := fnTransposeMatrixUptoRow.holds Try.pinned (OpenSpec.upto fnTransposeMatrixSpec)

/-- 'laws.FnFlipMatrix', WHERE WHAT IT READS IS OF BULK AT MOST 1048576: true; the input reads as it did. -/
def fnFlipMatrixUptoRow : OpenClaim := { program := "ytmlaohohbadgbaa", sum := "36750cf5a09d8b4c98313767fb34c8ca1af27e333fe71b37d19fff12fa9eea35", func := "loop.example/degreeswaps/laws.FnFlipMatrix", spec := "fnFlipMatrix", unfollowed := true, recurses := true, apart := false, narrowed := true }
def FnFlipMatrixUptoSaid : Prop := fnFlipMatrixUptoRow.holds Try.pinned (OpenSpec.upto fnFlipMatrixSpec)

/-- 'laws.FnInterchange', WHERE WHAT IT READS IS OF BULK AT MOST 1048576: true; the input reads as it did. -/
def fnInterchangeUptoRow : OpenClaim := { program := "ytmlaohohbadgbaa", sum := "36750cf5a09d8b4c98313767fb34c8ca1af27e333fe71b37d19fff12fa9eea35", func := "loop.example/degreeswaps/laws.FnInterchange", spec := "fnInterchange", unfollowed := true, recurses := true, apart := false, narrowed := true }
def FnInterchangeUptoSaid : Prop := fnInterchangeUptoRow.holds Try.pinned (OpenSpec.upto fnInterchangeSpec)

/-- 'laws.FnInterchangesOf', WHERE WHAT IT READS IS OF BULK AT MOST 1048576: true; the input reads as it did. -/
def fnInterchangesOfUptoRow : OpenClaim := { program := "ytmlaohohbadgbaa", sum := "36750cf5a09d8b4c98313767fb34c8ca1af27e333fe71b37d19fff12fa9eea35", func := "loop.example/degreeswaps/laws.FnInterchangesOf", spec := "fnInterchangesOf", unfollowed := true, recurses := true, apart := false, narrowed := true }
def FnInterchangesOfUptoSaid : Prop := fnInterchangesOfUptoRow.holds Try.pinned (OpenSpec.upto fnInterchangesOfSpec)

end Rows
end Go.Proofs.Ytmlaohohbadgbaa
