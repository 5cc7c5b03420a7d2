/-
  No cell of these rows narrows 'for every input' (looked for: loops, veiled, ifaces, maps, wideKeys, modest, calm, conditions, laid).
  DERIVED. THE GIVEN ROWS OF THIS SEAT. 11 by the template 'for every input the law returns true; each argument reads behind the call as it read before'; 0 by the template 'total and deterministic' (their statements: YtbhhapbocnlblaaTotals.lean).
  GIVEN WITH THE SEED: the statements are not yours to turn. If you find one false, say at which input.
  Laid BY PROGRAM, IN A SANDBOX (cutbox-rows.mjs): the forced cells as the released guide's own fill.sh prints them over the translation 61ab4b91be53d3ad… (all of the seat's roots in one cut). By AI agents, Wed Nov 11 2026. No macro, syntax, notation, axiom, sorry.
-/
import Derived.Test.YtbhhapbocnlblaaChecked
import GoSem.Claim
import GoSem.ClaimJoined
import GoSem.ClaimMapViews
import Derived.JoinedTies
import Derived.KernelRfl
namespace Go.Proofs.Ytbhhapbocnlblaa
/- THE CELL 'sum', in the pinned program and in every row, IS THE sha256 OF THE DUMP (.gsa) THAT YtbhhapbocnlblaaProg.lean LOADS. Nothing in Lean hashes anything: it is a label: what it is worth is what the hold of that sum in a sandbox is worth. -/
noncomputable def Try.pinned : Pinned := { name := "ytbhhapbocnlblaa", sum := "61ab4b91be53d3adac8b1a9c6158396d200ef4d9d2924943e58895b83151dde6", checked := Try.checked }
namespace Rows
def none {H : Type} : Left H := { results := [], args := [] }

/-- 'laws.FnExactValidMatrix': WHATEVER THE INPUT: true; the input reads as it did. -/
def fnExactValidMatrixSpec : ChangeSpec := { name := "fnExactValidMatrix", fn := fun _ => fun
  | [d] => { results := [.lit (.bool true)], args := [d] }
  | _ => none }
def fnExactValidMatrixRow : OpenClaim := { program := "ytbhhapbocnlblaa", sum := "61ab4b91be53d3adac8b1a9c6158396d200ef4d9d2924943e58895b83151dde6", func := "loop.example/degreeswaps/laws.FnExactValidMatrix", spec := "fnExactValidMatrix", unfollowed := true, recurses := true, apart := false }
def FnExactValidMatrixSaid : Prop := fnExactValidMatrixRow.holds Try.pinned (OpenSpec.ofChange fnExactValidMatrixSpec)

/-- ITS FALSE NEIGHBOUR: 'it returns false'. Refute it at one input. -/
def fnExactValidMatrixWrong : ChangeSpec := { name := "fnExactValidMatrix", fn := fun _ => fun
  | [d] => { results := [.lit (.bool false)], args := [d] }
  | _ => none }
def FnExactValidMatrixWrongFalsely : Prop := fnExactValidMatrixRow.holds Try.pinned (OpenSpec.ofChange fnExactValidMatrixWrong)

/-- 'laws.FnExactValidTournament': WHATEVER THE INPUT: true; the input reads as it did. -/
def fnExactValidTournamentSpec : ChangeSpec := { name := "fnExactValidTournament", fn := fun _ => fun
  | [d] => { results := [.lit (.bool true)], args := [d] }
  | _ => none }
def fnExactValidTournamentRow : OpenClaim := { program := "ytbhhapbocnlblaa", sum := "61ab4b91be53d3adac8b1a9c6158396d200ef4d9d2924943e58895b83151dde6", func := "loop.example/degreeswaps/laws.FnExactValidTournament", spec := "fnExactValidTournament", unfollowed := true, recurses := true, apart := false }
def FnExactValidTournamentSaid : Prop := fnExactValidTournamentRow.holds Try.pinned (OpenSpec.ofChange fnExactValidTournamentSpec)

/-- ITS FALSE NEIGHBOUR: 'it returns false'. Refute it at one input. -/
def fnExactValidTournamentWrong : ChangeSpec := { name := "fnExactValidTournament", fn := fun _ => fun
  | [d] => { results := [.lit (.bool false)], args := [d] }
  | _ => none }
def FnExactValidTournamentWrongFalsely : Prop := fnExactValidTournamentRow.holds Try.pinned (OpenSpec.ofChange fnExactValidTournamentWrong)

/-- 'laws.FnExactFlipMatrix': WHATEVER THE INPUT: true; the input reads as it did. -/
def fnExactFlipMatrixSpec : ChangeSpec := { name := "fnExactFlipMatrix", fn := fun _ => fun
  | [d] => { results := [.lit (.bool true)], args := [d] }
  | _ => none }
def fnExactFlipMatrixRow : OpenClaim := { program := "ytbhhapbocnlblaa", sum := "61ab4b91be53d3adac8b1a9c6158396d200ef4d9d2924943e58895b83151dde6", func := "loop.example/degreeswaps/laws.FnExactFlipMatrix", spec := "fnExactFlipMatrix", unfollowed := true, recurses := true, apart := false }
def FnExactFlipMatrixSaid : Prop := fnExactFlipMatrixRow.holds Try.pinned (OpenSpec.ofChange fnExactFlipMatrixSpec)

/-- ITS FALSE NEIGHBOUR: 'it returns false'. Refute it at one input. -/
def fnExactFlipMatrixWrong : ChangeSpec := { name := "fnExactFlipMatrix", fn := fun _ => fun
  | [d] => { results := [.lit (.bool false)], args := [d] }
  | _ => none }
def FnExactFlipMatrixWrongFalsely : Prop := fnExactFlipMatrixRow.holds Try.pinned (OpenSpec.ofChange fnExactFlipMatrixWrong)

/-- 'laws.FnExactIsDigraphic': WHATEVER THE INPUT: true; the input reads as it did. -/
def fnExactIsDigraphicSpec : ChangeSpec := { name := "fnExactIsDigraphic", fn := fun _ => fun
  | [d1, d2] => { results := [.lit (.bool true)], args := [d1, d2] }
  | _ => none }
def fnExactIsDigraphicRow : OpenClaim := { program := "ytbhhapbocnlblaa", sum := "61ab4b91be53d3adac8b1a9c6158396d200ef4d9d2924943e58895b83151dde6", func := "loop.example/degreeswaps/laws.FnExactIsDigraphic", spec := "fnExactIsDigraphic", unfollowed := true, recurses := true, apart := false }
def FnExactIsDigraphicSaid : Prop := fnExactIsDigraphicRow.holds Try.pinned (OpenSpec.ofChange fnExactIsDigraphicSpec)

/-- ITS FALSE NEIGHBOUR: 'it returns false'. Refute it at one input. -/
def fnExactIsDigraphicWrong : ChangeSpec := { name := "fnExactIsDigraphic", fn := fun _ => fun
  | [d1, d2] => { results := [.lit (.bool false)], args := [d1, d2] }
  | _ => none }
def FnExactIsDigraphicWrongFalsely : Prop := fnExactIsDigraphicRow.holds Try.pinned (OpenSpec.ofChange fnExactIsDigraphicWrong)

/-- 'laws.FnExactTransposeMatrix': WHATEVER THE INPUT: true; the input reads as it did. -/
def fnExactTransposeMatrixSpec : ChangeSpec := { name := "fnExactTransposeMatrix", fn := fun _ => fun
  | [d] => { results := [.lit (.bool true)], args := [d] }
  | _ => none }
def fnExactTransposeMatrixRow : OpenClaim := { program := "ytbhhapbocnlblaa", sum := "61ab4b91be53d3adac8b1a9c6158396d200ef4d9d2924943e58895b83151dde6", func := "loop.example/degreeswaps/laws.FnExactTransposeMatrix", spec := "fnExactTransposeMatrix", unfollowed := true, recurses := true, apart := false }
def FnExactTransposeMatrixSaid : Prop := fnExactTransposeMatrixRow.holds Try.pinned (OpenSpec.ofChange fnExactTransposeMatrixSpec)

/-- ITS FALSE NEIGHBOUR: 'it returns false'. Refute it at one input. -/
def fnExactTransposeMatrixWrong : ChangeSpec := { name := "fnExactTransposeMatrix", fn := fun _ => fun
  | [d] => { results := [.lit (.bool false)], args := [d] }
  | _ => none }
def FnExactTransposeMatrixWrongFalsely : Prop := fnExactTransposeMatrixRow.holds Try.pinned (OpenSpec.ofChange fnExactTransposeMatrixWrong)

/-- 'laws.FnExactMarginsOf': WHATEVER THE INPUT: true; the input reads as it did. -/
def fnExactMarginsOfSpec : ChangeSpec := { name := "fnExactMarginsOf", fn := fun _ => fun
  | [d] => { results := [.lit (.bool true)], args := [d] }
  | _ => none }
def fnExactMarginsOfRow : OpenClaim := { program := "ytbhhapbocnlblaa", sum := "61ab4b91be53d3adac8b1a9c6158396d200ef4d9d2924943e58895b83151dde6", func := "loop.example/degreeswaps/laws.FnExactMarginsOf", spec := "fnExactMarginsOf", unfollowed := true, recurses := true, apart := false }
def FnExactMarginsOfSaid : Prop := fnExactMarginsOfRow.holds Try.pinned (OpenSpec.ofChange fnExactMarginsOfSpec)

/-- ITS FALSE NEIGHBOUR: 'it returns false'. Refute it at one input. -/
def fnExactMarginsOfWrong : ChangeSpec := { name := "fnExactMarginsOf", fn := fun _ => fun
  | [d] => { results := [.lit (.bool false)], args := [d] }
  | _ => none }
def FnExactMarginsOfWrongFalsely : Prop := fnExactMarginsOfRow.holds Try.pinned (OpenSpec.ofChange fnExactMarginsOfWrong)

/-- 'laws.FnExactScoresOf': WHATEVER THE INPUT: true; the input reads as it did. -/
def fnExactScoresOfSpec : ChangeSpec := { name := "fnExactScoresOf", fn := fun _ => fun
  | [d] => { results := [.lit (.bool true)], args := [d] }
  | _ => none }
def fnExactScoresOfRow : OpenClaim := { program := "ytbhhapbocnlblaa", sum := "61ab4b91be53d3adac8b1a9c6158396d200ef4d9d2924943e58895b83151dde6", func := "loop.example/degreeswaps/laws.FnExactScoresOf", spec := "fnExactScoresOf", unfollowed := true, recurses := true, apart := false }
def FnExactScoresOfSaid : Prop := fnExactScoresOfRow.holds Try.pinned (OpenSpec.ofChange fnExactScoresOfSpec)

/-- ITS FALSE NEIGHBOUR: 'it returns false'. Refute it at one input. -/
def fnExactScoresOfWrong : ChangeSpec := { name := "fnExactScoresOf", fn := fun _ => fun
  | [d] => { results := [.lit (.bool false)], args := [d] }
  | _ => none }
def FnExactScoresOfWrongFalsely : Prop := fnExactScoresOfRow.holds Try.pinned (OpenSpec.ofChange fnExactScoresOfWrong)

/-- 'laws.FnExactInterchange': WHATEVER THE INPUT: true; the input reads as it did. -/
def fnExactInterchangeSpec : ChangeSpec := { name := "fnExactInterchange", fn := fun _ => fun
  | [d1, d2] => { results := [.lit (.bool true)], args := [d1, d2] }
  | _ => none }
def fnExactInterchangeRow : OpenClaim := { program := "ytbhhapbocnlblaa", sum := "61ab4b91be53d3adac8b1a9c6158396d200ef4d9d2924943e58895b83151dde6", func := "loop.example/degreeswaps/laws.FnExactInterchange", spec := "fnExactInterchange", unfollowed := true, recurses := true, apart := false }
def FnExactInterchangeSaid : Prop := fnExactInterchangeRow.holds Try.pinned (OpenSpec.ofChange fnExactInterchangeSpec)

/-- ITS FALSE NEIGHBOUR: 'it returns false'. Refute it at one input. -/
def fnExactInterchangeWrong : ChangeSpec := { name := "fnExactInterchange", fn := fun _ => fun
  | [d1, d2] => { results := [.lit (.bool false)], args := [d1, d2] }
  | _ => none }
def FnExactInterchangeWrongFalsely : Prop := fnExactInterchangeRow.holds Try.pinned (OpenSpec.ofChange fnExactInterchangeWrong)

/-- 'laws.FnExactTurnTriangle': WHATEVER THE INPUT: true; the input reads as it did. -/
def fnExactTurnTriangleSpec : ChangeSpec := { name := "fnExactTurnTriangle", fn := fun _ => fun
  | [d1, d2, d3, d4] => { results := [.lit (.bool true)], args := [d1, d2, d3, d4] }
  | _ => none }
def fnExactTurnTriangleRow : OpenClaim := { program := "ytbhhapbocnlblaa", sum := "61ab4b91be53d3adac8b1a9c6158396d200ef4d9d2924943e58895b83151dde6", func := "loop.example/degreeswaps/laws.FnExactTurnTriangle", spec := "fnExactTurnTriangle", unfollowed := true, recurses := true, apart := false }
def FnExactTurnTriangleSaid : Prop := fnExactTurnTriangleRow.holds Try.pinned (OpenSpec.ofChange fnExactTurnTriangleSpec)

/-- ITS FALSE NEIGHBOUR: 'it returns false'. Refute it at one input. -/
def fnExactTurnTriangleWrong : ChangeSpec := { name := "fnExactTurnTriangle", fn := fun _ => fun
  | [d1, d2, d3, d4] => { results := [.lit (.bool false)], args := [d1, d2, d3, d4] }
  | _ => none }
def FnExactTurnTriangleWrongFalsely : Prop := fnExactTurnTriangleRow.holds Try.pinned (OpenSpec.ofChange fnExactTurnTriangleWrong)

/-- 'laws.FnExactInterchangesOf': WHATEVER THE INPUT: true; the input reads as it did. -/
def fnExactInterchangesOfSpec : ChangeSpec := { name := "fnExactInterchangesOf", fn := fun _ => fun
  | [d] => { results := [.lit (.bool true)], args := [d] }
  | _ => none }
def fnExactInterchangesOfRow : OpenClaim := { program := "ytbhhapbocnlblaa", sum := "61ab4b91be53d3adac8b1a9c6158396d200ef4d9d2924943e58895b83151dde6", func := "loop.example/degreeswaps/laws.FnExactInterchangesOf", spec := "fnExactInterchangesOf", unfollowed := true, recurses := true, apart := false }
def FnExactInterchangesOfSaid : Prop := fnExactInterchangesOfRow.holds Try.pinned (OpenSpec.ofChange fnExactInterchangesOfSpec)

/-- ITS FALSE NEIGHBOUR: 'it returns false'. Refute it at one input. -/
def fnExactInterchangesOfWrong : ChangeSpec := { name := "fnExactInterchangesOf", fn := fun _ => fun
  | [d] => { results := [.lit (.bool false)], args := [d] }
  | _ => none }
def FnExactInterchangesOfWrongFalsely : Prop := fnExactInterchangesOfRow.holds Try.pinned (OpenSpec.ofChange fnExactInterchangesOfWrong)

/-- 'laws.FnExactAllMatrices': WHATEVER THE INPUT: true; the input reads as it did. -/
def fnExactAllMatricesSpec : ChangeSpec := { name := "fnExactAllMatrices", fn := fun _ => fun
  | [d1, d2] => { results := [.lit (.bool true)], args := [d1, d2] }
  | _ => none }
def fnExactAllMatricesRow : OpenClaim := { program := "ytbhhapbocnlblaa", sum := "61ab4b91be53d3adac8b1a9c6158396d200ef4d9d2924943e58895b83151dde6", func := "loop.example/degreeswaps/laws.FnExactAllMatrices", spec := "fnExactAllMatrices", unfollowed := true, recurses := true, apart := false }
def FnExactAllMatricesSaid : Prop := fnExactAllMatricesRow.holds Try.pinned (OpenSpec.ofChange fnExactAllMatricesSpec)

/-- ITS FALSE NEIGHBOUR: 'it returns false'. Refute it at one input. -/
def fnExactAllMatricesWrong : ChangeSpec := { name := "fnExactAllMatrices", fn := fun _ => fun
  | [d1, d2] => { results := [.lit (.bool false)], args := [d1, d2] }
  | _ => none }
def FnExactAllMatricesWrongFalsely : Prop := fnExactAllMatricesRow.holds Try.pinned (OpenSpec.ofChange fnExactAllMatricesWrong)

/- THE SECOND FORM. 'bulk': how many values and letters a reading holds, each counted each time it is reached (what is shared counts as often as it is met; a slice's spare places count too). A statement '..UptoSaid' is the law's where the arguments, and the package variables that the reading takes, are together of bulk at most 1048576: NARROWER than '..Said'. Prove '..Said' where nothing that the law and all that it calls make is longer than what came in: it says more and counts as full. Else prove '..UptoSaid'. A law counts once. -/
mutual
def uptoBulk {H : Type} : DataW H → Nat
  | .lit (.string bytes) => bytes.length + 1
  | .lit _ => 1
  | .nil => 1
  | .ptr d => uptoBulk d + 1
  | .slice elems spare => uptoBulkAll elems + uptoBulkAll spare + 1
  | .agg parts => uptoBulkAll parts + 1
  | .iface _ d => uptoBulk d + 1
  | .map entries => uptoBulkEntries entries + 1
  | .held _ => 1
def uptoBulkAll {H : Type} : List (DataW H) → Nat
  | [] => 0
  | d :: r => uptoBulk d + uptoBulkAll r
def uptoBulkEntries {H : Type} : List (Lit × DataW H) → Nat
  | [] => 0
  | x :: r => uptoBulkEntry x + uptoBulkEntries r
def uptoBulkEntry {H : Type} : Lit × DataW H → Nat
  | (.string bytes, d) => bytes.length + uptoBulk d + 1
  | (_, d) => uptoBulk d + 1
 end
def uptoSmall : (H : Type) → List (DataW H) → Bool := fun _ ds => decide (uptoBulkAll ds ≤ 1048576)
def OpenSpec.upto (s : _root_.Go.ChangeSpec) : _root_.Go.OpenSpec := { _root_.Go.OpenSpec.ofChange s with cond := some uptoSmall }

/-- 'laws.FnExactValidMatrix', WHERE WHAT IT READS IS OF BULK AT MOST 1048576: true; the input reads as it did. -/
def fnExactValidMatrixUptoRow : OpenClaim := { program := "ytbhhapbocnlblaa", sum := "61ab4b91be53d3adac8b1a9c6158396d200ef4d9d2924943e58895b83151dde6", func := "loop.example/degreeswaps/laws.FnExactValidMatrix", spec := "fnExactValidMatrix", unfollowed := true, recurses := true, apart := false, narrowed := true }
def FnExactValidMatrixUptoSaid : Prop := fnExactValidMatrixUptoRow.holds Try.pinned (OpenSpec.upto fnExactValidMatrixSpec)

/-- 'laws.FnExactValidTournament', WHERE WHAT IT READS IS OF BULK AT MOST 1048576: true; the input reads as it did. -/
def fnExactValidTournamentUptoRow : OpenClaim := { program := "ytbhhapbocnlblaa", sum := "61ab4b91be53d3adac8b1a9c6158396d200ef4d9d2924943e58895b83151dde6", func := "loop.example/degreeswaps/laws.FnExactValidTournament", spec := "fnExactValidTournament", unfollowed := true, recurses := true, apart := false, narrowed := true }
def FnExactValidTournamentUptoSaid : Prop := fnExactValidTournamentUptoRow.holds Try.pinned (OpenSpec.upto fnExactValidTournamentSpec)

/-- 'laws.FnExactFlipMatrix', WHERE WHAT IT READS IS OF BULK AT MOST 1048576: true; the input reads as it did. -/
def fnExactFlipMatrixUptoRow : OpenClaim := { program := "ytbhhapbocnlblaa", sum := "61ab4b91be53d3adac8b1a9c6158396d200ef4d9d2924943e58895b83151dde6", func := "loop.example/degreeswaps/laws.FnExactFlipMatrix", spec := "fnExactFlipMatrix", unfollowed := true, recurses := true, apart := false, narrowed := true }
def FnExactFlipMatrixUptoSaid : Prop := fnExactFlipMatrixUptoRow.holds Try.pinned (OpenSpec.upto fnExactFlipMatrixSpec)

/-- 'laws.FnExactIsDigraphic', WHERE WHAT IT READS IS OF BULK AT MOST 1048576: true; the input reads as it did. -/
def fnExactIsDigraphicUptoRow : OpenClaim := { program := "ytbhhapbocnlblaa", sum := "61ab4b91be53d3adac8b1a9c6158396d200ef4d9d2924943e58895b83151dde6", func := "loop.example/degreeswaps/laws.FnExactIsDigraphic", spec := "fnExactIsDigraphic", unfollowed := true, recurses := true, apart := false, narrowed := true }
def FnExactIsDigraphicUptoSaid : Prop := fnExactIsDigraphicUptoRow.holds Try.pinned (OpenSpec.upto fnExactIsDigraphicSpec)

/-- 'laws.FnExactTransposeMatrix', WHERE WHAT IT READS IS OF BULK AT MOST 1048576: true; the input reads as it did. -/
def fnExactTransposeMatrixUptoRow : OpenClaim := { program := "ytbhhapbocnlblaa", sum := "61ab4b91be53d3adac8b1a9c6158396d200ef4d9d2924943e58895b83151dde6", func := "loop.example/degreeswaps/laws.FnExactTransposeMatrix", spec := "fnExactTransposeMatrix", unfollowed := true, recurses := true, apart := false, narrowed := true }
def FnExactTransposeMatrixUptoSaid : Prop := fnExactTransposeMatrixUptoRow.holds Try.pinned (OpenSpec.upto fnExactTransposeMatrixSpec)

/-- 'laws.FnExactMarginsOf', WHERE WHAT IT READS IS OF BULK AT MOST 1048576: true; the input reads as it did. -/
def fnExactMarginsOfUptoRow : OpenClaim := { program := "ytbhhapbocnlblaa", sum := "61ab4b91be53d3adac8b1a9c6158396d200ef4d9d2924943e58895b83151dde6", func := "loop.example/degreeswaps/laws.FnExactMarginsOf", spec := "fnExactMarginsOf", unfollowed := true, recurses := true, apart := false, narrowed := true }
def FnExactMarginsOfUptoSaid : Prop := fnExactMarginsOfUptoRow.holds Try.pinned (OpenSpec.upto fnExactMarginsOfSpec)

/-- 'laws.FnExactScoresOf', WHERE WHAT IT READS IS OF BULK AT MOST 1048576: true; the input reads as it did. -/
def fnExactScoresOfUptoRow : OpenClaim := { program := "ytbhhapbocnlblaa", sum := "61ab4b91be53d3adac8b1a9c6158396d200ef4d9d2924943e58895b83151dde6", func := "loop.example/degreeswaps/laws.FnExactScoresOf", spec := "fnExactScoresOf", unfollowed := true, recurses := true, apart := false, narrowed := true }
def FnExactScoresOfUptoSaid : Prop := fnExactScoresOfUptoRow.holds Try.pinned (OpenSpec.upto fnExactScoresOfSpec)

/-- 'laws.FnExactInterchange', WHERE WHAT IT READS IS OF BULK AT MOST 1048576: true; the input reads as it did. -/
def fnExactInterchangeUptoRow : OpenClaim := { program := "ytbhhapbocnlblaa", sum := "61ab4b91be53d3adac8b1a9c6158396d200ef4d9d2924943e58895b83151dde6", func := "loop.example/degreeswaps/laws.FnExactInterchange", spec := "fnExactInterchange", unfollowed := true, recurses := true, apart := false, narrowed := true }
def FnExactInterchangeUptoSaid : Prop := fnExactInterchangeUptoRow.holds Try.pinned (OpenSpec.upto fnExactInterchangeSpec)

/-- 'laws.FnExactTurnTriangle', WHERE WHAT IT READS IS OF BULK AT MOST 1048576: true; the input reads as it did. -/
def fnExactTurnTriangleUptoRow : OpenClaim := { program := "ytbhhapbocnlblaa", sum := "61ab4b91be53d3adac8b1a9c6158396d200ef4d9d2924943e58895b83151dde6", func := "loop.example/degreeswaps/laws.FnExactTurnTriangle", spec := "fnExactTurnTriangle", unfollowed := true, recurses := true, apart := false, narrowed := true }
def FnExactTurnTriangleUptoSaid : Prop := fnExactTurnTriangleUptoRow.holds Try.pinned (OpenSpec.upto fnExactTurnTriangleSpec)

/-- 'laws.FnExactInterchangesOf', WHERE WHAT IT READS IS OF BULK AT MOST 1048576: true; the input reads as it did. -/
def fnExactInterchangesOfUptoRow : OpenClaim := { program := "ytbhhapbocnlblaa", sum := "61ab4b91be53d3adac8b1a9c6158396d200ef4d9d2924943e58895b83151dde6", func := "loop.example/degreeswaps/laws.FnExactInterchangesOf", spec := "fnExactInterchangesOf", unfollowed := true, recurses := true, apart := false, narrowed := true }
def FnExactInterchangesOfUptoSaid : Prop := fnExactInterchangesOfUptoRow.holds Try.pinned (OpenSpec.upto fnExactInterchangesOfSpec)

/-- 'laws.FnExactAllMatrices', WHERE WHAT IT READS IS OF BULK AT MOST 1048576: true; the input reads as it did. -/
def fnExactAllMatricesUptoRow : OpenClaim := { program := "ytbhhapbocnlblaa", sum := "61ab4b91be53d3adac8b1a9c6158396d200ef4d9d2924943e58895b83151dde6", func := "loop.example/degreeswaps/laws.FnExactAllMatrices", spec := "fnExactAllMatrices", unfollowed := true, recurses := true, apart := false, narrowed := true }
def FnExactAllMatricesUptoSaid : Prop := fnExactAllMatricesUptoRow.holds Try.pinned (OpenSpec.upto fnExactAllMatricesSpec)

end Rows
end Go.Proofs.Ytbhhapbocnlblaa
