/- The law FnExactFactorOf is proved: called with any input it returns true and leaves its arguments as they were.
   Its conditions: none beyond the statement's own. -/
import Derived.Test.YtjmiafkkbganlaaRows
import Derived.WalkKit
import Derived.ProofKit
import Derived.OpenShut
import Derived.ShutString
import Derived.ChangeOld
import Derived.Below
import Derived.Lib.SmallJoins
import Derived.Deep.SlicePairs
import Derived.Test.YtjmiafkkbganlaaFrameG
import Derived.Test.YtjmiafkkbganlaaWFactorOf
namespace Go.Proofs.Ytjmiafkkbganlaa.fnExactFactorOf
open Go.ChangeShapes Go.WideShapes Go.ChangeAt Go.RowKit
open Go.ChangeMaps (open_string shut_string)
set_option linter.unusedVariables false

theorem own : ownKnob Try.prog.godebug = none := by kernel_rfl
theorem laidOut : laidOutB Try.prog = true := by kernel_rfl

/-- A row of numbers that came in: nil, or a row of 'cap' cells with the numbers 'zs', of which the first 'len' are the elements. -/
def IsRow (k : IntKind) (w : World) (a : Option Addr) (len cap : Nat) (zs : List Int) : Prop :=
  (a = none ∧ len = 0 ∧ cap = 0 ∧ zs = []) ∨
  ∃ x, a = some x ∧ len ≤ cap ∧ cap ≤ maxLen ∧ zs.length = cap ∧ (∀ i, i < zs.length → w.cell? (x.add i) = some (.int k (zs.getD i 0))) ∧ ∀ n ∈ zs, (Lit.int k n).wf = true

theorem walk (N0 : Int) (a0 : Option Addr) (len0 cap0 : Nat) (es0 : List (Int × Int)) (a1 : Option Addr) (len1 cap1 : Nat) (z1 : List Int) (w : World) (wn0 : (Lit.int .i64 N0).wf = true) (el0 : es0.length = len0) (rd0 : Rd w a0 (es0.flatMap fun e => [Value.int .i64 e.1, Value.int .i64 e.2])) (ml0 : len0 ≤ maxLen) (nz0 : a0 = none → len0 = 0 ∧ cap0 = 0) (w1 : IsRow .i64 w a1 len1 cap1 z1) :
    Calls Try.prog 3 #[.agg #[.int .i64 N0, .slice a0 len0 cap0], .slice a1 len1 cap1] w fun e w' => e = .returned (.bool true) ∧ Below w.heap.size w w' := by
  have e1 : IntKind.i64.min = -9223372036854775808 := rfl
  have e2 : IntKind.i64.max = 9223372036854775807 := rfl
  simp only [Lit.wf, Bool.and_eq_true, decide_eq_true_eq] at wn0
  unfold maxLen at ml0
  obtain ⟨r1a, r1b, r1c, _⟩ := rd_of_row w1
  exact walk_FnExactFactorOf N0 a0 cap0 len0 es0 a1 cap1 len1 _ w ⟨by omega, by omega⟩ el0 rd0 (by omega) r1b r1a r1c

set_option maxRecDepth 100000 in
theorem lifted (os : Os) (started : os.Started) (H : Type) (enc : TypeId × Value → H) :
    ReturnsInHanded {} Try.checked os 3 .any (Rows.fnExactFactorOfSpec.pre6 enc Try.prog Try.f3 Rows.fnExactFactorOfRow.domain false) (Rows.fnExactFactorOfSpec.post enc Try.prog Try.f3 false true false false) := by
  refine returnsInHanded_of_change (C := Try.checked) own started (by kernel_rfl) Try.func3
    (ChangeSpec.witness6 (enc := enc) (C := Try.checked) false ⟨#[], #[.agg #[.int .i64 0, .slice none 0 0], .slice none 0 0], []⟩ 8 (by kernel_rfl) (by kernel_rfl) (by kernel_rfl) (by kernel_rfl)) ?_
  intro W base args ds gs before hval0 hW hcnd _
  have hval : ∀ (j : Nat) t v, Try.f3.params[j]? = some t → args[j]? = some v → Value.okWide Try.prog W .any base t v := hval0
  have hW' := hW
  obtain ⟨p, q, hA0, hV, rfl, hfz, hnd⟩ := hW
  have hA : DataW.TrodAll enc Try.prog W 0 (fun _ => true) true Try.f3.params.toList args.toList ds p := hA0
  rw [Try.params3] at hA hval
  obtain ⟨v0, vs0, d0, ds0, p0, q0, hargs, rfl, rfl, h0, r0⟩ := trodAll_cons hA
  obtain ⟨v1, vs1, d1, ds1, p1, q1, rfl, rfl, rfl, h1, r1⟩ := trodAll_cons r0
  obtain ⟨rfl, rfl, rfl⟩ := trodAll_nil r1
  obtain rfl : args = #[v0, v1] := by cases args; simp_all
  obtain ⟨rfl, rfl⟩ := trodVars_none hV
  have k0 := h0
  have lt0 : ∀ x ∈ p0, x.block < W.heap.size := by obtain ⟨m, hm⟩ := k0; exact DataW.trod_lt m _ _ _ hm
  obtain ⟨gc0, gs0, gy0, gz0, gm0, rfl, rfl, rfl, hy0, hz0⟩ := Joins.open_agg2 Try.underlying24 (by kernel_rfl) (by kernel_rfl) (hval 0 24 v0 rfl rfl) h0
  obtain ⟨N0, en0, _, wn0⟩ := DataW.trod_int Try.underlying3 hy0
  simp only [List.cons.injEq, and_true] at en0
  subst en0
  obtain ⟨a0, len0, cap0, es0, rfl, el0, rd0, ml0, nz0⟩ : ∃ (a : Option Addr) (len cap : Nat) (es : List (Int × Int)), gs0 = .slice a len cap ∧ es.length = len ∧ Rd W a (es.flatMap fun e => [Value.int .i64 e.1, Value.int .i64 e.2]) ∧ len ≤ maxLen ∧ (a = none → len = 0 ∧ cap = 0) := by
    rcases Deep.open_slice_pairs Try.underlying22 Try.underlying75 (by kernel_rfl) rfl rfl (by kernel_rfl) (by kernel_rfl) hz0 with ⟨hcs, _⟩ | ⟨x, l, c, m', n', V0, V1, D0, D1, P0, P1, hcs, _, hl, hm, hmm, _, hcell⟩
    · simp only [List.cons.injEq, and_true] at hcs
      exact ⟨none, 0, 0, [], hcs, rfl, rd_none _, by decide, fun _ => ⟨rfl, rfl⟩⟩
    · simp only [List.cons.injEq, and_true] at hcs
      have hlm : l ≤ m' := by rw [hmm]; split <;> omega
      obtain ⟨es, he, hr⟩ := rd_of_pairs (w := W) (x := x) (len := l) (V0 := V0) (V1 := V1) fun i hi => by
        obtain ⟨s0, s1, s2, s3⟩ := hcell i (by omega)
        obtain ⟨z0, r0, _⟩ := DataW.trod_int Try.underlying3 s2
        obtain ⟨z1, r1, _⟩ := DataW.trod_int Try.underlying3 s3
        simp only [List.cons.injEq, and_true] at r0 r1
        exact ⟨s0, s1, ⟨z0, r0⟩, ⟨z1, r1⟩⟩
      exact ⟨some x, l, c, es, hcs, he, hr, by omega, fun h => by cases h⟩
  obtain ⟨a1, len1, cap1, rfl⟩ := okWide_slice Try.underlying25 (hval 1 25 v1 rfl rfl)
  have k1 := h1
  have lt1 : ∀ x ∈ p1, x.block < W.heap.size := by obtain ⟨m, hm⟩ := k1; exact DataW.trod_lt m _ _ _ hm
  obtain ⟨z1, w1⟩ : ∃ zs, IsRow .i64 W a1 len1 cap1 zs := by
    obtain ⟨fuel, hf⟩ := h1
    rcases open_ints Try.underlying25 Try.underlying3 (by kernel_rfl) hf with ⟨hcs, _⟩ | ⟨x, l, c, zs, hcs, _, hl, hm, hz, _, hcell, hwz⟩
    · simp [Value.cells] at hcs
      obtain ⟨rfl, rfl, rfl⟩ := hcs
      exact ⟨[], .inl ⟨rfl, rfl, rfl, rfl⟩⟩
    · simp [Value.cells] at hcs
      obtain ⟨rfl, rfl, rfl⟩ := hcs
      exact ⟨zs, .inr ⟨_, rfl, hl, hm, by simpa using hz, hcell, hwz⟩⟩
  clear hA0 hval0
  refine (walk N0 a0 len0 cap0 es0 a1 len1 cap1 z1 W wn0 el0 rd0 ml0 nz0 w1).mono fun e W' ⟨he, bel⟩ => ?_
  subst he
  exact ⟨_, rfl, _, _, _, [], _, [], hW', trodAll_mk1 (shut_bool Try.underlying4 _), (trodAll_cons_mk (Below.trod laidOut (by kernel_rfl) (of_decide_eq_true (by kernel_rfl)) k0 bel lt0) (trodAll_cons_mk (Below.trod laidOut (by kernel_rfl) (of_decide_eq_true (by kernel_rfl)) k1 bel lt1) trodAll_mk0)), rfl, bel.frame _, fun h => by cases h⟩

theorem over : Rows.fnExactFactorOfRow.holds Try.pinned (OpenSpec.ofChange Rows.fnExactFactorOfSpec) :=
  OpenClaim.holds_of_wide 3 Try.f3 rfl rfl rfl rfl rfl rfl rfl ⟨rfl, rfl, rfl, rfl, rfl⟩ rfl rfl rfl rfl rfl (by kernel_rfl) Try.func3 (by kernel_rfl)
    (of_decide_eq_true (by kernel_rfl)) (by unfold Func.isWrapper; first | (rw [if_pos (by decide +kernel)]; kernel_rfl) | (rw [if_neg (by decide +kernel)]; exact ⟨rfl, rfl⟩))
    (fun os started H enc _ => lifted os started H enc)

theorem proved : Rows.FnExactFactorOfSaid := over
#print axioms proved
end Go.Proofs.Ytjmiafkkbganlaa.fnExactFactorOf
