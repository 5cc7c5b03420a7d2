/- The law FnExactUnionOf is proved: called with any input it returns true and leaves its arguments as they were.
   Its conditions: none beyond the statement's own. -/
import Derived.Test.YtchefkggnncalaaRows
import Derived.WalkKit
import Derived.ProofKit
import Derived.OpenShut
import Derived.ShutString
import Derived.ChangeOld
import Derived.Below
import Derived.Lib.SmallJoins
import Derived.Deep.SlicePairs
import Derived.Test.YtchefkggnncalaaFrameG
import Derived.Test.YtchefkggnncalaaWUnionOf
namespace Go.Proofs.Ytchefkggnncalaa.fnExactUnionOf
open Go.ChangeShapes Go.WideShapes Go.ChangeAt Go.RowKit
open Go.ChangeMaps (open_string shut_string)
set_option linter.unusedVariables false

theorem own : ownKnob Try.prog.godebug = none := by kernel_rfl
theorem laidOut : laidOutB Try.prog = true := by kernel_rfl

theorem walk (N0 : Int) (a0 : Option Addr) (len0 cap0 : Nat) (es0 : List (Int × Int)) (N1 : Int) (a1 : Option Addr) (len1 cap1 : Nat) (es1 : List (Int × Int)) (w : World) (wn0 : (Lit.int .i64 N0).wf = true) (el0 : es0.length = len0) (rd0 : Rd w a0 (es0.flatMap fun e => [Value.int .i64 e.1, Value.int .i64 e.2])) (ml0 : len0 ≤ maxLen) (nz0 : a0 = none → len0 = 0 ∧ cap0 = 0) (wn1 : (Lit.int .i64 N1).wf = true) (el1 : es1.length = len1) (rd1 : Rd w a1 (es1.flatMap fun e => [Value.int .i64 e.1, Value.int .i64 e.2])) (ml1 : len1 ≤ maxLen) (nz1 : a1 = none → len1 = 0 ∧ cap1 = 0) :
    Calls Try.prog 11 #[.agg #[.int .i64 N0, .slice a0 len0 cap0], .agg #[.int .i64 N1, .slice a1 len1 cap1]] w fun e w' => e = .returned (.bool true) ∧ Below w.heap.size w w' := by
  have e1 : IntKind.i64.min = -9223372036854775808 := rfl
  have e2 : IntKind.i64.max = 9223372036854775807 := rfl
  simp only [Lit.wf, Bool.and_eq_true, decide_eq_true_eq] at wn0
  unfold maxLen at ml0
  simp only [Lit.wf, Bool.and_eq_true, decide_eq_true_eq] at wn1
  unfold maxLen at ml1
  exact walk_FnExactUnionOf N0 a0 cap0 len0 es0 N1 a1 cap1 len1 es1 w ⟨by omega, by omega⟩ el0 rd0 (by omega) ⟨by omega, by omega⟩ el1 rd1 (by omega)

set_option maxRecDepth 100000 in
theorem lifted (os : Os) (started : os.Started) (H : Type) (enc : TypeId × Value → H) :
    ReturnsInHanded {} Try.checked os 11 .any (Rows.fnExactUnionOfSpec.pre6 enc Try.prog Try.f11 Rows.fnExactUnionOfRow.domain false) (Rows.fnExactUnionOfSpec.post enc Try.prog Try.f11 false true false false) := by
  refine returnsInHanded_of_change (C := Try.checked) own started (by kernel_rfl) Try.func11
    (ChangeSpec.witness6 (enc := enc) (C := Try.checked) false ⟨#[], #[.agg #[.int .i64 0, .slice none 0 0], .agg #[.int .i64 0, .slice none 0 0]], []⟩ 8 (by kernel_rfl) (by kernel_rfl) (by kernel_rfl) (by kernel_rfl)) ?_
  intro W base args ds gs before hval0 hW hcnd _
  have hval : ∀ (j : Nat) t v, Try.f11.params[j]? = some t → args[j]? = some v → Value.okWide Try.prog W .any base t v := hval0
  have hW' := hW
  obtain ⟨p, q, hA0, hV, rfl, hfz, hnd⟩ := hW
  have hA : DataW.TrodAll enc Try.prog W 0 (fun _ => true) true Try.f11.params.toList args.toList ds p := hA0
  rw [Try.params11] at hA hval
  obtain ⟨v0, vs0, d0, ds0, p0, q0, hargs, rfl, rfl, h0, r0⟩ := trodAll_cons hA
  obtain ⟨v1, vs1, d1, ds1, p1, q1, rfl, rfl, rfl, h1, r1⟩ := trodAll_cons r0
  obtain ⟨rfl, rfl, rfl⟩ := trodAll_nil r1
  obtain rfl : args = #[v0, v1] := by cases args; simp_all
  obtain ⟨rfl, rfl⟩ := trodVars_none hV
  have k0 := h0
  have lt0 : ∀ x ∈ p0, x.block < W.heap.size := by obtain ⟨m, hm⟩ := k0; exact DataW.trod_lt m _ _ _ hm
  obtain ⟨gc0, gs0, gy0, gz0, gm0, rfl, rfl, rfl, hy0, hz0⟩ := Joins.open_agg2 Try.underlying24 (by kernel_rfl) (by kernel_rfl) (hval 0 24 v0 rfl rfl) h0
  obtain ⟨N0, en0, _, wn0⟩ := DataW.trod_int Try.underlying3 hy0
  simp only [List.cons.injEq, and_true] at en0
  subst en0
  obtain ⟨a0, len0, cap0, es0, rfl, el0, rd0, ml0, nz0⟩ : ∃ (a : Option Addr) (len cap : Nat) (es : List (Int × Int)), gs0 = .slice a len cap ∧ es.length = len ∧ Rd W a (es.flatMap fun e => [Value.int .i64 e.1, Value.int .i64 e.2]) ∧ len ≤ maxLen ∧ (a = none → len = 0 ∧ cap = 0) := by
    rcases Deep.open_slice_pairs Try.underlying22 Try.underlying82 (by kernel_rfl) rfl rfl (by kernel_rfl) (by kernel_rfl) hz0 with ⟨hcs, _⟩ | ⟨x, l, c, m', n', V0, V1, D0, D1, P0, P1, hcs, _, hl, hm, hmm, _, hcell⟩
    · simp only [List.cons.injEq, and_true] at hcs
      exact ⟨none, 0, 0, [], hcs, rfl, rd_none _, by decide, fun _ => ⟨rfl, rfl⟩⟩
    · simp only [List.cons.injEq, and_true] at hcs
      have hlm : l ≤ m' := by rw [hmm]; split <;> omega
      obtain ⟨es, he, hr⟩ := rd_of_pairs (w := W) (x := x) (len := l) (V0 := V0) (V1 := V1) fun i hi => by
        obtain ⟨s0, s1, s2, s3⟩ := hcell i (by omega)
        obtain ⟨z0, r0, _⟩ := DataW.trod_int Try.underlying3 s2
        obtain ⟨z1, r1, _⟩ := DataW.trod_int Try.underlying3 s3
        simp only [List.cons.injEq, and_true] at r0 r1
        exact ⟨s0, s1, ⟨z0, r0⟩, ⟨z1, r1⟩⟩
      exact ⟨some x, l, c, es, hcs, he, hr, by omega, fun h => by cases h⟩
  have k1 := h1
  have lt1 : ∀ x ∈ p1, x.block < W.heap.size := by obtain ⟨m, hm⟩ := k1; exact DataW.trod_lt m _ _ _ hm
  obtain ⟨gc1, gs1, gy1, gz1, gm1, rfl, rfl, rfl, hy1, hz1⟩ := Joins.open_agg2 Try.underlying24 (by kernel_rfl) (by kernel_rfl) (hval 1 24 v1 rfl rfl) h1
  obtain ⟨N1, en1, _, wn1⟩ := DataW.trod_int Try.underlying3 hy1
  simp only [List.cons.injEq, and_true] at en1
  subst en1
  obtain ⟨a1, len1, cap1, es1, rfl, el1, rd1, ml1, nz1⟩ : ∃ (a : Option Addr) (len cap : Nat) (es : List (Int × Int)), gs1 = .slice a len cap ∧ es.length = len ∧ Rd W a (es.flatMap fun e => [Value.int .i64 e.1, Value.int .i64 e.2]) ∧ len ≤ maxLen ∧ (a = none → len = 0 ∧ cap = 0) := by
    rcases Deep.open_slice_pairs Try.underlying22 Try.underlying82 (by kernel_rfl) rfl rfl (by kernel_rfl) (by kernel_rfl) hz1 with ⟨hcs, _⟩ | ⟨x, l, c, m', n', V0, V1, D0, D1, P0, P1, hcs, _, hl, hm, hmm, _, hcell⟩
    · simp only [List.cons.injEq, and_true] at hcs
      exact ⟨none, 0, 0, [], hcs, rfl, rd_none _, by decide, fun _ => ⟨rfl, rfl⟩⟩
    · simp only [List.cons.injEq, and_true] at hcs
      have hlm : l ≤ m' := by rw [hmm]; split <;> omega
      obtain ⟨es, he, hr⟩ := rd_of_pairs (w := W) (x := x) (len := l) (V0 := V0) (V1 := V1) fun i hi => by
        obtain ⟨s0, s1, s2, s3⟩ := hcell i (by omega)
        obtain ⟨z0, r0, _⟩ := DataW.trod_int Try.underlying3 s2
        obtain ⟨z1, r1, _⟩ := DataW.trod_int Try.underlying3 s3
        simp only [List.cons.injEq, and_true] at r0 r1
        exact ⟨s0, s1, ⟨z0, r0⟩, ⟨z1, r1⟩⟩
      exact ⟨some x, l, c, es, hcs, he, hr, by omega, fun h => by cases h⟩
  clear hA0 hval0
  refine (walk N0 a0 len0 cap0 es0 N1 a1 len1 cap1 es1 W wn0 el0 rd0 ml0 nz0 wn1 el1 rd1 ml1 nz1).mono fun e W' ⟨he, bel⟩ => ?_
  subst he
  exact ⟨_, rfl, _, _, _, [], _, [], hW', trodAll_mk1 (shut_bool Try.underlying4 _), (trodAll_cons_mk (Below.trod laidOut (by kernel_rfl) (of_decide_eq_true (by kernel_rfl)) k0 bel lt0) (trodAll_cons_mk (Below.trod laidOut (by kernel_rfl) (of_decide_eq_true (by kernel_rfl)) k1 bel lt1) trodAll_mk0)), rfl, bel.frame _, fun h => by cases h⟩

theorem over : Rows.fnExactUnionOfRow.holds Try.pinned (OpenSpec.ofChange Rows.fnExactUnionOfSpec) :=
  OpenClaim.holds_of_wide 11 Try.f11 rfl rfl rfl rfl rfl rfl rfl ⟨rfl, rfl, rfl, rfl, rfl⟩ rfl rfl rfl rfl rfl (by kernel_rfl) Try.func11 (by kernel_rfl)
    (of_decide_eq_true (by kernel_rfl)) (by unfold Func.isWrapper; first | (rw [if_pos (by decide +kernel)]; kernel_rfl) | (rw [if_neg (by decide +kernel)]; exact ⟨rfl, rfl⟩))
    (fun os started H enc _ => lifted os started H enc)

theorem proved : Rows.FnExactUnionOfSaid := over
#print axioms proved
end Go.Proofs.Ytchefkggnncalaa.fnExactUnionOf
