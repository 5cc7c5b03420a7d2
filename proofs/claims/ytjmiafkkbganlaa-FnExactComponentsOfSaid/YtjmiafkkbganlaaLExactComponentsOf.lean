/- The law FnExactComponentsOf is proved: called with any input it returns true and leaves its arguments as they were.
   Its conditions: none beyond the statement's own. -/
import Derived.Test.YtjmiafkkbganlaaRows
import Derived.WalkKit
import Derived.ProofKit
import Derived.OpenShut
import Derived.ShutString
import Derived.ChangeOld
import Derived.Below
import Derived.Lib.SmallJoins
import Derived.Deep.SlicePairs
import Derived.Test.YtjmiafkkbganlaaFrameG
import Derived.Test.YtjmiafkkbganlaaWComponentsOf
namespace Go.Proofs.Ytjmiafkkbganlaa.fnExactComponentsOf
open Go.ChangeShapes Go.WideShapes Go.ChangeAt Go.RowKit
open Go.ChangeMaps (open_string shut_string)
set_option linter.unusedVariables false

theorem own : ownKnob Try.prog.godebug = none := by kernel_rfl
theorem laidOut : laidOutB Try.prog = true := by kernel_rfl

theorem walk (N0 : Int) (a0 : Option Addr) (len0 cap0 : Nat) (es0 : List (Int × Int)) (w : World) (wn0 : (Lit.int .i64 N0).wf = true) (el0 : es0.length = len0) (rd0 : Rd w a0 (es0.flatMap fun e => [Value.int .i64 e.1, Value.int .i64 e.2])) (ml0 : len0 ≤ maxLen) (nz0 : a0 = none → len0 = 0 ∧ cap0 = 0) :
    Calls Try.prog 8 #[.agg #[.int .i64 N0, .slice a0 len0 cap0]] w fun e w' => e = .returned (.bool true) ∧ Below w.heap.size w w' := by
  have e1 : IntKind.i64.min = -9223372036854775808 := rfl
  have e2 : IntKind.i64.max = 9223372036854775807 := rfl
  simp only [Lit.wf, Bool.and_eq_true, decide_eq_true_eq] at wn0
  unfold maxLen at ml0
  exact walk_FnExactComponentsOf N0 a0 cap0 len0 es0 w ⟨by omega, by omega⟩ el0 rd0 (by omega)

set_option maxRecDepth 100000 in
theorem lifted (os : Os) (started : os.Started) (H : Type) (enc : TypeId × Value → H) :
    ReturnsInHanded {} Try.checked os 8 .any (Rows.fnExactComponentsOfSpec.pre6 enc Try.prog Try.f8 Rows.fnExactComponentsOfRow.domain false) (Rows.fnExactComponentsOfSpec.post enc Try.prog Try.f8 false true false false) := by
  refine returnsInHanded_of_change (C := Try.checked) own started (by kernel_rfl) Try.func8
    (ChangeSpec.witness6 (enc := enc) (C := Try.checked) false ⟨#[], #[.agg #[.int .i64 0, .slice none 0 0]], []⟩ 8 (by kernel_rfl) (by kernel_rfl) (by kernel_rfl) (by kernel_rfl)) ?_
  intro W base args ds gs before hval0 hW hcnd _
  have hval : ∀ (j : Nat) t v, Try.f8.params[j]? = some t → args[j]? = some v → Value.okWide Try.prog W .any base t v := hval0
  have hW' := hW
  obtain ⟨p, q, hA0, hV, rfl, hfz, hnd⟩ := hW
  have hA : DataW.TrodAll enc Try.prog W 0 (fun _ => true) true Try.f8.params.toList args.toList ds p := hA0
  rw [Try.params8] at hA hval
  obtain ⟨v0, vs0, d0, ds0, p0, q0, hargs, rfl, rfl, h0, r0⟩ := trodAll_cons hA
  obtain ⟨rfl, rfl, rfl⟩ := trodAll_nil r0
  obtain rfl : args = #[v0] := by cases args; simp_all
  obtain ⟨rfl, rfl⟩ := trodVars_none hV
  have k0 := h0
  have lt0 : ∀ x ∈ p0, x.block < W.heap.size := by obtain ⟨m, hm⟩ := k0; exact DataW.trod_lt m _ _ _ hm
  obtain ⟨gc0, gs0, gy0, gz0, gm0, rfl, rfl, rfl, hy0, hz0⟩ := Joins.open_agg2 Try.underlying24 (by kernel_rfl) (by kernel_rfl) (hval 0 24 v0 rfl rfl) h0
  obtain ⟨N0, en0, _, wn0⟩ := DataW.trod_int Try.underlying3 hy0
  simp only [List.cons.injEq, and_true] at en0
  subst en0
  obtain ⟨a0, len0, cap0, es0, rfl, el0, rd0, ml0, nz0⟩ : ∃ (a : Option Addr) (len cap : Nat) (es : List (Int × Int)), gs0 = .slice a len cap ∧ es.length = len ∧ Rd W a (es.flatMap fun e => [Value.int .i64 e.1, Value.int .i64 e.2]) ∧ len ≤ maxLen ∧ (a = none → len = 0 ∧ cap = 0) := by
    rcases Deep.open_slice_pairs Try.underlying22 Try.underlying75 (by kernel_rfl) rfl rfl (by kernel_rfl) (by kernel_rfl) hz0 with ⟨hcs, _⟩ | ⟨x, l, c, m', n', V0, V1, D0, D1, P0, P1, hcs, _, hl, hm, hmm, _, hcell⟩
    · simp only [List.cons.injEq, and_true] at hcs
      exact ⟨none, 0, 0, [], hcs, rfl, rd_none _, by decide, fun _ => ⟨rfl, rfl⟩⟩
    · simp only [List.cons.injEq, and_true] at hcs
      have hlm : l ≤ m' := by rw [hmm]; split <;> omega
      obtain ⟨es, he, hr⟩ := rd_of_pairs (w := W) (x := x) (len := l) (V0 := V0) (V1 := V1) fun i hi => by
        obtain ⟨s0, s1, s2, s3⟩ := hcell i (by omega)
        obtain ⟨z0, r0, _⟩ := DataW.trod_int Try.underlying3 s2
        obtain ⟨z1, r1, _⟩ := DataW.trod_int Try.underlying3 s3
        simp only [List.cons.injEq, and_true] at r0 r1
        exact ⟨s0, s1, ⟨z0, r0⟩, ⟨z1, r1⟩⟩
      exact ⟨some x, l, c, es, hcs, he, hr, by omega, fun h => by cases h⟩
  clear hA0 hval0
  refine (walk N0 a0 len0 cap0 es0 W wn0 el0 rd0 ml0 nz0).mono fun e W' ⟨he, bel⟩ => ?_
  subst he
  exact ⟨_, rfl, _, _, _, [], _, [], hW', trodAll_mk1 (shut_bool Try.underlying4 _), (trodAll_cons_mk (Below.trod laidOut (by kernel_rfl) (of_decide_eq_true (by kernel_rfl)) k0 bel lt0) trodAll_mk0), rfl, bel.frame _, fun h => by cases h⟩

theorem over : Rows.fnExactComponentsOfRow.holds Try.pinned (OpenSpec.ofChange Rows.fnExactComponentsOfSpec) :=
  OpenClaim.holds_of_wide 8 Try.f8 rfl rfl rfl rfl rfl rfl rfl ⟨rfl, rfl, rfl, rfl, rfl⟩ rfl rfl rfl rfl rfl (by kernel_rfl) Try.func8 (by kernel_rfl)
    (of_decide_eq_true (by kernel_rfl)) (by unfold Func.isWrapper; first | (rw [if_pos (by decide +kernel)]; kernel_rfl) | (rw [if_neg (by decide +kernel)]; exact ⟨rfl, rfl⟩))
    (fun os started H enc _ => lifted os started H enc)

theorem proved : Rows.FnExactComponentsOfSaid := over
#print axioms proved
end Go.Proofs.Ytjmiafkkbganlaa.fnExactComponentsOf
