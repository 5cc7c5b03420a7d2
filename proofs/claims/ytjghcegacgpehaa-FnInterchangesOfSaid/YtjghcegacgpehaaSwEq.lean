
/- Equal switches (laws), of equal ones; the sums of a matrix may be margins. -/
import Derived.Test.YtjghcegacgpehaaSwL
import Derived.Laws.StructEq
namespace Go.Proofs.Ytjghcegacgpehaa
open Go.RowKit

theorem Try.fieldsSw : (Try.prog.fieldsOf 60).toList.map (fun f => (f.name, f.type, f.offset)) = [("A", 3, 0), ("B", 3, 1), ("C", 3, 2), ("D", 3, 3)] := by kernel_rfl
@[go_sem] theorem Try.run_neSw (x y z u : Int) (w : World) : (binOp .neq 60 (.agg #[.int .i64 x, .int .i64 y, .int .i64 z, .int .i64 u]) (.agg #[.int .i64 x, .int .i64 y, .int .i64 z, .int .i64 u])).run Try.prog w = .ok (.bool false) w := by
  rw [run_neq_struct, run_equalIn_agg w 9999 60 _ _ (by kernel_rfl) (by kernel_rfl)]
  have h := Try.fieldsSw
  generalize (Try.prog.fieldsOf 60).toList = fs at h
  rcases fs with _ | ⟨f, _ | ⟨g, _ | ⟨k, _ | ⟨l, _ | ⟨q, t⟩⟩⟩⟩⟩
  · simp at h
  · simp at h
  · simp at h
  · simp at h
  · simp only [List.map_cons, List.map_nil, List.cons.injEq, Prod.mk.injEq, and_true] at h
    obtain ⟨⟨h1, h2, h3⟩, ⟨h4, h5, h6⟩, ⟨h7, h8, h9⟩, h10, h11, h12⟩ := h
    have hi : Try.prog.underlying 3 = some (.int .i64) := Try.underlying3
    simp [Op.eqFields, h1, h2, h3, h4, h5, h6, h7, h8, h9, h10, h11, h12, go_sem, hi]
  · simp at h
@[go_sem] theorem Try.neGuardSw (x y : Operand) (xs ys : Array Value) (w : World) : (eqGuard .neq 60 x y (.agg xs) (.agg ys)).run Try.prog w = .ok () w := run_eqGuard_agg _ _ _ _ _ _ _ (by kernel_rfl)

set_option maxHeartbeats 1000000 in
theorem equalSwitches_any (a b : Option Addr) (ca cb n : Nat) (es : List S4) (w : World) (hn : es.length = n) (hx : Rd w a (sws es)) (hy : Rd w b (sws es)) (hl : n ≤ 1000000) :
    Calls Try.prog 50 #[.slice a n ca, .slice b n cb] w fun e w' => e = .returned (.bool true) ∧ Below w.heap.size w w' := by
  go_enter Try.func50, Try.ntmps50
  go_wp2
  go_loopw [5] (fun i wr => ∃ k : Nat, k ≤ n ∧ i = .int .i64 k ∧ Below w.heap.size w wr) (fun i _ => n - (intOf i).toNat)
  case atStart => exact ⟨0, by omega, rfl, Below.refl _ _⟩
  case round =>
    obtain ⟨k, hk, rfl, hb⟩ := hrel
    by_cases hlt : k < n
    · obtain ⟨b1, o1, rfl, c1, c2, c5, c6⟩ := (hx.below hb).sw (k := k) (by omega)
      obtain ⟨b2, o2, rfl, c3, c4, c7, c8⟩ := (hy.below hb).sw (k := k) (by omega)
      generalize (es[k]'(by omega)).1 = X at *
      generalize (es[k]'(by omega)).2.1 = Y at *
      generalize (es[k]'(by omega)).2.2.1 = Z at *
      generalize (es[k]'(by omega)).2.2.2 = V at *
      have d1 := later_cell c1
      have d2 := later_cell c2
      have d3 := later_cell c3
      have d4 := later_cell c4
      have d5 := later_cell c5
      have d6 := later_cell c6
      have d7 := later_cell c7
      have d8 := later_cell c8
      clear c1 c2 c3 c4 c5 c6 c7 c8
      go_wp2
      refine wp_region_flags [true, true, true, true, true, true, true, true, false] 8 (C := fun w' => ∃ u : Later wr, w' = u.val) (by kernel_rfl) (by kernel_rfl) ⟨⟨_, bel_drew (Below.refl _ _)⟩, rfl⟩ ?_
      simp only [pickT, pickF]
      repeat (go_big_quiet_step (fail))
      refine wpQuiet_nil ?_
      clear d1 d2 d3 d4 d5 d6 d7 d8
      refine tail_last fun K hK => ?_
      go_wp2
      go_roundw
      case rel => exact ⟨k + 1, by omega, by go_num, bel_drew hb⟩
      case measure => simp [intOf]; omega
    · go_wp2
      go_ret
      exact ⟨rfl, hb⟩

end Go.Proofs.Ytjghcegacgpehaa
