
/- MatrixGraph on both sides: the graph of a matrix. (Printed by gen_split.py.) -/
import Derived.Test.YtchefkggnncalaaWhich
import Derived.Test.YtchefkggnncalaaSorted
import Derived.Test.YtchefkggnncalaaCopyM
import Derived.Test.YtchefkggnncalaaGrowL
import Derived.Test.YtchefkggnncalaaVMatS
namespace Go.Proofs.Ytchefkggnncalaa
open Go.RowKit

def splitP (n : Nat) (m : List (List Int)) (e : E2) : Bool := decide (e.2 < n) || (decide (e.1 < n) && (at2 m e.1.toNat (e.2 - n).toNat == 1))
def mgOK (m : List (List Int)) : Bool := validM m && decide (m.length + colsOf m ≤ 7)
def mgN (m : List (List Int)) : Int := if mgOK m = true then (m.length : Int) + (colsOf m : Int) else 0
def mgL (m : List (List Int)) : List E2 := if mgOK m = true then (pairsL (m.length + colsOf m)).filter (splitP m.length m) else []
theorem mgL_len (m : List (List Int)) : (mgL m).length ≤ 1000000 := by
  unfold mgL
  split
  · rename_i h
    simp only [mgOK, Bool.and_eq_true, decide_eq_true_eq] at h
    exact Nat.le_trans (List.length_filter_le _ _) (pairsL_len (by omega))
  · simp

theorem enters_split : Enters Try.prog 92 := enters Try.func92 (by kernel_rfl) rfl
set_option maxHeartbeats 1000000 in
theorem split1_any (b1 b2 : Nat) (a : Option Addr) (c n cl : Nat) (m : List (List Int)) (x y : Int) (w : World) (hv : validM m = true) (hn : m.length = n) (hcl : colsOf m = cl)
    (q1 : w.heap[b1]? = some (.cells #[.int .i64 n] 3 (0, 0))) (q2 : w.heap[b2]? = some (.cells #[.slice a n c] 50 (0, 0))) (hx : RdM w a m) (he : 0 ≤ x ∧ x < y ∧ y < (n : Int) + cl) :
    Calls Try.prog 92 (#[.int .i64 x, .int .i64 y] ++ #[.pointer (some ⟨b1, 0, none⟩), .pointer (some ⟨b2, 0, none⟩)]) w fun e w' => e = .returned (.bool (splitP n m (x, y))) ∧ Below w.heap.size w w' := by
  have h5 := validM_cols hv
  rw [hn, hcl] at h5
  have d1 := later_cell (blk_cell q1 0 (.int .i64 n) rfl)
  have d2 := later_cell (blk_cell q2 0 (.slice a n c) rfl)
  by_cases h1 : y < n
  · have HR := Lib.hid (show splitP n m (x, y) = true by simp [splitP, h1])
    have hd1 : decide (y < (n : Int)) = true := by simpa using h1
    clear q1 q2 hx hv
    go_enter Try.func92, Try.ntmps92
    go_wp2
    refine wp_region_later (by kernel_rfl) (by kernel_rfl) ?_
    repeat (go_big_quiet_step (fail))
    refine wpQuiet_nil ?_
    intro w1 hw'
    have hb := later_below hw'
    clear hw' d1 d2
    go_wp2
    go_ret
    exact ⟨ret_bool HR.out.symm, hb⟩
  · have hd1 : decide (y < (n : Int)) = false := by simpa using h1
    by_cases h2 : x < n
    · have hd2 : decide (x < (n : Int)) = true := by simpa using h2
      obtain ⟨xi, rfl⟩ : ∃ xi : Nat, x = xi := ⟨x.toNat, by omega⟩
      obtain ⟨j, hj⟩ : ∃ j : Nat, y - n = j := ⟨(y - n).toNat, by omega⟩
      have HR := Lib.hid (show splitP n m ((xi : Int), y) = (at2 m xi j == 1) by simp [splitP, h1, h2, hj])
      obtain ⟨b, off, bi, oi, ci, ea, c1, c2⟩ := hx.num hv (i := xi) (k := j) (by omega) (by omega)
      subst ea
      rw [hcl] at c1
      have d3 := later_cell c1
      have d4 := later_cell c2
      generalize at2 m xi j = V at *
      have hj0 : 0 ≤ y - n := by omega
      clear q1 q2 hx hv c1 c2
      go_enter Try.func92, Try.ntmps92
      go_wp2
      refine wp_region_later (by kernel_rfl) (by kernel_rfl) ?_
      repeat (go_big_quiet_step (fail))
      refine wpQuiet_nil ?_
      intro w1 hw'
      have hb := later_below hw'
      clear hw' d1 d2 d3 d4
      go_wp2
      go_ret
      exact ⟨ret_bool HR.out.symm, hb⟩
    · have HR := Lib.hid (show splitP n m (x, y) = false by simp [splitP, h1, h2])
      have hd2 : decide (x < (n : Int)) = false := by simpa using h2
      clear q1 q2 hx hv
      go_enter Try.func92, Try.ntmps92
      go_wp2
      refine wp_region_later (by kernel_rfl) (by kernel_rfl) ?_
      repeat (go_big_quiet_step (fail))
      refine wpQuiet_nil ?_
      intro w1 hw'
      have hb := later_below hw'
      clear hw' d1 d2
      go_wp2
      go_ret
      exact ⟨ret_bool HR.out.symm, hb⟩

end Go.Proofs.Ytchefkggnncalaa
