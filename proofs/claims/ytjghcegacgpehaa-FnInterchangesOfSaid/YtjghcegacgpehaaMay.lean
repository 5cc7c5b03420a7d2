
/- Whether an interchange is possible: the reference's mayInterchange and the program's changeable. (Printed by gen_may.py.) -/
import Derived.Test.YtjghcegacgpehaaTrans
namespace Go.Proofs.Ytjghcegacgpehaa
open Go.RowKit

theorem wp_region_later2 {P : Program} {id : Nat} {Q : Exit → Act → World → Prop} {a : Act} {w0 w : World} {l : List Oper} (hb : Below w0.heap.size w0 w) (hm : P.follows .mixedOrders = true) (hB : Region.lexB .any l.toArray = true)
    (h : wpQuiet P l.toArray (fun w' => ∃ u : Later w0, w' = u.val) (fun a' => ∀ w', (∃ u : Later w0, w' = u.val) → Q .normal a' w') l a) : (Code.region id l.toArray true).wp P Q a w :=
  wp_region_quiet (C := fun w' => ∃ u : Later w0, w' = u.val) hm hB ⟨⟨_, bel_drew hb⟩, rfl⟩ (by simpa using h)

def swV (A B C D : Int) : Value := .agg #[.int .i64 A, .int .i64 B, .int .i64 C, .int .i64 D]
def swObj (A B C D : Int) : Obj := .cells #[.int .i64 A, .int .i64 B, .int .i64 C, .int .i64 D] 60
def mayB (m : List (List Int)) (A B C D : Int) : Bool :=
  inR A 0 ((m.length : Int) - 1) && (inR C 0 ((m.length : Int) - 1) && (inR B 0 ((colsOf m : Int) - 1) && (inR D 0 ((colsOf m : Int) - 1) &&
    (at2 m A.toNat B.toNat == 1 && (at2 m C.toNat D.toNat == 1 && (at2 m A.toNat D.toNat == 0 && at2 m C.toNat B.toNat == 0))))))

theorem inRange_eq {n lo hi : Int} {b : Bool} (h : inR n lo hi = b) (w : World) : Calls Try.prog 107 #[.int .i64 n, .int .i64 lo, .int .i64 hi] w fun e w' => e = .returned (.bool b) ∧ w' = w := by
  rw [← h]; exact inRange_any n lo hi w
theorem in_eq {n lo hi : Int} {b : Bool} (h : inR n lo hi = b) (w : World) : Calls Try.prog 90 #[.int .i64 n, .int .i64 lo, .int .i64 hi] w fun e w' => e = .returned (.bool b) ∧ w' = w := by
  rw [← h]; exact in_any n lo hi w

set_option maxHeartbeats 4000000 in
theorem specMay_no (a0 : Option Addr) (b off c n cl c0 : Nat) (A B C D : Int) (w : World) (h1 : 1 ≤ n) (h2 : n ≤ 5) (h3 : 1 ≤ cl) (h4 : cl ≤ 5) (hc : w.cell? ⟨b, off, none⟩ = some (.slice a0 cl c0))
    (hno : (inR A 0 ((n : Int) - 1) && (inR C 0 ((n : Int) - 1) && (inR B 0 ((cl : Int) - 1) && inR D 0 ((cl : Int) - 1)))) = false) :
    Calls Try.prog 174 #[.slice (some ⟨b, off, none⟩) n c, .agg #[.int .i64 A, .int .i64 B, .int .i64 C, .int .i64 D]] w fun e w' => e = .returned (.bool false) ∧ Below w.heap.size w w' := by
  have q0 := heap_alloc_new w (.cells #[.int .i64 A, .int .i64 B, .int .i64 C, .int .i64 D] 60)
  have d0 := later_cell (blk_cell q0 0 (.int .i64 A) rfl)
  have d1 := later_cell (blk_cell q0 1 (.int .i64 B) rfl)
  have d2 := later_cell (blk_cell q0 2 (.int .i64 C) rfl)
  have d3 := later_cell (blk_cell q0 3 (.int .i64 D) rfl)
  clear q0
  have d4 := later_cell ((below_alloc w (.cells #[.int .i64 A, .int .i64 B, .int .i64 C, .int .i64 D] 60)).cell (p := ⟨b, off, none⟩) (Rd.lt hc) |>.trans hc)
  cases i1 : inR A 0 ((n : Int) - 1)
  · clear hno
    go_enter Try.func174, Try.ntmps174
    go_wp2
    refine wp_region_later (by kernel_rfl) (by kernel_rfl) ?_
    simp only [List.append_eq, List.cons_append, List.nil_append]
    repeat (go_big_quiet_step ((go_at_call 107; exact calls_later _ (same_below (inRange_eq (by assumption) _)))))
    refine wpQuiet_nil ?_
    intro w5 hw'
    have hb5 := later_below hw'
    clear hw'
    have hb5 := below_tr' (below_alloc _ _) hb5
    go_wp2
    go_ret
    exact ⟨rfl, hb5⟩
  cases i2 : inR C 0 ((n : Int) - 1)
  · clear hno
    go_enter Try.func174, Try.ntmps174
    go_wp2
    refine wp_region_later (by kernel_rfl) (by kernel_rfl) ?_
    simp only [List.append_eq, List.cons_append, List.nil_append]
    repeat (go_big_quiet_step ((go_at_call 107; exact calls_later _ (same_below (inRange_eq (by assumption) _)))))
    refine wpQuiet_nil ?_
    intro w5 hw'
    have hb5 := later_below hw'
    clear hw'
    have hb5 := below_tr' (below_alloc _ _) hb5
    go_wp2
    go_ret
    exact ⟨rfl, hb5⟩
  cases i3 : inR B 0 ((cl : Int) - 1)
  · clear hno
    go_enter Try.func174, Try.ntmps174
    go_wp2
    refine wp_region_later (by kernel_rfl) (by kernel_rfl) ?_
    simp only [List.append_eq, List.cons_append, List.nil_append]
    repeat (go_big_quiet_step ((go_at_call 107; exact calls_later _ (same_below (inRange_eq (by assumption) _)))))
    refine wpQuiet_nil ?_
    intro w5 hw'
    have hb5 := later_below hw'
    clear hw'
    have hb5 := below_tr' (below_alloc _ _) hb5
    go_wp2
    go_ret
    exact ⟨rfl, hb5⟩
  have i4 : inR D 0 ((cl : Int) - 1) = false := by rw [i1, i2, i3] at hno; simpa using hno
  clear hno
  go_enter Try.func174, Try.ntmps174
  go_wp2
  refine wp_region_later (by kernel_rfl) (by kernel_rfl) ?_
  simp only [List.append_eq, List.cons_append, List.nil_append]
  repeat (go_big_quiet_step ((go_at_call 107; exact calls_later _ (same_below (inRange_eq (by assumption) _)))))
  refine wpQuiet_nil ?_
  intro w5 hw'
  have hb5 := later_below hw'
  clear hw'
  have hb5 := below_tr' (below_alloc _ _) hb5
  go_wp2
  go_ret
  exact ⟨rfl, hb5⟩

end Go.Proofs.Ytjghcegacgpehaa
