
/- Whether an interchange is possible: the program's changeable. (Printed by gen_may.py.) -/
import Derived.Test.YtjghcegacgpehaaMay
namespace Go.Proofs.Ytjghcegacgpehaa
open Go.RowKit

set_option maxHeartbeats 4000000 in
theorem implMay_no (a0 : Option Addr) (b off c n cl c0 : Nat) (A B C D : Int) (w : World) (h1 : 1 ≤ n) (h2 : n ≤ 5) (h3 : 1 ≤ cl) (h4 : cl ≤ 5) (hc : w.cell? ⟨b, off, none⟩ = some (.slice a0 cl c0))
    (hno : (inR A 0 ((n : Int) - 1) && (inR C 0 ((n : Int) - 1) && (inR B 0 ((cl : Int) - 1) && inR D 0 ((cl : Int) - 1)))) = false) :
    Calls Try.prog 121 #[.slice (some ⟨b, off, none⟩) n c, .agg #[.int .i64 A, .int .i64 B, .int .i64 C, .int .i64 D]] w fun e w' => e = .returned (.bool false) ∧ Below w.heap.size w w' := by
  have q0 := heap_alloc_new w (.cells #[.int .i64 A, .int .i64 B, .int .i64 C, .int .i64 D] 60)
  have d0 := later_cell (blk_cell q0 0 (.int .i64 A) rfl)
  have d1 := later_cell (blk_cell q0 1 (.int .i64 B) rfl)
  have d2 := later_cell (blk_cell q0 2 (.int .i64 C) rfl)
  have d3 := later_cell (blk_cell q0 3 (.int .i64 D) rfl)
  clear q0
  have d4 := later_cell ((below_alloc w (.cells #[.int .i64 A, .int .i64 B, .int .i64 C, .int .i64 D] 60)).cell (p := ⟨b, off, none⟩) (Rd.lt hc) |>.trans hc)
  cases i1 : inR A 0 ((n : Int) - 1)
  · clear hno
    go_enter Try.func121, Try.ntmps121
    go_wp2
    refine wp_region_later (by kernel_rfl) (by kernel_rfl) ?_
    repeat (go_big_quiet_step (fail))
    refine wpQuiet_nil ?_
    intro w5 hw'
    have hb5 := later_below hw'
    clear hw'
    go_wp2
    refine wp_region_later2 hb5 (by kernel_rfl) (by kernel_rfl) ?_
    simp only [List.append_eq, List.cons_append, List.nil_append]
    repeat (go_big_quiet_step ((go_at_call 90; exact calls_later _ (same_below (in_eq (by assumption) _)))))
    refine wpQuiet_nil ?_
    intro w6 hw'
    have hb5 := later_below hw'
    clear hw'
    have hb5 := below_tr' (below_alloc _ _) hb5
    go_wp2
    go_ret
    exact ⟨rfl, hb5⟩
  cases i2 : inR C 0 ((n : Int) - 1)
  · clear hno
    go_enter Try.func121, Try.ntmps121
    go_wp2
    refine wp_region_later (by kernel_rfl) (by kernel_rfl) ?_
    repeat (go_big_quiet_step (fail))
    refine wpQuiet_nil ?_
    intro w5 hw'
    have hb5 := later_below hw'
    clear hw'
    go_wp2
    refine wp_region_later2 hb5 (by kernel_rfl) (by kernel_rfl) ?_
    simp only [List.append_eq, List.cons_append, List.nil_append]
    repeat (go_big_quiet_step ((go_at_call 90; exact calls_later _ (same_below (in_eq (by assumption) _)))))
    refine wpQuiet_nil ?_
    intro w6 hw'
    have hb5 := later_below hw'
    clear hw'
    have hb5 := below_tr' (below_alloc _ _) hb5
    go_wp2
    go_ret
    exact ⟨rfl, hb5⟩
  cases i3 : inR B 0 ((cl : Int) - 1)
  · clear hno
    go_enter Try.func121, Try.ntmps121
    go_wp2
    refine wp_region_later (by kernel_rfl) (by kernel_rfl) ?_
    repeat (go_big_quiet_step (fail))
    refine wpQuiet_nil ?_
    intro w5 hw'
    have hb5 := later_below hw'
    clear hw'
    go_wp2
    refine wp_region_later2 hb5 (by kernel_rfl) (by kernel_rfl) ?_
    simp only [List.append_eq, List.cons_append, List.nil_append]
    repeat (go_big_quiet_step ((go_at_call 90; exact calls_later _ (same_below (in_eq (by assumption) _)))))
    refine wpQuiet_nil ?_
    intro w6 hw'
    have hb5 := later_below hw'
    clear hw'
    have hb5 := below_tr' (below_alloc _ _) hb5
    go_wp2
    go_ret
    exact ⟨rfl, hb5⟩
  have i4 : inR D 0 ((cl : Int) - 1) = false := by rw [i1, i2, i3] at hno; simpa using hno
  clear hno
  go_enter Try.func121, Try.ntmps121
  go_wp2
  refine wp_region_later (by kernel_rfl) (by kernel_rfl) ?_
  repeat (go_big_quiet_step (fail))
  refine wpQuiet_nil ?_
  intro w5 hw'
  have hb5 := later_below hw'
  clear hw'
  go_wp2
  refine wp_region_later2 hb5 (by kernel_rfl) (by kernel_rfl) ?_
  simp only [List.append_eq, List.cons_append, List.nil_append]
  repeat (go_big_quiet_step ((go_at_call 90; exact calls_later _ (same_below (in_eq (by assumption) _)))))
  refine wpQuiet_nil ?_
  intro w6 hw'
  have hb5 := later_below hw'
  clear hw'
  have hb5 := below_tr' (below_alloc _ _) hb5
  go_wp2
  go_ret
  exact ⟨rfl, hb5⟩

set_option maxHeartbeats 8000000 in
theorem implMay_in (b off c n cl : Nat) (a0 : Option Addr) (c0 : Nat) (ai bi ci di : Nat) (ga oa ca gc oc cc : Nat) (X1 X2 X3 X4 : Int) (w : World) (h1 : 1 ≤ n) (h2 : n ≤ 5) (h3 : 1 ≤ cl) (h4 : cl ≤ 5) (hai : ai < n) (hci : ci < n) (hbi : bi < cl) (hdi : di < cl)
    (hc : w.cell? ⟨b, off, none⟩ = some (.slice a0 cl c0)) (hra : w.cell? ⟨b, off + ai, none⟩ = some (.slice (some ⟨ga, oa, none⟩) cl ca)) (hrc : w.cell? ⟨b, off + ci, none⟩ = some (.slice (some ⟨gc, oc, none⟩) cl cc))
    (x1 : w.cell? ⟨ga, oa + bi, none⟩ = some (.int .i64 X1)) (x2 : w.cell? ⟨gc, oc + di, none⟩ = some (.int .i64 X2)) (x3 : w.cell? ⟨ga, oa + di, none⟩ = some (.int .i64 X3)) (x4 : w.cell? ⟨gc, oc + bi, none⟩ = some (.int .i64 X4)) :
    Calls Try.prog 121 #[.slice (some ⟨b, off, none⟩) n c, .agg #[.int .i64 ai, .int .i64 bi, .int .i64 ci, .int .i64 di]] w fun e w' => e = .returned (.bool (X1 == 1 && (X2 == 1 && (X3 == 0 && X4 == 0)))) ∧ Below w.heap.size w w' := by
  have i1 : inR (ai : Int) 0 ((n : Int) - 1) = true := inR_true.2 ⟨by omega, by omega⟩
  have i2 : inR (ci : Int) 0 ((n : Int) - 1) = true := inR_true.2 ⟨by omega, by omega⟩
  have i3 : inR (bi : Int) 0 ((cl : Int) - 1) = true := inR_true.2 ⟨by omega, by omega⟩
  have i4 : inR (di : Int) 0 ((cl : Int) - 1) = true := inR_true.2 ⟨by omega, by omega⟩
  have q0 := heap_alloc_new w (.cells #[.int .i64 (ai : Int), .int .i64 (bi : Int), .int .i64 (ci : Int), .int .i64 (di : Int)] 60)
  have d0 := later_cell (blk_cell q0 0 (.int .i64 (ai : Int)) rfl)
  have d1 := later_cell (blk_cell q0 1 (.int .i64 (bi : Int)) rfl)
  have d2 := later_cell (blk_cell q0 2 (.int .i64 (ci : Int)) rfl)
  have d3 := later_cell (blk_cell q0 3 (.int .i64 (di : Int)) rfl)
  clear q0
  have hbx := below_alloc w (.cells #[.int .i64 (ai : Int), .int .i64 (bi : Int), .int .i64 (ci : Int), .int .i64 (di : Int)] 60)
  have d4 := later_cell ((hbx.cell (p := ⟨b, off, none⟩) (Rd.lt hc)).trans hc)
  have d5 := later_cell ((hbx.cell (p := ⟨b, off + ai, none⟩) (Rd.lt hra)).trans hra)
  have d6 := later_cell ((hbx.cell (p := ⟨b, off + ci, none⟩) (Rd.lt hrc)).trans hrc)
  have d7 := later_cell ((hbx.cell (p := ⟨ga, oa + bi, none⟩) (Rd.lt x1)).trans x1)
  have d8 := later_cell ((hbx.cell (p := ⟨gc, oc + di, none⟩) (Rd.lt x2)).trans x2)
  have d9 := later_cell ((hbx.cell (p := ⟨ga, oa + di, none⟩) (Rd.lt x3)).trans x3)
  have d10 := later_cell ((hbx.cell (p := ⟨gc, oc + bi, none⟩) (Rd.lt x4)).trans x4)
  clear hbx
  cases y1 : (X1 == 1)
  · simp only [Bool.false_and]
    go_enter Try.func121, Try.ntmps121
    go_wp2
    refine wp_region_later (by kernel_rfl) (by kernel_rfl) ?_
    repeat (go_big_quiet_step (fail))
    refine wpQuiet_nil ?_
    intro w5 hw'
    have hb5 := later_below hw'
    clear hw'
    go_wp2
    refine wp_region_later2 hb5 (by kernel_rfl) (by kernel_rfl) ?_
    simp only [List.append_eq, List.cons_append, List.nil_append]
    repeat (go_big_quiet_step ((go_at_call 90; exact calls_later _ (same_below (in_eq (by assumption) _)))))
    refine wpQuiet_nil ?_
    intro w6 hw'
    have hb5 := later_below hw'
    clear hw'
    have hb5 := below_tr' (below_alloc _ _) hb5
    go_wp2
    go_ret
    exact ⟨rfl, hb5⟩
  cases y2 : (X2 == 1)
  · simp only [Bool.false_and, Bool.true_and]
    go_enter Try.func121, Try.ntmps121
    go_wp2
    refine wp_region_later (by kernel_rfl) (by kernel_rfl) ?_
    repeat (go_big_quiet_step (fail))
    refine wpQuiet_nil ?_
    intro w5 hw'
    have hb5 := later_below hw'
    clear hw'
    go_wp2
    refine wp_region_later2 hb5 (by kernel_rfl) (by kernel_rfl) ?_
    simp only [List.append_eq, List.cons_append, List.nil_append]
    repeat (go_big_quiet_step ((go_at_call 90; exact calls_later _ (same_below (in_eq (by assumption) _)))))
    refine wpQuiet_nil ?_
    intro w6 hw'
    have hb5 := later_below hw'
    clear hw'
    have hb5 := below_tr' (below_alloc _ _) hb5
    go_wp2
    go_ret
    exact ⟨rfl, hb5⟩
  cases y3 : (X3 == 0)
  · simp only [Bool.false_and, Bool.true_and]
    go_enter Try.func121, Try.ntmps121
    go_wp2
    refine wp_region_later (by kernel_rfl) (by kernel_rfl) ?_
    repeat (go_big_quiet_step (fail))
    refine wpQuiet_nil ?_
    intro w5 hw'
    have hb5 := later_below hw'
    clear hw'
    go_wp2
    refine wp_region_later2 hb5 (by kernel_rfl) (by kernel_rfl) ?_
    simp only [List.append_eq, List.cons_append, List.nil_append]
    repeat (go_big_quiet_step ((go_at_call 90; exact calls_later _ (same_below (in_eq (by assumption) _)))))
    refine wpQuiet_nil ?_
    intro w6 hw'
    have hb5 := later_below hw'
    clear hw'
    have hb5 := below_tr' (below_alloc _ _) hb5
    go_wp2
    go_ret
    exact ⟨rfl, hb5⟩
  cases y4 : (X4 == 0)
  · simp only [Bool.true_and]
    go_enter Try.func121, Try.ntmps121
    go_wp2
    refine wp_region_later (by kernel_rfl) (by kernel_rfl) ?_
    repeat (go_big_quiet_step (fail))
    refine wpQuiet_nil ?_
    intro w5 hw'
    have hb5 := later_below hw'
    clear hw'
    go_wp2
    refine wp_region_later2 hb5 (by kernel_rfl) (by kernel_rfl) ?_
    simp only [List.append_eq, List.cons_append, List.nil_append]
    repeat (go_big_quiet_step ((go_at_call 90; exact calls_later _ (same_below (in_eq (by assumption) _)))))
    refine wpQuiet_nil ?_
    intro w6 hw'
    have hb5 := later_below hw'
    clear hw'
    have hb5 := below_tr' (below_alloc _ _) hb5
    go_wp2
    go_ret
    exact ⟨rfl, hb5⟩
  simp only [Bool.true_and]
  go_enter Try.func121, Try.ntmps121
  go_wp2
  refine wp_region_later (by kernel_rfl) (by kernel_rfl) ?_
  repeat (go_big_quiet_step (fail))
  refine wpQuiet_nil ?_
  intro w5 hw'
  have hb5 := later_below hw'
  clear hw'
  go_wp2
  refine wp_region_later2 hb5 (by kernel_rfl) (by kernel_rfl) ?_
  simp only [List.append_eq, List.cons_append, List.nil_append]
  repeat (go_big_quiet_step ((go_at_call 90; exact calls_later _ (same_below (in_eq (by assumption) _)))))
  refine wpQuiet_nil ?_
  intro w6 hw'
  have hb5 := later_below hw'
  clear hw'
  have hb5 := below_tr' (below_alloc _ _) hb5
  go_wp2
  go_ret
  exact ⟨rfl, hb5⟩

theorem implMay_any (a : Option Addr) (c n : Nat) (m : List (List Int)) (A B C D : Int) (w : World) (hv : validM m = true) (hn : m.length = n) (hx : RdM w a m) :
    Calls Try.prog 121 #[.slice a n c, .agg #[.int .i64 A, .int .i64 B, .int .i64 C, .int .i64 D]] w fun e w' => e = .returned (.bool (mayB m A B C D)) ∧ Below w.heap.size w w' := by
  have h5 := validM_cols hv
  obtain ⟨b, off, a0, c0, rfl, hc⟩ := hx.first hv
  cases hr : (inR A 0 ((m.length : Int) - 1) && (inR C 0 ((m.length : Int) - 1) && (inR B 0 ((colsOf m : Int) - 1) && inR D 0 ((colsOf m : Int) - 1))))
  · have e : mayB m A B C D = false := by
      unfold mayB
      rw [← Bool.and_assoc, ← Bool.and_assoc, ← Bool.and_assoc]
      rw [← Bool.and_assoc, ← Bool.and_assoc] at hr
      rw [hr, Bool.false_and]
    rw [e]
    subst hn
    exact implMay_no a0 b off c m.length (colsOf m) c0 A B C D w (by omega) (by omega) (by omega) (by omega) hc hr
  · simp only [Bool.and_eq_true, inR_true] at hr
    obtain ⟨ai, rfl⟩ : ∃ i : Nat, A = i := ⟨A.toNat, by omega⟩
    obtain ⟨bi, rfl⟩ : ∃ i : Nat, B = i := ⟨B.toNat, by omega⟩
    obtain ⟨ci, rfl⟩ : ∃ i : Nat, C = i := ⟨C.toNat, by omega⟩
    obtain ⟨di, rfl⟩ : ∃ i : Nat, D = i := ⟨D.toNat, by omega⟩
    have hai : ai < m.length := by omega
    have hci : ci < m.length := by omega
    have hbi : bi < colsOf m := by omega
    have hdi : di < colsOf m := by omega
    obtain ⟨b1, off1, aa, ca, e1, hra, hda, _⟩ := hx ai hai
    cases e1
    obtain ⟨b1, off1, ac, cc, e1, hrc, hdc, _⟩ := hx ci hci
    cases e1
    have la := (validM_row hv hai).1
    have lc := (validM_row hv hci).1
    have la' : (m[ai]'hai).length = colsOf m := la
    have lc' : (m[ci]'hci).length = colsOf m := lc
    obtain ⟨ga, oa, e1, x1⟩ := hda.int (k := bi) (by rw [la']; exact hbi)
    subst e1
    obtain ⟨ga', oa', e1, x3⟩ := hda.int (k := di) (by rw [la']; exact hdi)
    cases e1
    obtain ⟨gc, oc, e1, x2⟩ := hdc.int (k := di) (by rw [lc']; exact hdi)
    subst e1
    obtain ⟨gc', oc', e1, x4⟩ := hdc.int (k := bi) (by rw [lc']; exact hbi)
    cases e1
    rw [← at2_get hai] at x1 x3
    rw [← at2_get hci] at x2 x4
    rw [la'] at hra
    rw [lc'] at hrc
    have e : mayB m ai bi ci di = (at2 m ai bi == 1 && (at2 m ci di == 1 && (at2 m ai di == 0 && at2 m ci bi == 0))) := by
      unfold mayB
      rw [inR_true.2 ⟨by omega, by omega⟩, inR_true.2 ⟨by omega, by omega⟩, inR_true.2 ⟨by omega, by omega⟩, inR_true.2 ⟨by omega, by omega⟩]
      simp only [Bool.true_and, Int.toNat_natCast]
    rw [e]
    subst hn
    exact implMay_in b off c m.length (colsOf m) a0 c0 ai bi ci di ga oa ca gc oc cc _ _ _ _ w (by omega) (by omega) (by omega) (by omega) hai hci hbi hdi hc hra hrc x1 x2 x3 x4

end Go.Proofs.Ytjghcegacgpehaa
