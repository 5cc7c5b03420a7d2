
/- TurnTriangle, the program's. (Printed by gen_turn.py.) -/
import Derived.Test.YtbhhapbocnlblaaTurn
namespace Go.Proofs.Ytbhhapbocnlblaa
open Go.RowKit

def pick3 (a b c k : Nat) : Nat := match k with | 0 => a | 1 => b | _ => c
def turnK (m : List (List Int)) (a b c : Nat) : Nat → List (List Int)
  | 0 => m
  | k + 1 => set2 (set2 (turnK m a b c k) (pick3 a b c k) (pick3 b c a k) 0) (pick3 b c a k) (pick3 a b c k) 1
theorem turnK_succ (m : List (List Int)) (a b c k : Nat) : turnK m a b c (k + 1) = set2 (set2 (turnK m a b c k) (pick3 a b c k) (pick3 b c a k) 0) (pick3 b c a k) (pick3 a b c k) 1 := rfl
theorem turnK_rect {m : List (List Int)} {n cl : Nat} (h : Rect m n cl) (a b c k : Nat) : Rect (turnK m a b c k) n cl := by
  induction k with
  | zero => exact h
  | succ k ih => exact (ih.set2 _ _ _).set2 _ _ _
theorem pick3_lt {a b c k n : Nat} (ha : a < n) (hb : b < n) (hc : c < n) : pick3 a b c k < n := by
  unfold pick3; split <;> assumption
theorem edge3 {w : World} {Z a b c k : Nat} (q : w.heap[Z]? = some (.cells #[.int .i64 (a : Int), .int .i64 (b : Int), .int .i64 (b : Int), .int .i64 (c : Int), .int .i64 (c : Int), .int .i64 (a : Int)] 61 (0, 0))) (hk : k < 3) :
    w.cell? ⟨Z, k * 2, none⟩ = some (.int .i64 (pick3 a b c k)) ∧ w.cell? ⟨Z, k * 2 + 1, none⟩ = some (.int .i64 (pick3 b c a k)) := by
  obtain rfl | rfl | rfl : k = 0 ∨ k = 1 ∨ k = 2 := by omega
  · exact ⟨blk_cell q 0 _ rfl, blk_cell q 1 _ rfl⟩
  · exact ⟨blk_cell q 2 _ rfl, blk_cell q 3 _ rfl⟩
  · exact ⟨blk_cell q 4 _ rfl, blk_cell q 5 _ rfl⟩
theorem own_edge_ne {w : World} {B g n c cl Z : Nat} {rs : List At} {m : List (List Int)} {o : Array Value} {f : Nat × Nat} (h : OwnM w B (some ⟨g, 0, none⟩) n c rs m) (hr : Rect m n cl) (hcl : 0 < cl) {i : Nat} (hi : i < n) (q : w.heap[Z]? = some (.cells o 61 f)) : rowB rs i ≠ Z := by
  obtain ⟨_, _, _, _, ho⟩ := h.rowAt hr hcl hi
  have := own_ne ho q (by decide)
  rintro rfl
  simp [Value.ownBlock] at this

/-- The triangle's players as a row, just made. -/
theorem row3 (A B C : Int) (w1 : World) : Rd (w1.alloc (.cells #[.int .i64 A, .int .i64 B, .int .i64 C] 3)) (some ⟨w1.heap.size, 0, none⟩) (ints [A, B, C]) := by
  have h := World.ownsRow_lit (base := w1.heap.size) (e := 3) (size := 1) w1 #[.int .i64 A, .int .i64 B, .int .i64 C] 3 (Nat.le_refl _) (by decide) rfl
  exact own_rd h

set_option maxHeartbeats 4000000 in
theorem implTurn_any (a : Option Addr) (c n : Nat) (m : List (List Int)) (A B C : Int) (w : World) (hn : m.length = n) (hx : RdM w a m) (hl : n + sumLen m ≤ 1048576) :
    Calls Try.prog 41 #[.slice a n c, .int .i64 A, .int .i64 B, .int .i64 C] w fun e w' => ∃ a' c' rs, e = .returned (.tuple #[.slice a' (turnL m A B C).length c', .bool (turnOK m A B C)]) ∧ OwnM w' w.heap.size a' (turnL m A B C).length c' rs (turnL m A B C) ∧ Below w.heap.size w w' := by
  have C1 := implValidTournament_any a c n m w hn hx hl
  cases hv : tourB m
  · rw [hv] at C1
    have HO := Lib.hid (show turnOK m A B C = false by simp [turnOK, hv])
    have HR := Lib.hid (turn_no HO.out)
    clear hv hx
    go_enter Try.func41, Try.ntmps41
    go_wp2_with fail
    refine C1.mono ?_
    rintro e w1 ⟨rfl, hb⟩
    clear C1
    go_wp2
    go_ret2
    exact ⟨none, 0, [], by rw [HR.out, HO.out]; rfl, by rw [HR.out]; exact ownM_none _ _, hb⟩
  rw [hv] at C1
  have h0 := tourB_valid hv
  have h5 := validM_cols h0.1
  rw [hn] at h5
  have HAI := Lib.hid (fun w1 : World => allIn_any (some ⟨w1.heap.size, 0, none⟩) 3 3 [A, B, C] 0 ((n : Int) - 1) _ rfl (row3 A B C w1) (by omega))
  rw [allR3] at HAI
  cases q : turnR n A B C
  · have HO := Lib.hid (show turnOK m A B C = false by simp [turnOK, hn, q])
    have HR := Lib.hid (turn_no HO.out)
    rw [q] at HAI
    clear hv hx h0 q
    go_enter Try.func41, Try.ntmps41
    go_wp2_with fail
    refine C1.mono ?_
    rintro e w1 ⟨rfl, hb⟩
    clear C1
    go_wp2_with fail
    refine (HAI.out w1).mono ?_
    rintro e w2 ⟨rfl, hb2⟩
    have hb := below_tr' (below_tr' hb (below_alloc w1 _)) hb2
    clear HAI hb2
    go_wp2
    go_ret2
    exact ⟨none, 0, [], by rw [HR.out, HO.out]; rfl, by rw [HR.out]; exact ownM_none _ _, hb⟩
  rw [q] at HAI
  obtain ⟨q1, q2, q3⟩ : inR A 0 ((n : Int) - 1) = true ∧ inR B 0 ((n : Int) - 1) = true ∧ inR C 0 ((n : Int) - 1) = true := by simpa [turnR] using q
  clear q
  have e1 := inR_true.1 q1
  have e2 := inR_true.1 q2
  have e3 := inR_true.1 q3
  obtain ⟨ai, rfl⟩ : ∃ i : Nat, A = i := ⟨A.toNat, by omega⟩
  obtain ⟨bi, rfl⟩ : ∃ i : Nat, B = i := ⟨B.toNat, by omega⟩
  obtain ⟨ci, rfl⟩ : ∃ i : Nat, C = i := ⟨C.toNat, by omega⟩
  have hai : ai < n := by omega
  have hbi : bi < n := by omega
  have hci : ci < n := by omega
  have HQ := Lib.hid (show turnOK m ai bi ci = (at2 m ai bi == 1 && (at2 m bi ci == 1 && at2 m ci ai == 1)) by simp [turnOK, turnR, hn, hv, q1, q2, q3])
  have HT := Lib.hid (fun (w1 : World) (hb : Below w.heap.size w w1) (i k : Nat) (hi : i < n) (hk : k < n) => turn_cells (hx.below hb) hv hn hi hk)
  have hRect := rect_of h0.1
  rw [h0.2, hn] at hRect
  have R0 := Lib.hid hRect
  have HCP := Lib.hid (fun (w1 : World) (hb : Below w.heap.size w w1) => copyTable_any a c n m w1 h0.1 hn (hx.below hb))
  clear hx hRect
  clear e1 e2 e3 h0 hv q1 q2 q3
  obtain ⟨b, off, g1, o1, k1, e1, c1, x1⟩ := HT.out w (Below.refl _ _) ai bi hai hbi
  subst e1
  obtain ⟨b', off', g2, o2, k2, e1, c2, x2⟩ := HT.out w (Below.refl _ _) bi ci hbi hci
  cases e1
  obtain ⟨b', off', g3, o3, k3, e1, c3, x3⟩ := HT.out w (Below.refl _ _) ci ai hci hai
  cases e1
  have K1 := Lib.hid (fun (w1 : World) (hb : Below w.heap.size w w1) => (hb.cell (p := ⟨b, off + ai, none⟩) (Rd.lt c1)).trans c1)
  have K2 := Lib.hid (fun (w1 : World) (hb : Below w.heap.size w w1) => (hb.cell (p := ⟨b, off + bi, none⟩) (Rd.lt c2)).trans c2)
  have K3 := Lib.hid (fun (w1 : World) (hb : Below w.heap.size w w1) => (hb.cell (p := ⟨b, off + ci, none⟩) (Rd.lt c3)).trans c3)
  have K4 := Lib.hid (fun (w1 : World) (hb : Below w.heap.size w w1) => (hb.cell (p := ⟨g1, o1 + bi, none⟩) (Rd.lt x1)).trans x1)
  have K5 := Lib.hid (fun (w1 : World) (hb : Below w.heap.size w w1) => (hb.cell (p := ⟨g2, o2 + ci, none⟩) (Rd.lt x2)).trans x2)
  have K6 := Lib.hid (fun (w1 : World) (hb : Below w.heap.size w w1) => (hb.cell (p := ⟨g3, o3 + ai, none⟩) (Rd.lt x3)).trans x3)
  clear c1 c2 c3 x1 x2 x3 HT
  generalize at2 m ai bi = X1 at *
  generalize at2 m bi ci = X2 at *
  generalize at2 m ci ai = X3 at *
  cases y1 : (X1 == 1)
  · have z1 : (X1 != 1) = true := by simpa [bne] using y1
    have HO := Lib.hid (show turnOK m ai bi ci = false by rw [HQ.out, y1]; rfl)
    have HR := Lib.hid (turn_no HO.out)
    clear y1
    go_enter Try.func41, Try.ntmps41
    go_wp2_with fail
    refine C1.mono ?_
    rintro e w1 ⟨rfl, hb⟩
    clear C1
    go_wp2_with fail
    refine (HAI.out w1).mono ?_
    rintro e w2 ⟨rfl, hb2⟩
    have hb := below_tr' (below_tr' hb (below_alloc w1 _)) hb2
    clear HAI hb2
    have c1 := K1.out _ hb
    have c2 := K2.out _ hb
    have c3 := K3.out _ hb
    have x1 := K4.out _ hb
    have x2 := K5.out _ hb
    have x3 := K6.out _ hb
    go_wp2
    go_ret2
    exact ⟨none, 0, [], by rw [HR.out, HO.out]; rfl, by rw [HR.out]; exact ownM_none _ _, hb⟩
  cases y2 : (X2 == 1)
  · have z2 : (X2 != 1) = true := by simpa [bne] using y2
    have z1 : (X1 != 1) = false := by simpa [bne] using y1
    have HO := Lib.hid (show turnOK m ai bi ci = false by rw [HQ.out, y1, y2]; rfl)
    have HR := Lib.hid (turn_no HO.out)
    clear y1 y2
    go_enter Try.func41, Try.ntmps41
    go_wp2_with fail
    refine C1.mono ?_
    rintro e w1 ⟨rfl, hb⟩
    clear C1
    go_wp2_with fail
    refine (HAI.out w1).mono ?_
    rintro e w2 ⟨rfl, hb2⟩
    have hb := below_tr' (below_tr' hb (below_alloc w1 _)) hb2
    clear HAI hb2
    have c1 := K1.out _ hb
    have c2 := K2.out _ hb
    have c3 := K3.out _ hb
    have x1 := K4.out _ hb
    have x2 := K5.out _ hb
    have x3 := K6.out _ hb
    go_wp2
    go_ret2
    exact ⟨none, 0, [], by rw [HR.out, HO.out]; rfl, by rw [HR.out]; exact ownM_none _ _, hb⟩
  cases y3 : (X3 == 1)
  · have z3 : (X3 != 1) = true := by simpa [bne] using y3
    have z1 : (X1 != 1) = false := by simpa [bne] using y1
    have z2 : (X2 != 1) = false := by simpa [bne] using y2
    have HO := Lib.hid (show turnOK m ai bi ci = false by rw [HQ.out, y1, y2, y3]; rfl)
    have HR := Lib.hid (turn_no HO.out)
    clear y1 y2 y3
    go_enter Try.func41, Try.ntmps41
    go_wp2_with fail
    refine C1.mono ?_
    rintro e w1 ⟨rfl, hb⟩
    clear C1
    go_wp2_with fail
    refine (HAI.out w1).mono ?_
    rintro e w2 ⟨rfl, hb2⟩
    have hb := below_tr' (below_tr' hb (below_alloc w1 _)) hb2
    clear HAI hb2
    have c1 := K1.out _ hb
    have c2 := K2.out _ hb
    have c3 := K3.out _ hb
    have x1 := K4.out _ hb
    have x2 := K5.out _ hb
    have x3 := K6.out _ hb
    go_wp2
    go_ret2
    exact ⟨none, 0, [], by rw [HR.out, HO.out]; rfl, by rw [HR.out]; exact ownM_none _ _, hb⟩
  have z1 : (X1 != 1) = false := by simpa [bne] using y1
  have z2 : (X2 != 1) = false := by simpa [bne] using y2
  have z3 : (X3 != 1) = false := by simpa [bne] using y3
  have HO := Lib.hid (show turnOK m ai bi ci = true by rw [HQ.out, y1, y2, y3]; rfl)
  clear y1 y2 y3
  go_enter Try.func41, Try.ntmps41
  go_wp2_with fail
  refine C1.mono ?_
  rintro e w1 ⟨rfl, hb⟩
  clear C1
  go_wp2_with fail
  refine (HAI.out w1).mono ?_
  rintro e w2 ⟨rfl, hb2⟩
  have hb := below_tr' (below_tr' hb (below_alloc w1 _)) hb2
  clear HAI hb2
  have c1 := K1.out _ hb
  have c2 := K2.out _ hb
  have c3 := K3.out _ hb
  have x1 := K4.out _ hb
  have x2 := K5.out _ hb
  have x3 := K6.out _ hb
  have C2 := HCP.out w2 hb
  have hB0 : w.heap.size ≤ w2.heap.size := hb.size
  clear HCP
  go_wp2_with fail
  refine C2.mono ?_
  rintro e w3 ⟨g, rs, rfl, hM, hb2⟩
  have HB := below_tr' hb hb2
  clear C2 hb2 c1 c2 c3 x1 x2 x3 z1 z2 z3
  have hIL : turnL m ai bi ci = turnM m ai bi ci := by simp [turnL, HO.out]
  have HR := Lib.hid hIL
  have HLN := Lib.hid (show (turnM m ai bi ci).length = n from (turn_rect R0.out _ _ _).1)
  clear hIL
  have q0 := heap_alloc_new w3 (.cells #[.int .i64 (ai : Int), .int .i64 (bi : Int), .int .i64 (bi : Int), .int .i64 (ci : Int), .int .i64 (ci : Int), .int .i64 (ai : Int)] 61)
  have ha := below_alloc w3 (.cells #[.int .i64 (ai : Int), .int .i64 (bi : Int), .int .i64 (bi : Int), .int .i64 (ci : Int), .int .i64 (ci : Int), .int .i64 (ai : Int)] 61)
  have hM := hM.below ha
  have HB := below_tr' HB ha
  clear ha
  go_wp2
  generalize hV : w3.alloc (.cells #[.int .i64 (ai : Int), .int .i64 (bi : Int), .int .i64 (bi : Int), .int .i64 (ci : Int), .int .i64 (ci : Int), .int .i64 (ai : Int)] 61) = w4 at *
  obtain ⟨Z, hZ⟩ : ∃ Z, Z = w3.heap.size := ⟨_, rfl⟩
  rw [← hZ] at q0 ⊢
  clear hV hZ
  have HM0 := Lib.hid hM
  have HQ0 := Lib.hid q0
  have HB0 := Lib.hid HB
  clear hM q0 HB
  go_loopw [12, 70] (fun _ i wr => ∃ k : Nat, k ≤ 3 ∧ i = .int .i64 k ∧ OwnM wr w2.heap.size (some ⟨g, 0, none⟩) n n rs (turnK m ai bi ci k) ∧ wr.heap[Z]? = some (.cells #[.int .i64 (ai : Int), .int .i64 (bi : Int), .int .i64 (bi : Int), .int .i64 (ci : Int), .int .i64 (ci : Int), .int .i64 (ai : Int)] 61 (0, 0)) ∧ Below w.heap.size w wr) (fun _ i _ => 3 - (intOf i).toNat)
  case atStart => exact ⟨0, by omega, rfl, HM0.out, HQ0.out, HB0.out⟩
  case round =>
    obtain ⟨k, hk, rfl, hM, q, HB⟩ := hrel
    clear HM0 HQ0 HB0
    by_cases hlt : k < 3
    · obtain ⟨e1, e2⟩ := edge3 q hlt
      have RK := Lib.hid (turnK_rect (m := m) R0.out ai bi ci k)
      have HS := Lib.hid (turnK_succ m ai bi ci k)
      have hx := pick3_lt (k := k) hai hbi hci
      have hy := pick3_lt (k := k) hbi hci hai
      generalize pick3 ai bi ci k = x at *
      generalize pick3 bi ci ai k = y at *
      generalize turnK m ai bi ci k = mk at *
      have ha := below_alloc wr (.cells #[.int .i64 (x : Int), .int .i64 (y : Int)] 61)
      have qe := heap_alloc_new wr (.cells #[.int .i64 (x : Int), .int .i64 (y : Int)] 61)
      have n1 := hM.cellNum RK.out (i := x) (k := y) (by omega) (by omega)
      have n2 := hM.cellNum RK.out (i := y) (k := x) (by omega) (by omega)
      have u1 : rowB rs x < wr.heap.size := Rd.lt n1.1
      have u2 : rowB rs y < wr.heap.size := Rd.lt n2.1
      have hA3 : w.heap.size ≤ rowB rs x := by have := n1.2.2.1; omega
      have hC3 : w.heap.size ≤ rowB rs y := by have := n2.2.2.1; omega
      have hZq : Z < wr.heap.size := blk_lt q
      have hZx : rowB rs x ≠ Z := own_edge_ne hM RK.out (by omega) (by omega) q
      have hZy : rowB rs y ≠ Z := own_edge_ne hM RK.out (by omega) (by omega) q
      have Q5 := Lib.hid (blk_below q ha)
      have hM := hM.below ha
      have HB := below_tr' HB ha
      have dr := hM.cellRow RK.out (by omega) (i := x) (by omega)
      have ds := hM.cellRow RK.out (by omega) (i := y) (by omega)
      have HM := Lib.hid hM
      have HBB := Lib.hid HB
      have QE := Lib.hid qe
      have DR := Lib.hid dr
      have DS := Lib.hid ds
      have hg1 := n1.2.2.2
      have hg2 := n2.2.2.2
      clear n1 n2 q hM HB qe dr ds ha
      go_wp2
      generalize hV : wr.alloc (.cells #[.int .i64 (x : Int), .int .i64 (y : Int)] 61) = w5 at *
      clear hV e1 e2
      have da := growl_cell (l := [rowB rs x, rowB rs y]) (blk_cell QE.out 0 (.int .i64 (x : Int)) rfl) (by simp; omega)
      have db := growl_cell (l := [rowB rs x, rowB rs y]) (blk_cell QE.out 1 (.int .i64 (y : Int)) rfl) (by simp; omega)
      have dr := growl_cell (l := [rowB rs x, rowB rs y]) DR.out (by simp; omega)
      have ds := growl_cell (l := [rowB rs x, rowB rs y]) DS.out (by simp; omega)
      have hI0 : InL w5 [rowB rs x, rowB rs y] w5.drew := ⟨Nat.le_refl _, fun _ _ _ => rfl⟩
      have hM := HM.out.below (bel_drew (Below.refl w5.heap.size w5))
      have HB := bel_drew HBB.out
      have q := blk_below Q5.out (bel_drew (Below.refl w5.heap.size w5))
      clear QE DR DS HM HBB Q5
      refine wp_region_flags [true, true, true, true, true, true, true, true, true, true, true, true, true, true, true, false, false, false] 17 (C := fun w' => ∃ u : GrowL w5 [rowB rs x, rowB rs y], w' = u.val) (by kernel_rfl) (by kernel_rfl) ⟨⟨_, hI0⟩, rfl⟩ ?_
      simp only [pickT, pickF]
      repeat (go_big_quiet_step (fail))
      refine wpQuiet_nil ?_
      clear da db dr ds
      generalize w5.drew = v0 at *
      have cn := hM.cellNum RK.out (i := x) (k := y) (by omega) (by omega)
      have M1 := Lib.hid (hM.put RK.out (i := x) (k := y) (by omega) (by omega) 0)
      have R1 := Lib.hid (RK.out.set2 x y 0)
      have B1 := Lib.hid (HB.setCell (p := ⟨rowB rs x, y, none⟩) hA3 (.int .i64 0))
      have I1 := Lib.hid (hI0.set (rowB rs x) y (.int .i64 0) (.inl (by simp)))
      have Q1 := Lib.hid (blk_set_other q y (.int .i64 0) (Ne.symm hZx))
      have x1 := cn.1
      have f1 := cn.2.1
      clear cn hM HB hI0 q
      refine tail_step fun K hK => ?_
      go_wp2
      generalize hV : v0.setCell ⟨rowB rs x, y, none⟩ (.int .i64 0) = v1 at *
      have hM := M1.out
      have HB := B1.out
      have hI0 := I1.out
      have q := Q1.out
      clear hV x1 f1 M1 B1 I1 Q1
      refine hK _ _ ⟨⟨_, hI0⟩, rfl⟩ ?_
      clear hK
      refine tail_step fun K hK => ?_
      go_wp2
      refine hK _ _ ⟨⟨_, hI0⟩, rfl⟩ ?_
      clear hK
      have cn := hM.cellNum R1.out (i := y) (k := x) (by omega) (by omega)
      have M1 := Lib.hid (hM.put R1.out (i := y) (k := x) (by omega) (by omega) 1)
      have R2 := Lib.hid (R1.out.set2 y x 1)
      have B1 := Lib.hid (HB.setCell (p := ⟨rowB rs y, x, none⟩) hC3 (.int .i64 1))
      have I1 := Lib.hid (hI0.set (rowB rs y) x (.int .i64 1) (.inl (by simp)))
      have Q1 := Lib.hid (blk_set_other q x (.int .i64 1) (Ne.symm hZy))
      have x1 := cn.1
      have f1 := cn.2.1
      clear cn hM HB hI0 q
      refine tail_last fun K hK => ?_
      go_wp2
      generalize hV : v1.setCell ⟨rowB rs y, x, none⟩ (.int .i64 1) = v2 at *
      have hM := M1.out
      have HB := B1.out
      have hI0 := I1.out
      have q := Q1.out
      clear hV x1 f1 M1 B1 I1 Q1
      have HM1 := Lib.hid hM
      have HQ1 := Lib.hid q
      have HB1 := Lib.hid HB
      clear hM q HB
      go_roundw
      case rel => exact ⟨k + 1, by omega, by go_num, by rw [HS.out]; exact HM1.out, HQ1.out, HB1.out⟩
      case measure => simp [intOf]; omega
    · obtain rfl : k = 3 := by omega
      have HM := Lib.hid (hM.mono hB0)
      clear hM q
      go_wp2
      go_ret2
      exact ⟨_, _, rs, by rw [HR.out, HO.out, HLN.out]; rfl, by rw [HR.out, HLN.out]; exact HM.out, HB⟩

end Go.Proofs.Ytbhhapbocnlblaa
