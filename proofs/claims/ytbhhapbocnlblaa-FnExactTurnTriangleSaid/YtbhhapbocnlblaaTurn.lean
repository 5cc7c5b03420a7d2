
/- TurnTriangle on both sides. (Printed by gen_turn.py.) -/
import Derived.Test.YtbhhapbocnlblaaCopyM
import Derived.Test.YtbhhapbocnlblaaTourS
import Derived.Deep.Cut
namespace Go.Proofs.Ytbhhapbocnlblaa
open Go.RowKit

def turnR (n : Nat) (A B C : Int) : Bool := inR A 0 ((n : Int) - 1) && (inR B 0 ((n : Int) - 1) && inR C 0 ((n : Int) - 1))
def turnOK (m : List (List Int)) (A B C : Int) : Bool := tourB m && (turnR m.length A B C && (at2 m A.toNat B.toNat == 1 && (at2 m B.toNat C.toNat == 1 && at2 m C.toNat A.toNat == 1)))
def turnM (m : List (List Int)) (a b c : Nat) : List (List Int) := set2 (set2 (set2 (set2 (set2 (set2 m a b 0) b a 1) b c 0) c b 1) c a 0) a c 1
def turnL (m : List (List Int)) (A B C : Int) : List (List Int) := if turnOK m A B C = true then turnM m A.toNat B.toNat C.toNat else []

theorem tourB_valid {m : List (List Int)} (h : tourB m = true) : validM m = true ∧ colsOf m = m.length := by
  simp only [tourB, Bool.and_eq_true, decide_eq_true_eq] at h
  exact ⟨h.1, h.2.1.symm⟩
theorem turn_rect {m : List (List Int)} {n cl : Nat} (h : Rect m n cl) (a b c : Nat) : Rect (turnM m a b c) n cl := (((((h.set2 _ _ _).set2 _ _ _).set2 _ _ _).set2 _ _ _).set2 _ _ _).set2 _ _ _
theorem turnL_len (m : List (List Int)) (A B C : Int) : (turnL m A B C).length + sumLen (turnL m A B C) ≤ 1000 := by
  unfold turnL
  split
  · rename_i h
    simp only [turnOK, Bool.and_eq_true] at h
    have h0 := tourB_valid h.1
    have h1 := validM_cols h0.1
    have h2 := small_mul h1.2.2.2 h1.2.1
    have h3 := turn_rect (rect_of h0.1) A.toNat B.toNat C.toNat
    rw [sumLen_rect h3, h3.1]; omega
  · simp [sumLen]
theorem turn_no {m : List (List Int)} {A B C : Int} (h : turnOK m A B C = false) : turnL m A B C = [] := by simp [turnL, h]
theorem inRange_eqT {n lo hi : Int} {b : Bool} (h : inR n lo hi = b) (w : World) : Calls Try.prog 71 #[.int .i64 n, .int .i64 lo, .int .i64 hi] w fun e w' => e = .returned (.bool b) ∧ w' = w := by
  rw [← h]; exact inRange_any n lo hi w
theorem allR3 (A B C : Int) (n : Nat) : allR [A, B, C] 0 ((n : Int) - 1) = turnR n A B C := by simp [allR, turnR]

theorem turn_cells {w : World} {a : Option Addr} {m : List (List Int)} {n : Nat} (hx : RdM w a m) (hv : tourB m = true) (hn : m.length = n) {i k : Nat} (hi : i < n) (hk : k < n) :
    ∃ b off bi oi ci, a = some ⟨b, off, none⟩ ∧ w.cell? ⟨b, off + i, none⟩ = some (.slice (some ⟨bi, oi, none⟩) n ci) ∧ w.cell? ⟨bi, oi + k, none⟩ = some (.int .i64 (at2 m i k)) := by
  have h0 := tourB_valid hv
  obtain ⟨b, off, bi, oi, ci, h1, h2, h3⟩ := hx.num h0.1 (i := i) (k := k) (by omega) (by rw [h0.2, hn]; exact hk)
  rw [h0.2, hn] at h2
  exact ⟨b, off, bi, oi, ci, h1, h2, h3⟩

set_option maxHeartbeats 4000000 in
theorem specTurn_any (a : Option Addr) (c n : Nat) (m : List (List Int)) (A B C : Int) (w : World) (hn : m.length = n) (hx : RdM w a m) (hl : n + sumLen m ≤ 1048576) (hwf : WfM m) :
    Calls Try.prog 40 #[.slice a n c, .int .i64 A, .int .i64 B, .int .i64 C] w fun e w' => ∃ a' c' rs, e = .returned (.tuple #[.slice a' (turnL m A B C).length c', .bool (turnOK m A B C)]) ∧ OwnM w' w.heap.size a' (turnL m A B C).length c' rs (turnL m A B C) ∧ Below w.heap.size w w' := by
  have C1 := specValidTournament_any a c n m w hn hx hl hwf
  clear hwf
  cases hv : tourB m
  · rw [hv] at C1
    have HO := Lib.hid (show turnOK m A B C = false by simp [turnOK, hv])
    have HR := Lib.hid (turn_no HO.out)
    clear hv hx
    go_enter Try.func40, Try.ntmps40
    go_wp2_with fail
    refine C1.mono ?_
    rintro e w1 ⟨rfl, hb⟩
    clear C1
    go_wp2
    go_ret2
    exact ⟨none, 0, [], by rw [HR.out, HO.out]; rfl, by rw [HR.out]; exact ownM_none _ _, hb⟩
  rw [hv] at C1
  have h0 := tourB_valid hv
  have h5 := validM_cols h0.1
  rw [hn] at h5
  cases q1 : inR A 0 ((n : Int) - 1)
  · have HO := Lib.hid (show turnOK m A B C = false by simp [turnOK, turnR, hn, q1])
    have HR := Lib.hid (turn_no HO.out)
    clear hv hx h0
    go_enter Try.func40, Try.ntmps40
    go_wp2_with fail
    refine C1.mono ?_
    rintro e w1 ⟨rfl, hb⟩
    clear C1
    go_wp2_with (go_at_call 71; refine (inRange_eqT (by assumption) _).mono ?_; rintro e w' ⟨rfl, rfl⟩)
    go_ret2
    exact ⟨none, 0, [], by rw [HR.out, HO.out]; rfl, by rw [HR.out]; exact ownM_none _ _, hb⟩
  cases q2 : inR B 0 ((n : Int) - 1)
  · have HO := Lib.hid (show turnOK m A B C = false by simp [turnOK, turnR, hn, q1, q2])
    have HR := Lib.hid (turn_no HO.out)
    clear hv hx h0
    go_enter Try.func40, Try.ntmps40
    go_wp2_with fail
    refine C1.mono ?_
    rintro e w1 ⟨rfl, hb⟩
    clear C1
    go_wp2_with (go_at_call 71; refine (inRange_eqT (by assumption) _).mono ?_; rintro e w' ⟨rfl, rfl⟩)
    go_ret2
    exact ⟨none, 0, [], by rw [HR.out, HO.out]; rfl, by rw [HR.out]; exact ownM_none _ _, hb⟩
  cases q3 : inR C 0 ((n : Int) - 1)
  · have HO := Lib.hid (show turnOK m A B C = false by simp [turnOK, turnR, hn, q1, q2, q3])
    have HR := Lib.hid (turn_no HO.out)
    clear hv hx h0
    go_enter Try.func40, Try.ntmps40
    go_wp2_with fail
    refine C1.mono ?_
    rintro e w1 ⟨rfl, hb⟩
    clear C1
    go_wp2_with (go_at_call 71; refine (inRange_eqT (by assumption) _).mono ?_; rintro e w' ⟨rfl, rfl⟩)
    go_ret2
    exact ⟨none, 0, [], by rw [HR.out, HO.out]; rfl, by rw [HR.out]; exact ownM_none _ _, hb⟩
  have e1 := inR_true.1 q1
  have e2 := inR_true.1 q2
  have e3 := inR_true.1 q3
  obtain ⟨ai, rfl⟩ : ∃ i : Nat, A = i := ⟨A.toNat, by omega⟩
  obtain ⟨bi, rfl⟩ : ∃ i : Nat, B = i := ⟨B.toNat, by omega⟩
  obtain ⟨ci, rfl⟩ : ∃ i : Nat, C = i := ⟨C.toNat, by omega⟩
  have hai : ai < n := by omega
  have hbi : bi < n := by omega
  have hci : ci < n := by omega
  have HQ := Lib.hid (show turnOK m ai bi ci = (at2 m ai bi == 1 && (at2 m bi ci == 1 && at2 m ci ai == 1)) by simp [turnOK, turnR, hn, hv, q1, q2, q3])
  have HT := Lib.hid (fun (w1 : World) (hb : Below w.heap.size w w1) (i k : Nat) (hi : i < n) (hk : k < n) => turn_cells (hx.below hb) hv hn hi hk)
  have hRect := rect_of h0.1
  rw [h0.2, hn] at hRect
  have R0 := Lib.hid hRect
  have HCP := Lib.hid (fun (w1 : World) (hb : Below w.heap.size w w1) => copyMatrix_any a c n m w1 hn (hx.below hb) hl)
  clear hx hRect
  clear e1 e2 e3 h0 hv
  obtain ⟨b, off, g1, o1, k1, e1, c1, x1⟩ := HT.out w (Below.refl _ _) ai bi hai hbi
  subst e1
  obtain ⟨b', off', g2, o2, k2, e1, c2, x2⟩ := HT.out w (Below.refl _ _) bi ci hbi hci
  cases e1
  obtain ⟨b', off', g3, o3, k3, e1, c3, x3⟩ := HT.out w (Below.refl _ _) ci ai hci hai
  cases e1
  have K1 := Lib.hid (fun (w1 : World) (hb : Below w.heap.size w w1) => (hb.cell (p := ⟨b, off + ai, none⟩) (Rd.lt c1)).trans c1)
  have K2 := Lib.hid (fun (w1 : World) (hb : Below w.heap.size w w1) => (hb.cell (p := ⟨b, off + bi, none⟩) (Rd.lt c2)).trans c2)
  have K3 := Lib.hid (fun (w1 : World) (hb : Below w.heap.size w w1) => (hb.cell (p := ⟨b, off + ci, none⟩) (Rd.lt c3)).trans c3)
  have K4 := Lib.hid (fun (w1 : World) (hb : Below w.heap.size w w1) => (hb.cell (p := ⟨g1, o1 + bi, none⟩) (Rd.lt x1)).trans x1)
  have K5 := Lib.hid (fun (w1 : World) (hb : Below w.heap.size w w1) => (hb.cell (p := ⟨g2, o2 + ci, none⟩) (Rd.lt x2)).trans x2)
  have K6 := Lib.hid (fun (w1 : World) (hb : Below w.heap.size w w1) => (hb.cell (p := ⟨g3, o3 + ai, none⟩) (Rd.lt x3)).trans x3)
  clear c1 c2 c3 x1 x2 x3 HT
  generalize at2 m ai bi = X1 at *
  generalize at2 m bi ci = X2 at *
  generalize at2 m ci ai = X3 at *
  cases y1 : (X1 == 1)
  · have z1 : (X1 != 1) = true := by simpa [bne] using y1
    have HO := Lib.hid (show turnOK m ai bi ci = false by rw [HQ.out, y1]; rfl)
    have HR := Lib.hid (turn_no HO.out)
    clear y1
    go_enter Try.func40, Try.ntmps40
    go_wp2_with fail
    refine C1.mono ?_
    rintro e w1 ⟨rfl, hb⟩
    clear C1
    have c1 := K1.out _ hb
    have c2 := K2.out _ hb
    have c3 := K3.out _ hb
    have x1 := K4.out _ hb
    have x2 := K5.out _ hb
    have x3 := K6.out _ hb
    go_wp2_with (go_at_call 71; refine (inRange_eqT (by assumption) _).mono ?_; rintro e w' ⟨rfl, rfl⟩)
    go_ret2
    exact ⟨none, 0, [], by rw [HR.out, HO.out]; rfl, by rw [HR.out]; exact ownM_none _ _, hb⟩
  cases y2 : (X2 == 1)
  · have z2 : (X2 != 1) = true := by simpa [bne] using y2
    have z1 : (X1 != 1) = false := by simpa [bne] using y1
    have HO := Lib.hid (show turnOK m ai bi ci = false by rw [HQ.out, y1, y2]; rfl)
    have HR := Lib.hid (turn_no HO.out)
    clear y1 y2
    go_enter Try.func40, Try.ntmps40
    go_wp2_with fail
    refine C1.mono ?_
    rintro e w1 ⟨rfl, hb⟩
    clear C1
    have c1 := K1.out _ hb
    have c2 := K2.out _ hb
    have c3 := K3.out _ hb
    have x1 := K4.out _ hb
    have x2 := K5.out _ hb
    have x3 := K6.out _ hb
    go_wp2_with (go_at_call 71; refine (inRange_eqT (by assumption) _).mono ?_; rintro e w' ⟨rfl, rfl⟩)
    go_ret2
    exact ⟨none, 0, [], by rw [HR.out, HO.out]; rfl, by rw [HR.out]; exact ownM_none _ _, hb⟩
  cases y3 : (X3 == 1)
  · have z3 : (X3 != 1) = true := by simpa [bne] using y3
    have z1 : (X1 != 1) = false := by simpa [bne] using y1
    have z2 : (X2 != 1) = false := by simpa [bne] using y2
    have HO := Lib.hid (show turnOK m ai bi ci = false by rw [HQ.out, y1, y2, y3]; rfl)
    have HR := Lib.hid (turn_no HO.out)
    clear y1 y2 y3
    go_enter Try.func40, Try.ntmps40
    go_wp2_with fail
    refine C1.mono ?_
    rintro e w1 ⟨rfl, hb⟩
    clear C1
    have c1 := K1.out _ hb
    have c2 := K2.out _ hb
    have c3 := K3.out _ hb
    have x1 := K4.out _ hb
    have x2 := K5.out _ hb
    have x3 := K6.out _ hb
    go_wp2_with (go_at_call 71; refine (inRange_eqT (by assumption) _).mono ?_; rintro e w' ⟨rfl, rfl⟩)
    go_ret2
    exact ⟨none, 0, [], by rw [HR.out, HO.out]; rfl, by rw [HR.out]; exact ownM_none _ _, hb⟩
  have z1 : (X1 != 1) = false := by simpa [bne] using y1
  have z2 : (X2 != 1) = false := by simpa [bne] using y2
  have z3 : (X3 != 1) = false := by simpa [bne] using y3
  have HO := Lib.hid (show turnOK m ai bi ci = true by rw [HQ.out, y1, y2, y3]; rfl)
  clear y1 y2 y3
  go_enter Try.func40, Try.ntmps40
  go_wp2_with fail
  refine C1.mono ?_
  rintro e w1 ⟨rfl, hb⟩
  clear C1
  have c1 := K1.out _ hb
  have c2 := K2.out _ hb
  have c3 := K3.out _ hb
  have x1 := K4.out _ hb
  have x2 := K5.out _ hb
  have x3 := K6.out _ hb
  have C2 := HCP.out w1 hb
  have hB0 : w.heap.size ≤ w1.heap.size := hb.size
  clear HCP
  go_wp2_with (first | (go_at_call 71; refine (inRange_eqT (by assumption) _).mono ?_; rintro e w' ⟨rfl, rfl⟩) | (go_at_call 72; fail))
  refine C2.mono ?_
  rintro e w2 ⟨a2, k2, rs, rfl, hM, hb2⟩
  obtain ⟨g, rfl, _, _⟩ := own_head hM.2.2.1 (by omega)
  have HB := below_tr' hb hb2
  clear C2 hb2 c1 c2 c3 x1 x2 x3 z1 z2 z3 q1 q2 q3
  have d2 := hM.cellRow R0.out (by omega) (i := ai) (by omega)
  have cn := hM.cellNum R0.out (i := ai) (k := bi) (by omega) (by omega)
  have M1 := Lib.hid (hM.put R0.out (i := ai) (k := bi) (by omega) (by omega) 0)
  have R1 := Lib.hid (R0.out.set2 ai bi 0)
  have B1 := Lib.hid (HB.setCell (p := ⟨rowB rs ai, bi, none⟩) (Nat.le_trans hB0 cn.2.2.1) (.int .i64 0))
  have x1 := cn.1
  have f1 := cn.2.1
  clear cn hM HB
  go_upto_region 6 with (fail)
  generalize hV : w2.setCell ⟨rowB rs ai, bi, none⟩ (.int .i64 0) = w3 at *
  have hM := M1.out
  have HB := B1.out
  clear hV x1 f1 M1 B1 d2
  have d2 := hM.cellRow R1.out (by omega) (i := bi) (by omega)
  have cn := hM.cellNum R1.out (i := bi) (k := ai) (by omega) (by omega)
  have M1 := Lib.hid (hM.put R1.out (i := bi) (k := ai) (by omega) (by omega) 1)
  have R2 := Lib.hid (R1.out.set2 bi ai 1)
  have B1 := Lib.hid (HB.setCell (p := ⟨rowB rs bi, ai, none⟩) (Nat.le_trans hB0 cn.2.2.1) (.int .i64 1))
  have x1 := cn.1
  have f1 := cn.2.1
  clear cn hM HB
  go_upto_region 7 with (fail)
  generalize hV : w3.setCell ⟨rowB rs bi, ai, none⟩ (.int .i64 1) = w4 at *
  have hM := M1.out
  have HB := B1.out
  clear hV x1 f1 M1 B1 d2
  have d2 := hM.cellRow R2.out (by omega) (i := bi) (by omega)
  have cn := hM.cellNum R2.out (i := bi) (k := ci) (by omega) (by omega)
  have M1 := Lib.hid (hM.put R2.out (i := bi) (k := ci) (by omega) (by omega) 0)
  have R3 := Lib.hid (R2.out.set2 bi ci 0)
  have B1 := Lib.hid (HB.setCell (p := ⟨rowB rs bi, ci, none⟩) (Nat.le_trans hB0 cn.2.2.1) (.int .i64 0))
  have x1 := cn.1
  have f1 := cn.2.1
  clear cn hM HB
  go_upto_region 8 with (fail)
  generalize hV : w4.setCell ⟨rowB rs bi, ci, none⟩ (.int .i64 0) = w5 at *
  have hM := M1.out
  have HB := B1.out
  clear hV x1 f1 M1 B1 d2
  have d2 := hM.cellRow R3.out (by omega) (i := ci) (by omega)
  have cn := hM.cellNum R3.out (i := ci) (k := bi) (by omega) (by omega)
  have M1 := Lib.hid (hM.put R3.out (i := ci) (k := bi) (by omega) (by omega) 1)
  have R4 := Lib.hid (R3.out.set2 ci bi 1)
  have B1 := Lib.hid (HB.setCell (p := ⟨rowB rs ci, bi, none⟩) (Nat.le_trans hB0 cn.2.2.1) (.int .i64 1))
  have x1 := cn.1
  have f1 := cn.2.1
  clear cn hM HB
  go_upto_region 9 with (fail)
  generalize hV : w5.setCell ⟨rowB rs ci, bi, none⟩ (.int .i64 1) = w6 at *
  have hM := M1.out
  have HB := B1.out
  clear hV x1 f1 M1 B1 d2
  have d2 := hM.cellRow R4.out (by omega) (i := ci) (by omega)
  have cn := hM.cellNum R4.out (i := ci) (k := ai) (by omega) (by omega)
  have M1 := Lib.hid (hM.put R4.out (i := ci) (k := ai) (by omega) (by omega) 0)
  have R5 := Lib.hid (R4.out.set2 ci ai 0)
  have B1 := Lib.hid (HB.setCell (p := ⟨rowB rs ci, ai, none⟩) (Nat.le_trans hB0 cn.2.2.1) (.int .i64 0))
  have x1 := cn.1
  have f1 := cn.2.1
  clear cn hM HB
  go_upto_region 10 with (fail)
  generalize hV : w6.setCell ⟨rowB rs ci, ai, none⟩ (.int .i64 0) = w7 at *
  have hM := M1.out
  have HB := B1.out
  clear hV x1 f1 M1 B1 d2
  have d2 := hM.cellRow R5.out (by omega) (i := ai) (by omega)
  have cn := hM.cellNum R5.out (i := ai) (k := ci) (by omega) (by omega)
  have M1 := Lib.hid (hM.put R5.out (i := ai) (k := ci) (by omega) (by omega) 1)
  have R6 := Lib.hid (R5.out.set2 ai ci 1)
  have B1 := Lib.hid (HB.setCell (p := ⟨rowB rs ai, ci, none⟩) (Nat.le_trans hB0 cn.2.2.1) (.int .i64 1))
  have x1 := cn.1
  have f1 := cn.2.1
  clear cn hM HB
  go_upto_region 11 with (fail)
  generalize hV : w7.setCell ⟨rowB rs ai, ci, none⟩ (.int .i64 1) = w8 at *
  have hM := M1.out
  have HB := B1.out
  clear hV x1 f1 M1 B1 d2
  have hIL : turnL m ai bi ci = turnM m ai bi ci := by simp [turnL, HO.out]
  have HR := Lib.hid hIL
  have HLN := Lib.hid (show (turnM m ai bi ci).length = n from (turn_rect R0.out _ _ _).1)
  have HM := Lib.hid (hM.mono hB0)
  clear hM hIL
  go_wp2
  go_ret2
  exact ⟨_, k2, rs, by rw [HR.out, HO.out, HLN.out]; rfl, by rw [HR.out, HLN.out]; exact HM.out, HB⟩

end Go.Proofs.Ytbhhapbocnlblaa
