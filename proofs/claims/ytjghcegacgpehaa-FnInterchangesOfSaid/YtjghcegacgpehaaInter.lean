
/- Interchange on both sides. (Printed by gen_inter.py.) -/
import Derived.Test.YtjghcegacgpehaaMay1
import Derived.Test.YtjghcegacgpehaaMay2
import Derived.Test.YtjghcegacgpehaaCopyM
namespace Go.Proofs.Ytjghcegacgpehaa
open Go.RowKit

def interM (m : List (List Int)) (a b c d : Nat) : List (List Int) := set2 (set2 (set2 (set2 m a b 0) c d 0) a d 1) c b 1
def interOK (m : List (List Int)) (A B C D : Int) : Bool := validM m && mayB m A B C D
def interL (m : List (List Int)) (A B C D : Int) : List (List Int) := if interOK m A B C D = true then interM m A.toNat B.toNat C.toNat D.toNat else []

theorem inter_rect {m : List (List Int)} {n cl : Nat} (h : Rect m n cl) (a b c d : Nat) : Rect (interM m a b c d) n cl := (((h.set2 _ _ _).set2 _ _ _).set2 _ _ _).set2 _ _ _
theorem interL_len (m : List (List Int)) (A B C D : Int) : (interL m A B C D).length + sumLen (interL m A B C D) ≤ 1000 := by
  unfold interL
  split
  · rename_i h
    simp only [interOK, Bool.and_eq_true] at h
    have h1 := validM_cols h.1
    have h2 := small_mul h1.2.2.2 h1.2.1
    have h3 := inter_rect (rect_of h.1) A.toNat B.toNat C.toNat D.toNat
    rw [sumLen_rect h3, h3.1]; omega
  · simp [sumLen]
theorem mayB_nat {m : List (List Int)} {A B C D : Int} (h : mayB m A B C D = true) : ∃ ai bi ci di : Nat, A = ai ∧ B = bi ∧ C = ci ∧ D = di ∧ ai < m.length ∧ ci < m.length ∧ bi < colsOf m ∧ di < colsOf m := by
  simp only [mayB, Bool.and_eq_true, inR_true] at h
  exact ⟨A.toNat, B.toNat, C.toNat, D.toNat, by omega, by omega, by omega, by omega, by omega, by omega, by omega, by omega⟩

theorem own_drew_put {w : World} {B g n c cl : Nat} {rs : List At} {m : List (List Int)} (h : OwnM w B (some ⟨g, 0, none⟩) n c rs m) (hr : Rect m n cl) {i k : Nat} (hi : i < n) (hk : k < cl) (v : Int) :
    OwnM (w.setCell ⟨rowB rs i, k, none⟩ (.int .i64 v)).drew B (some ⟨g, 0, none⟩) n c rs (set2 m i k v) := (OwnM.put h hr hi hk v).below (bel_drew (Below.refl _ _))

set_option maxHeartbeats 4000000 in
theorem implInter_any (a : Option Addr) (c n : Nat) (m : List (List Int)) (A B C D : Int) (w : World) (hn : m.length = n) (hx : RdM w a m) (hl : n + sumLen m ≤ 1048576) :
    Calls Try.prog 52 #[.slice a n c, .agg #[.int .i64 A, .int .i64 B, .int .i64 C, .int .i64 D]] w fun e w' => ∃ a' c' rs, e = .returned (.tuple #[.slice a' (interL m A B C D).length c', .bool (interOK m A B C D)]) ∧ OwnM w' w.heap.size a' (interL m A B C D).length c' rs (interL m A B C D) ∧ Below w.heap.size w w' := by
  have hB := below_alloc w (.cells #[.int .i64 A, .int .i64 B, .int .i64 C, .int .i64 D] 60)
  have q := heap_alloc_new w (.cells #[.int .i64 A, .int .i64 B, .int .i64 C, .int .i64 D] 60)
  have hx1 := hx.below hB
  have C1 := implValidMatrix_any a c n m _ hn hx1 hl
  generalize hW : w.alloc (.cells #[.int .i64 A, .int .i64 B, .int .i64 C, .int .i64 D] 60) = w1 at *
  have HW := Lib.hid hW
  have hBs : w.heap.size ≤ w1.heap.size := hB.size
  have Q := Lib.hid q
  clear hW hx q
  cases hv : validM m
  · rw [hv] at C1
    have HR := Lib.hid (show interL m A B C D = [] by simp [interL, interOK, hv])
    have HO := Lib.hid (show interOK m A B C D = false by simp [interOK, hv])
    clear hv hx1
    go_enter Try.func52, Try.ntmps52
    go_wp2_with (simp only [HW.out])
    refine C1.mono ?_
    rintro e w2 ⟨rfl, hb⟩
    clear C1
    go_wp2
    go_ret2
    exact ⟨none, 0, [], by rw [HR.out, HO.out]; rfl, by rw [HR.out]; exact ownM_none _ _, below_tr' hB hb⟩
  · rw [hv] at C1
    have hx2 := fun w2 (hb : Below w1.heap.size w1 w2) => hx1.below hb
    cases hy : mayB m A B C D
    · have HR := Lib.hid (show interL m A B C D = [] by simp [interL, interOK, hy])
      have HO := Lib.hid (show interOK m A B C D = false by simp [interOK, hy])
      have HM := Lib.hid (fun w2 (hb : Below w1.heap.size w1 w2) => implMay_any a c n m A B C D w2 hv hn (hx1.below hb))
      rw [hy] at HM
      clear hv hy hx1 hx2 hn
      go_enter Try.func52, Try.ntmps52
      go_wp2_with (simp only [HW.out])
      refine C1.mono ?_
      rintro e w2 ⟨rfl, hb⟩
      have C2 := HM.out w2 hb
      have q2 := blk_below Q.out hb
      have g0 := blk_cell q2 0 (.int .i64 A) rfl
      have g1 := blk_cell q2 1 (.int .i64 B) rfl
      have g2 := blk_cell q2 2 (.int .i64 C) rfl
      have g3 := blk_cell q2 3 (.int .i64 D) rfl
      clear C1 HM
      go_wp2_with fail
      refine C2.mono ?_
      rintro e w3 ⟨rfl, hb3⟩
      clear C2 g0 g1 g2 g3 q2
      go_wp2
      go_ret2
      exact ⟨none, 0, [], by rw [HR.out, HO.out]; rfl, by rw [HR.out]; exact ownM_none _ _, below_tr' (below_tr' hB hb) hb3⟩
    · have HMY := Lib.hid (fun w2 (hb : Below w1.heap.size w1 w2) => implMay_any a c n m A B C D w2 hv hn (hx1.below hb))
      rw [hy] at HMY
      have hIL : interL m A B C D = interM m A.toNat B.toNat C.toNat D.toNat := by simp [interL, interOK, hv, hy]
      have HO := Lib.hid (show interOK m A B C D = true by simp [interOK, hv, hy])
      obtain ⟨ai, bi, ci, di, rfl, rfl, rfl, rfl, hai, hci, hbi, hdi⟩ := mayB_nat hy
      simp only [Int.toNat_natCast] at hIL
      have HLN := Lib.hid (show (interM m ai bi ci di).length = n by rw [(inter_rect (rect_of hv) _ _ _ _).1, hn])
      have HR := Lib.hid hIL
      rw [hn] at hai hci
      have h5 := validM_cols hv
      rw [hn] at h5
      have HI := Lib.hid (fun w2 (hb : Below w1.heap.size w1 w2) => copyTable_any a c n m w2 hv hn (hx1.below hb))
      have hRect := rect_of hv
      obtain ⟨cl, hcl⟩ : ∃ cl, cl = colsOf m := ⟨_, rfl⟩
      rw [← hcl] at hbi hdi h5
      rw [hn, ← hcl] at hRect
      have R0 := Lib.hid hRect
      have hlt := Lib.hid (blk_lt Q.out)
      clear hv hy hx1 hx2 hn hIL hRect hcl
      go_enter Try.func52, Try.ntmps52
      go_wp2_with (simp only [HW.out])
      refine C1.mono ?_
      rintro e w2 ⟨rfl, hb⟩
      have C2 := HMY.out w2 hb
      have q2 := blk_below Q.out hb
      have g0 := blk_cell q2 0 (.int .i64 (ai : Int)) rfl
      have g1 := blk_cell q2 1 (.int .i64 (bi : Int)) rfl
      have g2 := blk_cell q2 2 (.int .i64 (ci : Int)) rfl
      have g3 := blk_cell q2 3 (.int .i64 (di : Int)) rfl
      clear C1 HMY
      go_wp2_with fail
      refine C2.mono ?_
      rintro e w3 ⟨rfl, hb3⟩
      clear C2 g0 g1 g2 g3
      have hb4 := below_tr' hb hb3
      have C3 := HI.out w3 hb4
      have q3 := blk_below q2 hb3
      clear HI q2
      go_wp2_with fail
      refine C3.mono ?_
      rintro e w4 ⟨g, rs, rfl, hM, hb5⟩
      have q := blk_below q3 hb5
      have HB := below_tr' (below_tr' hB hb4) hb5
      have hBw : w1.heap.size ≤ w3.heap.size := hb4.size
      clear C3 q3 hb5 hb3 hb
      have n1 := hM.cellNum R0.out (i := ai) (k := bi) (by omega) (by omega)
      have n2 := hM.cellNum R0.out (i := ci) (k := bi) (by omega) (by omega)
      have hz := hlt.out
      have da := growl_cell (l := [rowB rs ai, rowB rs ci]) (blk_cell q 0 (.int .i64 (ai : Int)) rfl) (by simp; omega)
      have db := growl_cell (l := [rowB rs ai, rowB rs ci]) (blk_cell q 1 (.int .i64 (bi : Int)) rfl) (by simp; omega)
      have dc := growl_cell (l := [rowB rs ai, rowB rs ci]) (blk_cell q 2 (.int .i64 (ci : Int)) rfl) (by simp; omega)
      have dd := growl_cell (l := [rowB rs ai, rowB rs ci]) (blk_cell q 3 (.int .i64 (di : Int)) rfl) (by simp; omega)
      have dr := growl_cell (l := [rowB rs ai, rowB rs ci]) (hM.cellRow R0.out (by omega) (i := ai) (by omega)) (by simp; omega)
      have ds := growl_cell (l := [rowB rs ai, rowB rs ci]) (hM.cellRow R0.out (by omega) (i := ci) (by omega)) (by simp; omega)
      have hA3 : w.heap.size ≤ rowB rs ai := by have := n1.2.2.1; omega
      have hC3 : w.heap.size ≤ rowB rs ci := by have := n2.2.2.1; omega
      clear n1 n2 hz q
      have hI0 : InL w4 [rowB rs ai, rowB rs ci] w4.drew := ⟨Nat.le_refl _, fun _ _ _ => rfl⟩
      have hM := hM.below (bel_drew (Below.refl w4.heap.size w4))
      have HB := bel_drew HB
      go_wp2
      refine wp_region_flags [true, true, true, true, true, true, true, true, true, true, true, true, true, true, true, true, true, true, true, true, true, true, true, true, true, true, true, true, true, false, false, false, false, false, false, false] 35 (C := fun w' => ∃ u : GrowL w4 [rowB rs ai, rowB rs ci], w' = u.val) (by kernel_rfl) (by kernel_rfl) ⟨⟨_, hI0⟩, rfl⟩ ?_
      simp only [pickT, pickF]
      repeat (go_big_quiet_step (fail))
      refine wpQuiet_nil ?_
      clear da db dc dd dr ds
      generalize w4.drew = v0 at *
      have cn := hM.cellNum R0.out (i := ai) (k := bi) (by omega) (by omega)
      have M1 := Lib.hid (hM.put R0.out (i := ai) (k := bi) (by omega) (by omega) 0)
      have R1 := Lib.hid (R0.out.set2 ai bi 0)
      have B1 := Lib.hid (HB.setCell (p := ⟨rowB rs ai, bi, none⟩) hA3 (.int .i64 0))
      have I1 := Lib.hid (hI0.set (rowB rs ai) bi (.int .i64 0) (.inl (by simp)))
      have x1 := cn.1
      have f1 := cn.2.1
      clear cn hM HB hI0
      refine tail_step fun K hK => ?_
      go_wp2
      generalize hV : v0.setCell ⟨rowB rs ai, bi, none⟩ (.int .i64 0) = v1 at *
      have hM := M1.out
      have HB := B1.out
      have hI0 := I1.out
      clear hV x1 f1 M1 B1 I1
      refine hK _ _ ⟨⟨_, hI0⟩, rfl⟩ ?_
      clear hK
      refine tail_step fun K hK => ?_
      go_wp2
      refine hK _ _ ⟨⟨_, hI0⟩, rfl⟩ ?_
      clear hK
      have cn := hM.cellNum R1.out (i := ci) (k := di) (by omega) (by omega)
      have M1 := Lib.hid (hM.put R1.out (i := ci) (k := di) (by omega) (by omega) 0)
      have R2 := Lib.hid (R1.out.set2 ci di 0)
      have B1 := Lib.hid (HB.setCell (p := ⟨rowB rs ci, di, none⟩) hC3 (.int .i64 0))
      have I1 := Lib.hid (hI0.set (rowB rs ci) di (.int .i64 0) (.inl (by simp)))
      have x1 := cn.1
      have f1 := cn.2.1
      clear cn hM HB hI0
      refine tail_step fun K hK => ?_
      go_wp2
      generalize hV : v1.setCell ⟨rowB rs ci, di, none⟩ (.int .i64 0) = v2 at *
      have hM := M1.out
      have HB := B1.out
      have hI0 := I1.out
      clear hV x1 f1 M1 B1 I1
      refine hK _ _ ⟨⟨_, hI0⟩, rfl⟩ ?_
      clear hK
      refine tail_step fun K hK => ?_
      go_wp2
      refine hK _ _ ⟨⟨_, hI0⟩, rfl⟩ ?_
      clear hK
      have cn := hM.cellNum R2.out (i := ai) (k := di) (by omega) (by omega)
      have M1 := Lib.hid (hM.put R2.out (i := ai) (k := di) (by omega) (by omega) 1)
      have R3 := Lib.hid (R2.out.set2 ai di 1)
      have B1 := Lib.hid (HB.setCell (p := ⟨rowB rs ai, di, none⟩) hA3 (.int .i64 1))
      have I1 := Lib.hid (hI0.set (rowB rs ai) di (.int .i64 1) (.inl (by simp)))
      have x1 := cn.1
      have f1 := cn.2.1
      clear cn hM HB hI0
      refine tail_step fun K hK => ?_
      go_wp2
      generalize hV : v2.setCell ⟨rowB rs ai, di, none⟩ (.int .i64 1) = v3 at *
      have hM := M1.out
      have HB := B1.out
      have hI0 := I1.out
      clear hV x1 f1 M1 B1 I1
      refine hK _ _ ⟨⟨_, hI0⟩, rfl⟩ ?_
      clear hK
      refine tail_step fun K hK => ?_
      go_wp2
      refine hK _ _ ⟨⟨_, hI0⟩, rfl⟩ ?_
      clear hK
      have cn := hM.cellNum R3.out (i := ci) (k := bi) (by omega) (by omega)
      have M1 := Lib.hid (hM.put R3.out (i := ci) (k := bi) (by omega) (by omega) 1)
      have R4 := Lib.hid (R3.out.set2 ci bi 1)
      have B1 := Lib.hid (HB.setCell (p := ⟨rowB rs ci, bi, none⟩) hC3 (.int .i64 1))
      have I1 := Lib.hid (hI0.set (rowB rs ci) bi (.int .i64 1) (.inl (by simp)))
      have x1 := cn.1
      have f1 := cn.2.1
      clear cn hM HB hI0
      refine tail_last fun K hK => ?_
      go_wp2
      generalize hV : v3.setCell ⟨rowB rs ci, bi, none⟩ (.int .i64 1) = v4 at *
      have hM := M1.out
      have HB := B1.out
      have hI0 := I1.out
      clear hV x1 f1 M1 B1 I1
      have HM := Lib.hid (hM.mono (Nat.le_trans hBs hBw))
      clear hM
      go_wp2
      go_ret2
      exact ⟨_, _, rs, by rw [HR.out, HO.out, HLN.out]; rfl, by rw [HR.out, HLN.out]; exact HM.out, HB⟩

end Go.Proofs.Ytjghcegacgpehaa
