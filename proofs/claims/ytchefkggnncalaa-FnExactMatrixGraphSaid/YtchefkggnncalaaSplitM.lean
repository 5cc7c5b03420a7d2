
/- The reference's MatrixGraph: the wrapper. (Printed by gen_split.py.) -/
import Derived.Test.YtchefkggnncalaaSplitS
namespace Go.Proofs.Ytchefkggnncalaa
open Go.RowKit

set_option maxHeartbeats 4000000 in
theorem specMG_any (a : Option Addr) (c n : Nat) (m : List (List Int)) (w : World) (hn : m.length = n) (hx : RdM w a m) (hl : n + sumLen m ≤ 1048576) :
    Calls Try.prog 44 #[.slice a n c] w fun e w' => ∃ a' c' d', e = .returned (.tuple #[graphV (mgN m) a' (mgL m).length d', .bool (mgOK m)]) ∧ w'.ownsRow w.heap.size 59 2 (.slice a' (mgL m).length c') (mgL m).length (edges (mgL m)) ∧ Below w.heap.size w w' := by
  have hB := below_alloc w (.cells #[.int .i64 0, .slice none 0 0] 29)
  have q1 := heap_alloc_new w (.cells #[.int .i64 0, .slice none 0 0] 29)
  generalize hW : w.alloc (.cells #[.int .i64 0, .slice none 0 0] 29) = W at *
  have HW := Lib.hid hW
  clear hW
  have hx1 := hx.below hB
  have Q1 := Lib.hid q1
  have C1 := specValidMatrix_any a c n m W hn hx1 hl
  clear q1
  cases hv : validM m
  · rw [hv] at C1
    have HRO := Lib.hid (show mgOK m = false by simp [mgOK, hv])
    have HRL := Lib.hid (show mgL m = [] by simp [mgL, HRO.out])
    have HRN := Lib.hid (show mgN m = 0 by simp [mgN, HRO.out])
    go_enter Try.func44, Try.ntmps44
    go_wp2_with (simp only [HW.out])
    refine C1.mono ?_
    rintro e w1 ⟨rfl, hb⟩
    have hb1 := below_tr' hB hb
    clear C1
    have r0 := blk_below Q1.out hb
    have z0 := blk_cell r0 0 (.int .i64 0) rfl
    have z1 := blk_cell r0 1 (.slice none 0 0) rfl
    have f0 := blk_free r0 0
    have f1 := blk_free r0 1
    have sB := (hb1.setCell (p := ⟨w.heap.size, 0, none⟩) (by simp) (.int .i64 0)).setCell (p := ⟨w.heap.size, 1, none⟩) (by simp) (.slice none 0 0)
    have SB := Lib.hid sB
    clear sB r0 hb hb1
    go_wp2
    refine bodyPost_ret (v := .tuple #[graphV 0 none 0 0, .bool false]) (by simp [results, Try.results44, go_sem, z0, z1]) rfl ⟨none, 0, 0, by rw [HRL.out, HRN.out, HRO.out]; rfl, by rw [HRL.out]; exact World.ownsRow_nil _ _ _ _, SB.out⟩
  · rw [hv] at C1
    have h5 := validM_cols hv
    obtain ⟨b, off, a0, c0, ea, hcw⟩ := hx.first hv
    obtain ⟨cl, hcl⟩ : ∃ cl, colsOf m = cl := ⟨_, rfl⟩
    rw [hcl] at hcw h5
    rw [hn] at h5
    subst ea
    by_cases h7 : n + cl ≤ 7
    · have HRO := Lib.hid (show mgOK m = true by simp [mgOK, hv, hn, hcl, h7])
      have HRL := Lib.hid (show mgL m = (pairsL (n + cl)).filter (splitP n m) by simp [mgL, HRO.out, hn, hcl])
      have HRN := Lib.hid (show mgN m = (n : Int) + (cl : Int) by simp [mgN, HRO.out, hn, hcl])
      have hd7 : decide ((7 : Int) < (n : Int) + (cl : Int)) = false := by simp; omega
      go_enter Try.func44, Try.ntmps44
      go_wp2_with (simp only [HW.out])
      refine C1.mono ?_
      rintro e w1 ⟨rfl, hb⟩
      have hb1 := below_tr' hB hb
      have C2 := specSplit_any (some ⟨b, off, none⟩) c n cl m w1 hv hn hcl (hx1.below hb)
      have hpl := Nat.le_trans (List.length_filter_le (splitP n m) (pairsL (n + cl))) (pairsL_len (N := n + cl) (by omega))
      generalize (pairsL (n + cl)).filter (splitP n m) = L at *
      obtain ⟨k, hk⟩ : ∃ k, k = L.length := ⟨_, rfl⟩
      rw [← hk] at C2 hpl
      have HK := Lib.hid hk
      have k0 := (hb1.cell (p := ⟨b, off, none⟩) (Rd.lt hcw)).trans hcw
      clear hk C1 hx hx1 hcw
      go_wp2_with fail
      refine C2.mono ?_
      rintro e w3 ⟨a', c', rfl, ho, hb3⟩
      have ho := own_mono ho hb1.size
      have hb4 := below_tr' hb1 hb3
      have r0 := blk_below (blk_below Q1.out hb) hb3
      have z0 := blk_cell r0 0 (.int .i64 0) rfl
      have z1 := blk_cell r0 1 (.slice none 0 0) rfl
      have f0 := blk_free r0 0
      have f1 := blk_free r0 1
      have sO := own_setOther (own_setOther ho w.heap.size 0 (.int .i64 ((n : Int) + (cl : Int))) (own_ne ho r0 (by decide))) w.heap.size 1 (.slice a' k c') (own_ne ho r0 (by decide))
      have sB := (hb4.setCell (p := ⟨w.heap.size, 0, none⟩) (by simp) (.int .i64 ((n : Int) + (cl : Int)))).setCell (p := ⟨w.heap.size, 1, none⟩) (by simp) (.slice a' k c')
      have SO := Lib.hid sO
      have SB := Lib.hid sB
      clear sO sB r0 ho hb1 hb3 hb4 C2 k0
      go_wp2
      refine bodyPost_ret (v := .tuple #[graphV ((n : Int) + (cl : Int)) a' k c', .bool true]) (by simp [results, Try.results44, go_sem, z0, z1]) rfl ⟨a', c', c', by rw [HRL.out, HRN.out, HRO.out, ← HK.out], by rw [HRL.out, ← HK.out]; exact SO.out, SB.out⟩
    · have HRO := Lib.hid (show mgOK m = false by simp [mgOK, hn, hcl, h7])
      have HRL := Lib.hid (show mgL m = [] by simp [mgL, HRO.out])
      have HRN := Lib.hid (show mgN m = 0 by simp [mgN, HRO.out])
      have hd7 : decide ((7 : Int) < (n : Int) + (cl : Int)) = true := by simp; omega
      go_enter Try.func44, Try.ntmps44
      go_wp2_with (simp only [HW.out])
      refine C1.mono ?_
      rintro e w1 ⟨rfl, hb⟩
      have hb1 := below_tr' hB hb
      have k0 := (hb1.cell (p := ⟨b, off, none⟩) (Rd.lt hcw)).trans hcw
      clear C1 hx hx1 hcw
      have r0 := blk_below Q1.out hb
      have z0 := blk_cell r0 0 (.int .i64 0) rfl
      have z1 := blk_cell r0 1 (.slice none 0 0) rfl
      have f0 := blk_free r0 0
      have f1 := blk_free r0 1
      have sB := (hb1.setCell (p := ⟨w.heap.size, 0, none⟩) (by simp) (.int .i64 0)).setCell (p := ⟨w.heap.size, 1, none⟩) (by simp) (.slice none 0 0)
      have SB := Lib.hid sB
      clear sB r0 hb hb1
      go_wp2
      refine bodyPost_ret (v := .tuple #[graphV 0 none 0 0, .bool false]) (by simp [results, Try.results44, go_sem, z0, z1]) rfl ⟨none, 0, 0, by rw [HRL.out, HRN.out, HRO.out]; rfl, by rw [HRL.out]; exact World.ownsRow_nil _ _ _ _, SB.out⟩

end Go.Proofs.Ytchefkggnncalaa
