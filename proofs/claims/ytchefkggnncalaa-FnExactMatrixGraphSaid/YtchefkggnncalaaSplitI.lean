
/- The program's MatrixGraph. (Printed by gen_split.py.) -/
import Derived.Test.YtchefkggnncalaaSplit
namespace Go.Proofs.Ytchefkggnncalaa
open Go.RowKit

set_option maxHeartbeats 4000000 in
theorem implMG_any (a : Option Addr) (c n : Nat) (m : List (List Int)) (w : World) (hn : m.length = n) (hx : RdM w a m) (hl : n + sumLen m ≤ 1048576) :
    Calls Try.prog 46 #[.slice a n c] w fun e w' => ∃ a' c' d', e = .returned (.tuple #[graphV (mgN m) a' (mgL m).length d', .bool (mgOK m)]) ∧ w'.ownsRow w.heap.size 59 2 (.slice a' (mgL m).length c') (mgL m).length (edges (mgL m)) ∧ Below w.heap.size w w' := by
  have hB := below_alloc2 w (.cells #[.slice a n c] 50) (.cells #[.int .i64 0, .slice none 0 0] 29)
  have q0 := heap_alloc_new w (.cells #[.slice a n c] 50)
  have q0 := blk_below q0 (below_alloc _ (.cells #[.int .i64 0, .slice none 0 0] 29))
  have q1 := heap_alloc_new (w.alloc (.cells #[.slice a n c] 50)) (.cells #[.int .i64 0, .slice none 0 0] 29)
  have hs : (w.alloc (.cells #[.slice a n c] 50)).heap.size = w.heap.size + 1 := by simp
  rw [hs] at q1
  generalize hW : (w.alloc (.cells #[.slice a n c] 50)).alloc (.cells #[.int .i64 0, .slice none 0 0] 29) = W at *
  have HW := Lib.hid hW
  clear hW hs
  have hx1 := hx.below hB
  have Q0 := Lib.hid q0
  have Q1 := Lib.hid q1
  have HVM := Lib.hid (fun u : Later W => implValidMatrix_any a c n m u.val hn (hx1.below u.ok) hl)
  have d1 := later_cell (blk_cell q0 0 (.slice a n c) rfl)
  clear q0 q1
  cases hv : validM m
  · rw [hv] at HVM
    have HRO := Lib.hid (show mgOK m = false by simp [mgOK, hv])
    have HRL := Lib.hid (show mgL m = [] by simp [mgL, HRO.out])
    have HRN := Lib.hid (show mgN m = 0 by simp [mgN, HRO.out])
    go_enter Try.func46, Try.ntmps46
    go_wp2_with (simp only [HW.out])
    refine wp_region_later (by kernel_rfl) (by kernel_rfl) ?_
    repeat (go_big_quiet_step ((go_at_call 91; exact calls_later _ (HVM.out _))))
    refine wpQuiet_nil ?_
    intro w1 hw'
    have hb := later_below hw'
    have hb1 := below_tr' hB hb
    clear hw' d1
    have r0 := blk_below Q1.out hb
    have z0 := blk_cell r0 0 (.int .i64 0) rfl
    have z1 := blk_cell r0 1 (.slice none 0 0) rfl
    have f0 := blk_free r0 0
    have f1 := blk_free r0 1
    have sB := (hb1.setCell (p := ⟨w.heap.size + 1, 0, none⟩) (by simp) (.int .i64 0)).setCell (p := ⟨w.heap.size + 1, 1, none⟩) (by simp) (.slice none 0 0)
    have SB := Lib.hid sB
    clear sB r0 hb hb1
    go_wp2
    refine bodyPost_ret (v := .tuple #[graphV 0 none 0 0, .bool false]) (by simp [results, Try.results46, go_sem, z0, z1]) rfl ⟨none, 0, 0, by rw [HRL.out, HRN.out, HRO.out]; rfl, by rw [HRL.out]; exact World.ownsRow_nil _ _ _ _, SB.out⟩
  · rw [hv] at HVM
    have h5 := validM_cols hv
    obtain ⟨b, off, a0, c0, ea, hcw⟩ := hx.first hv
    have hc := (hB.cell (p := ⟨b, off, none⟩) (Rd.lt hcw)).trans hcw
    have hbw : b < w.heap.size := Rd.lt hcw
    clear hcw
    obtain ⟨cl, hcl⟩ : ∃ cl, colsOf m = cl := ⟨_, rfl⟩
    rw [hcl] at hc h5
    rw [hn] at h5
    subst ea
    have d2 := later_cell hc
    by_cases h7 : n + cl ≤ 7
    · have HRO := Lib.hid (show mgOK m = true by simp [mgOK, hv, hn, hcl, h7])
      have HRL := Lib.hid (show mgL m = (pairsL (n + cl)).filter (splitP n m) by simp [mgL, HRO.out, hn, hcl])
      have HRN := Lib.hid (show mgN m = (n : Int) + (cl : Int) by simp [mgN, HRO.out, hn, hcl])
      have hd7 : decide ((7 : Int) < (n : Int) + (cl : Int)) = false := by simp; omega
      go_enter Try.func46, Try.ntmps46
      go_wp2_with (simp only [HW.out])
      refine wp_region_later (by kernel_rfl) (by kernel_rfl) ?_
      repeat (go_big_quiet_step ((go_at_call 91; exact calls_later _ (HVM.out _))))
      refine wpQuiet_nil ?_
      intro w1 hw'
      have hb := later_below hw'
      have hb1 := below_tr' hB hb
      clear hw' d1 d2
      have q0 := blk_below Q0.out hb
      have k0 := blk_cell q0 0 (.slice (some ⟨b, off, none⟩) n c) rfl
      have hA := below_alloc w1 (.cells #[.int .i64 n] 3)
      have qn := heap_alloc_new w1 (.cells #[.int .i64 n] 3)
      have q0 := blk_below q0 hA
      have r0 := blk_below (blk_below Q1.out hb) hA
      have hx2 := (hx1.below hb).below hA
      have hc2 := ((below_tr' hb hA).cell (p := ⟨b, off, none⟩) (Rd.lt hc)).trans hc
      have hb1 := below_tr' hb1 hA
      have hW1 : w.heap.size + 1 < w1.heap.size := blk_lt (blk_below Q1.out hb)
      obtain ⟨B3, hB3⟩ : ∃ B3, B3 = w1.heap.size := ⟨_, rfl⟩
      rw [← hB3] at qn hW1
      go_wp2_with fail
      rw [← hB3]
      generalize hV : w1.alloc (.cells #[.int .i64 n] 3) = w2 at *
      clear hV hB3 hA hb k0
      have hb1 := bel_drew hb1
      have hbd := bel_drew (Below.refl w2.heap.size w2)
      have r0 := blk_below r0 hbd
      have dn := growl_cell (l := [w.heap.size + 1]) (blk_cell qn 0 (.int .i64 n) rfl) (by simp; omega)
      have dm := growl_cell (l := [w.heap.size + 1]) (blk_cell q0 0 (.slice (some ⟨b, off, none⟩) n c) rfl) (by simp)
      have dc := growl_cell (l := [w.heap.size + 1]) hc2 (by simp; omega)
      have hI0 : InL w2 [w.heap.size + 1] w2.drew := ⟨Nat.le_refl _, fun _ _ _ => rfl⟩
      have C2 := which_any (n + cl) 92 #[.pointer (some ⟨B3, 0, none⟩), .pointer (some ⟨w.heap.size, 0, none⟩)] (splitP n m) w2.drew (by omega)
        ⟨enters_split, fun w' e hb' he => split1_any B3 w.heap.size (some ⟨b, off, none⟩) c n cl m e.1 e.2 w' hv hn hcl (blk_below qn (hbd.trans hb')) (blk_below q0 (hbd.trans hb')) (hx2.below (hbd.trans hb')) (by have := mem_pairsL.1 he; omega)⟩
      have hpl := Nat.le_trans (List.length_filter_le (splitP n m) (pairsL (n + cl))) (pairsL_len (N := n + cl) (by omega))
      generalize (pairsL (n + cl)).filter (splitP n m) = L at *
      rw [show (((n + cl : Nat)) : Int) = (n : Int) + (cl : Int) from by omega] at C2
      obtain ⟨k, hk⟩ : ∃ k, k = L.length := ⟨_, rfl⟩
      rw [← hk] at C2 hpl
      have HK := Lib.hid hk
      clear hk hx hx1 hx2 hc hc2 q0 qn hv hcl
      refine wp_region_flags [true, true, true, true, true, true, false, false, false, false] 9 (C := fun w' => ∃ u : GrowL w2 [w.heap.size + 1], w' = u.val) (by kernel_rfl) (by kernel_rfl) ⟨⟨_, hI0⟩, rfl⟩ ?_
      simp only [pickT, pickF]
      repeat (go_big_quiet_step (fail))
      refine wpQuiet_nil ?_
      clear dn dm dc
      refine tail_step fun K hK => ?_
      go_wp2
      refine hK _ _ ⟨⟨_, hI0⟩, rfl⟩ ?_
      clear hK
      refine tail_step fun K hK => ?_
      go_wp2_with fail
      refine C2.mono ?_
      rintro e w3 ⟨a', c', rfl, ho, hb3⟩
      have hI3 := hI0.below hb3
      go_wp2
      refine hK _ _ ⟨⟨_, hI3⟩, rfl⟩ ?_
      clear hK C2
      have ho := own_mono ho hb1.size
      have hb4 := below_tr' hb1 hb3
      have r0 := blk_below r0 hb3
      have z0 := blk_cell r0 0 (.int .i64 0) rfl
      have z1 := blk_cell r0 1 (.slice none 0 0) rfl
      have f0 := blk_free r0 0
      have f1 := blk_free r0 1
      have I5 := Lib.hid ((hI3.set (w.heap.size + 1) 0 (.int .i64 ((n : Int) + (cl : Int))) (.inl (by simp))).set (w.heap.size + 1) 1 (.slice a' k k) (.inl (by simp)))
      have sO := own_setOther (own_setOther ho (w.heap.size + 1) 0 (.int .i64 ((n : Int) + (cl : Int))) (own_ne ho r0 (by decide))) (w.heap.size + 1) 1 (.slice a' k k) (own_ne ho r0 (by decide))
      have sB := (hb4.setCell (p := ⟨w.heap.size + 1, 0, none⟩) (by simp) (.int .i64 ((n : Int) + (cl : Int)))).setCell (p := ⟨w.heap.size + 1, 1, none⟩) (by simp) (.slice a' k k)
      have SO := Lib.hid sO
      have SB := Lib.hid sB
      clear sO sB r0 ho hb1 hb3 hb4 hI3 hI0
      refine tail_step fun K hK => ?_
      go_wp2
      refine hK _ _ ⟨⟨_, I5.out⟩, rfl⟩ ?_
      clear hK
      refine tail_last fun K hK => ?_
      go_wp2
      refine bodyPost_ret (v := .tuple #[graphV ((n : Int) + (cl : Int)) a' k k, .bool true]) (by simp [results, Try.results46, go_sem, z0, z1]) rfl ⟨a', c', k, by rw [HRL.out, HRN.out, HRO.out, ← HK.out], by rw [HRL.out, ← HK.out]; exact SO.out, SB.out⟩
    · have HRO := Lib.hid (show mgOK m = false by simp [mgOK, hn, hcl, h7])
      have HRL := Lib.hid (show mgL m = [] by simp [mgL, HRO.out])
      have HRN := Lib.hid (show mgN m = 0 by simp [mgN, HRO.out])
      have hd7 : decide ((7 : Int) < (n : Int) + (cl : Int)) = true := by simp; omega
      go_enter Try.func46, Try.ntmps46
      go_wp2_with (simp only [HW.out])
      refine wp_region_later (by kernel_rfl) (by kernel_rfl) ?_
      repeat (go_big_quiet_step ((go_at_call 91; exact calls_later _ (HVM.out _))))
      refine wpQuiet_nil ?_
      intro w1 hw'
      have hb := later_below hw'
      have hb1 := below_tr' hB hb
      clear hw' d1 d2
      have r0 := blk_below Q1.out hb
      have z0 := blk_cell r0 0 (.int .i64 0) rfl
      have z1 := blk_cell r0 1 (.slice none 0 0) rfl
      have f0 := blk_free r0 0
      have f1 := blk_free r0 1
      have sB := (hb1.setCell (p := ⟨w.heap.size + 1, 0, none⟩) (by simp) (.int .i64 0)).setCell (p := ⟨w.heap.size + 1, 1, none⟩) (by simp) (.slice none 0 0)
      have SB := Lib.hid sB
      clear sB r0 hb hb1
      go_wp2
      refine bodyPost_ret (v := .tuple #[graphV 0 none 0 0, .bool false]) (by simp [results, Try.results46, go_sem, z0, z1]) rfl ⟨none, 0, 0, by rw [HRL.out, HRN.out, HRO.out]; rfl, by rw [HRL.out]; exact World.ownsRow_nil _ _ _ _, SB.out⟩

end Go.Proofs.Ytchefkggnncalaa
