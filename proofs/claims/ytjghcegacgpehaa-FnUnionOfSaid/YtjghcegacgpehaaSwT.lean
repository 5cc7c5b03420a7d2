
/- The reference's switched. (Printed by gen_swm.py.) -/
import Derived.Test.YtjghcegacgpehaaSwM
namespace Go.Proofs.Ytjghcegacgpehaa
open Go.RowKit

set_option maxHeartbeats 8000000 in
theorem switched_some (N : Int) (a : Option Addr) (c n : Nat) (es : List E2) (A B C D : Int) (w : World) (hn : es.length = n) (hx : Rd w a (edges es)) (hl : n ≤ 1000) (hAC : A ≠ C) (hBD : B ≠ D) :
    Calls Try.prog 147 #[graphV N a n c, .agg #[.int .i64 A, .int .i64 B, .int .i64 C, .int .i64 D]] w fun e w' => ∃ F a' m c', e = .returned (graphV N a' m c') ∧ m ≤ n + 2 ∧ w'.ownsRow w.heap.size 48 2 (.slice a' m c') m (edges F) ∧ Below w.heap.size w w' := by
  have hB := below_tr' (below_alloc2 w (.cells #[.int .i64 N, .slice a n c] 25) (.cells #[.int .i64 A, .int .i64 B, .int .i64 C, .int .i64 D] 60)) (below_alloc ((w.alloc (.cells #[.int .i64 N, .slice a n c] 25)).alloc (.cells #[.int .i64 A, .int .i64 B, .int .i64 C, .int .i64 D] 60)) (.cells #[.int .i64 0, .slice none 0 0] 25))
  have qg := blk_below (blk_below (heap_alloc_new w (.cells #[.int .i64 N, .slice a n c] 25)) (below_alloc _ (.cells #[.int .i64 A, .int .i64 B, .int .i64 C, .int .i64 D] 60))) (below_alloc _ (.cells #[.int .i64 0, .slice none 0 0] 25))
  have qs := blk_below (heap_alloc_new (w.alloc (.cells #[.int .i64 N, .slice a n c] 25)) (.cells #[.int .i64 A, .int .i64 B, .int .i64 C, .int .i64 D] 60)) (below_alloc _ (.cells #[.int .i64 0, .slice none 0 0] 25))
  have qr := heap_alloc_new ((w.alloc (.cells #[.int .i64 N, .slice a n c] 25)).alloc (.cells #[.int .i64 A, .int .i64 B, .int .i64 C, .int .i64 D] 60)) (.cells #[.int .i64 0, .slice none 0 0] 25)
  rw [show (w.alloc (.cells #[.int .i64 N, .slice a n c] 25)).heap.size = w.heap.size + 1 from by simp] at qs
  rw [show ((w.alloc (.cells #[.int .i64 N, .slice a n c] 25)).alloc (.cells #[.int .i64 A, .int .i64 B, .int .i64 C, .int .i64 D] 60)).heap.size = w.heap.size + 1 + 1 from by simp] at qr
  generalize hW : (((w.alloc (.cells #[.int .i64 N, .slice a n c] 25)).alloc (.cells #[.int .i64 A, .int .i64 B, .int .i64 C, .int .i64 D] 60)).alloc (.cells #[.int .i64 0, .slice none 0 0] 25)) = W at *
  have HW := Lib.hid hW
  have hx0 := hx.below hB
  clear hW hx
  have hBs := hB.size
  have d0 := later_cell (blk_cell qg 0 (.int .i64 N) rfl)
  have d1 := later_cell (blk_cell qg 1 (.slice a n c) rfl)
  have d2 := later_cell (blk_cell qs 0 (.int .i64 A) rfl)
  have d3 := later_cell (blk_cell qs 1 (.int .i64 B) rfl)
  have d4 := later_cell (blk_cell qs 2 (.int .i64 C) rfl)
  have d5 := later_cell (blk_cell qs 3 (.int .i64 D) rfl)
  have bd := bel_drew (Below.refl W.heap.size W)
  have C1 := dropEdge_any N a c n es A B W.drew hn (hx0.below bd) (by omega)
  go_enter Try.func147, Try.ntmps147
  go_wp2_with (simp only [HW.out])
  refine wp_region_flags [true, true, true, true, true, false, true, true, true, true, false, true, true, true, true, false, true, true, true, true, false, false] 21 (C := fun w' => ∃ u : Later W, w' = u.val) (by kernel_rfl) (by kernel_rfl) ⟨⟨_, bd⟩, rfl⟩ ?_
  simp only [pickT, pickF]
  repeat (go_big_quiet_step (fail))
  refine wpQuiet_nil ?_
  clear d0 d1 d2 d3 d4 d5 hx0
  refine tail_step fun K hK => ?_
  go_wp2_with fail
  refine C1.mono ?_
  rintro e w1 ⟨F1, a1, m1, c1, rfl, hm1, ho1, hb1⟩
  have hb1 := Below.trans bd hb1
  have ho1 := own_mono ho1 (Nat.le_refl _)
  clear C1
  go_wp2
  refine hK _ _ ⟨⟨_, hb1⟩, rfl⟩ ?_
  clear hK
  have C2 := dropEdge_any N a1 c1 m1 F1 C D w1 (own_edgeLen ho1) (own_rd ho1) (by omega)
  clear ho1
  refine tail_step fun K hK => ?_
  go_wp2_with fail
  refine C2.mono ?_
  rintro e w2 ⟨F2, a2, m2, c2, rfl, hm2, ho2, hb2⟩
  have hb2 := below_tr' hb1 hb2
  clear C2
  go_wp2
  refine hK _ _ ⟨⟨_, hb2⟩, rfl⟩ ?_
  clear hK
  have C3 := addEdge_some N a2 c2 m2 _ F2 A C w2 ho2 (by omega) hAC
  clear ho2
  refine tail_step fun K hK => ?_
  go_wp2_with fail
  refine C3.mono ?_
  rintro e w3 ⟨F3, a3, c3, rfl, ho3, hb3⟩
  have hb3 := below_tr' hb2 hb3
  clear C3
  go_wp2
  refine hK _ _ ⟨⟨_, hb3⟩, rfl⟩ ?_
  clear hK
  have C4 := addEdge_some N a3 c3 (m2 + 1) _ F3 B D w3 ho3 (by omega) hBD
  have hs3 := hb3.size
  clear ho3
  refine tail_step fun K hK => ?_
  go_wp2_with fail
  refine C4.mono ?_
  rintro e w4 ⟨F4, a4, c4, rfl, ho4, hb4⟩
  have hb4 := below_tr' hb3 hb4
  have ho4 := own_mono ho4 (Nat.le_trans hBs hs3)
  clear C4
  go_wp2
  refine hK _ _ ⟨⟨_, hb4⟩, rfl⟩ ?_
  clear hK
  refine tail_last fun K hK => ?_
  have qr := blk_below qr hb4
  have hB := below_tr' hB hb4
  have z0 := blk_cell qr 0 (.int .i64 0) rfl
  have z1 := blk_cell qr 1 (.slice none 0 0) rfl
  have f0 := blk_free qr 0
  have f1 := blk_free qr 1
  have SO := Lib.hid (own_setOther (own_setOther ho4 (w.heap.size + 1 + 1) 0 (.int .i64 N) (own_ne ho4 qr (by decide))) (w.heap.size + 1 + 1) 1 (.slice a4 (m2 + 1 + 1) c4) (own_ne ho4 qr (by decide)))
  have SB := Lib.hid ((hB.setCell (p := ⟨w.heap.size + 1 + 1, 0, none⟩) (by simp; omega) (.int .i64 N)).setCell (p := ⟨w.heap.size + 1 + 1, 1, none⟩) (by simp; omega) (.slice a4 (m2 + 1 + 1) c4))
  clear ho4 hB qr hb1 hb2 hb3 hb4 bd
  go_wp2
  refine bodyPost_ret (v := graphV N a4 (m2 + 1 + 1) c4) (by simp [results, Try.results147, go_sem, z0, z1]) rfl ⟨F4, a4, m2 + 1 + 1, c4, rfl, by omega, SO.out, SB.out⟩

end Go.Proofs.Ytjghcegacgpehaa
