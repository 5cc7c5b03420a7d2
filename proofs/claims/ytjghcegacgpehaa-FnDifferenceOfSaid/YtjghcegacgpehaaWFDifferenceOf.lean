
/- The walk of the law FnDifferenceOf. (Printed by laws_f.py.) -/
import Derived.Test.YtjghcegacgpehaaTwoE
import Derived.Test.YtjghcegacgpehaaPlainDf
import Derived.Test.YtjghcegacgpehaaDraw1
namespace Go.Proofs.Ytjghcegacgpehaa
open Go.RowKit

set_option maxHeartbeats 4000000 in
set_option linter.unusedVariables false in
theorem walk_FnDifferenceOf (a_c : Option Addr) (c_c n_c : Nat) (bs : List Int) (w : World) (hc : CodeOK w a_c c_c n_c bs) :
    Calls Try.prog 3 #[.slice a_c n_c c_c] w fun e w' => e = .returned (.bool true) ∧ Below w.heap.size w w' := by
  by_cases hs : 1048576 < n_c
  · go_enter Try.func3, Try.ntmps3
    go_wp2
    go_ret
    exact ⟨rfl, Below.refl _ _⟩
  have hs' : n_c ≤ 1048576 := by omega
  have HB0 := Below.refl w.heap.size w
  go_enter Try.func3, Try.ntmps3
  have C1 := DrawDifferenceOf_any a_c c_c n_c bs w hc hs'
  go_wp2_with fail
  refine C1.mono ?_
  rintro e w1 ⟨N_g, g, a_g, c_g, N_h, h, a_h, c_h, rfl, hN_g, hN_h, hb_g, hb_h, ho_g, ho_h, hb1⟩
  clear C1
  obtain ⟨n_g, hn_g'⟩ : ∃ n, n = g.length := ⟨_, rfl⟩
  rw [← hn_g'] at ho_g hb_g
  have CN_g : graphV N_g a_g g.length c_g = graphV N_g a_g n_g c_g := by rw [hn_g']
  rw [CN_g]
  have HN_g := Lib.hid hn_g'.symm
  clear CN_g hn_g'
  have hc_g := own_capE ho_g
  obtain ⟨n_h, hn_h'⟩ : ∃ n, n = h.length := ⟨_, rfl⟩
  rw [← hn_h'] at ho_h hb_h
  have CN_h : graphV N_h a_h h.length c_h = graphV N_h a_h n_h c_h := by rw [hn_h']
  rw [CN_h]
  have HN_h := Lib.hid hn_h'.symm
  clear CN_h hn_h'
  have hc_h := own_capE ho_h
  have HB1 := below_tr' HB0 hb1
  have HA := below_alloc2 w1 (.cells #[.int .i64 0, .slice none 0 0] 25) (.cells #[.int .i64 0, .slice none 0 0] 25)
  have q_b_g := blk_below (heap_alloc_new w1 (.cells #[.int .i64 0, .slice none 0 0] 25)) (below_alloc _ (.cells #[.int .i64 0, .slice none 0 0] 25))
  have q_b_h := heap_alloc_new (w1.alloc (.cells #[.int .i64 0, .slice none 0 0] 25)) (.cells #[.int .i64 0, .slice none 0 0] 25)
  rw [show (w1.alloc (.cells #[.int .i64 0, .slice none 0 0] 25)).heap.size = w1.heap.size + 1 from by simp] at q_b_h
  have ho_g := own_below ho_g HA
  have ho_h := own_below ho_h HA
  have HBa := below_tr' HB1 HA
  generalize hVa : (w1.alloc (.cells #[.int .i64 0, .slice none 0 0] 25)).alloc (.cells #[.int .i64 0, .slice none 0 0] 25) = va at *
  have HVa := Lib.hid hVa
  clear hVa HA
  have z00 := blk_cell q_b_g 0 (.int .i64 0) rfl
  have f00 := blk_free q_b_g 0
  have z01 := blk_cell q_b_g 1 (.slice none 0 0) rfl
  have f01 := blk_free q_b_g 1
  have ho_g := own_setOther (own_setOther ho_g (w1.heap.size) 0 (.int .i64 N_g) (own_ne ho_g q_b_g (by decide))) (w1.heap.size) 1 (.slice a_g n_g c_g) (own_ne ho_g q_b_g (by decide))
  have ho_h := own_setOther (own_setOther ho_h (w1.heap.size) 0 (.int .i64 N_g) (own_ne ho_h q_b_g (by decide))) (w1.heap.size) 1 (.slice a_g n_g c_g) (own_ne ho_h q_b_g (by decide))
  have q_b_h := blk_set_other (blk_set_other q_b_h 0 (.int .i64 N_g) (g := w1.heap.size) (by omega)) 1 (.slice a_g n_g c_g) (g := w1.heap.size) (by omega)
  have q_b_g := blk_set (blk_set q_b_g 0 (.int .i64 N_g)) 1 (.slice a_g n_g c_g)
  have HB_0 := ((HBa).setCell (p := ⟨w1.heap.size, 0, none⟩) (by have := hb1.size; simp; omega) (.int .i64 N_g)).setCell (p := ⟨w1.heap.size, 1, none⟩) (by have := hb1.size; simp; omega) (.slice a_g n_g c_g)
  generalize hV0 : (va.setCell ⟨w1.heap.size, 0, none⟩ (.int .i64 N_g)).setCell ⟨w1.heap.size, 1, none⟩ (.slice a_g n_g c_g) = vb0 at *
  have HV_0 := Lib.hid hV0
  clear hV0
  have z10 := blk_cell q_b_h 0 (.int .i64 0) rfl
  have f10 := blk_free q_b_h 0
  have z11 := blk_cell q_b_h 1 (.slice none 0 0) rfl
  have f11 := blk_free q_b_h 1
  have ho_g := own_setOther (own_setOther ho_g (w1.heap.size + 1) 0 (.int .i64 N_h) (own_ne ho_g q_b_h (by decide))) (w1.heap.size + 1) 1 (.slice a_h n_h c_h) (own_ne ho_g q_b_h (by decide))
  have ho_h := own_setOther (own_setOther ho_h (w1.heap.size + 1) 0 (.int .i64 N_h) (own_ne ho_h q_b_h (by decide))) (w1.heap.size + 1) 1 (.slice a_h n_h c_h) (own_ne ho_h q_b_h (by decide))
  have q_b_g := blk_set_other (blk_set_other q_b_g 0 (.int .i64 N_h) (g := w1.heap.size + 1) (by omega)) 1 (.slice a_h n_h c_h) (g := w1.heap.size + 1) (by omega)
  have q_b_h := blk_set (blk_set q_b_h 0 (.int .i64 N_h)) 1 (.slice a_h n_h c_h)
  have HB_1 := ((HB_0).setCell (p := ⟨w1.heap.size + 1, 0, none⟩) (by have := hb1.size; simp; omega) (.int .i64 N_h)).setCell (p := ⟨w1.heap.size + 1, 1, none⟩) (by have := hb1.size; simp; omega) (.slice a_h n_h c_h)
  generalize hV1 : (vb0.setCell ⟨w1.heap.size + 1, 0, none⟩ (.int .i64 N_h)).setCell ⟨w1.heap.size + 1, 1, none⟩ (.slice a_h n_h c_h) = vb1 at *
  have HV_1 := Lib.hid hV1
  clear hV1
  cases hv : bothV N_g g N_h h
  · have hDV : diffV N_g g N_h h = -1 := by rw [diffV, hv]; rfl
    have g_b_g_0 := blk_cell q_b_g 0 (.int .i64 N_g) rfl
    have g_b_g_1 := blk_cell q_b_g 1 (.slice a_g n_g c_g) rfl
    have g_b_h_0 := blk_cell q_b_h 0 (.int .i64 N_h) rfl
    have g_b_h_1 := blk_cell q_b_h 1 (.slice a_h n_h c_h) rfl
    have C2 := implDiff_any N_g a_g c_g n_g g N_h a_h c_h n_h h vb1 (by omega) (by omega) HN_g.out (own_rd ho_g) (by omega) HN_h.out (own_rd ho_h) (by omega)
    rw [hDV] at C2
    go_wp2_with (simp only [HVa.out, HV_0.out, HV_1.out])
    refine C2.mono ?_
    rintro e w2 ⟨rfl, hb2⟩
    clear C2
    have HB2 := below_tr' HB_1 hb2
    have ho_g := own_below ho_g hb2
    have ho_h := own_below ho_h hb2
    have q_b_g := blk_below q_b_g hb2
    have q_b_h := blk_below q_b_h hb2
    clear g_b_g_0 g_b_g_1 g_b_h_0 g_b_h_1
    have g_b_g_0 := blk_cell q_b_g 0 (.int .i64 N_g) rfl
    have g_b_g_1 := blk_cell q_b_g 1 (.slice a_g n_g c_g) rfl
    have g_b_h_0 := blk_cell q_b_h 0 (.int .i64 N_h) rfl
    have g_b_h_1 := blk_cell q_b_h 1 (.slice a_h n_h c_h) rfl
    have C3 := specDiff_any N_g a_g c_g n_g g N_h a_h c_h n_h h w2 HN_g.out (own_rd ho_g) (by omega) HN_h.out (own_rd ho_h) (by omega)
    rw [hDV] at C3
    go_wp2_with fail
    refine C3.mono ?_
    rintro e w3 ⟨rfl, hb3⟩
    clear C3
    have HB3 := below_tr' HB2 hb3
    have ho_g := own_below ho_g hb3
    have ho_h := own_below ho_h hb3
    have q_b_g := blk_below q_b_g hb3
    have q_b_h := blk_below q_b_h hb3
    clear g_b_g_0 g_b_g_1 g_b_h_0 g_b_h_1
    have g_b_g_0 := blk_cell q_b_g 0 (.int .i64 N_g) rfl
    have g_b_g_1 := blk_cell q_b_g 1 (.slice a_g n_g c_g) rfl
    have g_b_h_0 := blk_cell q_b_h 0 (.int .i64 N_h) rfl
    have g_b_h_1 := blk_cell q_b_h 1 (.slice a_h n_h c_h) rfl
    have C4 := specDiff_any N_g a_g c_g n_g g N_h a_h c_h n_h h w3 HN_g.out (own_rd ho_g) (by omega) HN_h.out (own_rd ho_h) (by omega)
    rw [hDV] at C4
    go_wp2_with fail
    refine C4.mono ?_
    rintro e w4 ⟨rfl, hb4⟩
    clear C4
    have HB4 := below_tr' HB3 hb4
    have ho_g := own_below ho_g hb4
    have ho_h := own_below ho_h hb4
    have q_b_g := blk_below q_b_g hb4
    have q_b_h := blk_below q_b_h hb4
    clear g_b_g_0 g_b_g_1 g_b_h_0 g_b_h_1
    go_wp2
    go_ret
    exact ⟨rfl, HB4⟩
  · have hDV : diffV N_g g N_h h = (diffB g h : Nat) := by rw [diffV, hv]; rfl
    obtain ⟨hL1, hL2, hL3⟩ := diff_law hv
    have hL_k := cgL_len N_g g
    have hcgN : -1 ≤ cgN N_g g ∧ cgN N_g g ≤ 8 := by unfold cgN; split <;> omega
    have hL_m := cgL_len N_h h
    have hcgM : -1 ≤ cgN N_h h ∧ cgN N_h h ≤ 8 := by unfold cgN; split <;> omega
    generalize hDD : diffB g h = D at *
    have HDV := Lib.hid hDV
    have HL1 := Lib.hid hL1
    have HL2 := Lib.hid hL2
    have HL3 := Lib.hid hL3
    clear hDV hL1 hL2 hL3 hDD hv
    have g_b_g_0 := blk_cell q_b_g 0 (.int .i64 N_g) rfl
    have g_b_g_1 := blk_cell q_b_g 1 (.slice a_g n_g c_g) rfl
    have g_b_h_0 := blk_cell q_b_h 0 (.int .i64 N_h) rfl
    have g_b_h_1 := blk_cell q_b_h 1 (.slice a_h n_h c_h) rfl
    have C2 := implDiff_any N_g a_g c_g n_g g N_h a_h c_h n_h h vb1 (by omega) (by omega) HN_g.out (own_rd ho_g) (by omega) HN_h.out (own_rd ho_h) (by omega)
    rw [HDV.out] at C2
    go_wp2_with (simp only [HVa.out, HV_0.out, HV_1.out])
    refine C2.mono ?_
    rintro e w2 ⟨rfl, hb2⟩
    clear C2
    have HB2 := below_tr' HB_1 hb2
    have ho_g := own_below ho_g hb2
    have ho_h := own_below ho_h hb2
    have q_b_g := blk_below q_b_g hb2
    have q_b_h := blk_below q_b_h hb2
    clear g_b_g_0 g_b_g_1 g_b_h_0 g_b_h_1
    have g_b_g_0 := blk_cell q_b_g 0 (.int .i64 N_g) rfl
    have g_b_g_1 := blk_cell q_b_g 1 (.slice a_g n_g c_g) rfl
    have g_b_h_0 := blk_cell q_b_h 0 (.int .i64 N_h) rfl
    have g_b_h_1 := blk_cell q_b_h 1 (.slice a_h n_h c_h) rfl
    have C3 := specDiff_any N_g a_g c_g n_g g N_h a_h c_h n_h h w2 HN_g.out (own_rd ho_g) (by omega) HN_h.out (own_rd ho_h) (by omega)
    rw [HDV.out] at C3
    go_wp2_with fail
    refine C3.mono ?_
    rintro e w3 ⟨rfl, hb3⟩
    clear C3
    have HB3 := below_tr' HB2 hb3
    have ho_g := own_below ho_g hb3
    have ho_h := own_below ho_h hb3
    have q_b_g := blk_below q_b_g hb3
    have q_b_h := blk_below q_b_h hb3
    clear g_b_g_0 g_b_g_1 g_b_h_0 g_b_h_1
    by_cases hz : D = 0
    · have hz' : ((D : Int) == 0) = true := by simp [hz]
      have HE1 := Lib.hid (show decide (N_g = N_h ∧ g = h) = true by rw [HL1.out]; simp [hz])
      have D_d_b_g_0 := Lib.hid (later_cell (blk_cell q_b_g 0 (.int .i64 N_g) rfl))
      have D_d_b_g_1 := Lib.hid (later_cell (blk_cell q_b_g 1 (.slice a_g n_g c_g) rfl))
      have D_d_b_h_0 := Lib.hid (later_cell (blk_cell q_b_h 0 (.int .i64 N_h) rfl))
      have D_d_b_h_1 := Lib.hid (later_cell (blk_cell q_b_h 1 (.slice a_h n_h c_h) rfl))
      have bd1 := bel_drew (Below.refl w3.heap.size w3)
      go_wp2
      refine wp_region_heads [true, true, true, true, false, false, false, false, false, false, false, false, false, false, false, false, false, false, false, false, false, false, false] 22 19 (C := fun w' => ∃ u : Later w3, w' = u.val) (by kernel_rfl) (by kernel_rfl) ⟨⟨_, bd1⟩, rfl⟩ ?_
      have d_b_g_0 := D_d_b_g_0.out
      have d_b_g_1 := D_d_b_g_1.out
      have d_b_h_0 := D_d_b_h_0.out
      have d_b_h_1 := D_d_b_h_1.out
      simp only [pickT]
      repeat (go_big_quiet_step (fail))
      refine wpQuiet_nil ?_
      clear d_b_g_0 d_b_g_1 d_b_h_0 d_b_h_1
      generalize hD1 : w3.drew = D1 at *
      clear hD1
      have ho_g := own_below ho_g bd1
      have ho_h := own_below ho_h bd1
      have q_b_g := blk_below q_b_g bd1
      have q_b_h := blk_below q_b_h bd1
      have HB4 := below_tr' HB3 bd1
      refine any_one (i := 4) (by kernel_rfl) rfl ?_
      intro K hK
      have C5 := equalGraph_any N_g N_h a_g a_h c_g c_h n_g n_h g h D1 HN_g.out HN_h.out (own_rd ho_g) (own_rd ho_h) (by omega) (by omega)
      rw [HE1.out] at C5
      go_wp2_with fail
      refine C5.mono ?_
      rintro e w5 ⟨rfl, hb5⟩
      clear C5
      have hr1_5 := below_tr' bd1 hb5
      have HB5 := below_tr' HB4 hb5
      have ho_g := own_below ho_g hb5
      have ho_h := own_below ho_h hb5
      have q_b_g := blk_below q_b_g hb5
      have q_b_h := blk_below q_b_h hb5
      go_wp2
      refine hK _ _ (fun _ => ⟨⟨_, hr1_5⟩, rfl⟩) ?_
      clear hK
      refine any_one (i := 5) (by kernel_rfl) rfl ?_
      intro K hK
      go_wp2
      refine hK _ _ (fun _ => ⟨⟨_, hr1_5⟩, rfl⟩) ?_
      clear hK
      refine any_one (i := 6) (by kernel_rfl) rfl ?_
      intro K hK
      go_wp2
      refine hK _ _ (fun _ => ⟨⟨_, hr1_5⟩, rfl⟩) ?_
      clear hK
      refine any_heads (id := 3) (n := 13) [false, false, false, false, false, false, false, true, true, false, true, false, false, false, false, false, false, false, false, false, false, false, false] #[true, true, true, true, true, true, true, true, true, false, true, false, false, false, false, false, false, false, false, false, false, false, false] (by kernel_rfl) ⟨⟨_, hr1_5⟩, rfl⟩ ?_
      have d_b_g_0 := D_d_b_g_0.out
      have d_b_g_1 := D_d_b_g_1.out
      have d_b_h_0 := D_d_b_h_0.out
      have d_b_h_1 := D_d_b_h_1.out
      simp only [pickT]
      repeat (go_big_quiet_step (fail))
      refine wpQuiet_nil ?_
      clear d_b_g_0 d_b_g_1 d_b_h_0 d_b_h_1
      refine any_one (i := 9) (by kernel_rfl) rfl ?_
      intro K hK
      have C6 := implDiff_any N_h a_h c_h n_h h N_g a_g c_g n_g g w5 (by omega) (by omega) HN_h.out (own_rd ho_h) (by omega) HN_g.out (own_rd ho_g) (by omega)
      rw [HL2.out] at C6
      go_wp2_with fail
      refine C6.mono ?_
      rintro e w6 ⟨rfl, hb6⟩
      clear C6
      have hr1_6 := below_tr' hr1_5 hb6
      have HB6 := below_tr' HB5 hb6
      have ho_g := own_below ho_g hb6
      have ho_h := own_below ho_h hb6
      have q_b_g := blk_below q_b_g hb6
      have q_b_h := blk_below q_b_h hb6
      go_wp2
      refine hK _ _ (fun _ => ⟨⟨_, hr1_6⟩, rfl⟩) ?_
      clear hK
      refine any_one (i := 11) (by kernel_rfl) rfl ?_
      intro K hK
      go_wp2
      refine hK _ _ (fun _ => ⟨⟨_, hr1_6⟩, rfl⟩) ?_
      clear hK
      refine any_one (i := 12) (by kernel_rfl) rfl ?_
      intro K hK
      go_wp2
      refine hK _ _ (fun _ => ⟨⟨_, hr1_6⟩, rfl⟩) ?_
      clear hK
      refine any_one (i := 13) (by kernel_rfl) rfl ?_
      intro K hK
      go_wp2
      refine hK _ _ (fun _ => ⟨⟨_, hr1_6⟩, rfl⟩) ?_
      clear hK
      refine any_heads (id := 3) (n := 6) [false, false, false, false, false, false, false, false, false, false, false, false, false, false, true, false, true, false, false, true, false, false, false] #[true, true, true, true, true, true, true, true, true, true, true, true, true, true, true, false, true, false, false, true, false, false, false] (by kernel_rfl) ⟨⟨_, hr1_6⟩, rfl⟩ ?_
      have d_b_g_0 := D_d_b_g_0.out
      have d_b_g_1 := D_d_b_g_1.out
      have d_b_h_0 := D_d_b_h_0.out
      have d_b_h_1 := D_d_b_h_1.out
      simp only [pickT]
      repeat (go_big_quiet_step (fail))
      refine wpQuiet_nil ?_
      clear d_b_g_0 d_b_g_1 d_b_h_0 d_b_h_1
      refine any_one (i := 15) (by kernel_rfl) rfl ?_
      intro K hK
      have C7 := implCG_any N_g a_g c_g n_g g w6 (by omega) HN_g.out (own_rd ho_g) (by omega)
      go_wp2_with fail
      refine C7.mono ?_
      rintro e w7 ⟨aK, cK, dK, rfl, ho_k, hb7⟩
      clear C7
      have hr1_7 := below_tr' hr1_6 hb7
      have ap1 := apart_of ho_g ho_k
      have ap2 := apart_of ho_h ho_k
      have HB7 := below_tr' HB6 hb7
      have ho_g := own_below ho_g hb7
      have ho_h := own_below ho_h hb7
      have q_b_g := blk_below q_b_g hb7
      have q_b_h := blk_below q_b_h hb7
      go_wp2
      refine hK _ _ (fun _ => ⟨⟨_, hr1_7⟩, rfl⟩) ?_
      clear hK
      refine any_one (i := 17) (by kernel_rfl) rfl ?_
      intro K hK
      have C8 := implCG_any N_h a_h c_h n_h h w7 (by omega) HN_h.out (own_rd ho_h) (by omega)
      go_wp2_with fail
      refine C8.mono ?_
      rintro e w8 ⟨aM, cM, dM, rfl, ho_m, hb8⟩
      clear C8
      have hr1_8 := below_tr' hr1_7 hb8
      have ap3 := apart_of ho_g ho_m
      have ap4 := apart_of ho_h ho_m
      have ap5 := apart_of ho_k ho_m
      have HB8 := below_tr' HB7 hb8
      have ho_g := own_below ho_g hb8
      have ho_h := own_below ho_h hb8
      have ho_k := own_below ho_k hb8
      have q_b_g := blk_below q_b_g hb8
      have q_b_h := blk_below q_b_h hb8
      go_wp2
      refine hK _ _ (fun _ => ⟨⟨_, hr1_8⟩, rfl⟩) ?_
      clear hK
      refine any_one (i := 18) (by kernel_rfl) rfl ?_
      intro K hK
      have C9 := implDiff_any (cgN N_g g) aK dK (cgL N_g g).length (cgL N_g g) (cgN N_h h) aM dM (cgL N_h h).length (cgL N_h h) w8 (by omega) (by omega) rfl (own_rd ho_k) (by omega) rfl (own_rd ho_m) (by omega)
      rw [HL3.out] at C9
      go_wp2_with fail
      refine C9.mono ?_
      rintro e w9 ⟨rfl, hb9⟩
      clear C9
      have hr1_9 := below_tr' hr1_8 hb9
      have HB9 := below_tr' HB8 hb9
      have ho_g := own_below ho_g hb9
      have ho_h := own_below ho_h hb9
      have ho_k := own_below ho_k hb9
      have ho_m := own_below ho_m hb9
      have q_b_g := blk_below q_b_g hb9
      have q_b_h := blk_below q_b_h hb9
      go_wp2
      refine hK _ _ (fun _ => ⟨⟨_, hr1_9⟩, rfl⟩) ?_
      clear hK
      refine any_one (i := 20) (by kernel_rfl) rfl ?_
      intro K hK
      go_wp2
      refine hK _ _ (fun _ => ⟨⟨_, hr1_9⟩, rfl⟩) ?_
      clear hK
      refine any_one (i := 21) (by kernel_rfl) rfl ?_
      intro K hK
      go_wp2
      refine hK _ _ (fun _ => ⟨⟨_, hr1_9⟩, rfl⟩) ?_
      clear hK
      refine any_one (i := 22) (by kernel_rfl) rfl ?_
      intro K hK
      go_wp2
      refine hK _ _ (fun h => absurd rfl h) ?_
      clear hK
      refine any_end (by kernel_rfl) ?_
      clear D_d_b_g_0 D_d_b_g_1 D_d_b_h_0 D_d_b_h_1
      go_wp2
      go_ret
      first | exact ⟨rfl, HB9⟩ | exact ⟨ret_bool (by simp), HB9⟩
    · have hz' : ((D : Int) == 0) = false := by simp [hz]
      have HE1 := Lib.hid (show decide (N_g = N_h ∧ g = h) = false by rw [HL1.out]; simp [hz])
      have D_d_b_g_0 := Lib.hid (later_cell (blk_cell q_b_g 0 (.int .i64 N_g) rfl))
      have D_d_b_g_1 := Lib.hid (later_cell (blk_cell q_b_g 1 (.slice a_g n_g c_g) rfl))
      have D_d_b_h_0 := Lib.hid (later_cell (blk_cell q_b_h 0 (.int .i64 N_h) rfl))
      have D_d_b_h_1 := Lib.hid (later_cell (blk_cell q_b_h 1 (.slice a_h n_h c_h) rfl))
      have bd1 := bel_drew (Below.refl w3.heap.size w3)
      go_wp2
      refine wp_region_heads [true, true, true, true, false, false, false, false, false, false, false, false, false, false, false, false, false, false, false, false, false, false, false] 22 19 (C := fun w' => ∃ u : Later w3, w' = u.val) (by kernel_rfl) (by kernel_rfl) ⟨⟨_, bd1⟩, rfl⟩ ?_
      have d_b_g_0 := D_d_b_g_0.out
      have d_b_g_1 := D_d_b_g_1.out
      have d_b_h_0 := D_d_b_h_0.out
      have d_b_h_1 := D_d_b_h_1.out
      simp only [pickT]
      repeat (go_big_quiet_step (fail))
      refine wpQuiet_nil ?_
      clear d_b_g_0 d_b_g_1 d_b_h_0 d_b_h_1
      generalize hD1 : w3.drew = D1 at *
      clear hD1
      have ho_g := own_below ho_g bd1
      have ho_h := own_below ho_h bd1
      have q_b_g := blk_below q_b_g bd1
      have q_b_h := blk_below q_b_h bd1
      have HB4 := below_tr' HB3 bd1
      refine any_one (i := 4) (by kernel_rfl) rfl ?_
      intro K hK
      have C5 := equalGraph_any N_g N_h a_g a_h c_g c_h n_g n_h g h D1 HN_g.out HN_h.out (own_rd ho_g) (own_rd ho_h) (by omega) (by omega)
      rw [HE1.out] at C5
      go_wp2_with fail
      refine C5.mono ?_
      rintro e w5 ⟨rfl, hb5⟩
      clear C5
      have hr1_5 := below_tr' bd1 hb5
      have HB5 := below_tr' HB4 hb5
      have ho_g := own_below ho_g hb5
      have ho_h := own_below ho_h hb5
      have q_b_g := blk_below q_b_g hb5
      have q_b_h := blk_below q_b_h hb5
      go_wp2
      refine hK _ _ (fun _ => ⟨⟨_, hr1_5⟩, rfl⟩) ?_
      clear hK
      refine any_one (i := 5) (by kernel_rfl) rfl ?_
      intro K hK
      go_wp2
      refine hK _ _ (fun _ => ⟨⟨_, hr1_5⟩, rfl⟩) ?_
      clear hK
      refine any_one (i := 6) (by kernel_rfl) rfl ?_
      intro K hK
      go_wp2
      refine hK _ _ (fun _ => ⟨⟨_, hr1_5⟩, rfl⟩) ?_
      clear hK
      refine any_heads (id := 3) (n := 13) [false, false, false, false, false, false, false, true, true, false, true, false, false, false, false, false, false, false, false, false, false, false, false] #[true, true, true, true, true, true, true, true, true, false, true, false, false, false, false, false, false, false, false, false, false, false, false] (by kernel_rfl) ⟨⟨_, hr1_5⟩, rfl⟩ ?_
      have d_b_g_0 := D_d_b_g_0.out
      have d_b_g_1 := D_d_b_g_1.out
      have d_b_h_0 := D_d_b_h_0.out
      have d_b_h_1 := D_d_b_h_1.out
      simp only [pickT]
      repeat (go_big_quiet_step (fail))
      refine wpQuiet_nil ?_
      clear d_b_g_0 d_b_g_1 d_b_h_0 d_b_h_1
      refine any_one (i := 9) (by kernel_rfl) rfl ?_
      intro K hK
      have C6 := implDiff_any N_h a_h c_h n_h h N_g a_g c_g n_g g w5 (by omega) (by omega) HN_h.out (own_rd ho_h) (by omega) HN_g.out (own_rd ho_g) (by omega)
      rw [HL2.out] at C6
      go_wp2_with fail
      refine C6.mono ?_
      rintro e w6 ⟨rfl, hb6⟩
      clear C6
      have hr1_6 := below_tr' hr1_5 hb6
      have HB6 := below_tr' HB5 hb6
      have ho_g := own_below ho_g hb6
      have ho_h := own_below ho_h hb6
      have q_b_g := blk_below q_b_g hb6
      have q_b_h := blk_below q_b_h hb6
      go_wp2
      refine hK _ _ (fun _ => ⟨⟨_, hr1_6⟩, rfl⟩) ?_
      clear hK
      refine any_one (i := 11) (by kernel_rfl) rfl ?_
      intro K hK
      go_wp2
      refine hK _ _ (fun _ => ⟨⟨_, hr1_6⟩, rfl⟩) ?_
      clear hK
      refine any_one (i := 12) (by kernel_rfl) rfl ?_
      intro K hK
      go_wp2
      refine hK _ _ (fun _ => ⟨⟨_, hr1_6⟩, rfl⟩) ?_
      clear hK
      refine any_one (i := 13) (by kernel_rfl) rfl ?_
      intro K hK
      go_wp2
      refine hK _ _ (fun _ => ⟨⟨_, hr1_6⟩, rfl⟩) ?_
      clear hK
      refine any_heads (id := 3) (n := 6) [false, false, false, false, false, false, false, false, false, false, false, false, false, false, true, false, true, false, false, true, false, false, false] #[true, true, true, true, true, true, true, true, true, true, true, true, true, true, true, false, true, false, false, true, false, false, false] (by kernel_rfl) ⟨⟨_, hr1_6⟩, rfl⟩ ?_
      have d_b_g_0 := D_d_b_g_0.out
      have d_b_g_1 := D_d_b_g_1.out
      have d_b_h_0 := D_d_b_h_0.out
      have d_b_h_1 := D_d_b_h_1.out
      simp only [pickT]
      repeat (go_big_quiet_step (fail))
      refine wpQuiet_nil ?_
      clear d_b_g_0 d_b_g_1 d_b_h_0 d_b_h_1
      refine any_one (i := 15) (by kernel_rfl) rfl ?_
      intro K hK
      have C7 := implCG_any N_g a_g c_g n_g g w6 (by omega) HN_g.out (own_rd ho_g) (by omega)
      go_wp2_with fail
      refine C7.mono ?_
      rintro e w7 ⟨aK, cK, dK, rfl, ho_k, hb7⟩
      clear C7
      have hr1_7 := below_tr' hr1_6 hb7
      have ap1 := apart_of ho_g ho_k
      have ap2 := apart_of ho_h ho_k
      have HB7 := below_tr' HB6 hb7
      have ho_g := own_below ho_g hb7
      have ho_h := own_below ho_h hb7
      have q_b_g := blk_below q_b_g hb7
      have q_b_h := blk_below q_b_h hb7
      go_wp2
      refine hK _ _ (fun _ => ⟨⟨_, hr1_7⟩, rfl⟩) ?_
      clear hK
      refine any_one (i := 17) (by kernel_rfl) rfl ?_
      intro K hK
      have C8 := implCG_any N_h a_h c_h n_h h w7 (by omega) HN_h.out (own_rd ho_h) (by omega)
      go_wp2_with fail
      refine C8.mono ?_
      rintro e w8 ⟨aM, cM, dM, rfl, ho_m, hb8⟩
      clear C8
      have hr1_8 := below_tr' hr1_7 hb8
      have ap3 := apart_of ho_g ho_m
      have ap4 := apart_of ho_h ho_m
      have ap5 := apart_of ho_k ho_m
      have HB8 := below_tr' HB7 hb8
      have ho_g := own_below ho_g hb8
      have ho_h := own_below ho_h hb8
      have ho_k := own_below ho_k hb8
      have q_b_g := blk_below q_b_g hb8
      have q_b_h := blk_below q_b_h hb8
      go_wp2
      refine hK _ _ (fun _ => ⟨⟨_, hr1_8⟩, rfl⟩) ?_
      clear hK
      refine any_one (i := 18) (by kernel_rfl) rfl ?_
      intro K hK
      have C9 := implDiff_any (cgN N_g g) aK dK (cgL N_g g).length (cgL N_g g) (cgN N_h h) aM dM (cgL N_h h).length (cgL N_h h) w8 (by omega) (by omega) rfl (own_rd ho_k) (by omega) rfl (own_rd ho_m) (by omega)
      rw [HL3.out] at C9
      go_wp2_with fail
      refine C9.mono ?_
      rintro e w9 ⟨rfl, hb9⟩
      clear C9
      have hr1_9 := below_tr' hr1_8 hb9
      have HB9 := below_tr' HB8 hb9
      have ho_g := own_below ho_g hb9
      have ho_h := own_below ho_h hb9
      have ho_k := own_below ho_k hb9
      have ho_m := own_below ho_m hb9
      have q_b_g := blk_below q_b_g hb9
      have q_b_h := blk_below q_b_h hb9
      go_wp2
      refine hK _ _ (fun _ => ⟨⟨_, hr1_9⟩, rfl⟩) ?_
      clear hK
      refine any_one (i := 20) (by kernel_rfl) rfl ?_
      intro K hK
      go_wp2
      refine hK _ _ (fun _ => ⟨⟨_, hr1_9⟩, rfl⟩) ?_
      clear hK
      refine any_one (i := 21) (by kernel_rfl) rfl ?_
      intro K hK
      go_wp2
      refine hK _ _ (fun _ => ⟨⟨_, hr1_9⟩, rfl⟩) ?_
      clear hK
      refine any_one (i := 22) (by kernel_rfl) rfl ?_
      intro K hK
      go_wp2
      refine hK _ _ (fun h => absurd rfl h) ?_
      clear hK
      refine any_end (by kernel_rfl) ?_
      clear D_d_b_g_0 D_d_b_g_1 D_d_b_h_0 D_d_b_h_1
      go_wp2
      go_ret
      first | exact ⟨rfl, HB9⟩ | exact ⟨ret_bool (by simp), HB9⟩

end Go.Proofs.Ytjghcegacgpehaa
