/- The walk of the law FnExactDifferenceOf. -/
import Derived.Test.YtchefkggnncalaaDiffer2
namespace Go.Proofs.Ytchefkggnncalaa
open Go.RowKit

set_option maxHeartbeats 4000000 in
set_option linter.unusedVariables false in
theorem walk_FnExactDifferenceOf (N_g : Int) (a_g : Option Addr) (c_g n_g : Nat) (g : List E2) (N_h : Int) (a_h : Option Addr) (c_h n_h : Nat) (h : List E2) (w : World) (hN_g : -9223372036854775808 ≤ N_g ∧ N_g ≤ 9223372036854775807) (hn_g : g.length = n_g) (hx_g : Rd w a_g (edges g)) (hl_g : n_g ≤ 9223372036854775807) (hN_h : -9223372036854775808 ≤ N_h ∧ N_h ≤ 9223372036854775807) (hn_h : h.length = n_h) (hx_h : Rd w a_h (edges h)) (hl_h : n_h ≤ 9223372036854775807) :
    Calls Try.prog 7 #[graphV N_g a_g n_g c_g, graphV N_h a_h n_h c_h] w fun e w' => e = .returned (.bool true) ∧ Below w.heap.size w w' := by
  have HB0 := Below.refl w.heap.size w
  have HA := below_alloc w (.cells #[.int .i64 N_g, .slice a_g n_g c_g] 24)
  have q_b_g := heap_alloc_new w (.cells #[.int .i64 N_g, .slice a_g n_g c_g] 24)
  have HB0 := below_tr' HB0 HA
  clear HA
  have HA := below_alloc (w.alloc (.cells #[.int .i64 N_g, .slice a_g n_g c_g] 24)) (.cells #[.int .i64 N_h, .slice a_h n_h c_h] 24)
  have q_b_h := heap_alloc_new (w.alloc (.cells #[.int .i64 N_g, .slice a_g n_g c_g] 24)) (.cells #[.int .i64 N_h, .slice a_h n_h c_h] 24)
  rw [show (w.alloc (.cells #[.int .i64 N_g, .slice a_g n_g c_g] 24)).heap.size = w.heap.size + 1 from by simp] at q_b_h
  have q_b_g := blk_below q_b_g HA
  have HB0 := below_tr' HB0 HA
  clear HA
  generalize hV0 : ((w.alloc (.cells #[.int .i64 N_g, .slice a_g n_g c_g] 24)).alloc (.cells #[.int .i64 N_h, .slice a_h n_h c_h] 24)) = v0 at *
  have HV0 := Lib.hid hV0
  clear hV0
  go_enter Try.func7, Try.ntmps7
  have g_b_g_0 := blk_cell q_b_g 0 (.int .i64 N_g) rfl
  have g_b_g_1 := blk_cell q_b_g 1 (.slice a_g n_g c_g) rfl
  have C1 := szGraph_any N_g a_g c_g n_g (1048576) v0 (by omega) (by omega) (by omega)
  go_wp2_with (simp only [HV0.out])
  refine C1.mono ?_
  rintro e w1 ⟨rfl, hb1⟩
  clear C1
  have HB1 := below_tr' HB0 hb1
  have q_b_g := blk_below q_b_g hb1
  have q_b_h := blk_below q_b_h hb1
  clear g_b_g_0 g_b_g_1
  by_cases hs_g : 1048576 < (n_g : Int)
  · rw [if_pos hs_g]
    go_wp2
    go_ret
    exact ⟨rfl, HB1⟩
  rw [if_neg hs_g]
  have g_b_h_0 := blk_cell q_b_h 0 (.int .i64 N_h) rfl
  have g_b_h_1 := blk_cell q_b_h 1 (.slice a_h n_h c_h) rfl
  have C2 := szGraph_any N_h a_h c_h n_h (1048576 - (n_g : Int)) w1 (by omega) (by omega) (by omega)
  go_wp2_with fail
  refine C2.mono ?_
  rintro e w2 ⟨rfl, hb2⟩
  clear C2
  have HB2 := below_tr' HB1 hb2
  have q_b_g := blk_below q_b_g hb2
  have q_b_h := blk_below q_b_h hb2
  clear g_b_h_0 g_b_h_1
  by_cases hs_h : 1048576 - (n_g : Int) < (n_h : Int)
  · rw [if_pos hs_h]
    go_wp2
    go_ret
    exact ⟨rfl, HB2⟩
  rw [if_neg hs_h]
  have d_b_g_0 := later_cell (blk_cell q_b_g 0 (.int .i64 N_g) rfl)
  have d_b_g_1 := later_cell (blk_cell q_b_g 1 (.slice a_g n_g c_g) rfl)
  have d_b_h_0 := later_cell (blk_cell q_b_h 0 (.int .i64 N_h) rfl)
  have d_b_h_1 := later_cell (blk_cell q_b_h 1 (.slice a_h n_h c_h) rfl)
  have bd1 := bel_drew (Below.refl w2.heap.size w2)
  go_wp2
  refine wp_region_flags [true, false, true, false, false, false] 5 (C := fun w' => ∃ u : Later w2, w' = u.val) (by kernel_rfl) (by kernel_rfl) ⟨⟨_, bd1⟩, rfl⟩ ?_
  simp only [pickT, pickF]
  repeat (go_big_quiet_step (fail))
  refine wpQuiet_nil ?_
  clear d_b_g_0 d_b_g_1 d_b_h_0 d_b_h_1
  have C3 := toGraph_any N_g a_g c_g n_g g w2.drew hn_g (hx_g.below (bel_drew HB2)) (by omega)
  refine tail_step fun K hK => ?_
  go_wp2_with fail
  refine C3.mono ?_
  rintro e w3 ⟨a3, rfl, ho_t1, hb3⟩
  clear C3
  have hb3 : Below w2.heap.size w2 w3 := bd1.trans hb3
  have hr1_3 := hb3
  have HB3 := below_tr' HB2 hb3
  have q_b_g := blk_below q_b_g hb3
  have q_b_h := blk_below q_b_h hb3
  go_wp2
  refine hK _ _ ⟨⟨_, hr1_3⟩, rfl⟩ ?_
  clear hK
  have C4 := toGraph_any N_h a_h c_h n_h h w3 hn_h (hx_h.below HB3) (by omega)
  refine tail_step fun K hK => ?_
  go_wp2_with fail
  refine C4.mono ?_
  rintro e w4 ⟨a4, rfl, ho_t2, hb4⟩
  clear C4
  have hr1_4 := below_tr' hr1_3 hb4
  have ap1 := apart_of ho_t1 ho_t2
  have HB4 := below_tr' HB3 hb4
  have ho_t1 := own_below ho_t1 hb4
  have q_b_g := blk_below q_b_g hb4
  have q_b_h := blk_below q_b_h hb4
  go_wp2
  refine hK _ _ ⟨⟨_, hr1_4⟩, rfl⟩ ?_
  clear hK
  have C5 := specDiff_any N_g a3 n_g n_g g N_h a4 n_h n_h h w4 hn_g (own_rd ho_t1) (by omega) hn_h (own_rd ho_t2) (by omega)
  refine tail_step fun K hK => ?_
  go_wp2_with fail
  refine C5.mono ?_
  rintro e w5 ⟨rfl, hb5⟩
  clear C5
  have hr1_5 := below_tr' hr1_4 hb5
  have HB5 := below_tr' HB4 hb5
  have ho_t1 := own_below ho_t1 hb5
  have ho_t2 := own_below ho_t2 hb5
  have q_b_g := blk_below q_b_g hb5
  have q_b_h := blk_below q_b_h hb5
  go_wp2
  refine hK _ _ ⟨⟨_, hr1_5⟩, rfl⟩ ?_
  clear hK
  refine tail_last fun K hK => ?_
  clear ho_t1 ho_t2
  have g_b_g_0 := blk_cell q_b_g 0 (.int .i64 N_g) rfl
  have g_b_g_1 := blk_cell q_b_g 1 (.slice a_g n_g c_g) rfl
  have C6 := toGraph_any N_g a_g c_g n_g g w5 hn_g (hx_g.below HB5) (by omega)
  go_wp2_with fail
  refine C6.mono ?_
  rintro e w6 ⟨a6, rfl, ho_x_g, hb6⟩
  clear C6
  have HB6 := below_tr' HB5 hb6
  have q_b_g := blk_below q_b_g hb6
  have q_b_h := blk_below q_b_h hb6
  clear g_b_g_0 g_b_g_1
  have HA1 := below_alloc w6 (.cells #[.int .i64 N_g, .slice a6 n_g n_g] 29)
  have q_x_g := heap_alloc_new w6 (.cells #[.int .i64 N_g, .slice a6 n_g n_g] 29)
  have ho_x_g := own_below ho_x_g HA1
  have q_b_g := blk_below q_b_g HA1
  have q_b_h := blk_below q_b_h HA1
  have HBc1 := below_tr' HB6 HA1
  generalize hV1 : w6.alloc (.cells #[.int .i64 N_g, .slice a6 n_g n_g] 29) = v1 at *
  have HV1 := Lib.hid hV1
  clear hV1 HA1
  have g_b_h_0 := blk_cell q_b_h 0 (.int .i64 N_h) rfl
  have g_b_h_1 := blk_cell q_b_h 1 (.slice a_h n_h c_h) rfl
  have C7 := toGraph_any N_h a_h c_h n_h h v1 hn_h (hx_h.below HBc1) (by omega)
  go_wp2_with (simp only [HV1.out])
  refine C7.mono ?_
  rintro e w7 ⟨a7, rfl, ho_x_h, hb7⟩
  clear C7
  have ap2 := apart_of ho_x_g ho_x_h
  have HB7 := below_tr' HBc1 hb7
  have ho_x_g := own_below ho_x_g hb7
  have q_b_g := blk_below q_b_g hb7
  have q_b_h := blk_below q_b_h hb7
  have q_x_g := blk_below q_x_g hb7
  clear g_b_h_0 g_b_h_1
  have HA2 := below_alloc w7 (.cells #[.int .i64 N_h, .slice a7 n_h n_h] 29)
  have q_x_h := heap_alloc_new w7 (.cells #[.int .i64 N_h, .slice a7 n_h n_h] 29)
  have ho_x_g := own_below ho_x_g HA2
  have ho_x_h := own_below ho_x_h HA2
  have q_b_g := blk_below q_b_g HA2
  have q_b_h := blk_below q_b_h HA2
  have q_x_g := blk_below q_x_g HA2
  have HBc2 := below_tr' HB7 HA2
  generalize hV2 : w7.alloc (.cells #[.int .i64 N_h, .slice a7 n_h n_h] 29) = v2 at *
  have HV2 := Lib.hid hV2
  clear hV2 HA2
  have g_x_g_0 := blk_cell q_x_g 0 (.int .i64 N_g) rfl
  have g_x_g_1 := blk_cell q_x_g 1 (.slice a6 n_g n_g) rfl
  have g_x_h_0 := blk_cell q_x_h 0 (.int .i64 N_h) rfl
  have g_x_h_1 := blk_cell q_x_h 1 (.slice a7 n_h n_h) rfl
  have C8 := implDiff_any N_g a6 n_g n_g g N_h a7 n_h n_h h v2 (by omega) (by omega) hn_g (own_rd ho_x_g) (by omega) hn_h (own_rd ho_x_h) (by omega)
  go_wp2_with (simp only [HV2.out])
  refine C8.mono ?_
  rintro e w8 ⟨rfl, hb8⟩
  clear C8
  have HB8 := below_tr' HBc2 hb8
  have ho_x_g := own_below ho_x_g hb8
  have ho_x_h := own_below ho_x_h hb8
  have q_b_g := blk_below q_b_g hb8
  have q_b_h := blk_below q_b_h hb8
  have q_x_g := blk_below q_x_g hb8
  have q_x_h := blk_below q_x_h hb8
  clear g_x_g_0 g_x_g_1 g_x_h_0 g_x_h_1
  have HT9 := Lib.hid (toGraph_any N_g a_g c_g n_g g w8.drew hn_g (hx_g.below (bel_drew HB8)) (by omega))
  have HQ9 := Lib.hid (fun (u : World) (a' : Option Addr) (h1 : Rd u a6 (edges g)) (h2 : Rd u a' (edges g)) => eqGraph_any N_g a6 a' n_g n_g n_g g u hn_g h1 h2 (by omega))
  have bd9 := bel_drew (Below.refl w8.heap.size w8)
  have d_x_g_0 := later_cell (blk_cell q_x_g 0 (.int .i64 N_g) rfl)
  have d_x_g_1 := later_cell (blk_cell q_x_g 1 (.slice a6 n_g n_g) rfl)
  have d_b_g_0 := later_cell (blk_cell q_b_g 0 (.int .i64 N_g) rfl)
  have d_b_g_1 := later_cell (blk_cell q_b_g 1 (.slice a_g n_g c_g) rfl)
  go_wp2
  refine wp_region_flags [true, true, false, false, false] 4 (C := fun w' => ∃ u : Later w8, w' = u.val) (by kernel_rfl) (by kernel_rfl) ⟨⟨_, bd9⟩, rfl⟩ ?_
  simp only [pickT, pickF]
  repeat (go_big_quiet_step (fail))
  refine wpQuiet_nil ?_
  clear d_x_g_0 d_x_g_1 d_b_g_0 d_b_g_1
  refine tail_step fun K hK => ?_
  go_wp2_with fail
  refine HT9.out.mono ?_
  rintro e w9 ⟨aT9, rfl, hoT9, hbT9⟩
  go_wp2
  refine hK _ _ ⟨⟨_, bd9.trans hbT9⟩, rfl⟩ ?_
  clear hK HT9
  have hb9 : Below w8.heap.size w8 w9 := bd9.trans hbT9
  have HC9 := HQ9.out w9 aT9 (own_rd (own_below ho_x_g hb9)) (own_rd hoT9)
  clear HQ9 hoT9 hbT9
  refine tail_step fun K2 hK2 => ?_
  go_wp2_with fail
  refine HC9.mono ?_
  rintro e w10 ⟨rfl, hbQ10⟩
  have hb10 := below_tr' hb9 hbQ10
  go_wp2
  refine hK2 _ _ ⟨⟨_, hb10⟩, rfl⟩ ?_
  clear hK2 HC9 hbQ10 hb9 bd9
  refine tail_last fun K3 hK3 => ?_
  have HB10 := below_tr' HB8 hb10
  have ho_x_g := own_below ho_x_g hb10
  have ho_x_h := own_below ho_x_h hb10
  have q_b_g := blk_below q_b_g hb10
  have q_b_h := blk_below q_b_h hb10
  have q_x_g := blk_below q_x_g hb10
  have q_x_h := blk_below q_x_h hb10
  have HT11 := Lib.hid (toGraph_any N_h a_h c_h n_h h w10.drew hn_h (hx_h.below (bel_drew HB10)) (by omega))
  have HQ11 := Lib.hid (fun (u : World) (a' : Option Addr) (h1 : Rd u a7 (edges h)) (h2 : Rd u a' (edges h)) => eqGraph_any N_h a7 a' n_h n_h n_h h u hn_h h1 h2 (by omega))
  have bd11 := bel_drew (Below.refl w10.heap.size w10)
  have d_x_h_0 := later_cell (blk_cell q_x_h 0 (.int .i64 N_h) rfl)
  have d_x_h_1 := later_cell (blk_cell q_x_h 1 (.slice a7 n_h n_h) rfl)
  have d_b_h_0 := later_cell (blk_cell q_b_h 0 (.int .i64 N_h) rfl)
  have d_b_h_1 := later_cell (blk_cell q_b_h 1 (.slice a_h n_h c_h) rfl)
  go_wp2
  refine wp_region_flags [true, true, false, false, false] 4 (C := fun w' => ∃ u : Later w10, w' = u.val) (by kernel_rfl) (by kernel_rfl) ⟨⟨_, bd11⟩, rfl⟩ ?_
  simp only [pickT, pickF]
  repeat (go_big_quiet_step (fail))
  refine wpQuiet_nil ?_
  clear d_x_h_0 d_x_h_1 d_b_h_0 d_b_h_1
  refine tail_step fun K hK => ?_
  go_wp2_with fail
  refine HT11.out.mono ?_
  rintro e w11 ⟨aT11, rfl, hoT11, hbT11⟩
  go_wp2
  refine hK _ _ ⟨⟨_, bd11.trans hbT11⟩, rfl⟩ ?_
  clear hK HT11
  have hb11 : Below w10.heap.size w10 w11 := bd11.trans hbT11
  have HC11 := HQ11.out w11 aT11 (own_rd (own_below ho_x_h hb11)) (own_rd hoT11)
  clear HQ11 hoT11 hbT11
  refine tail_step fun K2 hK2 => ?_
  go_wp2_with fail
  refine HC11.mono ?_
  rintro e w12 ⟨rfl, hbQ12⟩
  have hb12 := below_tr' hb11 hbQ12
  go_wp2
  refine hK2 _ _ ⟨⟨_, hb12⟩, rfl⟩ ?_
  clear hK2 HC11 hbQ12 hb11 bd11
  refine tail_last fun K3 hK3 => ?_
  have HB12 := below_tr' HB10 hb12
  have ho_x_g := own_below ho_x_g hb12
  have ho_x_h := own_below ho_x_h hb12
  have q_b_g := blk_below q_b_g hb12
  have q_b_h := blk_below q_b_h hb12
  have q_x_g := blk_below q_x_g hb12
  have q_x_h := blk_below q_x_h hb12
  go_wp2
  go_ret
  exact ⟨rfl, HB12⟩

end Go.Proofs.Ytchefkggnncalaa
