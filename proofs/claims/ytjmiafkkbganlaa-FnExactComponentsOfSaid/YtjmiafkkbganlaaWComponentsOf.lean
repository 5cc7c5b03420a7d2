
/- The walk of the law FnExactComponentsOf. -/
import Derived.Test.YtjmiafkkbganlaaCompW
namespace Go.Proofs.Ytjmiafkkbganlaa
open Go.RowKit

set_option maxHeartbeats 4000000 in
set_option linter.unusedVariables false in
theorem walk_FnExactComponentsOf (N_g : Int) (a_g : Option Addr) (c_g n_g : Nat) (g : List E2) (w : World) (hN_g : -9223372036854775808 ≤ N_g ∧ N_g ≤ 9223372036854775807) (hn_g : g.length = n_g) (hx_g : Rd w a_g (edges g)) (hl_g : n_g ≤ 9223372036854775807) :
    Calls Try.prog 8 #[graphV N_g a_g n_g c_g] w fun e w' => e = .returned (.bool true) ∧ Below w.heap.size w w' := by
  have hW7 := compsV_len N_g g
  have HB0 := Below.refl w.heap.size w
  have HA := below_alloc w (.cells #[.int .i64 N_g, .slice a_g n_g c_g] 24)
  have q_b_g := heap_alloc_new w (.cells #[.int .i64 N_g, .slice a_g n_g c_g] 24)
  have HB0 := below_tr' HB0 HA
  clear HA
  have hlt0 := blk_lt q_b_g
  have hs0 := HB0.size
  generalize hV0 : (w.alloc (.cells #[.int .i64 N_g, .slice a_g n_g c_g] 24)) = v0 at *
  have HV0 := Lib.hid hV0
  clear hV0
  go_enter Try.func8, Try.ntmps8
  have g_b_g_0 := blk_cell q_b_g 0 (.int .i64 N_g) rfl
  have g_b_g_1 := blk_cell q_b_g 1 (.slice a_g n_g c_g) rfl
  have C1 := szGraph_any N_g a_g c_g n_g (1048576) v0 (by omega) (by omega) (by omega)
  go_wp2_with (simp only [HV0.out])
  refine C1.mono ?_
  rintro e w1 ⟨rfl, hb1⟩
  clear C1
  have hs1 := hb1.size
  have HB1 := below_tr' HB0 hb1
  have q_b_g := blk_below q_b_g hb1
  clear g_b_g_0 g_b_g_1
  by_cases hs_g : 1048576 < (n_g : Int)
  · rw [if_pos hs_g]
    go_wp2
    go_ret
    exact ⟨rfl, HB1⟩
  rw [if_neg hs_g]
  have g_b_g_0 := blk_cell q_b_g 0 (.int .i64 N_g) rfl
  have g_b_g_1 := blk_cell q_b_g 1 (.slice a_g n_g c_g) rfl
  have C2 := toGraph_any N_g a_g c_g n_g g w1 hn_g (hx_g.below HB1) (by omega)
  go_wp2_with fail
  refine C2.mono ?_
  rintro e w2 ⟨a2, rfl, ho_t, hb2⟩
  clear C2
  have hs2 := hb2.size
  have HB2 := below_tr' HB1 hb2
  have q_b_g := blk_below q_b_g hb2
  clear g_b_g_0 g_b_g_1
  have r_ho_t := own_rin ho_t
  have C3 := specComponentsOf_any N_g a2 n_g n_g g w2 hn_g (own_rd ho_t) (by omega)
  go_wp2_with fail
  refine C3.mono ?_
  rintro e w3 ⟨a3, c3, rfl, hw, hb3⟩
  clear C3
  have hs3 := hb3.size
  have HB3 := below_tr' HB2 hb3
  have ho_t := own_below ho_t hb3
  have q_b_g := blk_below q_b_g hb3
  clear ho_t
  have g_b_g_0 := blk_cell q_b_g 0 (.int .i64 N_g) rfl
  have g_b_g_1 := blk_cell q_b_g 1 (.slice a_g n_g c_g) rfl
  have C4 := toGraph_any N_g a_g c_g n_g g w3 hn_g (hx_g.below HB3) (by omega)
  go_wp2_with fail
  refine C4.mono ?_
  rintro e w4 ⟨a4, rfl, ho_x_g, hb4⟩
  clear C4
  have hs4 := hb4.size
  have HB4 := below_tr' HB3 hb4
  have q_b_g := blk_below q_b_g hb4
  have hw := hw.below hb4
  clear g_b_g_0 g_b_g_1
  have r_ho_x_g := own_rin ho_x_g
  have hsc1 := (below_alloc w4 (.cells #[.int .i64 N_g, .slice a4 n_g n_g] 29)).size
  have hw := hw.below (below_alloc w4 (.cells #[.int .i64 N_g, .slice a4 n_g n_g] 29))
  have HA1 := below_alloc w4 (.cells #[.int .i64 N_g, .slice a4 n_g n_g] 29)
  have q_x_g := heap_alloc_new w4 (.cells #[.int .i64 N_g, .slice a4 n_g n_g] 29)
  have ho_x_g := own_below ho_x_g HA1
  have q_b_g := blk_below q_b_g HA1
  have HBc1 := below_tr' HB4 HA1
  generalize hV1 : w4.alloc (.cells #[.int .i64 N_g, .slice a4 n_g n_g] 29) = v1 at *
  have HV1 := Lib.hid hV1
  clear hV1 HA1
  have hlt1 := blk_lt q_x_g
  have g_x_g_0 := blk_cell q_x_g 0 (.int .i64 N_g) rfl
  have g_x_g_1 := blk_cell q_x_g 1 (.slice a4 n_g n_g) rfl
  have C5 := implComponentsOf_any N_g a4 n_g n_g g v1 (by omega) hn_g (own_rd ho_x_g) (by omega)
  go_wp2_with (simp only [HV1.out])
  refine C5.mono ?_
  rintro e w5 ⟨a5, c5, rfl, hg, hb5⟩
  clear C5
  have hs5 := hb5.size
  have HB5 := below_tr' HBc1 hb5
  have ho_x_g := own_below ho_x_g hb5
  have q_b_g := blk_below q_b_g hb5
  have q_x_g := blk_below q_x_g hb5
  have hw := hw.below hb5
  clear g_x_g_0 g_x_g_1
  have C6 := eqHM_any c5 c3 hg hw (by omega)
  go_wp2_with fail
  refine C6.mono ?_
  rintro e w6 ⟨rfl, hb6⟩
  clear C6
  have hs6 := hb6.size
  have HB6 := below_tr' HB5 hb6
  have ho_x_g := own_below ho_x_g hb6
  have q_b_g := blk_below q_b_g hb6
  have q_x_g := blk_below q_x_g hb6
  have hw := hw.below hb6
  have hg := hg.below hb6
  have HT7 := Lib.hid (toGraph_any N_g a_g c_g n_g g w6.drew hn_g (hx_g.below (bel_drew HB6)) (by omega))
  have HQ7 := Lib.hid (fun (u : World) (a' : Option Addr) (h1 : Rd u a4 (edges g)) (h2 : Rd u a' (edges g)) => eqGraph_any N_g a4 a' n_g n_g n_g g u hn_g h1 h2 (by omega))
  have bd7 := bel_drew (Below.refl w6.heap.size w6)
  have d_x_g_0 := later_cell (blk_cell q_x_g 0 (.int .i64 N_g) rfl)
  have d_x_g_1 := later_cell (blk_cell q_x_g 1 (.slice a4 n_g n_g) rfl)
  have d_b_g_0 := later_cell (blk_cell q_b_g 0 (.int .i64 N_g) rfl)
  have d_b_g_1 := later_cell (blk_cell q_b_g 1 (.slice a_g n_g c_g) rfl)
  go_wp2
  refine wp_region_flags [true, true, false, false, false] 4 (C := fun w' => ∃ u : Later w6, w' = u.val) (by kernel_rfl) (by kernel_rfl) ⟨⟨_, bd7⟩, rfl⟩ ?_
  simp only [pickT, pickF]
  repeat (go_big_quiet_step (fail))
  refine wpQuiet_nil ?_
  clear d_x_g_0 d_x_g_1 d_b_g_0 d_b_g_1
  refine tail_step fun K hK => ?_
  go_wp2_with fail
  refine HT7.out.mono ?_
  rintro e w7 ⟨aT7, rfl, hoT7, hbT7⟩
  go_wp2
  refine hK _ _ ⟨⟨_, bd7.trans hbT7⟩, rfl⟩ ?_
  clear hK HT7
  have hb7 : Below w6.heap.size w6 w7 := bd7.trans hbT7
  have HC7 := HQ7.out w7 aT7 (own_rd (own_below ho_x_g hb7)) (own_rd hoT7)
  clear HQ7 hoT7 hbT7
  refine tail_step fun K2 hK2 => ?_
  go_wp2_with fail
  refine HC7.mono ?_
  rintro e w8 ⟨rfl, hbQ8⟩
  have hb8 := below_tr' hb7 hbQ8
  go_wp2
  refine hK2 _ _ ⟨⟨_, hb8⟩, rfl⟩ ?_
  clear hK2 HC7 hbQ8 hb7 bd7
  refine tail_last fun K3 hK3 => ?_
  have hs8 := hb8.size
  have HB8 := below_tr' HB6 hb8
  have ho_x_g := own_below ho_x_g hb8
  have q_b_g := blk_below q_b_g hb8
  have q_x_g := blk_below q_x_g hb8
  have hw := hw.below hb8
  have hg := hg.below hb8
  have g_x_g_0 := blk_cell q_x_g 0 (.int .i64 N_g) rfl
  have g_x_g_1 := blk_cell q_x_g 1 (.slice a4 n_g n_g) rfl
  have hk9 := ho_x_g
  have C9 := markGraph_any N_g _ a4 _ n_g n_g _ 1 w8 ho_x_g (by omega) (by omega) (by omega)
  go_wp2_with fail
  refine C9.mono ?_
  rintro e w9 ⟨rfl, hm9, hg9⟩
  clear C9
  have HB9 := below_mark HB8 ho_x_g (Nat.le_refl _) HB3.size hg9
  have q_b_g := blk_grown q_b_g hg9 (own_ne ho_x_g q_b_g (by decide))
  have q_x_g := blk_grown q_x_g hg9 (own_ne ho_x_g q_x_g (by decide))
  have ho_x_g := hm9
  clear hm9
  clear g_x_g_0 g_x_g_1
  have hs9 := hg9.size
  have fr9 := MarkFr.row r_ho_x_g (below_row (Below.refl _ _) (by omega) hk9 hg9) hg9
  have hw := hw.stays (fr9.stays (by omega) (by omega))
  have hg := hg.stays (fr9.stays (by omega) (by omega))
  clear hk9 fr9
  have C10 := eqHM_any c5 c3 hg hw (by omega)
  go_wp2_with fail
  refine C10.mono ?_
  rintro e w10 ⟨rfl, hb10⟩
  clear C10
  have hs10 := hb10.size
  have HB10 := below_tr' HB9 hb10
  have ho_x_g := own_below ho_x_g hb10
  have q_b_g := blk_below q_b_g hb10
  have q_x_g := blk_below q_x_g hb10
  have hw := hw.below hb10
  have hg := hg.below hb10
  clear ho_x_g
  have C11 := markHM_any 1 c5 hg (by omega) (by omega) (by omega) (by omega)
  go_wp2_with fail
  refine C11.mono ?_
  rintro e w11 ⟨rfl, hm11, fr11⟩
  clear C11
  have hs11 := fr11.1.size
  have HB11 := HB10.trans (fr11.1.mono (by omega))
  have q_b_g := blk_stays q_b_g fr11 (by omega)
  have q_x_g := blk_stays q_x_g fr11 (by omega)
  have hw := hw.stays (fr11.stays (by omega) (by omega))
  have hg := hm11
  clear hm11 fr11
  have C12 := heldHM_any 1 c5 hg (by omega) (by omega) (by omega)
  go_wp2_with fail
  refine C12.mono ?_
  rintro e w12 ⟨rfl, hb12⟩
  clear C12
  have hs12 := hb12.size
  have HB12 := below_tr' HB11 hb12
  have q_b_g := blk_below q_b_g hb12
  have q_x_g := blk_below q_x_g hb12
  have hw := hw.below hb12
  have hg := hg.below hb12
  have g_b_g_0 := blk_cell q_b_g 0 (.int .i64 N_g) rfl
  have g_b_g_1 := blk_cell q_b_g 1 (.slice a_g n_g c_g) rfl
  have C13 := toGraph_any N_g a_g c_g n_g g w12 hn_g (hx_g.below HB12) (by omega)
  go_wp2_with fail
  refine C13.mono ?_
  rintro e w13 ⟨a13, rfl, ho_t, hb13⟩
  clear C13
  have hs13 := hb13.size
  have HB13 := below_tr' HB12 hb13
  have q_b_g := blk_below q_b_g hb13
  have q_x_g := blk_below q_x_g hb13
  have hw := hw.below hb13
  have hg := hg.below hb13
  clear g_b_g_0 g_b_g_1
  have r_ho_t := own_rin ho_t
  have C14 := implComponentsOf_any N_g a13 n_g n_g g w13 (by omega) hn_g (own_rd ho_t) (by omega)
  go_wp2_with fail
  refine C14.mono ?_
  rintro e w14 ⟨a14, c14, rfl, hh, hb14⟩
  clear C14
  have hs14 := hb14.size
  have HB14 := below_tr' HB13 hb14
  have ho_t := own_below ho_t hb14
  have q_b_g := blk_below q_b_g hb14
  have q_x_g := blk_below q_x_g hb14
  have hw := hw.below hb14
  have hg := hg.below hb14
  clear ho_t
  have C15 := eqHM_any c14 c3 hh hw (by omega)
  go_wp2_with fail
  refine C15.mono ?_
  rintro e w15 ⟨rfl, hb15⟩
  clear C15
  have hs15 := hb15.size
  have HB15 := below_tr' HB14 hb15
  have q_b_g := blk_below q_b_g hb15
  have q_x_g := blk_below q_x_g hb15
  have hw := hw.below hb15
  have hg := hg.below hb15
  have hh := hh.below hb15
  clear hh hw
  have C16 := heldHM_any 1 c5 hg (by omega) (by omega) (by omega)
  go_wp2_with fail
  refine C16.mono ?_
  rintro e w16 ⟨rfl, hb16⟩
  clear C16
  have hs16 := hb16.size
  have HB16 := below_tr' HB15 hb16
  have q_b_g := blk_below q_b_g hb16
  have q_x_g := blk_below q_x_g hb16
  have hg := hg.below hb16
  go_wp2
  go_ret
  exact ⟨rfl, HB16⟩

end Go.Proofs.Ytjmiafkkbganlaa
