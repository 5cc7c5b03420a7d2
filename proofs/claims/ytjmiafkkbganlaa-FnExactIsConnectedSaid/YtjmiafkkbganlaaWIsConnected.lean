
/- The walk of the law FnExactIsConnected. -/
import Derived.Test.YtjmiafkkbganlaaCompW
namespace Go.Proofs.Ytjmiafkkbganlaa
open Go.RowKit

set_option maxHeartbeats 4000000 in
set_option linter.unusedVariables false in
theorem walk_FnExactIsConnected (N_g : Int) (a_g : Option Addr) (c_g n_g : Nat) (g : List E2) (w : World) (hN_g : -9223372036854775808 ≤ N_g ∧ N_g ≤ 9223372036854775807) (hn_g : g.length = n_g) (hx_g : Rd w a_g (edges g)) (hl_g : n_g ≤ 9223372036854775807) :
    Calls Try.prog 5 #[graphV N_g a_g n_g c_g] w fun e w' => e = .returned (.bool true) ∧ Below w.heap.size w w' := by
  have HB0 := Below.refl w.heap.size w
  have HA := below_alloc w (.cells #[.int .i64 N_g, .slice a_g n_g c_g] 24)
  have q_b_g := heap_alloc_new w (.cells #[.int .i64 N_g, .slice a_g n_g c_g] 24)
  have HB0 := below_tr' HB0 HA
  clear HA
  generalize hV0 : (w.alloc (.cells #[.int .i64 N_g, .slice a_g n_g c_g] 24)) = v0 at *
  have HV0 := Lib.hid hV0
  clear hV0
  go_enter Try.func5, Try.ntmps5
  have g_b_g_0 := blk_cell q_b_g 0 (.int .i64 N_g) rfl
  have g_b_g_1 := blk_cell q_b_g 1 (.slice a_g n_g c_g) rfl
  have C1 := szGraph_any N_g a_g c_g n_g (1048576) v0 (by omega) (by omega) (by omega)
  go_wp2_with (simp only [HV0.out])
  refine C1.mono ?_
  rintro e w1 ⟨rfl, hb1⟩
  clear C1
  have HB1 := below_tr' HB0 hb1
  have q_b_g := blk_below q_b_g hb1
  clear g_b_g_0 g_b_g_1
  by_cases hs_g : 1048576 < (n_g : Int)
  · rw [if_pos hs_g]
    go_wp2
    go_ret
    exact ⟨rfl, HB1⟩
  rw [if_neg hs_g]
  have g_b_g_0 := blk_cell q_b_g 0 (.int .i64 N_g) rfl
  have g_b_g_1 := blk_cell q_b_g 1 (.slice a_g n_g c_g) rfl
  have C2 := toGraph_any N_g a_g c_g n_g g w1 hn_g (hx_g.below HB1) (by omega)
  go_wp2_with fail
  refine C2.mono ?_
  rintro e w2 ⟨a2, rfl, ho_w, hb2⟩
  clear C2
  have HB2 := below_tr' HB1 hb2
  have q_b_g := blk_below q_b_g hb2
  clear g_b_g_0 g_b_g_1
  have C3 := specIsConnected_any N_g a2 n_g n_g g w2 hn_g (own_rd ho_w) (by omega)
  go_wp2_with fail
  refine C3.mono ?_
  rintro e w3 ⟨rfl, hb3⟩
  clear C3
  have HB3 := below_tr' HB2 hb3
  have ho_w := own_below ho_w hb3
  have q_b_g := blk_below q_b_g hb3
  clear ho_w
  have g_b_g_0 := blk_cell q_b_g 0 (.int .i64 N_g) rfl
  have g_b_g_1 := blk_cell q_b_g 1 (.slice a_g n_g c_g) rfl
  have C4 := toGraph_any N_g a_g c_g n_g g w3 hn_g (hx_g.below HB3) (by omega)
  go_wp2_with fail
  refine C4.mono ?_
  rintro e w4 ⟨a4, rfl, ho_x_g, hb4⟩
  clear C4
  have HB4 := below_tr' HB3 hb4
  have q_b_g := blk_below q_b_g hb4
  clear g_b_g_0 g_b_g_1
  have HA1 := below_alloc w4 (.cells #[.int .i64 N_g, .slice a4 n_g n_g] 29)
  have q_x_g := heap_alloc_new w4 (.cells #[.int .i64 N_g, .slice a4 n_g n_g] 29)
  have ho_x_g := own_below ho_x_g HA1
  have q_b_g := blk_below q_b_g HA1
  have HBc1 := below_tr' HB4 HA1
  generalize hV1 : w4.alloc (.cells #[.int .i64 N_g, .slice a4 n_g n_g] 29) = v1 at *
  have HV1 := Lib.hid hV1
  clear hV1 HA1
  have g_x_g_0 := blk_cell q_x_g 0 (.int .i64 N_g) rfl
  have g_x_g_1 := blk_cell q_x_g 1 (.slice a4 n_g n_g) rfl
  have C5 := implIsConnected_any N_g a4 n_g n_g g v1 (by omega) hn_g (own_rd ho_x_g) (by omega)
  go_wp2_with (simp only [HV1.out])
  refine C5.mono ?_
  rintro e w5 ⟨rfl, hb5⟩
  clear C5
  have HB5 := below_tr' HBc1 hb5
  have ho_x_g := own_below ho_x_g hb5
  have q_b_g := blk_below q_b_g hb5
  have q_x_g := blk_below q_x_g hb5
  clear g_x_g_0 g_x_g_1
  have HT6 := Lib.hid (toGraph_any N_g a_g c_g n_g g w5.drew hn_g (hx_g.below (bel_drew HB5)) (by omega))
  have HQ6 := Lib.hid (fun (u : World) (a' : Option Addr) (h1 : Rd u a4 (edges g)) (h2 : Rd u a' (edges g)) => eqGraph_any N_g a4 a' n_g n_g n_g g u hn_g h1 h2 (by omega))
  have bd6 := bel_drew (Below.refl w5.heap.size w5)
  have d_x_g_0 := later_cell (blk_cell q_x_g 0 (.int .i64 N_g) rfl)
  have d_x_g_1 := later_cell (blk_cell q_x_g 1 (.slice a4 n_g n_g) rfl)
  have d_b_g_0 := later_cell (blk_cell q_b_g 0 (.int .i64 N_g) rfl)
  have d_b_g_1 := later_cell (blk_cell q_b_g 1 (.slice a_g n_g c_g) rfl)
  go_wp2
  refine wp_region_flags [true, true, false, false, false] 4 (C := fun w' => ∃ u : Later w5, w' = u.val) (by kernel_rfl) (by kernel_rfl) ⟨⟨_, bd6⟩, rfl⟩ ?_
  simp only [pickT, pickF]
  repeat (go_big_quiet_step (fail))
  refine wpQuiet_nil ?_
  clear d_x_g_0 d_x_g_1 d_b_g_0 d_b_g_1
  refine tail_step fun K hK => ?_
  go_wp2_with fail
  refine HT6.out.mono ?_
  rintro e w6 ⟨aT6, rfl, hoT6, hbT6⟩
  go_wp2
  refine hK _ _ ⟨⟨_, bd6.trans hbT6⟩, rfl⟩ ?_
  clear hK HT6
  have hb6 : Below w5.heap.size w5 w6 := bd6.trans hbT6
  have HC6 := HQ6.out w6 aT6 (own_rd (own_below ho_x_g hb6)) (own_rd hoT6)
  clear HQ6 hoT6 hbT6
  refine tail_step fun K2 hK2 => ?_
  go_wp2_with fail
  refine HC6.mono ?_
  rintro e w7 ⟨rfl, hbQ7⟩
  have hb7 := below_tr' hb6 hbQ7
  go_wp2
  refine hK2 _ _ ⟨⟨_, hb7⟩, rfl⟩ ?_
  clear hK2 HC6 hbQ7 hb6 bd6
  refine tail_last fun K3 hK3 => ?_
  have HB7 := below_tr' HB5 hb7
  have ho_x_g := own_below ho_x_g hb7
  have q_b_g := blk_below q_b_g hb7
  have q_x_g := blk_below q_x_g hb7
  go_wp2
  go_ret
  exact ⟨rfl, HB7⟩

end Go.Proofs.Ytjmiafkkbganlaa
