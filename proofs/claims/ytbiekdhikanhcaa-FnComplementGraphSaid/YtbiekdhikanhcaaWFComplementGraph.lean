
/- The walk of the law FnComplementGraph. (Printed by laws_f.py.) -/
import Derived.Test.YtbiekdhikanhcaaDraw1
import Derived.Test.YtbiekdhikanhcaaPlainG
namespace Go.Proofs.Ytbiekdhikanhcaa
open Go.RowKit

set_option maxHeartbeats 4000000 in
set_option linter.unusedVariables false in
theorem walk_FnComplementGraph (a_c : Option Addr) (c_c n_c : Nat) (bs : List Int) (w : World) (hc : CodeOK w a_c c_c n_c bs) :
    Calls Try.prog 8 #[.slice a_c n_c c_c] w fun e w' => e = .returned (.bool true) ∧ Below w.heap.size w w' := by
  by_cases hs : 1048576 < n_c
  · go_enter Try.func8, Try.ntmps8
    go_wp2
    go_ret
    exact ⟨rfl, Below.refl _ _⟩
  have hs' : n_c ≤ 1048576 := by omega
  have HB0 := Below.refl w.heap.size w
  go_enter Try.func8, Try.ntmps8
  have C1 := DrawComplementGraph_any a_c c_c n_c bs w hc hs'
  go_wp2_with fail
  refine C1.mono ?_
  rintro e w1 ⟨N_g, g, a_g, c_g, rfl, hN_g, hb_g, ho_g, hb1⟩
  clear C1
  obtain ⟨n_g, hn_g'⟩ : ∃ n, n = g.length := ⟨_, rfl⟩
  rw [← hn_g'] at ho_g hb_g
  have CN_g : graphV N_g a_g g.length c_g = graphV N_g a_g n_g c_g := by rw [hn_g']
  rw [CN_g]
  have hn_g := hn_g'.symm
  clear CN_g hn_g'
  have hc_g := own_capE ho_g
  have HN_g := Lib.hid hn_g
  clear hn_g
  have HB1 := below_tr' HB0 hb1
  have HA1 := below_alloc w1 (.cells #[.int .i64 N_g, .slice a_g n_g c_g] 25)
  have q_b_g := heap_alloc_new w1 (.cells #[.int .i64 N_g, .slice a_g n_g c_g] 25)
  have ho_g := own_below ho_g HA1
  have HBc1 := below_tr' HB1 HA1
  generalize hV1 : w1.alloc (.cells #[.int .i64 N_g, .slice a_g n_g c_g] 25) = v1 at *
  have HV1 := Lib.hid hV1
  clear hV1 HA1
  have hL_k := cgL_len N_g g
  have hcgN : -1 ≤ cgN N_g g ∧ cgN N_g g ≤ 8 := by unfold cgN; split <;> omega
  have g_b_g_0 := blk_cell q_b_g 0 (.int .i64 N_g) rfl
  have g_b_g_1 := blk_cell q_b_g 1 (.slice a_g n_g c_g) rfl
  have C2 := implCG_any N_g a_g c_g n_g g v1 (by omega) HN_g.out (own_rd ho_g) (by omega)
  go_wp2_with (simp only [HV1.out])
  refine C2.mono ?_
  rintro e w2 ⟨aK, cK, dK, rfl, ho_k, hb2⟩
  clear C2
  have ap1 := apart_of ho_g ho_k
  have HB2 := below_tr' HBc1 hb2
  have ho_g := own_below ho_g hb2
  have q_b_g := blk_below q_b_g hb2
  clear g_b_g_0 g_b_g_1
  have HA2 := below_alloc w2 (.cells #[.int .i64 (cgN N_g g), .slice aK (cgL N_g g).length dK] 25)
  have q_b_k := heap_alloc_new w2 (.cells #[.int .i64 (cgN N_g g), .slice aK (cgL N_g g).length dK] 25)
  have ho_g := own_below ho_g HA2
  have ho_k := own_below ho_k HA2
  have q_b_g := blk_below q_b_g HA2
  have HBc2 := below_tr' HB2 HA2
  generalize hV2 : w2.alloc (.cells #[.int .i64 (cgN N_g g), .slice aK (cgL N_g g).length dK] 25) = v2 at *
  have HV2 := Lib.hid hV2
  clear hV2 HA2
  cases hv : validG N_g g
  · have D_d_b_k_0 := Lib.hid (later_cell (blk_cell q_b_k 0 (.int .i64 (cgN N_g g)) rfl))
    have D_d_b_k_1 := Lib.hid (later_cell (blk_cell q_b_k 1 (.slice aK (cgL N_g g).length dK) rfl))
    have D_d_b_g_0 := Lib.hid (later_cell (blk_cell q_b_g 0 (.int .i64 N_g) rfl))
    have D_d_b_g_1 := Lib.hid (later_cell (blk_cell q_b_g 1 (.slice a_g n_g c_g) rfl))
    have bd1 := bel_drew (Below.refl v2.heap.size v2)
    go_wp2_with (simp only [HV2.out])
    refine wp_region_heads [true, true, false, false, false, false, false, false, false, false] 9 8 (C := fun w' => ∃ u : Later v2, w' = u.val) (by kernel_rfl) (by kernel_rfl) ⟨⟨_, bd1⟩, rfl⟩ ?_
    have d_b_k_0 := D_d_b_k_0.out
    have d_b_k_1 := D_d_b_k_1.out
    have d_b_g_0 := D_d_b_g_0.out
    have d_b_g_1 := D_d_b_g_1.out
    simp only [pickT]
    repeat (go_big_quiet_step (fail))
    refine wpQuiet_nil ?_
    clear d_b_k_0 d_b_k_1 d_b_g_0 d_b_g_1
    generalize hD1 : v2.drew = D1 at *
    clear hD1
    have ho_g := own_below ho_g bd1
    have ho_k := own_below ho_k bd1
    have q_b_g := blk_below q_b_g bd1
    have q_b_k := blk_below q_b_k bd1
    have HB3 := below_tr' HBc2 bd1
    refine any_one (i := 2) (by kernel_rfl) rfl ?_
    intro K hK
    have C4 := specCG_any N_g a_g c_g n_g g D1 HN_g.out (own_rd ho_g) (by omega)
    go_wp2_with fail
    refine C4.mono ?_
    rintro e w4 ⟨aS1, cS1, dS1, rfl, ho_s1, hb4⟩
    clear C4
    have hr1_4 := below_tr' bd1 hb4
    have ap2 := apart_of ho_g ho_s1
    have ap3 := apart_of ho_k ho_s1
    have HB4 := below_tr' HB3 hb4
    have ho_g := own_below ho_g hb4
    have ho_k := own_below ho_k hb4
    have q_b_g := blk_below q_b_g hb4
    have q_b_k := blk_below q_b_k hb4
    go_wp2
    refine hK _ _ (fun _ => ⟨⟨_, hr1_4⟩, rfl⟩) ?_
    clear hK
    refine any_one (i := 3) (by kernel_rfl) rfl ?_
    intro K hK
    have C5 := equalGraph_any (cgN N_g g) (cgN N_g g) aK aS1 dK dS1 (cgL N_g g).length (cgL N_g g).length (cgL N_g g) (cgL N_g g) w4 rfl rfl (own_rd ho_k) (own_rd ho_s1) (by omega) (by omega)
    rw [show decide (cgN N_g g = cgN N_g g ∧ cgL N_g g = cgL N_g g) = true from by simp] at C5
    go_wp2_with fail
    refine C5.mono ?_
    rintro e w5 ⟨rfl, hb5⟩
    clear C5
    have hr1_5 := below_tr' hr1_4 hb5
    have HB5 := below_tr' HB4 hb5
    have ho_g := own_below ho_g hb5
    have ho_k := own_below ho_k hb5
    have ho_s1 := own_below ho_s1 hb5
    have q_b_g := blk_below q_b_g hb5
    have q_b_k := blk_below q_b_k hb5
    go_wp2
    refine hK _ _ (fun _ => ⟨⟨_, hr1_5⟩, rfl⟩) ?_
    clear hK
    refine any_one (i := 4) (by kernel_rfl) rfl ?_
    intro K hK
    go_wp2
    refine hK _ _ (fun _ => ⟨⟨_, hr1_5⟩, rfl⟩) ?_
    clear hK
    refine any_one (i := 5) (by kernel_rfl) rfl ?_
    intro K hK
    go_wp2
    refine hK _ _ (fun _ => ⟨⟨_, hr1_5⟩, rfl⟩) ?_
    clear hK
    refine any_one (i := 6) (by kernel_rfl) rfl ?_
    intro K hK
    have g_b_g_0 := blk_cell q_b_g 0 (.int .i64 N_g) rfl
    have g_b_g_1 := blk_cell q_b_g 1 (.slice a_g n_g c_g) rfl
    go_wp2
    refine hK _ _ (fun _ => ⟨⟨_, hr1_5⟩, rfl⟩) ?_
    clear hK
    clear g_b_g_0 g_b_g_1
    refine any_one (i := 7) (by kernel_rfl) rfl ?_
    intro K hK
    have C6 := implValidGraph_any N_g a_g c_g n_g g w5 (by omega) HN_g.out (own_rd ho_g) (by omega)
    rw [hv] at C6
    go_wp2_with fail
    refine C6.mono ?_
    rintro e w6 ⟨rfl, hb6⟩
    clear C6
    have hr1_6 := below_tr' hr1_5 hb6
    have HB6 := below_tr' HB5 hb6
    have ho_g := own_below ho_g hb6
    have ho_k := own_below ho_k hb6
    have ho_s1 := own_below ho_s1 hb6
    have q_b_g := blk_below q_b_g hb6
    have q_b_k := blk_below q_b_k hb6
    go_wp2
    refine hK _ _ (fun _ => ⟨⟨_, hr1_6⟩, rfl⟩) ?_
    clear hK
    refine any_one (i := 8) (by kernel_rfl) rfl ?_
    intro K hK
    go_wp2
    refine hK _ _ (fun _ => ⟨⟨_, hr1_6⟩, rfl⟩) ?_
    clear hK
    refine any_one (i := 9) (by kernel_rfl) rfl ?_
    intro K hK
    go_wp2
    refine hK _ _ (fun h => absurd rfl h) ?_
    clear hK
    refine any_end (by kernel_rfl) ?_
    clear D_d_b_k_0 D_d_b_k_1 D_d_b_g_0 D_d_b_g_1
    clear ho_s1
    have D_d_b_k_0 := Lib.hid (later_cell (blk_cell q_b_k 0 (.int .i64 (cgN N_g g)) rfl))
    have D_d_b_k_1 := Lib.hid (later_cell (blk_cell q_b_k 1 (.slice aK (cgL N_g g).length dK) rfl))
    have D_d_b_g_0 := Lib.hid (later_cell (blk_cell q_b_g 0 (.int .i64 N_g) rfl))
    have D_d_b_g_1 := Lib.hid (later_cell (blk_cell q_b_g 1 (.slice a_g n_g c_g) rfl))
    have bd2 := bel_drew (Below.refl w6.heap.size w6)
    go_wp2
    refine wp_region_heads [true, true, false, false, false] 4 3 (C := fun w' => ∃ u : Later w6, w' = u.val) (by kernel_rfl) (by kernel_rfl) ⟨⟨_, bd2⟩, rfl⟩ ?_
    have d_b_k_0 := D_d_b_k_0.out
    have d_b_k_1 := D_d_b_k_1.out
    have d_b_g_0 := D_d_b_g_0.out
    have d_b_g_1 := D_d_b_g_1.out
    simp only [pickT]
    repeat (go_big_quiet_step (fail))
    refine wpQuiet_nil ?_
    clear d_b_k_0 d_b_k_1 d_b_g_0 d_b_g_1
    generalize hD2 : w6.drew = D2 at *
    clear hD2
    have ho_g := own_below ho_g bd2
    have ho_k := own_below ho_k bd2
    have q_b_g := blk_below q_b_g bd2
    have q_b_k := blk_below q_b_k bd2
    have HB7 := below_tr' HB6 bd2
    refine any_one (i := 2) (by kernel_rfl) rfl ?_
    intro K hK
    have C8 := specCG_any N_g a_g c_g n_g g D2 HN_g.out (own_rd ho_g) (by omega)
    go_wp2_with fail
    refine C8.mono ?_
    rintro e w8 ⟨aS2, cS2, dS2, rfl, ho_s2, hb8⟩
    clear C8
    have hr2_8 := below_tr' bd2 hb8
    have ap4 := apart_of ho_g ho_s2
    have ap5 := apart_of ho_k ho_s2
    have HB8 := below_tr' HB7 hb8
    have ho_g := own_below ho_g hb8
    have ho_k := own_below ho_k hb8
    have q_b_g := blk_below q_b_g hb8
    have q_b_k := blk_below q_b_k hb8
    go_wp2
    refine hK _ _ (fun _ => ⟨⟨_, hr2_8⟩, rfl⟩) ?_
    clear hK
    refine any_one (i := 3) (by kernel_rfl) rfl ?_
    intro K hK
    have C9 := equalGraph_any (cgN N_g g) (cgN N_g g) aK aS2 dK dS2 (cgL N_g g).length (cgL N_g g).length (cgL N_g g) (cgL N_g g) w8 rfl rfl (own_rd ho_k) (own_rd ho_s2) (by omega) (by omega)
    rw [show decide (cgN N_g g = cgN N_g g ∧ cgL N_g g = cgL N_g g) = true from by simp] at C9
    go_wp2_with fail
    refine C9.mono ?_
    rintro e w9 ⟨rfl, hb9⟩
    clear C9
    have hr2_9 := below_tr' hr2_8 hb9
    have HB9 := below_tr' HB8 hb9
    have ho_g := own_below ho_g hb9
    have ho_k := own_below ho_k hb9
    have ho_s2 := own_below ho_s2 hb9
    have q_b_g := blk_below q_b_g hb9
    have q_b_k := blk_below q_b_k hb9
    go_wp2
    refine hK _ _ (fun _ => ⟨⟨_, hr2_9⟩, rfl⟩) ?_
    clear hK
    refine any_one (i := 4) (by kernel_rfl) rfl ?_
    intro K hK
    go_wp2
    refine hK _ _ (fun h => absurd rfl h) ?_
    clear hK
    refine any_end (by kernel_rfl) ?_
    clear D_d_b_k_0 D_d_b_k_1 D_d_b_g_0 D_d_b_g_1
    go_wp2
    go_ret
    exact ⟨rfl, HB9⟩
  · have D_d_b_k_0 := Lib.hid (later_cell (blk_cell q_b_k 0 (.int .i64 (cgN N_g g)) rfl))
    have D_d_b_k_1 := Lib.hid (later_cell (blk_cell q_b_k 1 (.slice aK (cgL N_g g).length dK) rfl))
    have D_d_b_g_0 := Lib.hid (later_cell (blk_cell q_b_g 0 (.int .i64 N_g) rfl))
    have D_d_b_g_1 := Lib.hid (later_cell (blk_cell q_b_g 1 (.slice a_g n_g c_g) rfl))
    have bd1 := bel_drew (Below.refl v2.heap.size v2)
    go_wp2_with (simp only [HV2.out])
    refine wp_region_heads [true, true, false, false, false, false, false, false, false, false] 9 8 (C := fun w' => ∃ u : Later v2, w' = u.val) (by kernel_rfl) (by kernel_rfl) ⟨⟨_, bd1⟩, rfl⟩ ?_
    have d_b_k_0 := D_d_b_k_0.out
    have d_b_k_1 := D_d_b_k_1.out
    have d_b_g_0 := D_d_b_g_0.out
    have d_b_g_1 := D_d_b_g_1.out
    simp only [pickT]
    repeat (go_big_quiet_step (fail))
    refine wpQuiet_nil ?_
    clear d_b_k_0 d_b_k_1 d_b_g_0 d_b_g_1
    generalize hD1 : v2.drew = D1 at *
    clear hD1
    have ho_g := own_below ho_g bd1
    have ho_k := own_below ho_k bd1
    have q_b_g := blk_below q_b_g bd1
    have q_b_k := blk_below q_b_k bd1
    have HB3 := below_tr' HBc2 bd1
    refine any_one (i := 2) (by kernel_rfl) rfl ?_
    intro K hK
    have C4 := specCG_any N_g a_g c_g n_g g D1 HN_g.out (own_rd ho_g) (by omega)
    go_wp2_with fail
    refine C4.mono ?_
    rintro e w4 ⟨aS1, cS1, dS1, rfl, ho_s1, hb4⟩
    clear C4
    have hr1_4 := below_tr' bd1 hb4
    have ap2 := apart_of ho_g ho_s1
    have ap3 := apart_of ho_k ho_s1
    have HB4 := below_tr' HB3 hb4
    have ho_g := own_below ho_g hb4
    have ho_k := own_below ho_k hb4
    have q_b_g := blk_below q_b_g hb4
    have q_b_k := blk_below q_b_k hb4
    go_wp2
    refine hK _ _ (fun _ => ⟨⟨_, hr1_4⟩, rfl⟩) ?_
    clear hK
    refine any_one (i := 3) (by kernel_rfl) rfl ?_
    intro K hK
    have C5 := equalGraph_any (cgN N_g g) (cgN N_g g) aK aS1 dK dS1 (cgL N_g g).length (cgL N_g g).length (cgL N_g g) (cgL N_g g) w4 rfl rfl (own_rd ho_k) (own_rd ho_s1) (by omega) (by omega)
    rw [show decide (cgN N_g g = cgN N_g g ∧ cgL N_g g = cgL N_g g) = true from by simp] at C5
    go_wp2_with fail
    refine C5.mono ?_
    rintro e w5 ⟨rfl, hb5⟩
    clear C5
    have hr1_5 := below_tr' hr1_4 hb5
    have HB5 := below_tr' HB4 hb5
    have ho_g := own_below ho_g hb5
    have ho_k := own_below ho_k hb5
    have ho_s1 := own_below ho_s1 hb5
    have q_b_g := blk_below q_b_g hb5
    have q_b_k := blk_below q_b_k hb5
    go_wp2
    refine hK _ _ (fun _ => ⟨⟨_, hr1_5⟩, rfl⟩) ?_
    clear hK
    refine any_one (i := 4) (by kernel_rfl) rfl ?_
    intro K hK
    go_wp2
    refine hK _ _ (fun _ => ⟨⟨_, hr1_5⟩, rfl⟩) ?_
    clear hK
    refine any_one (i := 5) (by kernel_rfl) rfl ?_
    intro K hK
    go_wp2
    refine hK _ _ (fun _ => ⟨⟨_, hr1_5⟩, rfl⟩) ?_
    clear hK
    refine any_one (i := 6) (by kernel_rfl) rfl ?_
    intro K hK
    have g_b_g_0 := blk_cell q_b_g 0 (.int .i64 N_g) rfl
    have g_b_g_1 := blk_cell q_b_g 1 (.slice a_g n_g c_g) rfl
    go_wp2
    refine hK _ _ (fun _ => ⟨⟨_, hr1_5⟩, rfl⟩) ?_
    clear hK
    clear g_b_g_0 g_b_g_1
    refine any_one (i := 7) (by kernel_rfl) rfl ?_
    intro K hK
    have C6 := implValidGraph_any N_g a_g c_g n_g g w5 (by omega) HN_g.out (own_rd ho_g) (by omega)
    rw [hv] at C6
    go_wp2_with fail
    refine C6.mono ?_
    rintro e w6 ⟨rfl, hb6⟩
    clear C6
    have hr1_6 := below_tr' hr1_5 hb6
    have HB6 := below_tr' HB5 hb6
    have ho_g := own_below ho_g hb6
    have ho_k := own_below ho_k hb6
    have ho_s1 := own_below ho_s1 hb6
    have q_b_g := blk_below q_b_g hb6
    have q_b_k := blk_below q_b_k hb6
    go_wp2
    refine hK _ _ (fun _ => ⟨⟨_, hr1_6⟩, rfl⟩) ?_
    clear hK
    refine any_one (i := 8) (by kernel_rfl) rfl ?_
    intro K hK
    go_wp2
    refine hK _ _ (fun _ => ⟨⟨_, hr1_6⟩, rfl⟩) ?_
    clear hK
    refine any_one (i := 9) (by kernel_rfl) rfl ?_
    intro K hK
    go_wp2
    refine hK _ _ (fun h => absurd rfl h) ?_
    clear hK
    refine any_end (by kernel_rfl) ?_
    clear D_d_b_k_0 D_d_b_k_1 D_d_b_g_0 D_d_b_g_1
    clear ho_s1
    have HP1 := Lib.hid (cg_cg hv)
    have HP2 := cg_count hv
    rw [HN_g.out] at HP2
    have hL_m := cgL_len (cgN N_g g) (cgL N_g g)
    have D_d_b_k_0 := Lib.hid (later_cell (blk_cell q_b_k 0 (.int .i64 (cgN N_g g)) rfl))
    have D_d_b_k_1 := Lib.hid (later_cell (blk_cell q_b_k 1 (.slice aK (cgL N_g g).length dK) rfl))
    have D_d_b_g_0 := Lib.hid (later_cell (blk_cell q_b_g 0 (.int .i64 N_g) rfl))
    have D_d_b_g_1 := Lib.hid (later_cell (blk_cell q_b_g 1 (.slice a_g n_g c_g) rfl))
    have bd2 := bel_drew (Below.refl w6.heap.size w6)
    go_wp2
    refine wp_region_heads [true, false, true, false, false, false, false, false, false, false, false, false, false, false, false, false, false, false, false, false, false, false] 21 20 (C := fun w' => ∃ u : Later w6, w' = u.val) (by kernel_rfl) (by kernel_rfl) ⟨⟨_, bd2⟩, rfl⟩ ?_
    have d_b_k_0 := D_d_b_k_0.out
    have d_b_k_1 := D_d_b_k_1.out
    have d_b_g_0 := D_d_b_g_0.out
    have d_b_g_1 := D_d_b_g_1.out
    simp only [pickT]
    repeat (go_big_quiet_step (fail))
    refine wpQuiet_nil ?_
    clear d_b_k_0 d_b_k_1 d_b_g_0 d_b_g_1
    generalize hD2 : w6.drew = D2 at *
    clear hD2
    have ho_g := own_below ho_g bd2
    have ho_k := own_below ho_k bd2
    have q_b_g := blk_below q_b_g bd2
    have q_b_k := blk_below q_b_k bd2
    have HB7 := below_tr' HB6 bd2
    refine any_one (i := 1) (by kernel_rfl) rfl ?_
    intro K hK
    have C8 := implCG_any (cgN N_g g) aK dK (cgL N_g g).length (cgL N_g g) D2 (by omega) rfl (own_rd ho_k) (by omega)
    go_wp2_with fail
    refine C8.mono ?_
    rintro e w8 ⟨aM, cM, dM, rfl, ho_m, hb8⟩
    clear C8
    have hr2_8 := below_tr' bd2 hb8
    have ap4 := apart_of ho_g ho_m
    have ap5 := apart_of ho_k ho_m
    have HB8 := below_tr' HB7 hb8
    have ho_g := own_below ho_g hb8
    have ho_k := own_below ho_k hb8
    have q_b_g := blk_below q_b_g hb8
    have q_b_k := blk_below q_b_k hb8
    go_wp2
    refine hK _ _ (fun _ => ⟨⟨_, hr2_8⟩, rfl⟩) ?_
    clear hK
    refine any_one (i := 3) (by kernel_rfl) rfl ?_
    intro K hK
    have C9 := equalGraph_any (cgN (cgN N_g g) (cgL N_g g)) N_g aM a_g dM c_g (cgL (cgN N_g g) (cgL N_g g)).length n_g (cgL (cgN N_g g) (cgL N_g g)) g w8 rfl HN_g.out (own_rd ho_m) (own_rd ho_g) (by omega) (by omega)
    rw [decide_eq_true HP1.out] at C9
    go_wp2_with fail
    refine C9.mono ?_
    rintro e w9 ⟨rfl, hb9⟩
    clear C9
    have hr2_9 := below_tr' hr2_8 hb9
    have HB9 := below_tr' HB8 hb9
    have ho_g := own_below ho_g hb9
    have ho_k := own_below ho_k hb9
    have ho_m := own_below ho_m hb9
    have q_b_g := blk_below q_b_g hb9
    have q_b_k := blk_below q_b_k hb9
    go_wp2
    refine hK _ _ (fun _ => ⟨⟨_, hr2_9⟩, rfl⟩) ?_
    clear hK
    refine any_one (i := 4) (by kernel_rfl) rfl ?_
    intro K hK
    go_wp2
    refine hK _ _ (fun _ => ⟨⟨_, hr2_9⟩, rfl⟩) ?_
    clear hK
    refine any_heads (id := 15) (n := 2) [false, false, false, false, false, true, true, true, true, true, true, true, true, true, true, true, true, true, true, true, false, false] #[true, true, true, true, true, true, true, true, true, true, true, true, true, true, true, true, true, true, true, true, false, false] (by kernel_rfl) ⟨⟨_, hr2_9⟩, rfl⟩ ?_
    have d_b_k_0 := D_d_b_k_0.out
    have d_b_k_1 := D_d_b_k_1.out
    have d_b_g_0 := D_d_b_g_0.out
    have d_b_g_1 := D_d_b_g_1.out
    simp only [pickT]
    repeat (go_big_quiet_step (fail))
    refine wpQuiet_nil ?_
    clear d_b_k_0 d_b_k_1 d_b_g_0 d_b_g_1
    refine any_one (i := 20) (by kernel_rfl) rfl ?_
    intro K hK
    go_wp2
    refine hK _ _ (fun _ => ⟨⟨_, hr2_9⟩, rfl⟩) ?_
    clear hK
    refine any_one (i := 21) (by kernel_rfl) rfl ?_
    intro K hK
    go_wp2
    refine hK _ _ (fun h => absurd rfl h) ?_
    clear hK
    refine any_end (by kernel_rfl) ?_
    clear D_d_b_k_0 D_d_b_k_1 D_d_b_g_0 D_d_b_g_1
    go_wp2
    go_ret
    exact ⟨rfl, HB9⟩

end Go.Proofs.Ytbiekdhikanhcaa
