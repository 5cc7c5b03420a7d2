
/- The walk of the law FnValidGraph. (Printed by laws_f.py.) -/
import Derived.Test.YtbiekdhikanhcaaDraw1
import Derived.Test.YtbiekdhikanhcaaPlainG
import Derived.Test.YtbiekdhikanhcaaAddE
namespace Go.Proofs.Ytbiekdhikanhcaa
open Go.RowKit

set_option maxHeartbeats 4000000 in
set_option linter.unusedVariables false in
theorem walk_FnValidGraph (a_c : Option Addr) (c_c n_c : Nat) (bs : List Int) (w : World) (hc : CodeOK w a_c c_c n_c bs) :
    Calls Try.prog 6 #[.slice a_c n_c c_c] w fun e w' => e = .returned (.bool true) ∧ Below w.heap.size w w' := by
  by_cases hs : 1048576 < n_c
  · go_enter Try.func6, Try.ntmps6
    go_wp2
    go_ret
    exact ⟨rfl, Below.refl _ _⟩
  have hs' : n_c ≤ 1048576 := by omega
  have HB0 := Below.refl w.heap.size w
  go_enter Try.func6, Try.ntmps6
  have C1 := DrawValidGraph_any a_c c_c n_c bs w hc hs'
  go_wp2_with fail
  refine C1.mono ?_
  rintro e w1 ⟨N_g, g, a_g, c_g, rfl, hN_g, hb_g, ho_g, hb1⟩
  clear C1
  obtain ⟨n_g, hn_g'⟩ : ∃ n, n = g.length := ⟨_, rfl⟩
  rw [← hn_g'] at ho_g hb_g
  have CN_g : graphV N_g a_g g.length c_g = graphV N_g a_g n_g c_g := by rw [hn_g']
  rw [CN_g]
  have hn_g := hn_g'.symm
  clear CN_g hn_g'
  have hc_g := own_capE ho_g
  have HN_g := Lib.hid hn_g
  clear hn_g
  have HB1 := below_tr' HB0 hb1
  have HA1 := below_alloc w1 (.cells #[.int .i64 N_g, .slice a_g n_g c_g] 25)
  have q_b_g := heap_alloc_new w1 (.cells #[.int .i64 N_g, .slice a_g n_g c_g] 25)
  have ho_g := own_below ho_g HA1
  have HBc1 := below_tr' HB1 HA1
  generalize hV1 : w1.alloc (.cells #[.int .i64 N_g, .slice a_g n_g c_g] 25) = v1 at *
  have HV1 := Lib.hid hV1
  clear hV1 HA1
  cases hv : validG N_g g
  · have g_b_g_0 := blk_cell q_b_g 0 (.int .i64 N_g) rfl
    have g_b_g_1 := blk_cell q_b_g 1 (.slice a_g n_g c_g) rfl
    have C2 := implValidGraph_any N_g a_g c_g n_g g v1 (by omega) HN_g.out (own_rd ho_g) (by omega)
    rw [hv] at C2
    go_wp2_with (simp only [HV1.out])
    refine C2.mono ?_
    rintro e w2 ⟨rfl, hb2⟩
    clear C2
    have HB2 := below_tr' HBc1 hb2
    have ho_g := own_below ho_g hb2
    have q_b_g := blk_below q_b_g hb2
    clear g_b_g_0 g_b_g_1
    have g_b_g_0 := blk_cell q_b_g 0 (.int .i64 N_g) rfl
    have g_b_g_1 := blk_cell q_b_g 1 (.slice a_g n_g c_g) rfl
    have C3 := specVG_any N_g a_g c_g n_g g w2 HN_g.out (own_rd ho_g) (by omega)
    rw [hv] at C3
    go_wp2_with fail
    refine C3.mono ?_
    rintro e w3 ⟨rfl, hb3⟩
    clear C3
    have HB3 := below_tr' HB2 hb3
    have ho_g := own_below ho_g hb3
    have q_b_g := blk_below q_b_g hb3
    clear g_b_g_0 g_b_g_1
    have g_b_g_0 := blk_cell q_b_g 0 (.int .i64 N_g) rfl
    have g_b_g_1 := blk_cell q_b_g 1 (.slice a_g n_g c_g) rfl
    have C4 := specVG_any N_g a_g c_g n_g g w3 HN_g.out (own_rd ho_g) (by omega)
    rw [hv] at C4
    go_wp2_with fail
    refine C4.mono ?_
    rintro e w4 ⟨rfl, hb4⟩
    clear C4
    have HB4 := below_tr' HB3 hb4
    have ho_g := own_below ho_g hb4
    have q_b_g := blk_below q_b_g hb4
    clear g_b_g_0 g_b_g_1
    go_wp2
    go_ret
    exact ⟨rfl, HB4⟩
  · have g_b_g_0 := blk_cell q_b_g 0 (.int .i64 N_g) rfl
    have g_b_g_1 := blk_cell q_b_g 1 (.slice a_g n_g c_g) rfl
    have C2 := implValidGraph_any N_g a_g c_g n_g g v1 (by omega) HN_g.out (own_rd ho_g) (by omega)
    rw [hv] at C2
    go_wp2_with (simp only [HV1.out])
    refine C2.mono ?_
    rintro e w2 ⟨rfl, hb2⟩
    clear C2
    have HB2 := below_tr' HBc1 hb2
    have ho_g := own_below ho_g hb2
    have q_b_g := blk_below q_b_g hb2
    clear g_b_g_0 g_b_g_1
    have g_b_g_0 := blk_cell q_b_g 0 (.int .i64 N_g) rfl
    have g_b_g_1 := blk_cell q_b_g 1 (.slice a_g n_g c_g) rfl
    have C3 := specVG_any N_g a_g c_g n_g g w2 HN_g.out (own_rd ho_g) (by omega)
    rw [hv] at C3
    go_wp2_with fail
    refine C3.mono ?_
    rintro e w3 ⟨rfl, hb3⟩
    clear C3
    have HB3 := below_tr' HB2 hb3
    have ho_g := own_below ho_g hb3
    have q_b_g := blk_below q_b_g hb3
    clear g_b_g_0 g_b_g_1
    have hL_k := cgL_len N_g g
    have HV2 := Lib.hid (cg_valid hv)
    have HV3 := Lib.hid (valid_take hv (n_g - 1))
    have hcgN : -1 ≤ cgN N_g g ∧ cgN N_g g ≤ 8 := by unfold cgN; split <;> omega
    by_cases h0 : n_g = 0
    · have hg0 : ((n_g : Int) == 0) = true := by simp [h0]
      clear h0
      have g_b_g_0 := blk_cell q_b_g 0 (.int .i64 N_g) rfl
      have g_b_g_1 := blk_cell q_b_g 1 (.slice a_g n_g c_g) rfl
      have D_d_b_g_0 := Lib.hid (later_cell (blk_cell q_b_g 0 (.int .i64 N_g) rfl))
      have D_d_b_g_1 := Lib.hid (later_cell (blk_cell q_b_g 1 (.slice a_g n_g c_g) rfl))
      have bd1 := bel_drew (Below.refl w3.heap.size w3)
      go_wp2
      refine wp_region_heads [true, false, false, false, false, false, false, false, false, false, false, false, false, false, false, false, false, false, false] 18 18 (C := fun w' => ∃ u : Later w3, w' = u.val) (by kernel_rfl) (by kernel_rfl) ⟨⟨_, bd1⟩, rfl⟩ ?_
      have d_b_g_0 := D_d_b_g_0.out
      have d_b_g_1 := D_d_b_g_1.out
      simp only [pickT]
      repeat (go_big_quiet_step (fail))
      refine wpQuiet_nil ?_
      clear d_b_g_0 d_b_g_1
      generalize hD1 : w3.drew = D1 at *
      clear hD1
      have ho_g := own_below ho_g bd1
      have q_b_g := blk_below q_b_g bd1
      have HB4 := below_tr' HB3 bd1
      refine any_one (i := 1) (by kernel_rfl) rfl ?_
      intro K hK
      have C5 := implCG_any N_g a_g c_g n_g g D1 (by omega) HN_g.out (own_rd ho_g) (by omega)
      go_wp2_with fail
      refine C5.mono ?_
      rintro e w5 ⟨aK, cK, dK, rfl, ho_k, hb5⟩
      clear C5
      have hr1_5 := below_tr' bd1 hb5
      have ap1 := apart_of ho_g ho_k
      have HB5 := below_tr' HB4 hb5
      have ho_g := own_below ho_g hb5
      have q_b_g := blk_below q_b_g hb5
      go_wp2
      refine hK _ _ (fun _ => ⟨⟨_, hr1_5⟩, rfl⟩) ?_
      clear hK
      refine any_one (i := 2) (by kernel_rfl) rfl ?_
      intro K hK
      have C6 := implValidGraph_any (cgN N_g g) aK dK (cgL N_g g).length (cgL N_g g) w5 (by omega) rfl (own_rd ho_k) (by omega)
      rw [HV2.out] at C6
      go_wp2_with fail
      refine C6.mono ?_
      rintro e w6 ⟨rfl, hb6⟩
      clear C6
      have hr1_6 := below_tr' hr1_5 hb6
      have HB6 := below_tr' HB5 hb6
      have ho_g := own_below ho_g hb6
      have ho_k := own_below ho_k hb6
      have q_b_g := blk_below q_b_g hb6
      go_wp2
      refine hK _ _ (fun _ => ⟨⟨_, hr1_6⟩, rfl⟩) ?_
      clear hK
      refine any_one (i := 3) (by kernel_rfl) rfl ?_
      intro K hK
      go_wp2
      refine hK _ _ (fun _ => ⟨⟨_, hr1_6⟩, rfl⟩) ?_
      clear hK
      refine any_heads (id := 11) (n := 4) [false, false, false, false, true, true, true, true, true, true, true, true, true, true, true, false, false, false, false] #[true, true, true, true, true, true, true, true, true, true, true, true, true, true, true, false, false, false, false] (by kernel_rfl) ⟨⟨_, hr1_6⟩, rfl⟩ ?_
      have d_b_g_0 := D_d_b_g_0.out
      have d_b_g_1 := D_d_b_g_1.out
      simp only [pickT]
      repeat (go_big_quiet_step (fail))
      refine wpQuiet_nil ?_
      clear d_b_g_0 d_b_g_1
      refine any_one (i := 15) (by kernel_rfl) rfl ?_
      intro K hK
      go_wp2
      refine hK _ _ (fun _ => ⟨⟨_, hr1_6⟩, rfl⟩) ?_
      clear hK
      refine any_one (i := 16) (by kernel_rfl) rfl ?_
      intro K hK
      go_wp2
      refine hK _ _ (fun _ => ⟨⟨_, hr1_6⟩, rfl⟩) ?_
      clear hK
      refine any_one (i := 17) (by kernel_rfl) rfl ?_
      intro K hK
      go_wp2
      refine hK _ _ (fun _ => ⟨⟨_, hr1_6⟩, rfl⟩) ?_
      clear hK
      refine any_one (i := 18) (by kernel_rfl) rfl ?_
      intro K hK
      go_wp2
      refine hK _ _ (fun h => absurd rfl h) ?_
      clear hK
      refine any_end (by kernel_rfl) ?_
      clear D_d_b_g_0 D_d_b_g_1
      go_wp2
      go_ret
      exact ⟨rfl, HB6⟩
    · have hg0 : ((n_g : Int) == 0) = false := by simp [h0]
      have g_b_g_0 := blk_cell q_b_g 0 (.int .i64 N_g) rfl
      have g_b_g_1 := blk_cell q_b_g 1 (.slice a_g n_g c_g) rfl
      have D_d_b_g_0 := Lib.hid (later_cell (blk_cell q_b_g 0 (.int .i64 N_g) rfl))
      have D_d_b_g_1 := Lib.hid (later_cell (blk_cell q_b_g 1 (.slice a_g n_g c_g) rfl))
      have bd1 := bel_drew (Below.refl w3.heap.size w3)
      go_wp2
      refine wp_region_heads [true, false, false, false, false, false, false, false, false, false, false, false, false, false, false, false, false, false, false] 18 18 (C := fun w' => ∃ u : Later w3, w' = u.val) (by kernel_rfl) (by kernel_rfl) ⟨⟨_, bd1⟩, rfl⟩ ?_
      have d_b_g_0 := D_d_b_g_0.out
      have d_b_g_1 := D_d_b_g_1.out
      simp only [pickT]
      repeat (go_big_quiet_step (fail))
      refine wpQuiet_nil ?_
      clear d_b_g_0 d_b_g_1
      generalize hD1 : w3.drew = D1 at *
      clear hD1
      have ho_g := own_below ho_g bd1
      have q_b_g := blk_below q_b_g bd1
      have HB4 := below_tr' HB3 bd1
      refine any_one (i := 1) (by kernel_rfl) rfl ?_
      intro K hK
      have C5 := implCG_any N_g a_g c_g n_g g D1 (by omega) HN_g.out (own_rd ho_g) (by omega)
      go_wp2_with fail
      refine C5.mono ?_
      rintro e w5 ⟨aK, cK, dK, rfl, ho_k, hb5⟩
      clear C5
      have hr1_5 := below_tr' bd1 hb5
      have ap1 := apart_of ho_g ho_k
      have HB5 := below_tr' HB4 hb5
      have ho_g := own_below ho_g hb5
      have q_b_g := blk_below q_b_g hb5
      go_wp2
      refine hK _ _ (fun _ => ⟨⟨_, hr1_5⟩, rfl⟩) ?_
      clear hK
      refine any_one (i := 2) (by kernel_rfl) rfl ?_
      intro K hK
      have C6 := implValidGraph_any (cgN N_g g) aK dK (cgL N_g g).length (cgL N_g g) w5 (by omega) rfl (own_rd ho_k) (by omega)
      rw [HV2.out] at C6
      go_wp2_with fail
      refine C6.mono ?_
      rintro e w6 ⟨rfl, hb6⟩
      clear C6
      have hr1_6 := below_tr' hr1_5 hb6
      have HB6 := below_tr' HB5 hb6
      have ho_g := own_below ho_g hb6
      have ho_k := own_below ho_k hb6
      have q_b_g := blk_below q_b_g hb6
      go_wp2
      refine hK _ _ (fun _ => ⟨⟨_, hr1_6⟩, rfl⟩) ?_
      clear hK
      refine any_one (i := 3) (by kernel_rfl) rfl ?_
      intro K hK
      go_wp2
      refine hK _ _ (fun _ => ⟨⟨_, hr1_6⟩, rfl⟩) ?_
      clear hK
      refine any_heads (id := 11) (n := 4) [false, false, false, false, true, true, true, true, true, true, true, true, true, true, true, false, false, false, false] #[true, true, true, true, true, true, true, true, true, true, true, true, true, true, true, false, false, false, false] (by kernel_rfl) ⟨⟨_, hr1_6⟩, rfl⟩ ?_
      have d_b_g_0 := D_d_b_g_0.out
      have d_b_g_1 := D_d_b_g_1.out
      simp only [pickT]
      repeat (go_big_quiet_step (fail))
      refine wpQuiet_nil ?_
      clear d_b_g_0 d_b_g_1
      refine any_one (i := 15) (by kernel_rfl) rfl ?_
      intro K hK
      have C7 := implValidGraph_any N_g a_g c_g (n_g - 1) (g.take (n_g - 1)) w6 (by omega) (by rw [List.length_take, HN_g.out]; omega) (Rd.take (own_rd ho_g) _) (by omega)
      rw [HV3.out] at C7
      go_wp2_with fail
      refine C7.mono ?_
      rintro e w7 ⟨rfl, hb7⟩
      clear C7
      have hr1_7 := below_tr' hr1_6 hb7
      have HB7 := below_tr' HB6 hb7
      have ho_g := own_below ho_g hb7
      have ho_k := own_below ho_k hb7
      have q_b_g := blk_below q_b_g hb7
      go_wp2
      refine hK _ _ (fun _ => ⟨⟨_, hr1_7⟩, rfl⟩) ?_
      clear hK
      refine any_one (i := 16) (by kernel_rfl) rfl ?_
      intro K hK
      go_wp2
      refine hK _ _ (fun _ => ⟨⟨_, hr1_7⟩, rfl⟩) ?_
      clear hK
      refine any_one (i := 17) (by kernel_rfl) rfl ?_
      intro K hK
      go_wp2
      refine hK _ _ (fun _ => ⟨⟨_, hr1_7⟩, rfl⟩) ?_
      clear hK
      refine any_one (i := 18) (by kernel_rfl) rfl ?_
      intro K hK
      go_wp2
      refine hK _ _ (fun h => absurd rfl h) ?_
      clear hK
      refine any_end (by kernel_rfl) ?_
      clear D_d_b_g_0 D_d_b_g_1
      go_wp2
      go_ret
      exact ⟨rfl, HB7⟩

end Go.Proofs.Ytbiekdhikanhcaa
