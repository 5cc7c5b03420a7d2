
/- The walk of the law FnHasEdge. (Printed by laws_f.py.) -/
import Derived.Test.YtbiekdhikanhcaaDraw2
import Derived.Test.YtbiekdhikanhcaaPlainG
namespace Go.Proofs.Ytbiekdhikanhcaa
open Go.RowKit

set_option maxHeartbeats 4000000 in
set_option linter.unusedVariables false in
theorem walk_FnHasEdge (a_c : Option Addr) (c_c n_c : Nat) (bs : List Int) (w : World) (hc : CodeOK w a_c c_c n_c bs) :
    Calls Try.prog 7 #[.slice a_c n_c c_c] w fun e w' => e = .returned (.bool true) ∧ Below w.heap.size w w' := by
  by_cases hs : 1048576 < n_c
  · go_enter Try.func7, Try.ntmps7
    go_wp2
    go_ret
    exact ⟨rfl, Below.refl _ _⟩
  have hs' : n_c ≤ 1048576 := by omega
  have HB0 := Below.refl w.heap.size w
  go_enter Try.func7, Try.ntmps7
  have C1 := DrawHasEdge_any a_c c_c n_c bs w hc hs'
  go_wp2_with fail
  refine C1.mono ?_
  rintro e w1 ⟨N_g, g, a_g, c_g, x, y, rfl, hN_g, hb_g, ho_g, hb1⟩
  clear C1
  obtain ⟨n_g, hn_g'⟩ : ∃ n, n = g.length := ⟨_, rfl⟩
  rw [← hn_g'] at ho_g hb_g
  have CN_g : graphV N_g a_g g.length c_g = graphV N_g a_g n_g c_g := by rw [hn_g']
  rw [CN_g]
  have hn_g := hn_g'.symm
  clear CN_g hn_g'
  have hc_g := own_capE ho_g
  have HN_g := Lib.hid hn_g
  clear hn_g
  have HB1 := below_tr' HB0 hb1
  have HA1 := below_alloc w1 (.cells #[.int .i64 N_g, .slice a_g n_g c_g] 25)
  have q_b_g := heap_alloc_new w1 (.cells #[.int .i64 N_g, .slice a_g n_g c_g] 25)
  have ho_g := own_below ho_g HA1
  have HBc1 := below_tr' HB1 HA1
  generalize hV1 : w1.alloc (.cells #[.int .i64 N_g, .slice a_g n_g c_g] 25) = v1 at *
  have HV1 := Lib.hid hV1
  clear hV1 HA1
  cases hv : validG N_g g
  · have g_b_g_0 := blk_cell q_b_g 0 (.int .i64 N_g) rfl
    have g_b_g_1 := blk_cell q_b_g 1 (.slice a_g n_g c_g) rfl
    have C2 := implHE_any N_g a_g c_g n_g g x y v1 (by omega) HN_g.out (own_rd ho_g) (by omega)
    rw [hv, Bool.false_and] at C2
    go_wp2_with (simp only [HV1.out])
    refine C2.mono ?_
    rintro e w2 ⟨rfl, hb2⟩
    clear C2
    have HB2 := below_tr' HBc1 hb2
    have ho_g := own_below ho_g hb2
    have q_b_g := blk_below q_b_g hb2
    clear g_b_g_0 g_b_g_1
    have g_b_g_0 := blk_cell q_b_g 0 (.int .i64 N_g) rfl
    have g_b_g_1 := blk_cell q_b_g 1 (.slice a_g n_g c_g) rfl
    have C3 := specHE_any N_g a_g c_g n_g g x y w2 HN_g.out (own_rd ho_g) (by omega)
    rw [hv, Bool.false_and] at C3
    go_wp2_with fail
    refine C3.mono ?_
    rintro e w3 ⟨rfl, hb3⟩
    clear C3
    have HB3 := below_tr' HB2 hb3
    have ho_g := own_below ho_g hb3
    have q_b_g := blk_below q_b_g hb3
    clear g_b_g_0 g_b_g_1
    have g_b_g_0 := blk_cell q_b_g 0 (.int .i64 N_g) rfl
    have g_b_g_1 := blk_cell q_b_g 1 (.slice a_g n_g c_g) rfl
    have C4 := implValidGraph_any N_g a_g c_g n_g g w3 (by omega) HN_g.out (own_rd ho_g) (by omega)
    rw [hv] at C4
    go_wp2_with fail
    refine C4.mono ?_
    rintro e w4 ⟨rfl, hb4⟩
    clear C4
    have HB4 := below_tr' HB3 hb4
    have ho_g := own_below ho_g hb4
    have q_b_g := blk_below q_b_g hb4
    clear g_b_g_0 g_b_g_1
    have g_b_g_0 := blk_cell q_b_g 0 (.int .i64 N_g) rfl
    have g_b_g_1 := blk_cell q_b_g 1 (.slice a_g n_g c_g) rfl
    have C5 := specHE_any N_g a_g c_g n_g g x y w4 HN_g.out (own_rd ho_g) (by omega)
    rw [hv, Bool.false_and] at C5
    go_wp2_with fail
    refine C5.mono ?_
    rintro e w5 ⟨rfl, hb5⟩
    clear C5
    have HB5 := below_tr' HB4 hb5
    have ho_g := own_below ho_g hb5
    have q_b_g := blk_below q_b_g hb5
    clear g_b_g_0 g_b_g_1
    go_wp2
    go_ret
    exact ⟨rfl, HB5⟩
  · cases hm : hasM g x y
    · by_cases hx0 : 0 ≤ x
      · by_cases hy0 : 0 ≤ y
        · by_cases hx1 : x < N_g
          · by_cases hy1 : y < N_g
            · by_cases hxy : x ≠ y
              · have g_b_g_0 := blk_cell q_b_g 0 (.int .i64 N_g) rfl
                have g_b_g_1 := blk_cell q_b_g 1 (.slice a_g n_g c_g) rfl
                have C2 := implHE_any N_g a_g c_g n_g g x y v1 (by omega) HN_g.out (own_rd ho_g) (by omega)
                rw [hv, Bool.true_and, hm] at C2
                go_wp2_with (simp only [HV1.out])
                refine C2.mono ?_
                rintro e w2 ⟨rfl, hb2⟩
                clear C2
                have HB2 := below_tr' HBc1 hb2
                have ho_g := own_below ho_g hb2
                have q_b_g := blk_below q_b_g hb2
                clear g_b_g_0 g_b_g_1
                have g_b_g_0 := blk_cell q_b_g 0 (.int .i64 N_g) rfl
                have g_b_g_1 := blk_cell q_b_g 1 (.slice a_g n_g c_g) rfl
                have C3 := specHE_any N_g a_g c_g n_g g x y w2 HN_g.out (own_rd ho_g) (by omega)
                rw [hv, Bool.true_and, hm] at C3
                go_wp2_with fail
                refine C3.mono ?_
                rintro e w3 ⟨rfl, hb3⟩
                clear C3
                have HB3 := below_tr' HB2 hb3
                have ho_g := own_below ho_g hb3
                have q_b_g := blk_below q_b_g hb3
                clear g_b_g_0 g_b_g_1
                have g_b_g_0 := blk_cell q_b_g 0 (.int .i64 N_g) rfl
                have g_b_g_1 := blk_cell q_b_g 1 (.slice a_g n_g c_g) rfl
                have C4 := implValidGraph_any N_g a_g c_g n_g g w3 (by omega) HN_g.out (own_rd ho_g) (by omega)
                rw [hv] at C4
                go_wp2_with fail
                refine C4.mono ?_
                rintro e w4 ⟨rfl, hb4⟩
                clear C4
                have HB4 := below_tr' HB3 hb4
                have ho_g := own_below ho_g hb4
                have q_b_g := blk_below q_b_g hb4
                clear g_b_g_0 g_b_g_1
                have g_b_g_0 := blk_cell q_b_g 0 (.int .i64 N_g) rfl
                have g_b_g_1 := blk_cell q_b_g 1 (.slice a_g n_g c_g) rfl
                have C5 := implHE_any N_g a_g c_g n_g g y x w4 (by omega) HN_g.out (own_rd ho_g) (by omega)
                rw [hv, Bool.true_and, has_symm, hm] at C5
                go_wp2_with fail
                refine C5.mono ?_
                rintro e w5 ⟨rfl, hb5⟩
                clear C5
                have HB5 := below_tr' HB4 hb5
                have ho_g := own_below ho_g hb5
                have q_b_g := blk_below q_b_g hb5
                clear g_b_g_0 g_b_g_1
                have hL_k := cgL_len N_g g
                have hcgN : -1 ≤ cgN N_g g ∧ cgN N_g g ≤ 8 := by unfold cgN; split <;> omega
                have HV2 := Lib.hid (cg_valid hv)
                have HV3 := Lib.hid (cg_has hv hx0 hy0 hx1 hy1 hxy)
                rw [hm] at HV3
                have g_b_g_0 := blk_cell q_b_g 0 (.int .i64 N_g) rfl
                have g_b_g_1 := blk_cell q_b_g 1 (.slice a_g n_g c_g) rfl
                have C6 := implCG_any N_g a_g c_g n_g g w5 (by omega) HN_g.out (own_rd ho_g) (by omega)
                go_wp2_with fail
                refine C6.mono ?_
                rintro e w6 ⟨aK, cK, dK, rfl, ho_k, hb6⟩
                clear C6
                have ap1 := apart_of ho_g ho_k
                have HB6 := below_tr' HB5 hb6
                have ho_g := own_below ho_g hb6
                have q_b_g := blk_below q_b_g hb6
                clear g_b_g_0 g_b_g_1
                have C7 := implHE_any (cgN N_g g) aK dK (cgL N_g g).length (cgL N_g g) x y w6 (by omega) rfl (own_rd ho_k) (by omega)
                rw [HV2.out, Bool.true_and, HV3.out] at C7
                go_wp2_with fail
                refine C7.mono ?_
                rintro e w7 ⟨rfl, hb7⟩
                clear C7
                have HB7 := below_tr' HB6 hb7
                have ho_g := own_below ho_g hb7
                have ho_k := own_below ho_k hb7
                have q_b_g := blk_below q_b_g hb7
                go_wp2
                go_ret
                first | exact ⟨rfl, HB7⟩ | exact ⟨ret_bool (by simp [hxy]), HB7⟩
              · obtain rfl : x = y := Classical.byContradiction hxy
                have g_b_g_0 := blk_cell q_b_g 0 (.int .i64 N_g) rfl
                have g_b_g_1 := blk_cell q_b_g 1 (.slice a_g n_g c_g) rfl
                have C2 := implHE_any N_g a_g c_g n_g g x x v1 (by omega) HN_g.out (own_rd ho_g) (by omega)
                rw [hv, Bool.true_and, hm] at C2
                go_wp2_with (simp only [HV1.out])
                refine C2.mono ?_
                rintro e w2 ⟨rfl, hb2⟩
                clear C2
                have HB2 := below_tr' HBc1 hb2
                have ho_g := own_below ho_g hb2
                have q_b_g := blk_below q_b_g hb2
                clear g_b_g_0 g_b_g_1
                have g_b_g_0 := blk_cell q_b_g 0 (.int .i64 N_g) rfl
                have g_b_g_1 := blk_cell q_b_g 1 (.slice a_g n_g c_g) rfl
                have C3 := specHE_any N_g a_g c_g n_g g x x w2 HN_g.out (own_rd ho_g) (by omega)
                rw [hv, Bool.true_and, hm] at C3
                go_wp2_with fail
                refine C3.mono ?_
                rintro e w3 ⟨rfl, hb3⟩
                clear C3
                have HB3 := below_tr' HB2 hb3
                have ho_g := own_below ho_g hb3
                have q_b_g := blk_below q_b_g hb3
                clear g_b_g_0 g_b_g_1
                have g_b_g_0 := blk_cell q_b_g 0 (.int .i64 N_g) rfl
                have g_b_g_1 := blk_cell q_b_g 1 (.slice a_g n_g c_g) rfl
                have C4 := implValidGraph_any N_g a_g c_g n_g g w3 (by omega) HN_g.out (own_rd ho_g) (by omega)
                rw [hv] at C4
                go_wp2_with fail
                refine C4.mono ?_
                rintro e w4 ⟨rfl, hb4⟩
                clear C4
                have HB4 := below_tr' HB3 hb4
                have ho_g := own_below ho_g hb4
                have q_b_g := blk_below q_b_g hb4
                clear g_b_g_0 g_b_g_1
                have g_b_g_0 := blk_cell q_b_g 0 (.int .i64 N_g) rfl
                have g_b_g_1 := blk_cell q_b_g 1 (.slice a_g n_g c_g) rfl
                have C5 := implHE_any N_g a_g c_g n_g g x x w4 (by omega) HN_g.out (own_rd ho_g) (by omega)
                rw [hv, Bool.true_and, has_symm, hm] at C5
                go_wp2_with fail
                refine C5.mono ?_
                rintro e w5 ⟨rfl, hb5⟩
                clear C5
                have HB5 := below_tr' HB4 hb5
                have ho_g := own_below ho_g hb5
                have q_b_g := blk_below q_b_g hb5
                clear g_b_g_0 g_b_g_1
                go_wp2
                go_ret
                exact ⟨rfl, HB5⟩
            · have g_b_g_0 := blk_cell q_b_g 0 (.int .i64 N_g) rfl
              have g_b_g_1 := blk_cell q_b_g 1 (.slice a_g n_g c_g) rfl
              have C2 := implHE_any N_g a_g c_g n_g g x y v1 (by omega) HN_g.out (own_rd ho_g) (by omega)
              rw [hv, Bool.true_and, hm] at C2
              go_wp2_with (simp only [HV1.out])
              refine C2.mono ?_
              rintro e w2 ⟨rfl, hb2⟩
              clear C2
              have HB2 := below_tr' HBc1 hb2
              have ho_g := own_below ho_g hb2
              have q_b_g := blk_below q_b_g hb2
              clear g_b_g_0 g_b_g_1
              have g_b_g_0 := blk_cell q_b_g 0 (.int .i64 N_g) rfl
              have g_b_g_1 := blk_cell q_b_g 1 (.slice a_g n_g c_g) rfl
              have C3 := specHE_any N_g a_g c_g n_g g x y w2 HN_g.out (own_rd ho_g) (by omega)
              rw [hv, Bool.true_and, hm] at C3
              go_wp2_with fail
              refine C3.mono ?_
              rintro e w3 ⟨rfl, hb3⟩
              clear C3
              have HB3 := below_tr' HB2 hb3
              have ho_g := own_below ho_g hb3
              have q_b_g := blk_below q_b_g hb3
              clear g_b_g_0 g_b_g_1
              have g_b_g_0 := blk_cell q_b_g 0 (.int .i64 N_g) rfl
              have g_b_g_1 := blk_cell q_b_g 1 (.slice a_g n_g c_g) rfl
              have C4 := implValidGraph_any N_g a_g c_g n_g g w3 (by omega) HN_g.out (own_rd ho_g) (by omega)
              rw [hv] at C4
              go_wp2_with fail
              refine C4.mono ?_
              rintro e w4 ⟨rfl, hb4⟩
              clear C4
              have HB4 := below_tr' HB3 hb4
              have ho_g := own_below ho_g hb4
              have q_b_g := blk_below q_b_g hb4
              clear g_b_g_0 g_b_g_1
              have g_b_g_0 := blk_cell q_b_g 0 (.int .i64 N_g) rfl
              have g_b_g_1 := blk_cell q_b_g 1 (.slice a_g n_g c_g) rfl
              have C5 := implHE_any N_g a_g c_g n_g g y x w4 (by omega) HN_g.out (own_rd ho_g) (by omega)
              rw [hv, Bool.true_and, has_symm, hm] at C5
              go_wp2_with fail
              refine C5.mono ?_
              rintro e w5 ⟨rfl, hb5⟩
              clear C5
              have HB5 := below_tr' HB4 hb5
              have ho_g := own_below ho_g hb5
              have q_b_g := blk_below q_b_g hb5
              clear g_b_g_0 g_b_g_1
              go_wp2
              go_ret
              exact ⟨rfl, HB5⟩
          · have g_b_g_0 := blk_cell q_b_g 0 (.int .i64 N_g) rfl
            have g_b_g_1 := blk_cell q_b_g 1 (.slice a_g n_g c_g) rfl
            have C2 := implHE_any N_g a_g c_g n_g g x y v1 (by omega) HN_g.out (own_rd ho_g) (by omega)
            rw [hv, Bool.true_and, hm] at C2
            go_wp2_with (simp only [HV1.out])
            refine C2.mono ?_
            rintro e w2 ⟨rfl, hb2⟩
            clear C2
            have HB2 := below_tr' HBc1 hb2
            have ho_g := own_below ho_g hb2
            have q_b_g := blk_below q_b_g hb2
            clear g_b_g_0 g_b_g_1
            have g_b_g_0 := blk_cell q_b_g 0 (.int .i64 N_g) rfl
            have g_b_g_1 := blk_cell q_b_g 1 (.slice a_g n_g c_g) rfl
            have C3 := specHE_any N_g a_g c_g n_g g x y w2 HN_g.out (own_rd ho_g) (by omega)
            rw [hv, Bool.true_and, hm] at C3
            go_wp2_with fail
            refine C3.mono ?_
            rintro e w3 ⟨rfl, hb3⟩
            clear C3
            have HB3 := below_tr' HB2 hb3
            have ho_g := own_below ho_g hb3
            have q_b_g := blk_below q_b_g hb3
            clear g_b_g_0 g_b_g_1
            have g_b_g_0 := blk_cell q_b_g 0 (.int .i64 N_g) rfl
            have g_b_g_1 := blk_cell q_b_g 1 (.slice a_g n_g c_g) rfl
            have C4 := implValidGraph_any N_g a_g c_g n_g g w3 (by omega) HN_g.out (own_rd ho_g) (by omega)
            rw [hv] at C4
            go_wp2_with fail
            refine C4.mono ?_
            rintro e w4 ⟨rfl, hb4⟩
            clear C4
            have HB4 := below_tr' HB3 hb4
            have ho_g := own_below ho_g hb4
            have q_b_g := blk_below q_b_g hb4
            clear g_b_g_0 g_b_g_1
            have g_b_g_0 := blk_cell q_b_g 0 (.int .i64 N_g) rfl
            have g_b_g_1 := blk_cell q_b_g 1 (.slice a_g n_g c_g) rfl
            have C5 := implHE_any N_g a_g c_g n_g g y x w4 (by omega) HN_g.out (own_rd ho_g) (by omega)
            rw [hv, Bool.true_and, has_symm, hm] at C5
            go_wp2_with fail
            refine C5.mono ?_
            rintro e w5 ⟨rfl, hb5⟩
            clear C5
            have HB5 := below_tr' HB4 hb5
            have ho_g := own_below ho_g hb5
            have q_b_g := blk_below q_b_g hb5
            clear g_b_g_0 g_b_g_1
            go_wp2
            go_ret
            exact ⟨rfl, HB5⟩
        · have g_b_g_0 := blk_cell q_b_g 0 (.int .i64 N_g) rfl
          have g_b_g_1 := blk_cell q_b_g 1 (.slice a_g n_g c_g) rfl
          have C2 := implHE_any N_g a_g c_g n_g g x y v1 (by omega) HN_g.out (own_rd ho_g) (by omega)
          rw [hv, Bool.true_and, hm] at C2
          go_wp2_with (simp only [HV1.out])
          refine C2.mono ?_
          rintro e w2 ⟨rfl, hb2⟩
          clear C2
          have HB2 := below_tr' HBc1 hb2
          have ho_g := own_below ho_g hb2
          have q_b_g := blk_below q_b_g hb2
          clear g_b_g_0 g_b_g_1
          have g_b_g_0 := blk_cell q_b_g 0 (.int .i64 N_g) rfl
          have g_b_g_1 := blk_cell q_b_g 1 (.slice a_g n_g c_g) rfl
          have C3 := specHE_any N_g a_g c_g n_g g x y w2 HN_g.out (own_rd ho_g) (by omega)
          rw [hv, Bool.true_and, hm] at C3
          go_wp2_with fail
          refine C3.mono ?_
          rintro e w3 ⟨rfl, hb3⟩
          clear C3
          have HB3 := below_tr' HB2 hb3
          have ho_g := own_below ho_g hb3
          have q_b_g := blk_below q_b_g hb3
          clear g_b_g_0 g_b_g_1
          have g_b_g_0 := blk_cell q_b_g 0 (.int .i64 N_g) rfl
          have g_b_g_1 := blk_cell q_b_g 1 (.slice a_g n_g c_g) rfl
          have C4 := implValidGraph_any N_g a_g c_g n_g g w3 (by omega) HN_g.out (own_rd ho_g) (by omega)
          rw [hv] at C4
          go_wp2_with fail
          refine C4.mono ?_
          rintro e w4 ⟨rfl, hb4⟩
          clear C4
          have HB4 := below_tr' HB3 hb4
          have ho_g := own_below ho_g hb4
          have q_b_g := blk_below q_b_g hb4
          clear g_b_g_0 g_b_g_1
          have g_b_g_0 := blk_cell q_b_g 0 (.int .i64 N_g) rfl
          have g_b_g_1 := blk_cell q_b_g 1 (.slice a_g n_g c_g) rfl
          have C5 := implHE_any N_g a_g c_g n_g g y x w4 (by omega) HN_g.out (own_rd ho_g) (by omega)
          rw [hv, Bool.true_and, has_symm, hm] at C5
          go_wp2_with fail
          refine C5.mono ?_
          rintro e w5 ⟨rfl, hb5⟩
          clear C5
          have HB5 := below_tr' HB4 hb5
          have ho_g := own_below ho_g hb5
          have q_b_g := blk_below q_b_g hb5
          clear g_b_g_0 g_b_g_1
          go_wp2
          go_ret
          exact ⟨rfl, HB5⟩
      · have g_b_g_0 := blk_cell q_b_g 0 (.int .i64 N_g) rfl
        have g_b_g_1 := blk_cell q_b_g 1 (.slice a_g n_g c_g) rfl
        have C2 := implHE_any N_g a_g c_g n_g g x y v1 (by omega) HN_g.out (own_rd ho_g) (by omega)
        rw [hv, Bool.true_and, hm] at C2
        go_wp2_with (simp only [HV1.out])
        refine C2.mono ?_
        rintro e w2 ⟨rfl, hb2⟩
        clear C2
        have HB2 := below_tr' HBc1 hb2
        have ho_g := own_below ho_g hb2
        have q_b_g := blk_below q_b_g hb2
        clear g_b_g_0 g_b_g_1
        have g_b_g_0 := blk_cell q_b_g 0 (.int .i64 N_g) rfl
        have g_b_g_1 := blk_cell q_b_g 1 (.slice a_g n_g c_g) rfl
        have C3 := specHE_any N_g a_g c_g n_g g x y w2 HN_g.out (own_rd ho_g) (by omega)
        rw [hv, Bool.true_and, hm] at C3
        go_wp2_with fail
        refine C3.mono ?_
        rintro e w3 ⟨rfl, hb3⟩
        clear C3
        have HB3 := below_tr' HB2 hb3
        have ho_g := own_below ho_g hb3
        have q_b_g := blk_below q_b_g hb3
        clear g_b_g_0 g_b_g_1
        have g_b_g_0 := blk_cell q_b_g 0 (.int .i64 N_g) rfl
        have g_b_g_1 := blk_cell q_b_g 1 (.slice a_g n_g c_g) rfl
        have C4 := implValidGraph_any N_g a_g c_g n_g g w3 (by omega) HN_g.out (own_rd ho_g) (by omega)
        rw [hv] at C4
        go_wp2_with fail
        refine C4.mono ?_
        rintro e w4 ⟨rfl, hb4⟩
        clear C4
        have HB4 := below_tr' HB3 hb4
        have ho_g := own_below ho_g hb4
        have q_b_g := blk_below q_b_g hb4
        clear g_b_g_0 g_b_g_1
        have g_b_g_0 := blk_cell q_b_g 0 (.int .i64 N_g) rfl
        have g_b_g_1 := blk_cell q_b_g 1 (.slice a_g n_g c_g) rfl
        have C5 := implHE_any N_g a_g c_g n_g g y x w4 (by omega) HN_g.out (own_rd ho_g) (by omega)
        rw [hv, Bool.true_and, has_symm, hm] at C5
        go_wp2_with fail
        refine C5.mono ?_
        rintro e w5 ⟨rfl, hb5⟩
        clear C5
        have HB5 := below_tr' HB4 hb5
        have ho_g := own_below ho_g hb5
        have q_b_g := blk_below q_b_g hb5
        clear g_b_g_0 g_b_g_1
        go_wp2
        go_ret
        exact ⟨rfl, HB5⟩
    · obtain ⟨hx0, hy0, hx1, hy1, hxy⟩ := has_inside hv hm
      have g_b_g_0 := blk_cell q_b_g 0 (.int .i64 N_g) rfl
      have g_b_g_1 := blk_cell q_b_g 1 (.slice a_g n_g c_g) rfl
      have C2 := implHE_any N_g a_g c_g n_g g x y v1 (by omega) HN_g.out (own_rd ho_g) (by omega)
      rw [hv, Bool.true_and, hm] at C2
      go_wp2_with (simp only [HV1.out])
      refine C2.mono ?_
      rintro e w2 ⟨rfl, hb2⟩
      clear C2
      have HB2 := below_tr' HBc1 hb2
      have ho_g := own_below ho_g hb2
      have q_b_g := blk_below q_b_g hb2
      clear g_b_g_0 g_b_g_1
      have g_b_g_0 := blk_cell q_b_g 0 (.int .i64 N_g) rfl
      have g_b_g_1 := blk_cell q_b_g 1 (.slice a_g n_g c_g) rfl
      have C3 := specHE_any N_g a_g c_g n_g g x y w2 HN_g.out (own_rd ho_g) (by omega)
      rw [hv, Bool.true_and, hm] at C3
      go_wp2_with fail
      refine C3.mono ?_
      rintro e w3 ⟨rfl, hb3⟩
      clear C3
      have HB3 := below_tr' HB2 hb3
      have ho_g := own_below ho_g hb3
      have q_b_g := blk_below q_b_g hb3
      clear g_b_g_0 g_b_g_1
      have g_b_g_0 := blk_cell q_b_g 0 (.int .i64 N_g) rfl
      have g_b_g_1 := blk_cell q_b_g 1 (.slice a_g n_g c_g) rfl
      have C4 := implValidGraph_any N_g a_g c_g n_g g w3 (by omega) HN_g.out (own_rd ho_g) (by omega)
      rw [hv] at C4
      go_wp2_with fail
      refine C4.mono ?_
      rintro e w4 ⟨rfl, hb4⟩
      clear C4
      have HB4 := below_tr' HB3 hb4
      have ho_g := own_below ho_g hb4
      have q_b_g := blk_below q_b_g hb4
      clear g_b_g_0 g_b_g_1
      have g_b_g_0 := blk_cell q_b_g 0 (.int .i64 N_g) rfl
      have g_b_g_1 := blk_cell q_b_g 1 (.slice a_g n_g c_g) rfl
      have C5 := implHE_any N_g a_g c_g n_g g y x w4 (by omega) HN_g.out (own_rd ho_g) (by omega)
      rw [hv, Bool.true_and, has_symm, hm] at C5
      go_wp2_with fail
      refine C5.mono ?_
      rintro e w5 ⟨rfl, hb5⟩
      clear C5
      have HB5 := below_tr' HB4 hb5
      have ho_g := own_below ho_g hb5
      have q_b_g := blk_below q_b_g hb5
      clear g_b_g_0 g_b_g_1
      have hL_k := cgL_len N_g g
      have hcgN : -1 ≤ cgN N_g g ∧ cgN N_g g ≤ 8 := by unfold cgN; split <;> omega
      have HV2 := Lib.hid (cg_valid hv)
      have HV3 := Lib.hid (cg_has hv hx0 hy0 hx1 hy1 hxy)
      rw [hm] at HV3
      have g_b_g_0 := blk_cell q_b_g 0 (.int .i64 N_g) rfl
      have g_b_g_1 := blk_cell q_b_g 1 (.slice a_g n_g c_g) rfl
      have C6 := implCG_any N_g a_g c_g n_g g w5 (by omega) HN_g.out (own_rd ho_g) (by omega)
      go_wp2_with fail
      refine C6.mono ?_
      rintro e w6 ⟨aK, cK, dK, rfl, ho_k, hb6⟩
      clear C6
      have ap1 := apart_of ho_g ho_k
      have HB6 := below_tr' HB5 hb6
      have ho_g := own_below ho_g hb6
      have q_b_g := blk_below q_b_g hb6
      clear g_b_g_0 g_b_g_1
      have C7 := implHE_any (cgN N_g g) aK dK (cgL N_g g).length (cgL N_g g) x y w6 (by omega) rfl (own_rd ho_k) (by omega)
      rw [HV2.out, Bool.true_and, HV3.out] at C7
      go_wp2_with fail
      refine C7.mono ?_
      rintro e w7 ⟨rfl, hb7⟩
      clear C7
      have HB7 := below_tr' HB6 hb7
      have ho_g := own_below ho_g hb7
      have ho_k := own_below ho_k hb7
      have q_b_g := blk_below q_b_g hb7
      go_wp2
      go_ret
      first | exact ⟨rfl, HB7⟩ | exact ⟨ret_bool (by simp [hxy]), HB7⟩

end Go.Proofs.Ytbiekdhikanhcaa
