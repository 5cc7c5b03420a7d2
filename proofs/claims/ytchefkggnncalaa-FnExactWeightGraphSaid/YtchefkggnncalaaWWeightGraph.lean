/- The walk of the law FnExactWeightGraph. -/
import Derived.Test.YtchefkggnncalaaWeightG
namespace Go.Proofs.Ytchefkggnncalaa
open Go.RowKit

set_option maxHeartbeats 4000000 in
set_option linter.unusedVariables false in
theorem walk_FnExactWeightGraph (a_xs : Option Addr) (c_xs n_xs : Nat) (xs : List Int) (lim : Int) (w : World) (hn_xs : xs.length = n_xs) (hx_xs : Rd w a_xs (ints xs)) (hl_xs : n_xs ≤ 9223372036854775807) (hl_lim : -9223372036854775808 ≤ lim ∧ lim ≤ 9223372036854775807) :
    Calls Try.prog 9 #[.slice a_xs n_xs c_xs, .int .i64 lim] w fun e w' => e = .returned (.bool true) ∧ Below w.heap.size w w' := by
  have hW7 := wgrL_len xs lim
  have HB0 := Below.refl w.heap.size w
  by_cases hs_xs : 1048576 < n_xs
  · go_enter Try.func9, Try.ntmps9
    go_wp2
    go_ret
    exact ⟨rfl, HB0⟩
  have hs_xs' : n_xs ≤ 1048576 := by omega
  go_enter Try.func9, Try.ntmps9
  have C1 := toIntS_any a_xs c_xs n_xs xs w hn_xs (hx_xs.below HB0) hs_xs'
  go_wp2_with fail
  refine C1.mono ?_
  rintro e w1 ⟨rfl, ho_t_xs, hb1⟩
  clear C1
  have HB1 := below_tr' HB0 hb1
  have C2 := specWeightGraph_any _ n_xs n_xs xs lim w1 hn_xs (own_rd ho_t_xs) (by omega)
  go_wp2_with fail
  refine C2.mono ?_
  rintro e w2 ⟨a2, c2, d2, rfl, ho_w, hb2⟩
  clear C2
  have ap1 := apart_of ho_t_xs ho_w
  have HB2 := below_tr' HB1 hb2
  have ho_t_xs := own_below ho_t_xs hb2
  have HA1 := below_alloc w2 (.cells #[.int .i64 (wgrN xs), .slice a2 (wgrL xs lim).length d2] 29)
  have q_c_w := heap_alloc_new w2 (.cells #[.int .i64 (wgrN xs), .slice a2 (wgrL xs lim).length d2] 29)
  have ho_t_xs := own_below ho_t_xs HA1
  have ho_w := own_below ho_w HA1
  have HBc1 := below_tr' HB2 HA1
  generalize hV1 : w2.alloc (.cells #[.int .i64 (wgrN xs), .slice a2 (wgrL xs lim).length d2] 29) = v1 at *
  have HV1 := Lib.hid hV1
  clear hV1 HA1
  clear ho_t_xs
  have C3 := toIntS_any a_xs c_xs n_xs xs v1 hn_xs (hx_xs.below HBc1) hs_xs'
  go_wp2_with (simp only [HV1.out])
  refine C3.mono ?_
  rintro e w3 ⟨rfl, ho_x_xs, hb3⟩
  clear C3
  have ap2 := apart_of ho_w ho_x_xs
  have HB3 := below_tr' HBc1 hb3
  have ho_w := own_below ho_w hb3
  have q_c_w := blk_below q_c_w hb3
  have C4 := implWeightGraph_any _ n_xs n_xs xs lim w3 hn_xs (own_rd ho_x_xs) (by omega)
  go_wp2_with fail
  refine C4.mono ?_
  rintro e w4 ⟨a4, c4, d4, rfl, ho_g, hb4⟩
  clear C4
  have ap3 := apart_of ho_w ho_g
  have ap4 := apart_of ho_x_xs ho_g
  have HB4 := below_tr' HB3 hb4
  have ho_w := own_below ho_w hb4
  have ho_x_xs := own_below ho_x_xs hb4
  have q_c_w := blk_below q_c_w hb4
  have HA2 := below_alloc w4 (.cells #[.int .i64 (wgrN xs), .slice a4 (wgrL xs lim).length d4] 29)
  have q_c_g := heap_alloc_new w4 (.cells #[.int .i64 (wgrN xs), .slice a4 (wgrL xs lim).length d4] 29)
  have ho_w := own_below ho_w HA2
  have ho_x_xs := own_below ho_x_xs HA2
  have ho_g := own_below ho_g HA2
  have q_c_w := blk_below q_c_w HA2
  have HBc2 := below_tr' HB4 HA2
  generalize hV2 : w4.alloc (.cells #[.int .i64 (wgrN xs), .slice a4 (wgrL xs lim).length d4] 29) = v2 at *
  have HV2 := Lib.hid hV2
  clear hV2 HA2
  have g_c_g_0 := blk_cell q_c_g 0 (.int .i64 (wgrN xs)) rfl
  have g_c_g_1 := blk_cell q_c_g 1 (.slice a4 (wgrL xs lim).length d4) rfl
  have g_c_w_0 := blk_cell q_c_w 0 (.int .i64 (wgrN xs)) rfl
  have g_c_w_1 := blk_cell q_c_w 1 (.slice a2 (wgrL xs lim).length d2) rfl
  have C5 := eqGraph_any (wgrN xs) a4 a2 d4 d2 ((wgrL xs lim).length) (wgrL xs lim) v2 rfl (own_rd ho_g) (own_rd ho_w) (by omega)
  go_wp2_with (simp only [HV2.out])
  refine C5.mono ?_
  rintro e w5 ⟨rfl, hb5⟩
  clear C5
  have HB5 := below_tr' HBc2 hb5
  have ho_w := own_below ho_w hb5
  have ho_x_xs := own_below ho_x_xs hb5
  have ho_g := own_below ho_g hb5
  have q_c_w := blk_below q_c_w hb5
  have q_c_g := blk_below q_c_g hb5
  clear g_c_g_0 g_c_g_1 g_c_w_0 g_c_w_1
  have C6 := toIntS_any a_xs c_xs n_xs xs w5 hn_xs (hx_xs.below HB5) hs_xs'
  go_wp2_with fail
  refine C6.mono ?_
  rintro e w6 ⟨rfl, ho_t6, hb6⟩
  clear C6
  have ap5 := apart_of ho_w ho_t6
  have ap6 := apart_of ho_x_xs ho_t6
  have ap7 := apart_of ho_g ho_t6
  have HB6 := below_tr' HB5 hb6
  have ho_w := own_below ho_w hb6
  have ho_x_xs := own_below ho_x_xs hb6
  have ho_g := own_below ho_g hb6
  have q_c_w := blk_below q_c_w hb6
  have q_c_g := blk_below q_c_g hb6
  have C7 := eqIntS_b _ _ n_xs n_xs n_xs n_xs xs xs w6 hn_xs hn_xs (own_rd ho_x_xs) (own_rd ho_t6) (by omega) (by omega) true (decide_eq_true rfl)
  go_wp2_with fail
  refine C7.mono ?_
  rintro e w7 ⟨rfl, hb7⟩
  clear C7
  have HB7 := below_tr' HB6 hb7
  have ho_w := own_below ho_w hb7
  have ho_x_xs := own_below ho_x_xs hb7
  have ho_g := own_below ho_g hb7
  have ho_t6 := own_below ho_t6 hb7
  have q_c_w := blk_below q_c_w hb7
  have q_c_g := blk_below q_c_g hb7
  clear ho_t6
  have C8 := markIntS_any _ _ _ n_xs n_xs _ 1 w7 ho_x_xs (by omega) (by omega) (by omega)
  go_wp2_with fail
  refine C8.mono ?_
  rintro e w8 ⟨rfl, hm8, hg8⟩
  clear C8
  have HB8 := below_mark HB7 ho_x_xs (Nat.le_refl _) HBc1.size hg8
  have q_c_w := blk_grown q_c_w hg8 (own_ne ho_x_xs q_c_w (by decide))
  have q_c_g := blk_grown q_c_g hg8 (own_ne ho_x_xs q_c_g (by decide))
  have ho_w := own_kept ho_w hg8 ap2
  have ho_g := own_kept ho_g hg8 ap4.symm
  have ho_x_xs := hm8
  clear hm8
  have g_c_g_0 := blk_cell q_c_g 0 (.int .i64 (wgrN xs)) rfl
  have g_c_g_1 := blk_cell q_c_g 1 (.slice a4 (wgrL xs lim).length d4) rfl
  have g_c_w_0 := blk_cell q_c_w 0 (.int .i64 (wgrN xs)) rfl
  have g_c_w_1 := blk_cell q_c_w 1 (.slice a2 (wgrL xs lim).length d2) rfl
  have C9 := eqGraph_any (wgrN xs) a4 a2 d4 d2 ((wgrL xs lim).length) (wgrL xs lim) w8 rfl (own_rd ho_g) (own_rd ho_w) (by omega)
  go_wp2_with fail
  refine C9.mono ?_
  rintro e w9 ⟨rfl, hb9⟩
  clear C9
  have HB9 := below_tr' HB8 hb9
  have ho_w := own_below ho_w hb9
  have ho_x_xs := own_below ho_x_xs hb9
  have ho_g := own_below ho_g hb9
  have q_c_w := blk_below q_c_w hb9
  have q_c_g := blk_below q_c_g hb9
  clear g_c_g_0 g_c_g_1 g_c_w_0 g_c_w_1
  clear ho_x_xs
  have g_c_g_0 := blk_cell q_c_g 0 (.int .i64 (wgrN xs)) rfl
  have g_c_g_1 := blk_cell q_c_g 1 (.slice a4 (wgrL xs lim).length d4) rfl
  have C10 := markGraph_any (wgrN xs) _ a4 _ d4 (wgrL xs lim).length _ 1 w9 ho_g (by omega) (by omega) (by omega)
  go_wp2_with fail
  refine C10.mono ?_
  rintro e w10 ⟨rfl, hm10, hg10⟩
  clear C10
  have HB10 := below_mark HB9 ho_g (Nat.le_refl _) HB3.size hg10
  have q_c_w := blk_grown q_c_w hg10 (own_ne ho_g q_c_w (by decide))
  have q_c_g := blk_grown q_c_g hg10 (own_ne ho_g q_c_g (by decide))
  have ho_w := own_kept ho_w hg10 ap3
  have ho_g := hm10
  clear hm10
  clear g_c_g_0 g_c_g_1
  have g_c_g_0 := blk_cell q_c_g 0 (.int .i64 (wgrN xs)) rfl
  have g_c_g_1 := blk_cell q_c_g 1 (.slice a4 (wgrL xs lim).length d4) rfl
  have C11 := heldGraph_any (wgrN xs) a4 d4 (wgrL xs lim).length 1 w10 (own_rd ho_g) (by omega) (by omega) (by omega)
  go_wp2_with fail
  refine C11.mono ?_
  rintro e w11 ⟨rfl, hb11⟩
  clear C11
  have HB11 := below_tr' HB10 hb11
  have ho_w := own_below ho_w hb11
  have ho_g := own_below ho_g hb11
  have q_c_w := blk_below q_c_w hb11
  have q_c_g := blk_below q_c_g hb11
  clear g_c_g_0 g_c_g_1
  have C12 := toIntS_any a_xs c_xs n_xs xs w11 hn_xs (hx_xs.below HB11) hs_xs'
  go_wp2_with fail
  refine C12.mono ?_
  rintro e w12 ⟨rfl, ho_y_xs, hb12⟩
  clear C12
  have ap8 := apart_of ho_w ho_y_xs
  have ap9 := apart_of ho_g ho_y_xs
  have HB12 := below_tr' HB11 hb12
  have ho_w := own_below ho_w hb12
  have ho_g := own_below ho_g hb12
  have q_c_w := blk_below q_c_w hb12
  have q_c_g := blk_below q_c_g hb12
  have C13 := implWeightGraph_any _ n_xs n_xs xs lim w12 hn_xs (own_rd ho_y_xs) (by omega)
  go_wp2_with fail
  refine C13.mono ?_
  rintro e w13 ⟨a13, c13, d13, rfl, ho_h, hb13⟩
  clear C13
  have ap10 := apart_of ho_w ho_h
  have ap11 := apart_of ho_g ho_h
  have ap12 := apart_of ho_y_xs ho_h
  have HB13 := below_tr' HB12 hb13
  have ho_w := own_below ho_w hb13
  have ho_g := own_below ho_g hb13
  have ho_y_xs := own_below ho_y_xs hb13
  have q_c_w := blk_below q_c_w hb13
  have q_c_g := blk_below q_c_g hb13
  have HA3 := below_alloc w13 (.cells #[.int .i64 (wgrN xs), .slice a13 (wgrL xs lim).length d13] 29)
  have q_c_h := heap_alloc_new w13 (.cells #[.int .i64 (wgrN xs), .slice a13 (wgrL xs lim).length d13] 29)
  have ho_w := own_below ho_w HA3
  have ho_g := own_below ho_g HA3
  have ho_y_xs := own_below ho_y_xs HA3
  have ho_h := own_below ho_h HA3
  have q_c_w := blk_below q_c_w HA3
  have q_c_g := blk_below q_c_g HA3
  have HBc3 := below_tr' HB13 HA3
  generalize hV3 : w13.alloc (.cells #[.int .i64 (wgrN xs), .slice a13 (wgrL xs lim).length d13] 29) = v3 at *
  have HV3 := Lib.hid hV3
  clear hV3 HA3
  clear ho_y_xs
  have g_c_h_0 := blk_cell q_c_h 0 (.int .i64 (wgrN xs)) rfl
  have g_c_h_1 := blk_cell q_c_h 1 (.slice a13 (wgrL xs lim).length d13) rfl
  have g_c_w_0 := blk_cell q_c_w 0 (.int .i64 (wgrN xs)) rfl
  have g_c_w_1 := blk_cell q_c_w 1 (.slice a2 (wgrL xs lim).length d2) rfl
  have C14 := eqGraph_any (wgrN xs) a13 a2 d13 d2 ((wgrL xs lim).length) (wgrL xs lim) v3 rfl (own_rd ho_h) (own_rd ho_w) (by omega)
  go_wp2_with (simp only [HV3.out])
  refine C14.mono ?_
  rintro e w14 ⟨rfl, hb14⟩
  clear C14
  have HB14 := below_tr' HBc3 hb14
  have ho_w := own_below ho_w hb14
  have ho_g := own_below ho_g hb14
  have ho_h := own_below ho_h hb14
  have q_c_w := blk_below q_c_w hb14
  have q_c_g := blk_below q_c_g hb14
  have q_c_h := blk_below q_c_h hb14
  clear g_c_h_0 g_c_h_1 g_c_w_0 g_c_w_1
  have g_c_g_0 := blk_cell q_c_g 0 (.int .i64 (wgrN xs)) rfl
  have g_c_g_1 := blk_cell q_c_g 1 (.slice a4 (wgrL xs lim).length d4) rfl
  have C15 := heldGraph_any (wgrN xs) a4 d4 (wgrL xs lim).length 1 w14 (own_rd ho_g) (by omega) (by omega) (by omega)
  go_wp2_with fail
  refine C15.mono ?_
  rintro e w15 ⟨rfl, hb15⟩
  clear C15
  have HB15 := below_tr' HB14 hb15
  have ho_w := own_below ho_w hb15
  have ho_g := own_below ho_g hb15
  have ho_h := own_below ho_h hb15
  have q_c_w := blk_below q_c_w hb15
  have q_c_g := blk_below q_c_g hb15
  have q_c_h := blk_below q_c_h hb15
  clear g_c_g_0 g_c_g_1
  go_wp2
  go_ret
  exact ⟨rfl, HB15⟩

end Go.Proofs.Ytchefkggnncalaa
