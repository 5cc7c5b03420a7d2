
/- The walk of the law FnExactFactorOf. -/
import Derived.Test.YtjmiafkkbganlaaFactI
namespace Go.Proofs.Ytjmiafkkbganlaa
open Go.RowKit

set_option maxHeartbeats 4000000 in
set_option linter.unusedVariables false in
theorem walk_FnExactFactorOf (N_g : Int) (a_g : Option Addr) (c_g n_g : Nat) (g : List E2) (a_f : Option Addr) (c_f n_f : Nat) (f : List Int) (w : World) (hN_g : -9223372036854775808 ≤ N_g ∧ N_g ≤ 9223372036854775807) (hn_g : g.length = n_g) (hx_g : Rd w a_g (edges g)) (hl_g : n_g ≤ 9223372036854775807) (hn_f : f.length = n_f) (hx_f : Rd w a_f (ints f)) (hl_f : n_f ≤ 9223372036854775807) :
    Calls Try.prog 3 #[graphV N_g a_g n_g c_g, .slice a_f n_f c_f] w fun e w' => e = .returned (.bool true) ∧ Below w.heap.size w w' := by
  have hW7 := fctL_len N_g g f
  by_cases hs_f : 1048576 < n_f
  · go_enter Try.func3, Try.ntmps3
    go_wp2
    go_ret
    exact ⟨rfl, below_alloc _ _⟩
  have hs_f' : n_f ≤ 1048576 := by omega
  have HB0 := Below.refl w.heap.size w
  have HA := below_alloc w (.cells #[.int .i64 N_g, .slice a_g n_g c_g] 24)
  have q_b_g := heap_alloc_new w (.cells #[.int .i64 N_g, .slice a_g n_g c_g] 24)
  have HB0 := below_tr' HB0 HA
  clear HA
  generalize hV0 : (w.alloc (.cells #[.int .i64 N_g, .slice a_g n_g c_g] 24)) = v0 at *
  have HV0 := Lib.hid hV0
  clear hV0
  go_enter Try.func3, Try.ntmps3
  have g_b_g_0 := blk_cell q_b_g 0 (.int .i64 N_g) rfl
  have g_b_g_1 := blk_cell q_b_g 1 (.slice a_g n_g c_g) rfl
  have C1 := szGraph_any N_g a_g c_g n_g (1048576) v0 (by omega) (by omega) (by omega)
  go_wp2_with (simp only [HV0.out])
  refine C1.mono ?_
  rintro e w1 ⟨rfl, hb1⟩
  clear C1
  have HB1 := below_tr' HB0 hb1
  have q_b_g := blk_below q_b_g hb1
  clear g_b_g_0 g_b_g_1
  by_cases hs_g : 1048576 < (n_g : Int)
  · rw [if_pos hs_g]
    go_wp2
    go_ret
    exact ⟨rfl, HB1⟩
  rw [if_neg hs_g]
  have g_b_g_0 := blk_cell q_b_g 0 (.int .i64 N_g) rfl
  have g_b_g_1 := blk_cell q_b_g 1 (.slice a_g n_g c_g) rfl
  have C2 := toGraph_any N_g a_g c_g n_g g w1 hn_g (hx_g.below HB1) (by omega)
  go_wp2_with fail
  refine C2.mono ?_
  rintro e w2 ⟨a2, rfl, ho_t, hb2⟩
  clear C2
  have HB2 := below_tr' HB1 hb2
  have q_b_g := blk_below q_b_g hb2
  clear g_b_g_0 g_b_g_1
  have C3 := toIntS_any a_f c_f n_f f w2 hn_f (hx_f.below HB2) hs_f'
  go_wp2_with fail
  refine C3.mono ?_
  rintro e w3 ⟨rfl, ho_u, hb3⟩
  clear C3
  have ap1 := apart_of ho_t ho_u
  have HB3 := below_tr' HB2 hb3
  have ho_t := own_below ho_t hb3
  have q_b_g := blk_below q_b_g hb3
  have C4 := specFactorOf_any N_g a2 _ n_g n_g n_f n_f g f w3 hn_g hn_f (own_rd ho_t) (own_rd ho_u) (by omega) (by omega) (own_nilc ho_u) ⟨Nat.le_refl _, by unfold maxLen; omega⟩
  go_wp2_with fail
  refine C4.mono ?_
  rintro e w4 ⟨a4, d4, c4, rfl, ho_w, hb4⟩
  clear C4
  have ap2 := apart_of ho_t ho_w
  have ap3 := apart_of ho_u ho_w
  have HB4 := below_tr' HB3 hb4
  have ho_t := own_below ho_t hb4
  have ho_u := own_below ho_u hb4
  have q_b_g := blk_below q_b_g hb4
  have HA1 := below_alloc w4 (.cells #[.int .i64 (fctN N_g g f), .slice a4 (fctL N_g g f).length d4] 29)
  have q_c_w := heap_alloc_new w4 (.cells #[.int .i64 (fctN N_g g f), .slice a4 (fctL N_g g f).length d4] 29)
  have ho_t := own_below ho_t HA1
  have ho_u := own_below ho_u HA1
  have ho_w := own_below ho_w HA1
  have q_b_g := blk_below q_b_g HA1
  have HBc1 := below_tr' HB4 HA1
  generalize hV1 : w4.alloc (.cells #[.int .i64 (fctN N_g g f), .slice a4 (fctL N_g g f).length d4] 29) = v1 at *
  have HV1 := Lib.hid hV1
  clear hV1 HA1
  clear ho_t ho_u
  have g_b_g_0 := blk_cell q_b_g 0 (.int .i64 N_g) rfl
  have g_b_g_1 := blk_cell q_b_g 1 (.slice a_g n_g c_g) rfl
  have C5 := toGraph_any N_g a_g c_g n_g g v1 hn_g (hx_g.below HBc1) (by omega)
  go_wp2_with (simp only [HV1.out])
  refine C5.mono ?_
  rintro e w5 ⟨a5, rfl, ho_x_g, hb5⟩
  clear C5
  have ap4 := apart_of ho_w ho_x_g
  have HB5 := below_tr' HBc1 hb5
  have ho_w := own_below ho_w hb5
  have q_b_g := blk_below q_b_g hb5
  have q_c_w := blk_below q_c_w hb5
  clear g_b_g_0 g_b_g_1
  have HA2 := below_alloc w5 (.cells #[.int .i64 N_g, .slice a5 n_g n_g] 29)
  have q_x_g := heap_alloc_new w5 (.cells #[.int .i64 N_g, .slice a5 n_g n_g] 29)
  have ho_w := own_below ho_w HA2
  have ho_x_g := own_below ho_x_g HA2
  have q_b_g := blk_below q_b_g HA2
  have q_c_w := blk_below q_c_w HA2
  have HBc2 := below_tr' HB5 HA2
  generalize hV2 : w5.alloc (.cells #[.int .i64 N_g, .slice a5 n_g n_g] 29) = v2 at *
  have HV2 := Lib.hid hV2
  clear hV2 HA2
  have C6 := toIntS_any a_f c_f n_f f v2 hn_f (hx_f.below HBc2) hs_f'
  go_wp2_with (simp only [HV2.out])
  refine C6.mono ?_
  rintro e w6 ⟨rfl, ho_x_f, hb6⟩
  clear C6
  have ap5 := apart_of ho_w ho_x_f
  have ap6 := apart_of ho_x_g ho_x_f
  have HB6 := below_tr' HBc2 hb6
  have ho_w := own_below ho_w hb6
  have ho_x_g := own_below ho_x_g hb6
  have q_b_g := blk_below q_b_g hb6
  have q_c_w := blk_below q_c_w hb6
  have q_x_g := blk_below q_x_g hb6
  have g_x_g_0 := blk_cell q_x_g 0 (.int .i64 N_g) rfl
  have g_x_g_1 := blk_cell q_x_g 1 (.slice a5 n_g n_g) rfl
  have C7 := implFactorOf_any N_g a5 _ n_g n_g n_f n_f g f w6 hn_g hn_f (own_rd ho_x_g) (own_rd ho_x_f) (fun i hi => (own_blks ho_x_g i hi).2) (by omega) (by omega) (by omega) (own_nilc ho_x_f)
  go_wp2_with fail
  refine C7.mono ?_
  rintro e w7 ⟨a7, d7, c7, rfl, ho_g, hb7⟩
  clear C7
  have ap7 := apart_of ho_w ho_g
  have ap8 := apart_of ho_x_g ho_g
  have ap9 := apart_of ho_x_f ho_g
  have HB7 := below_tr' HB6 hb7
  have ho_w := own_below ho_w hb7
  have ho_x_g := own_below ho_x_g hb7
  have ho_x_f := own_below ho_x_f hb7
  have q_b_g := blk_below q_b_g hb7
  have q_c_w := blk_below q_c_w hb7
  have q_x_g := blk_below q_x_g hb7
  clear g_x_g_0 g_x_g_1
  have HA3 := below_alloc w7 (.cells #[.int .i64 (fctN N_g g f), .slice a7 (fctL N_g g f).length d7] 29)
  have q_c_g := heap_alloc_new w7 (.cells #[.int .i64 (fctN N_g g f), .slice a7 (fctL N_g g f).length d7] 29)
  have ho_w := own_below ho_w HA3
  have ho_x_g := own_below ho_x_g HA3
  have ho_x_f := own_below ho_x_f HA3
  have ho_g := own_below ho_g HA3
  have q_b_g := blk_below q_b_g HA3
  have q_c_w := blk_below q_c_w HA3
  have q_x_g := blk_below q_x_g HA3
  have HBc3 := below_tr' HB7 HA3
  generalize hV3 : w7.alloc (.cells #[.int .i64 (fctN N_g g f), .slice a7 (fctL N_g g f).length d7] 29) = v3 at *
  have HV3 := Lib.hid hV3
  clear hV3 HA3
  have g_c_g_0 := blk_cell q_c_g 0 (.int .i64 (fctN N_g g f)) rfl
  have g_c_g_1 := blk_cell q_c_g 1 (.slice a7 (fctL N_g g f).length d7) rfl
  have g_c_w_0 := blk_cell q_c_w 0 (.int .i64 (fctN N_g g f)) rfl
  have g_c_w_1 := blk_cell q_c_w 1 (.slice a4 (fctL N_g g f).length d4) rfl
  have C8 := eqGraph_any (fctN N_g g f) a7 a4 d7 d4 ((fctL N_g g f).length) (fctL N_g g f) v3 rfl (own_rd ho_g) (own_rd ho_w) (by omega)
  go_wp2_with (simp only [HV3.out])
  refine C8.mono ?_
  rintro e w8 ⟨rfl, hb8⟩
  clear C8
  have HB8 := below_tr' HBc3 hb8
  have ho_w := own_below ho_w hb8
  have ho_x_g := own_below ho_x_g hb8
  have ho_x_f := own_below ho_x_f hb8
  have ho_g := own_below ho_g hb8
  have q_b_g := blk_below q_b_g hb8
  have q_c_w := blk_below q_c_w hb8
  have q_x_g := blk_below q_x_g hb8
  have q_c_g := blk_below q_c_g hb8
  clear g_c_g_0 g_c_g_1 g_c_w_0 g_c_w_1
  have HT9 := Lib.hid (toGraph_any N_g a_g c_g n_g g w8.drew hn_g (hx_g.below (bel_drew HB8)) (by omega))
  have HQ9 := Lib.hid (fun (u : World) (a' : Option Addr) (h1 : Rd u a5 (edges g)) (h2 : Rd u a' (edges g)) => eqGraph_any N_g a5 a' n_g n_g n_g g u hn_g h1 h2 (by omega))
  have bd9 := bel_drew (Below.refl w8.heap.size w8)
  have d_x_g_0 := later_cell (blk_cell q_x_g 0 (.int .i64 N_g) rfl)
  have d_x_g_1 := later_cell (blk_cell q_x_g 1 (.slice a5 n_g n_g) rfl)
  have d_b_g_0 := later_cell (blk_cell q_b_g 0 (.int .i64 N_g) rfl)
  have d_b_g_1 := later_cell (blk_cell q_b_g 1 (.slice a_g n_g c_g) rfl)
  go_wp2
  refine wp_region_flags [true, true, false, false, false] 4 (C := fun w' => ∃ u : Later w8, w' = u.val) (by kernel_rfl) (by kernel_rfl) ⟨⟨_, bd9⟩, rfl⟩ ?_
  simp only [pickT, pickF]
  repeat (go_big_quiet_step (fail))
  refine wpQuiet_nil ?_
  clear d_x_g_0 d_x_g_1 d_b_g_0 d_b_g_1
  refine tail_step fun K hK => ?_
  go_wp2_with fail
  refine HT9.out.mono ?_
  rintro e w9 ⟨aT9, rfl, hoT9, hbT9⟩
  go_wp2
  refine hK _ _ ⟨⟨_, bd9.trans hbT9⟩, rfl⟩ ?_
  clear hK HT9
  have hb9 : Below w8.heap.size w8 w9 := bd9.trans hbT9
  have HC9 := HQ9.out w9 aT9 (own_rd (own_below ho_x_g hb9)) (own_rd hoT9)
  clear HQ9 hoT9 hbT9
  refine tail_step fun K2 hK2 => ?_
  go_wp2_with fail
  refine HC9.mono ?_
  rintro e w10 ⟨rfl, hbQ10⟩
  have hb10 := below_tr' hb9 hbQ10
  go_wp2
  refine hK2 _ _ ⟨⟨_, hb10⟩, rfl⟩ ?_
  clear hK2 HC9 hbQ10 hb9 bd9
  refine tail_last fun K3 hK3 => ?_
  have HB10 := below_tr' HB8 hb10
  have ho_w := own_below ho_w hb10
  have ho_x_g := own_below ho_x_g hb10
  have ho_x_f := own_below ho_x_f hb10
  have ho_g := own_below ho_g hb10
  have q_b_g := blk_below q_b_g hb10
  have q_c_w := blk_below q_c_w hb10
  have q_x_g := blk_below q_x_g hb10
  have q_c_g := blk_below q_c_g hb10
  have C11 := toIntS_any a_f c_f n_f f w10 hn_f (hx_f.below HB10) hs_f'
  go_wp2_with fail
  refine C11.mono ?_
  rintro e w11 ⟨rfl, ho_t11, hb11⟩
  clear C11
  have ap10 := apart_of ho_w ho_t11
  have ap11 := apart_of ho_x_g ho_t11
  have ap12 := apart_of ho_x_f ho_t11
  have ap13 := apart_of ho_g ho_t11
  have HB11 := below_tr' HB10 hb11
  have ho_w := own_below ho_w hb11
  have ho_x_g := own_below ho_x_g hb11
  have ho_x_f := own_below ho_x_f hb11
  have ho_g := own_below ho_g hb11
  have q_b_g := blk_below q_b_g hb11
  have q_c_w := blk_below q_c_w hb11
  have q_x_g := blk_below q_x_g hb11
  have q_c_g := blk_below q_c_g hb11
  have C12 := eqIntS_b _ _ n_f n_f n_f n_f f f w11 hn_f hn_f (own_rd ho_x_f) (own_rd ho_t11) (by omega) (by omega) true (decide_eq_true rfl)
  go_wp2_with fail
  refine C12.mono ?_
  rintro e w12 ⟨rfl, hb12⟩
  clear C12
  have HB12 := below_tr' HB11 hb12
  have ho_w := own_below ho_w hb12
  have ho_x_g := own_below ho_x_g hb12
  have ho_x_f := own_below ho_x_f hb12
  have ho_g := own_below ho_g hb12
  have ho_t11 := own_below ho_t11 hb12
  have q_b_g := blk_below q_b_g hb12
  have q_c_w := blk_below q_c_w hb12
  have q_x_g := blk_below q_x_g hb12
  have q_c_g := blk_below q_c_g hb12
  clear ho_t11
  have g_x_g_0 := blk_cell q_x_g 0 (.int .i64 N_g) rfl
  have g_x_g_1 := blk_cell q_x_g 1 (.slice a5 n_g n_g) rfl
  have C13 := markGraph_any N_g _ a5 _ n_g n_g _ 1 w12 ho_x_g (by omega) (by omega) (by omega)
  go_wp2_with fail
  refine C13.mono ?_
  rintro e w13 ⟨rfl, hm13, hg13⟩
  clear C13
  have HB13 := below_mark HB12 ho_x_g (Nat.le_refl _) HBc1.size hg13
  have q_b_g := blk_grown q_b_g hg13 (own_ne ho_x_g q_b_g (by decide))
  have q_c_w := blk_grown q_c_w hg13 (own_ne ho_x_g q_c_w (by decide))
  have q_x_g := blk_grown q_x_g hg13 (own_ne ho_x_g q_x_g (by decide))
  have q_c_g := blk_grown q_c_g hg13 (own_ne ho_x_g q_c_g (by decide))
  have ho_w := own_kept ho_w hg13 ap4
  have ho_x_f := own_kept ho_x_f hg13 ap6.symm
  have ho_g := own_kept ho_g hg13 ap8.symm
  have ho_x_g := hm13
  clear hm13
  clear g_x_g_0 g_x_g_1
  have C14 := markIntS_any _ _ _ n_f n_f _ (1 + 2 * (n_g : Int)) w13 ho_x_f (by omega) (by omega) (by omega)
  go_wp2_with fail
  refine C14.mono ?_
  rintro e w14 ⟨rfl, hm14, hg14⟩
  clear C14
  have HB14 := below_mark HB13 ho_x_f (Nat.le_refl _) HBc2.size hg14
  have q_b_g := blk_grown q_b_g hg14 (own_ne ho_x_f q_b_g (by decide))
  have q_c_w := blk_grown q_c_w hg14 (own_ne ho_x_f q_c_w (by decide))
  have q_x_g := blk_grown q_x_g hg14 (own_ne ho_x_f q_x_g (by decide))
  have q_c_g := blk_grown q_c_g hg14 (own_ne ho_x_f q_c_g (by decide))
  have ho_w := own_kept ho_w hg14 ap5
  have ho_x_g := own_kept ho_x_g hg14 ap6
  have ho_g := own_kept ho_g hg14 ap9.symm
  have ho_x_f := hm14
  clear hm14
  have g_c_g_0 := blk_cell q_c_g 0 (.int .i64 (fctN N_g g f)) rfl
  have g_c_g_1 := blk_cell q_c_g 1 (.slice a7 (fctL N_g g f).length d7) rfl
  have g_c_w_0 := blk_cell q_c_w 0 (.int .i64 (fctN N_g g f)) rfl
  have g_c_w_1 := blk_cell q_c_w 1 (.slice a4 (fctL N_g g f).length d4) rfl
  have C15 := eqGraph_any (fctN N_g g f) a7 a4 d7 d4 ((fctL N_g g f).length) (fctL N_g g f) w14 rfl (own_rd ho_g) (own_rd ho_w) (by omega)
  go_wp2_with fail
  refine C15.mono ?_
  rintro e w15 ⟨rfl, hb15⟩
  clear C15
  have HB15 := below_tr' HB14 hb15
  have ho_w := own_below ho_w hb15
  have ho_x_g := own_below ho_x_g hb15
  have ho_x_f := own_below ho_x_f hb15
  have ho_g := own_below ho_g hb15
  have q_b_g := blk_below q_b_g hb15
  have q_c_w := blk_below q_c_w hb15
  have q_x_g := blk_below q_x_g hb15
  have q_c_g := blk_below q_c_g hb15
  clear g_c_g_0 g_c_g_1 g_c_w_0 g_c_w_1
  clear ho_x_g ho_x_f
  have g_c_g_0 := blk_cell q_c_g 0 (.int .i64 (fctN N_g g f)) rfl
  have g_c_g_1 := blk_cell q_c_g 1 (.slice a7 (fctL N_g g f).length d7) rfl
  have C16 := markGraph_any (fctN N_g g f) _ a7 _ d7 (fctL N_g g f).length _ 1 w15 ho_g (by omega) (by omega) (by omega)
  go_wp2_with fail
  refine C16.mono ?_
  rintro e w16 ⟨rfl, hm16, hg16⟩
  clear C16
  have HB16 := below_mark HB15 ho_g (Nat.le_refl _) HB6.size hg16
  have q_b_g := blk_grown q_b_g hg16 (own_ne ho_g q_b_g (by decide))
  have q_c_w := blk_grown q_c_w hg16 (own_ne ho_g q_c_w (by decide))
  have q_x_g := blk_grown q_x_g hg16 (own_ne ho_g q_x_g (by decide))
  have q_c_g := blk_grown q_c_g hg16 (own_ne ho_g q_c_g (by decide))
  have ho_w := own_kept ho_w hg16 ap7
  have ho_g := hm16
  clear hm16
  clear g_c_g_0 g_c_g_1
  have g_c_g_0 := blk_cell q_c_g 0 (.int .i64 (fctN N_g g f)) rfl
  have g_c_g_1 := blk_cell q_c_g 1 (.slice a7 (fctL N_g g f).length d7) rfl
  have C17 := heldGraph_any (fctN N_g g f) a7 d7 (fctL N_g g f).length 1 w16 (own_rd ho_g) (by omega) (by omega) (by omega)
  go_wp2_with fail
  refine C17.mono ?_
  rintro e w17 ⟨rfl, hb17⟩
  clear C17
  have HB17 := below_tr' HB16 hb17
  have ho_w := own_below ho_w hb17
  have ho_g := own_below ho_g hb17
  have q_b_g := blk_below q_b_g hb17
  have q_c_w := blk_below q_c_w hb17
  have q_x_g := blk_below q_x_g hb17
  have q_c_g := blk_below q_c_g hb17
  clear g_c_g_0 g_c_g_1
  have g_b_g_0 := blk_cell q_b_g 0 (.int .i64 N_g) rfl
  have g_b_g_1 := blk_cell q_b_g 1 (.slice a_g n_g c_g) rfl
  have C18 := toGraph_any N_g a_g c_g n_g g w17 hn_g (hx_g.below HB17) (by omega)
  go_wp2_with fail
  refine C18.mono ?_
  rintro e w18 ⟨a18, rfl, ho_t, hb18⟩
  clear C18
  have ap14 := apart_of ho_w ho_t
  have ap15 := apart_of ho_g ho_t
  have HB18 := below_tr' HB17 hb18
  have ho_w := own_below ho_w hb18
  have ho_g := own_below ho_g hb18
  have q_b_g := blk_below q_b_g hb18
  have q_c_w := blk_below q_c_w hb18
  have q_x_g := blk_below q_x_g hb18
  have q_c_g := blk_below q_c_g hb18
  clear g_b_g_0 g_b_g_1
  have C19 := toIntS_any a_f c_f n_f f w18 hn_f (hx_f.below HB18) hs_f'
  go_wp2_with fail
  refine C19.mono ?_
  rintro e w19 ⟨rfl, ho_u, hb19⟩
  clear C19
  have ap16 := apart_of ho_w ho_u
  have ap17 := apart_of ho_g ho_u
  have ap18 := apart_of ho_t ho_u
  have HB19 := below_tr' HB18 hb19
  have ho_w := own_below ho_w hb19
  have ho_g := own_below ho_g hb19
  have ho_t := own_below ho_t hb19
  have q_b_g := blk_below q_b_g hb19
  have q_c_w := blk_below q_c_w hb19
  have q_x_g := blk_below q_x_g hb19
  have q_c_g := blk_below q_c_g hb19
  have C20 := implFactorOf_any N_g a18 _ n_g n_g n_f n_f g f w19 hn_g hn_f (own_rd ho_t) (own_rd ho_u) (fun i hi => (own_blks ho_t i hi).2) (by omega) (by omega) (by omega) (own_nilc ho_u)
  go_wp2_with fail
  refine C20.mono ?_
  rintro e w20 ⟨a20, d20, c20, rfl, ho_h, hb20⟩
  clear C20
  have ap19 := apart_of ho_w ho_h
  have ap20 := apart_of ho_g ho_h
  have ap21 := apart_of ho_t ho_h
  have ap22 := apart_of ho_u ho_h
  have HB20 := below_tr' HB19 hb20
  have ho_w := own_below ho_w hb20
  have ho_g := own_below ho_g hb20
  have ho_t := own_below ho_t hb20
  have ho_u := own_below ho_u hb20
  have q_b_g := blk_below q_b_g hb20
  have q_c_w := blk_below q_c_w hb20
  have q_x_g := blk_below q_x_g hb20
  have q_c_g := blk_below q_c_g hb20
  have HA4 := below_alloc w20 (.cells #[.int .i64 (fctN N_g g f), .slice a20 (fctL N_g g f).length d20] 29)
  have q_c_h := heap_alloc_new w20 (.cells #[.int .i64 (fctN N_g g f), .slice a20 (fctL N_g g f).length d20] 29)
  have ho_w := own_below ho_w HA4
  have ho_g := own_below ho_g HA4
  have ho_t := own_below ho_t HA4
  have ho_u := own_below ho_u HA4
  have ho_h := own_below ho_h HA4
  have q_b_g := blk_below q_b_g HA4
  have q_c_w := blk_below q_c_w HA4
  have q_x_g := blk_below q_x_g HA4
  have q_c_g := blk_below q_c_g HA4
  have HBc4 := below_tr' HB20 HA4
  generalize hV4 : w20.alloc (.cells #[.int .i64 (fctN N_g g f), .slice a20 (fctL N_g g f).length d20] 29) = v4 at *
  have HV4 := Lib.hid hV4
  clear hV4 HA4
  clear ho_t ho_u
  have g_c_h_0 := blk_cell q_c_h 0 (.int .i64 (fctN N_g g f)) rfl
  have g_c_h_1 := blk_cell q_c_h 1 (.slice a20 (fctL N_g g f).length d20) rfl
  have g_c_w_0 := blk_cell q_c_w 0 (.int .i64 (fctN N_g g f)) rfl
  have g_c_w_1 := blk_cell q_c_w 1 (.slice a4 (fctL N_g g f).length d4) rfl
  have C21 := eqGraph_any (fctN N_g g f) a20 a4 d20 d4 ((fctL N_g g f).length) (fctL N_g g f) v4 rfl (own_rd ho_h) (own_rd ho_w) (by omega)
  go_wp2_with (simp only [HV4.out])
  refine C21.mono ?_
  rintro e w21 ⟨rfl, hb21⟩
  clear C21
  have HB21 := below_tr' HBc4 hb21
  have ho_w := own_below ho_w hb21
  have ho_g := own_below ho_g hb21
  have ho_h := own_below ho_h hb21
  have q_b_g := blk_below q_b_g hb21
  have q_c_w := blk_below q_c_w hb21
  have q_x_g := blk_below q_x_g hb21
  have q_c_g := blk_below q_c_g hb21
  have q_c_h := blk_below q_c_h hb21
  clear g_c_h_0 g_c_h_1 g_c_w_0 g_c_w_1
  have g_c_g_0 := blk_cell q_c_g 0 (.int .i64 (fctN N_g g f)) rfl
  have g_c_g_1 := blk_cell q_c_g 1 (.slice a7 (fctL N_g g f).length d7) rfl
  have C22 := heldGraph_any (fctN N_g g f) a7 d7 (fctL N_g g f).length 1 w21 (own_rd ho_g) (by omega) (by omega) (by omega)
  go_wp2_with fail
  refine C22.mono ?_
  rintro e w22 ⟨rfl, hb22⟩
  clear C22
  have HB22 := below_tr' HB21 hb22
  have ho_w := own_below ho_w hb22
  have ho_g := own_below ho_g hb22
  have ho_h := own_below ho_h hb22
  have q_b_g := blk_below q_b_g hb22
  have q_c_w := blk_below q_c_w hb22
  have q_x_g := blk_below q_x_g hb22
  have q_c_g := blk_below q_c_g hb22
  have q_c_h := blk_below q_c_h hb22
  clear g_c_g_0 g_c_g_1
  go_wp2
  go_ret
  exact ⟨rfl, HB22⟩

end Go.Proofs.Ytjmiafkkbganlaa
