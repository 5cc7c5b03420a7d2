
/- The walk of the law FnExactMatrixGraph. -/
import Derived.Test.YtchefkggnncalaaSplitM
import Derived.Test.YtchefkggnncalaaMatC
import Derived.Test.YtchefkggnncalaaGraph
namespace Go.Proofs.Ytchefkggnncalaa
open Go.RowKit

set_option maxHeartbeats 4000000 in
set_option linter.unusedVariables false in
theorem walk_FnExactMatrixGraph (a_m : Option Addr) (c_m n_m : Nat) (m : List (List Int)) (w : World) (hn : m.length = n_m) (hx : RdM w a_m m) (hl : n_m ≤ 9223372036854775807) (hw : WfM m) :
    Calls Try.prog 13 #[.slice a_m n_m c_m] w fun e w' => e = .returned (.bool true) ∧ Below w.heap.size w w' := by
  have hW7 := mgL_len m
  have HB0 := Below.refl w.heap.size w
  go_enter Try.func13, Try.ntmps13
  have C1 := szIntSS_any a_m c_m n_m m 1048576 w hn hx hl (by omega) (by omega)
  go_wp2_with fail
  refine C1.mono ?_
  rintro e w1 ⟨v, rfl, hv1, hv2, hb1⟩
  clear C1
  have hs1 := hb1.size
  have HB1 := below_tr' HB0 hb1
  by_cases hneg : v < 0
  · go_wp2
    go_ret
    exact ⟨rfl, HB1⟩
  have hsz : n_m + sumLen m ≤ 1048576 := by have := hv2 (by omega); omega
  clear hv1 hv2
  have C2 := toIntSS_any a_m c_m n_m m w1 hn (hx.below HB1) hsz
  go_wp2_with fail
  refine C2.mono ?_
  rintro e w2 ⟨rs2, rfl, hM2, hb2⟩
  clear C2
  have hs2 := hb2.size
  have HB2 := below_tr' HB1 hb2
  have ht := HoldsM.of (ownC_of hM2) (Nat.le_refl _)
  clear hM2
  have C3 := specMG_any (some ⟨w1.heap.size, 0, none⟩) n_m n_m m w2 hn ht.rdM hsz
  go_wp2_with fail
  refine C3.mono ?_
  rintro e w3 ⟨a3, c3, d3, rfl, ho_w, hb3⟩
  clear C3
  have hs3 := hb3.size
  have HB3 := below_tr' HB2 hb3
  have ht := ht.below hb3
  have r_ho_w := own_rin ho_w
  have hsc1 := (below_alloc w3 (.cells #[.int .i64 (mgN m), .slice a3 (mgL m).length d3] 29)).size
  have ht := ht.below (below_alloc w3 (.cells #[.int .i64 (mgN m), .slice a3 (mgL m).length d3] 29))
  have HA1 := below_alloc w3 (.cells #[.int .i64 (mgN m), .slice a3 (mgL m).length d3] 29)
  have q_c_w := heap_alloc_new w3 (.cells #[.int .i64 (mgN m), .slice a3 (mgL m).length d3] 29)
  have ho_w := own_below ho_w HA1
  have HBc1 := below_tr' HB3 HA1
  generalize hV1 : w3.alloc (.cells #[.int .i64 (mgN m), .slice a3 (mgL m).length d3] 29) = v1 at *
  have HV1 := Lib.hid hV1
  clear hV1 HA1
  have hlt1 := blk_lt q_c_w
  clear ht
  have C4 := toIntSS_any a_m c_m n_m m v1 hn (hx.below HBc1) hsz
  go_wp2_with (simp only [HV1.out])
  refine C4.mono ?_
  rintro e w4 ⟨rs4, rfl, hM4, hb4⟩
  clear C4
  have hs4 := hb4.size
  have HB4 := below_tr' HBc1 hb4
  have ho_w := own_below ho_w hb4
  have q_c_w := blk_below q_c_w hb4
  have hxx := HoldsM.of (ownC_of hM4) (Nat.le_refl _)
  clear hM4
  have C5 := implMG_any (some ⟨v1.heap.size, 0, none⟩) n_m n_m m w4 hn hxx.rdM hsz
  go_wp2_with fail
  refine C5.mono ?_
  rintro e w5 ⟨a5, c5, d5, rfl, ho_g, hb5⟩
  clear C5
  have ap1 := apart_of ho_w ho_g
  have hs5 := hb5.size
  have HB5 := below_tr' HB4 hb5
  have ho_w := own_below ho_w hb5
  have q_c_w := blk_below q_c_w hb5
  have hxx := hxx.below hb5
  have r_ho_g := own_rin ho_g
  have hsc2 := (below_alloc w5 (.cells #[.int .i64 (mgN m), .slice a5 (mgL m).length d5] 29)).size
  have hxx := hxx.below (below_alloc w5 (.cells #[.int .i64 (mgN m), .slice a5 (mgL m).length d5] 29))
  have HA2 := below_alloc w5 (.cells #[.int .i64 (mgN m), .slice a5 (mgL m).length d5] 29)
  have q_c_g := heap_alloc_new w5 (.cells #[.int .i64 (mgN m), .slice a5 (mgL m).length d5] 29)
  have ho_w := own_below ho_w HA2
  have ho_g := own_below ho_g HA2
  have q_c_w := blk_below q_c_w HA2
  have HBc2 := below_tr' HB5 HA2
  generalize hV2 : w5.alloc (.cells #[.int .i64 (mgN m), .slice a5 (mgL m).length d5] 29) = v2 at *
  have HV2 := Lib.hid hV2
  clear hV2 HA2
  have hlt2 := blk_lt q_c_g
  have g_c_g_0 := blk_cell q_c_g 0 (.int .i64 (mgN m)) rfl
  have g_c_g_1 := blk_cell q_c_g 1 (.slice a5 (mgL m).length d5) rfl
  have g_c_w_0 := blk_cell q_c_w 0 (.int .i64 (mgN m)) rfl
  have g_c_w_1 := blk_cell q_c_w 1 (.slice a3 (mgL m).length d3) rfl
  have C6 := eqGraph_any (mgN m) a5 a3 d5 d3 ((mgL m).length) (mgL m) v2 rfl (own_rd ho_g) (own_rd ho_w) (by omega)
  go_wp2_with (simp only [HV2.out])
  refine C6.mono ?_
  rintro e w6 ⟨rfl, hb6⟩
  clear C6
  have hs6 := hb6.size
  have HB6 := below_tr' HBc2 hb6
  have ho_w := own_below ho_w hb6
  have ho_g := own_below ho_g hb6
  have q_c_w := blk_below q_c_w hb6
  have q_c_g := blk_below q_c_g hb6
  have hxx := hxx.below hb6
  clear g_c_g_0 g_c_g_1 g_c_w_0 g_c_w_1
  have C7 := toIntSS_any a_m c_m n_m m w6 hn (hx.below HB6) hsz
  go_wp2_with fail
  refine C7.mono ?_
  rintro e w7 ⟨rs7, rfl, hM7, hb7⟩
  clear C7
  have hs7 := hb7.size
  have HB7 := below_tr' HB6 hb7
  have ho_w := own_below ho_w hb7
  have ho_g := own_below ho_g hb7
  have q_c_w := blk_below q_c_w hb7
  have q_c_g := blk_below q_c_g hb7
  have hxx := hxx.below hb7
  have hu := HoldsM.of (ownC_of hM7) (Nat.le_refl _)
  clear hM7
  have C8 := eqHM_any n_m n_m hxx hu hsz
  go_wp2_with fail
  refine C8.mono ?_
  rintro e w8 ⟨rfl, hb8⟩
  clear C8
  have hs8 := hb8.size
  have HB8 := below_tr' HB7 hb8
  have ho_w := own_below ho_w hb8
  have ho_g := own_below ho_g hb8
  have q_c_w := blk_below q_c_w hb8
  have q_c_g := blk_below q_c_g hb8
  have hxx := hxx.below hb8
  have hu := hu.below hb8
  clear hu
  have C9 := markHM_any 1 n_m hxx hsz (by omega) (by omega) (by omega)
  go_wp2_with fail
  refine C9.mono ?_
  rintro e w9 ⟨rfl, hm9, fr9⟩
  clear C9
  have hs9 := fr9.1.size
  have HB9 := HB8.trans (fr9.1.mono (by omega))
  have q_c_w := blk_stays q_c_w fr9 (by omega)
  have q_c_g := blk_stays q_c_g fr9 (by omega)
  have ho_w := own_stays ho_w r_ho_w (fr9.stays (by omega) (by omega))
  have ho_g := own_stays ho_g r_ho_g (fr9.stays (by omega) (by omega))
  have hxx := hm9
  clear hm9 fr9
  have g_c_g_0 := blk_cell q_c_g 0 (.int .i64 (mgN m)) rfl
  have g_c_g_1 := blk_cell q_c_g 1 (.slice a5 (mgL m).length d5) rfl
  have g_c_w_0 := blk_cell q_c_w 0 (.int .i64 (mgN m)) rfl
  have g_c_w_1 := blk_cell q_c_w 1 (.slice a3 (mgL m).length d3) rfl
  have C10 := eqGraph_any (mgN m) a5 a3 d5 d3 ((mgL m).length) (mgL m) w9 rfl (own_rd ho_g) (own_rd ho_w) (by omega)
  go_wp2_with fail
  refine C10.mono ?_
  rintro e w10 ⟨rfl, hb10⟩
  clear C10
  have hs10 := hb10.size
  have HB10 := below_tr' HB9 hb10
  have ho_w := own_below ho_w hb10
  have ho_g := own_below ho_g hb10
  have q_c_w := blk_below q_c_w hb10
  have q_c_g := blk_below q_c_g hb10
  have hxx := hxx.below hb10
  clear g_c_g_0 g_c_g_1 g_c_w_0 g_c_w_1
  clear hxx
  have g_c_g_0 := blk_cell q_c_g 0 (.int .i64 (mgN m)) rfl
  have g_c_g_1 := blk_cell q_c_g 1 (.slice a5 (mgL m).length d5) rfl
  have hk11 := ho_g
  have C11 := markGraph_any (mgN m) _ a5 _ d5 (mgL m).length _ 1 w10 ho_g (by omega) (by omega) (by omega)
  go_wp2_with fail
  refine C11.mono ?_
  rintro e w11 ⟨rfl, hm11, hg11⟩
  clear C11
  have HB11 := below_mark HB10 ho_g (Nat.le_refl _) HB4.size hg11
  have q_c_w := blk_grown q_c_w hg11 (own_ne ho_g q_c_w (by decide))
  have q_c_g := blk_grown q_c_g hg11 (own_ne ho_g q_c_g (by decide))
  have ho_w := own_kept ho_w hg11 ap1
  have ho_g := hm11
  clear hm11
  clear g_c_g_0 g_c_g_1
  have hs11 := hg11.size
  have fr11 := MarkFr.row r_ho_g (below_row (Below.refl _ _) (by omega) hk11 hg11) hg11
  clear hk11 fr11
  have g_c_g_0 := blk_cell q_c_g 0 (.int .i64 (mgN m)) rfl
  have g_c_g_1 := blk_cell q_c_g 1 (.slice a5 (mgL m).length d5) rfl
  have C12 := heldGraph_any (mgN m) a5 d5 (mgL m).length 1 w11 (own_rd ho_g) (by omega) (by omega) (by omega)
  go_wp2_with fail
  refine C12.mono ?_
  rintro e w12 ⟨rfl, hb12⟩
  clear C12
  have hs12 := hb12.size
  have HB12 := below_tr' HB11 hb12
  have ho_w := own_below ho_w hb12
  have ho_g := own_below ho_g hb12
  have q_c_w := blk_below q_c_w hb12
  have q_c_g := blk_below q_c_g hb12
  clear g_c_g_0 g_c_g_1
  have C13 := toIntSS_any a_m c_m n_m m w12 hn (hx.below HB12) hsz
  go_wp2_with fail
  refine C13.mono ?_
  rintro e w13 ⟨rs13, rfl, hM13, hb13⟩
  clear C13
  have hs13 := hb13.size
  have HB13 := below_tr' HB12 hb13
  have ho_w := own_below ho_w hb13
  have ho_g := own_below ho_g hb13
  have q_c_w := blk_below q_c_w hb13
  have q_c_g := blk_below q_c_g hb13
  have hy := HoldsM.of (ownC_of hM13) (Nat.le_refl _)
  clear hM13
  have C14 := implMG_any (some ⟨w12.heap.size, 0, none⟩) n_m n_m m w13 hn hy.rdM hsz
  go_wp2_with fail
  refine C14.mono ?_
  rintro e w14 ⟨a14, c14, d14, rfl, ho_h, hb14⟩
  clear C14
  have ap2 := apart_of ho_w ho_h
  have ap3 := apart_of ho_g ho_h
  have hs14 := hb14.size
  have HB14 := below_tr' HB13 hb14
  have ho_w := own_below ho_w hb14
  have ho_g := own_below ho_g hb14
  have q_c_w := blk_below q_c_w hb14
  have q_c_g := blk_below q_c_g hb14
  have hy := hy.below hb14
  have r_ho_h := own_rin ho_h
  have hsc3 := (below_alloc w14 (.cells #[.int .i64 (mgN m), .slice a14 (mgL m).length d14] 29)).size
  have hy := hy.below (below_alloc w14 (.cells #[.int .i64 (mgN m), .slice a14 (mgL m).length d14] 29))
  have HA3 := below_alloc w14 (.cells #[.int .i64 (mgN m), .slice a14 (mgL m).length d14] 29)
  have q_c_h := heap_alloc_new w14 (.cells #[.int .i64 (mgN m), .slice a14 (mgL m).length d14] 29)
  have ho_w := own_below ho_w HA3
  have ho_g := own_below ho_g HA3
  have ho_h := own_below ho_h HA3
  have q_c_w := blk_below q_c_w HA3
  have q_c_g := blk_below q_c_g HA3
  have HBc3 := below_tr' HB14 HA3
  generalize hV3 : w14.alloc (.cells #[.int .i64 (mgN m), .slice a14 (mgL m).length d14] 29) = v3 at *
  have HV3 := Lib.hid hV3
  clear hV3 HA3
  have hlt3 := blk_lt q_c_h
  clear hy
  have g_c_h_0 := blk_cell q_c_h 0 (.int .i64 (mgN m)) rfl
  have g_c_h_1 := blk_cell q_c_h 1 (.slice a14 (mgL m).length d14) rfl
  have g_c_w_0 := blk_cell q_c_w 0 (.int .i64 (mgN m)) rfl
  have g_c_w_1 := blk_cell q_c_w 1 (.slice a3 (mgL m).length d3) rfl
  have C15 := eqGraph_any (mgN m) a14 a3 d14 d3 ((mgL m).length) (mgL m) v3 rfl (own_rd ho_h) (own_rd ho_w) (by omega)
  go_wp2_with (simp only [HV3.out])
  refine C15.mono ?_
  rintro e w15 ⟨rfl, hb15⟩
  clear C15
  have hs15 := hb15.size
  have HB15 := below_tr' HBc3 hb15
  have ho_w := own_below ho_w hb15
  have ho_g := own_below ho_g hb15
  have ho_h := own_below ho_h hb15
  have q_c_w := blk_below q_c_w hb15
  have q_c_g := blk_below q_c_g hb15
  have q_c_h := blk_below q_c_h hb15
  clear g_c_h_0 g_c_h_1 g_c_w_0 g_c_w_1
  have g_c_g_0 := blk_cell q_c_g 0 (.int .i64 (mgN m)) rfl
  have g_c_g_1 := blk_cell q_c_g 1 (.slice a5 (mgL m).length d5) rfl
  have C16 := heldGraph_any (mgN m) a5 d5 (mgL m).length 1 w15 (own_rd ho_g) (by omega) (by omega) (by omega)
  go_wp2_with fail
  refine C16.mono ?_
  rintro e w16 ⟨rfl, hb16⟩
  clear C16
  have hs16 := hb16.size
  have HB16 := below_tr' HB15 hb16
  have ho_w := own_below ho_w hb16
  have ho_g := own_below ho_g hb16
  have ho_h := own_below ho_h hb16
  have q_c_w := blk_below q_c_w hb16
  have q_c_g := blk_below q_c_g hb16
  have q_c_h := blk_below q_c_h hb16
  clear g_c_g_0 g_c_g_1
  go_wp2
  go_ret
  exact ⟨rfl, HB16⟩

end Go.Proofs.Ytchefkggnncalaa
