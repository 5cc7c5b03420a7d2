/- The walk of the law FnExactCodeGraph. -/
import Derived.Test.YtchefkggnncalaaCodeG
namespace Go.Proofs.Ytchefkggnncalaa
open Go.RowKit

set_option maxHeartbeats 4000000 in
set_option linter.unusedVariables false in
theorem walk_FnExactCodeGraph (s : ByteArray) (w : World) (hl_s : s.size ≤ 9223372036854775807) :
    Calls Try.prog 5 #[.string s] w fun e w' => e = .returned (.bool true) ∧ Below w.heap.size w w' := by
  have hW7 := cgrL_len s
  have HB0 := Below.refl w.heap.size w
  by_cases hs_s : 1048576 < s.size
  · go_enter Try.func5, Try.ntmps5
    go_wp2
    go_ret
    exact ⟨rfl, HB0⟩
  have hs_s' : s.size ≤ 1048576 := by omega
  go_enter Try.func5, Try.ntmps5
  have C1 := specCodeGraph_any s w (by omega)
  go_wp2_with fail
  refine C1.mono ?_
  rintro e w1 ⟨a1, c1, d1, rfl, ho_w, hb1⟩
  clear C1
  have HB1 := below_tr' HB0 hb1
  have HA1 := below_alloc w1 (.cells #[.int .i64 (cgrN s), .slice a1 (cgrL s).length d1] 29)
  have q_c_w := heap_alloc_new w1 (.cells #[.int .i64 (cgrN s), .slice a1 (cgrL s).length d1] 29)
  have ho_w := own_below ho_w HA1
  have HBc1 := below_tr' HB1 HA1
  generalize hV1 : w1.alloc (.cells #[.int .i64 (cgrN s), .slice a1 (cgrL s).length d1] 29) = v1 at *
  have HV1 := Lib.hid hV1
  clear hV1 HA1
  have C2 := implCodeGraph_any s v1 (by omega)
  go_wp2_with (simp only [HV1.out])
  refine C2.mono ?_
  rintro e w2 ⟨a2, c2, d2, rfl, ho_g, hb2⟩
  clear C2
  have ap1 := apart_of ho_w ho_g
  have HB2 := below_tr' HBc1 hb2
  have ho_w := own_below ho_w hb2
  have q_c_w := blk_below q_c_w hb2
  have HA2 := below_alloc w2 (.cells #[.int .i64 (cgrN s), .slice a2 (cgrL s).length d2] 29)
  have q_c_g := heap_alloc_new w2 (.cells #[.int .i64 (cgrN s), .slice a2 (cgrL s).length d2] 29)
  have ho_w := own_below ho_w HA2
  have ho_g := own_below ho_g HA2
  have q_c_w := blk_below q_c_w HA2
  have HBc2 := below_tr' HB2 HA2
  generalize hV2 : w2.alloc (.cells #[.int .i64 (cgrN s), .slice a2 (cgrL s).length d2] 29) = v2 at *
  have HV2 := Lib.hid hV2
  clear hV2 HA2
  have g_c_g_0 := blk_cell q_c_g 0 (.int .i64 (cgrN s)) rfl
  have g_c_g_1 := blk_cell q_c_g 1 (.slice a2 (cgrL s).length d2) rfl
  have g_c_w_0 := blk_cell q_c_w 0 (.int .i64 (cgrN s)) rfl
  have g_c_w_1 := blk_cell q_c_w 1 (.slice a1 (cgrL s).length d1) rfl
  have C3 := eqGraph_any (cgrN s) a2 a1 d2 d1 ((cgrL s).length) (cgrL s) v2 rfl (own_rd ho_g) (own_rd ho_w) (by omega)
  go_wp2_with (simp only [HV2.out])
  refine C3.mono ?_
  rintro e w3 ⟨rfl, hb3⟩
  clear C3
  have HB3 := below_tr' HBc2 hb3
  have ho_w := own_below ho_w hb3
  have ho_g := own_below ho_g hb3
  have q_c_w := blk_below q_c_w hb3
  have q_c_g := blk_below q_c_g hb3
  clear g_c_g_0 g_c_g_1 g_c_w_0 g_c_w_1
  have g_c_g_0 := blk_cell q_c_g 0 (.int .i64 (cgrN s)) rfl
  have g_c_g_1 := blk_cell q_c_g 1 (.slice a2 (cgrL s).length d2) rfl
  have C4 := markGraph_any (cgrN s) _ a2 _ d2 (cgrL s).length _ 1 w3 ho_g (by omega) (by omega) (by omega)
  go_wp2_with fail
  refine C4.mono ?_
  rintro e w4 ⟨rfl, hm4, hg4⟩
  clear C4
  have HB4 := below_mark HB3 ho_g (Nat.le_refl _) HBc1.size hg4
  have q_c_w := blk_grown q_c_w hg4 (own_ne ho_g q_c_w (by decide))
  have q_c_g := blk_grown q_c_g hg4 (own_ne ho_g q_c_g (by decide))
  have ho_w := own_kept ho_w hg4 ap1
  have ho_g := hm4
  clear hm4
  clear g_c_g_0 g_c_g_1
  have g_c_g_0 := blk_cell q_c_g 0 (.int .i64 (cgrN s)) rfl
  have g_c_g_1 := blk_cell q_c_g 1 (.slice a2 (cgrL s).length d2) rfl
  have C5 := heldGraph_any (cgrN s) a2 d2 (cgrL s).length 1 w4 (own_rd ho_g) (by omega) (by omega) (by omega)
  go_wp2_with fail
  refine C5.mono ?_
  rintro e w5 ⟨rfl, hb5⟩
  clear C5
  have HB5 := below_tr' HB4 hb5
  have ho_w := own_below ho_w hb5
  have ho_g := own_below ho_g hb5
  have q_c_w := blk_below q_c_w hb5
  have q_c_g := blk_below q_c_g hb5
  clear g_c_g_0 g_c_g_1
  have C6 := implCodeGraph_any s w5 (by omega)
  go_wp2_with fail
  refine C6.mono ?_
  rintro e w6 ⟨a6, c6, d6, rfl, ho_h, hb6⟩
  clear C6
  have ap2 := apart_of ho_w ho_h
  have ap3 := apart_of ho_g ho_h
  have HB6 := below_tr' HB5 hb6
  have ho_w := own_below ho_w hb6
  have ho_g := own_below ho_g hb6
  have q_c_w := blk_below q_c_w hb6
  have q_c_g := blk_below q_c_g hb6
  have HA3 := below_alloc w6 (.cells #[.int .i64 (cgrN s), .slice a6 (cgrL s).length d6] 29)
  have q_c_h := heap_alloc_new w6 (.cells #[.int .i64 (cgrN s), .slice a6 (cgrL s).length d6] 29)
  have ho_w := own_below ho_w HA3
  have ho_g := own_below ho_g HA3
  have ho_h := own_below ho_h HA3
  have q_c_w := blk_below q_c_w HA3
  have q_c_g := blk_below q_c_g HA3
  have HBc3 := below_tr' HB6 HA3
  generalize hV3 : w6.alloc (.cells #[.int .i64 (cgrN s), .slice a6 (cgrL s).length d6] 29) = v3 at *
  have HV3 := Lib.hid hV3
  clear hV3 HA3
  have g_c_h_0 := blk_cell q_c_h 0 (.int .i64 (cgrN s)) rfl
  have g_c_h_1 := blk_cell q_c_h 1 (.slice a6 (cgrL s).length d6) rfl
  have g_c_w_0 := blk_cell q_c_w 0 (.int .i64 (cgrN s)) rfl
  have g_c_w_1 := blk_cell q_c_w 1 (.slice a1 (cgrL s).length d1) rfl
  have C7 := eqGraph_any (cgrN s) a6 a1 d6 d1 ((cgrL s).length) (cgrL s) v3 rfl (own_rd ho_h) (own_rd ho_w) (by omega)
  go_wp2_with (simp only [HV3.out])
  refine C7.mono ?_
  rintro e w7 ⟨rfl, hb7⟩
  clear C7
  have HB7 := below_tr' HBc3 hb7
  have ho_w := own_below ho_w hb7
  have ho_g := own_below ho_g hb7
  have ho_h := own_below ho_h hb7
  have q_c_w := blk_below q_c_w hb7
  have q_c_g := blk_below q_c_g hb7
  have q_c_h := blk_below q_c_h hb7
  clear g_c_h_0 g_c_h_1 g_c_w_0 g_c_w_1
  have g_c_g_0 := blk_cell q_c_g 0 (.int .i64 (cgrN s)) rfl
  have g_c_g_1 := blk_cell q_c_g 1 (.slice a2 (cgrL s).length d2) rfl
  have C8 := heldGraph_any (cgrN s) a2 d2 (cgrL s).length 1 w7 (own_rd ho_g) (by omega) (by omega) (by omega)
  go_wp2_with fail
  refine C8.mono ?_
  rintro e w8 ⟨rfl, hb8⟩
  clear C8
  have HB8 := below_tr' HB7 hb8
  have ho_w := own_below ho_w hb8
  have ho_g := own_below ho_g hb8
  have ho_h := own_below ho_h hb8
  have q_c_w := blk_below q_c_w hb8
  have q_c_g := blk_below q_c_g hb8
  have q_c_h := blk_below q_c_h hb8
  clear g_c_g_0 g_c_g_1
  go_wp2
  go_ret
  exact ⟨rfl, HB8⟩

end Go.Proofs.Ytchefkggnncalaa
