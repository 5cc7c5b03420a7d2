
/- The walk of the law FnExactForcedEdges. -/
import Derived.Test.YtjmiafkkbganlaaAllH
namespace Go.Proofs.Ytjmiafkkbganlaa
open Go.RowKit

set_option maxHeartbeats 4000000 in
set_option linter.unusedVariables false in
theorem walk_FnExactForcedEdges (a_d : Option Addr) (c_d n_d : Nat) (d : List Int) (w : World) (hn_d : d.length = n_d) (hx_d : Rd w a_d (ints d)) (hl_d : n_d ≤ 9223372036854775807) :
    Calls Try.prog 10 #[.slice a_d n_d c_d] w fun e w' => e = .returned (.bool true) ∧ Below w.heap.size w w' := by
  have hW7 := forcL_len d
  have HB0 := Below.refl w.heap.size w
  by_cases hs_d : 1048576 < n_d
  · go_enter Try.func10, Try.ntmps10
    go_wp2
    go_ret
    exact ⟨rfl, HB0⟩
  have hs_d' : n_d ≤ 1048576 := by omega
  go_enter Try.func10, Try.ntmps10
  have C1 := toIntS_any a_d c_d n_d d w hn_d (hx_d.below HB0) hs_d'
  go_wp2_with fail
  refine C1.mono ?_
  rintro e w1 ⟨rfl, ho_t, hb1⟩
  clear C1
  have HB1 := below_tr' HB0 hb1
  have C2 := specForced_any _ n_d n_d d w1 hn_d (own_rd ho_t) (by omega) (own_nilc ho_t)
  go_wp2_with fail
  refine C2.mono ?_
  rintro e w2 ⟨a2, c2, rfl, ho_w, hb2⟩
  clear C2
  have ap1 := apart_of ho_t ho_w
  have HB2 := below_tr' HB1 hb2
  have ho_t := own_below ho_t hb2
  clear ho_t
  have C3 := toIntS_any a_d c_d n_d d w2 hn_d (hx_d.below HB2) hs_d'
  go_wp2_with fail
  refine C3.mono ?_
  rintro e w3 ⟨rfl, ho_x_d, hb3⟩
  clear C3
  have ap2 := apart_of ho_w ho_x_d
  have HB3 := below_tr' HB2 hb3
  have ho_w := own_below ho_w hb3
  have C4 := impl_forced _ n_d n_d d w3 hn_d (own_rd ho_x_d) (by omega) (own_nilc ho_x_d)
  go_wp2_with fail
  refine C4.mono ?_
  rintro e w4 ⟨a4, c4, d4, rfl, ho_g, hb4⟩
  clear C4
  have ap3 := apart_of ho_w ho_g
  have ap4 := apart_of ho_x_d ho_g
  have HB4 := below_tr' HB3 hb4
  have ho_w := own_below ho_w hb4
  have ho_x_d := own_below ho_x_d hb4
  have C5 := eqEdgeS_any a4 a2 d4 c2 (forcL d).length (forcL d) w4 rfl (own_rd ho_g) (own_rd ho_w) (by omega)
  go_wp2_with fail
  refine C5.mono ?_
  rintro e w5 ⟨rfl, hb5⟩
  clear C5
  have HB5 := below_tr' HB4 hb5
  have ho_w := own_below ho_w hb5
  have ho_x_d := own_below ho_x_d hb5
  have ho_g := own_below ho_g hb5
  have C6 := toIntS_any a_d c_d n_d d w5 hn_d (hx_d.below HB5) hs_d'
  go_wp2_with fail
  refine C6.mono ?_
  rintro e w6 ⟨rfl, ho_t6, hb6⟩
  clear C6
  have ap5 := apart_of ho_w ho_t6
  have ap6 := apart_of ho_x_d ho_t6
  have ap7 := apart_of ho_g ho_t6
  have HB6 := below_tr' HB5 hb6
  have ho_w := own_below ho_w hb6
  have ho_x_d := own_below ho_x_d hb6
  have ho_g := own_below ho_g hb6
  have C7 := eqIntS_b _ _ n_d n_d n_d n_d d d w6 hn_d hn_d (own_rd ho_x_d) (own_rd ho_t6) (by omega) (by omega) true (decide_eq_true rfl)
  go_wp2_with fail
  refine C7.mono ?_
  rintro e w7 ⟨rfl, hb7⟩
  clear C7
  have HB7 := below_tr' HB6 hb7
  have ho_w := own_below ho_w hb7
  have ho_x_d := own_below ho_x_d hb7
  have ho_g := own_below ho_g hb7
  have ho_t6 := own_below ho_t6 hb7
  clear ho_t6
  have C8 := markIntS_any _ _ _ n_d n_d _ 1 w7 ho_x_d (by omega) (by omega) (by omega)
  go_wp2_with fail
  refine C8.mono ?_
  rintro e w8 ⟨rfl, hm8, hg8⟩
  clear C8
  have HB8 := below_mark HB7 ho_x_d (Nat.le_refl _) HB2.size hg8
  have ho_w := own_kept ho_w hg8 ap2
  have ho_g := own_kept ho_g hg8 ap4.symm
  have ho_x_d := hm8
  clear hm8
  have C9 := eqEdgeS_any a4 a2 d4 c2 (forcL d).length (forcL d) w8 rfl (own_rd ho_g) (own_rd ho_w) (by omega)
  go_wp2_with fail
  refine C9.mono ?_
  rintro e w9 ⟨rfl, hb9⟩
  clear C9
  have HB9 := below_tr' HB8 hb9
  have ho_w := own_below ho_w hb9
  have ho_x_d := own_below ho_x_d hb9
  have ho_g := own_below ho_g hb9
  clear ho_x_d
  have C10 := markEdgeS_any _ a4 _ d4 (forcL d).length _ 1 w9 ho_g (by omega) (by omega) (by omega)
  go_wp2_with fail
  refine C10.mono ?_
  rintro e w10 ⟨rfl, hm10, hg10⟩
  clear C10
  have HB10 := below_mark HB9 ho_g (Nat.le_refl _) HB3.size hg10
  have ho_w := own_kept ho_w hg10 ap3
  have ho_g := hm10
  clear hm10
  have C11 := heldEdgeS_any a4 d4 (forcL d).length 1 w10 (own_rd ho_g) (by omega) (by omega) (by omega)
  go_wp2_with fail
  refine C11.mono ?_
  rintro e w10 ⟨rfl, rfl⟩
  clear C11
  have C12 := toIntS_any a_d c_d n_d d w10 hn_d (hx_d.below HB10) hs_d'
  go_wp2_with fail
  refine C12.mono ?_
  rintro e w12 ⟨rfl, ho_t, hb12⟩
  clear C12
  have ap8 := apart_of ho_w ho_t
  have ap9 := apart_of ho_g ho_t
  have HB12 := below_tr' HB10 hb12
  have ho_w := own_below ho_w hb12
  have ho_g := own_below ho_g hb12
  have C13 := impl_forced _ n_d n_d d w12 hn_d (own_rd ho_t) (by omega) (own_nilc ho_t)
  go_wp2_with fail
  refine C13.mono ?_
  rintro e w13 ⟨a13, c13, d13, rfl, ho_h, hb13⟩
  clear C13
  have ap10 := apart_of ho_w ho_h
  have ap11 := apart_of ho_g ho_h
  have ap12 := apart_of ho_t ho_h
  have HB13 := below_tr' HB12 hb13
  have ho_w := own_below ho_w hb13
  have ho_g := own_below ho_g hb13
  have ho_t := own_below ho_t hb13
  clear ho_t
  have C14 := eqEdgeS_any a13 a2 d13 c2 (forcL d).length (forcL d) w13 rfl (own_rd ho_h) (own_rd ho_w) (by omega)
  go_wp2_with fail
  refine C14.mono ?_
  rintro e w14 ⟨rfl, hb14⟩
  clear C14
  have HB14 := below_tr' HB13 hb14
  have ho_w := own_below ho_w hb14
  have ho_g := own_below ho_g hb14
  have ho_h := own_below ho_h hb14
  have C15 := heldEdgeS_any a4 d4 (forcL d).length 1 w14 (own_rd ho_g) (by omega) (by omega) (by omega)
  go_wp2_with fail
  refine C15.mono ?_
  rintro e w14 ⟨rfl, rfl⟩
  clear C15
  go_wp2
  go_ret
  exact ⟨rfl, HB14⟩

end Go.Proofs.Ytjmiafkkbganlaa
