
/- The walk of the law FnExactAllRealizations. -/
import Derived.Test.YtjghcegacgpehaaMarkG
namespace Go.Proofs.Ytjghcegacgpehaa
open Go.RowKit

set_option maxHeartbeats 4000000 in
set_option linter.unusedVariables false in
theorem walk_FnExactAllRealizations (a_d : Option Addr) (c_d n_d : Nat) (d : List Int) (w : World) (hn_d : d.length = n_d) (hx_d : Rd w a_d (ints d)) (hl_d : n_d ≤ 9223372036854775807) :
    Calls Try.prog 13 #[.slice a_d n_d c_d] w fun e w' => e = .returned (.bool true) ∧ Below w.heap.size w w' := by
  have hW7 := allV_len d
  have hK7 := kOf_le (k0 := 1) hW7.2 (allV d).length (Nat.le_refl _)
  have HB0 := Below.refl w.heap.size w
  by_cases hs_d : 1048576 < n_d
  · go_enter Try.func13, Try.ntmps13
    go_wp2
    go_ret
    exact ⟨rfl, HB0⟩
  have hs_d' : n_d ≤ 1048576 := by omega
  go_enter Try.func13, Try.ntmps13
  have C1 := toIntS_any a_d c_d n_d d w hn_d (hx_d.below HB0) hs_d'
  go_wp2_with fail
  refine C1.mono ?_
  rintro e w1 ⟨rfl, ho_t, hb1⟩
  clear C1
  have hs1 := hb1.size
  have HB1 := below_tr' HB0 hb1
  have r_ho_t := own_rin ho_t
  have C2 := specAllX_any _ n_d n_d d w1 hn_d (own_rd ho_t) (by omega) (own_nilc ho_t)
  go_wp2_with fail
  refine C2.mono ?_
  rintro e w2 ⟨a2, c2, rfl, hw, hb2⟩
  clear C2
  have hs2 := hb2.size
  have HB2 := below_tr' HB1 hb2
  have ho_t := own_below ho_t hb2
  clear ho_t
  have C3 := toIntS_any a_d c_d n_d d w2 hn_d (hx_d.below HB2) hs_d'
  go_wp2_with fail
  refine C3.mono ?_
  rintro e w3 ⟨rfl, ho_x_d, hb3⟩
  clear C3
  have hs3 := hb3.size
  have HB3 := below_tr' HB2 hb3
  have hw := hw.below hb3
  have r_ho_x_d := own_rin ho_x_d
  have C4 := implAllX_any _ n_d n_d d w3 hn_d (own_rd ho_x_d) (by omega) (own_nilc ho_x_d)
  go_wp2_with fail
  refine C4.mono ?_
  rintro e w4 ⟨a4, rfl, hg, hb4⟩
  clear C4
  have hs4 := hb4.size
  have HB4 := below_tr' HB3 hb4
  have ho_x_d := own_below ho_x_d hb4
  have hw := hw.below hb4
  have C5 := eqGraphS_any a4 a2 (allV d).length c2 (allV d).length n_d (allV d) w4 rfl hg.rdG hw.rdG hW7.1 hW7.2
  go_wp2_with fail
  refine C5.mono ?_
  rintro e w5 ⟨rfl, hb5⟩
  clear C5
  have hs5 := hb5.size
  have HB5 := below_tr' HB4 hb5
  have ho_x_d := own_below ho_x_d hb5
  have hw := hw.below hb5
  have hg := hg.below hb5
  have C6 := toIntS_any a_d c_d n_d d w5 hn_d (hx_d.below HB5) hs_d'
  go_wp2_with fail
  refine C6.mono ?_
  rintro e w6 ⟨rfl, ho_t6, hb6⟩
  clear C6
  have ap1 := apart_of ho_x_d ho_t6
  have hs6 := hb6.size
  have HB6 := below_tr' HB5 hb6
  have ho_x_d := own_below ho_x_d hb6
  have hw := hw.below hb6
  have hg := hg.below hb6
  have r_ho_t6 := own_rin ho_t6
  have C7 := eqIntS_b _ _ n_d n_d n_d n_d d d w6 hn_d hn_d (own_rd ho_x_d) (own_rd ho_t6) (by omega) (by omega) true (decide_eq_true rfl)
  go_wp2_with fail
  refine C7.mono ?_
  rintro e w7 ⟨rfl, hb7⟩
  clear C7
  have hs7 := hb7.size
  have HB7 := below_tr' HB6 hb7
  have ho_x_d := own_below ho_x_d hb7
  have ho_t6 := own_below ho_t6 hb7
  have hw := hw.below hb7
  have hg := hg.below hb7
  clear ho_t6
  have hk8 := ho_x_d
  have C8 := markIntS_any _ _ _ n_d n_d _ 1 w7 ho_x_d (by omega) (by omega) (by omega)
  go_wp2_with fail
  refine C8.mono ?_
  rintro e w8 ⟨rfl, hm8, hg8⟩
  clear C8
  have HB8 := below_mark HB7 ho_x_d (Nat.le_refl _) HB2.size hg8
  have ho_x_d := hm8
  clear hm8
  have hs8 := hg8.size
  have fr8 := MarkFr.row r_ho_x_d (below_row (Below.refl _ _) (by omega) hk8 hg8) hg8
  have hw := hw.fr fr8 (by omega)
  have hg := hg.fr fr8 (by omega)
  clear hk8 fr8
  have C9 := eqGraphS_any a4 a2 (allV d).length c2 (allV d).length n_d (allV d) w8 rfl hg.rdG hw.rdG hW7.1 hW7.2
  go_wp2_with fail
  refine C9.mono ?_
  rintro e w9 ⟨rfl, hb9⟩
  clear C9
  have hs9 := hb9.size
  have HB9 := below_tr' HB8 hb9
  have ho_x_d := own_below ho_x_d hb9
  have hw := hw.below hb9
  have hg := hg.below hb9
  clear ho_x_d
  have C10 := markHG_any 1 (allV d).length hg rfl hW7.1 hW7.2 (by omega) (by omega) (by omega)
  go_wp2_with fail
  refine C10.mono ?_
  rintro e w10 ⟨rfl, hm10, fr10⟩
  clear C10
  have hs10 := fr10.1.size
  have HB10 := HB9.trans (fr10.1.mono (by omega))
  have hw := hw.fr fr10 (by omega)
  have hg := hm10
  clear hm10 fr10
  have C11 := heldGraphS_any a4 (allV d).length (allV d).length 1 (allV d) w10 rfl hg.held hW7.1 hW7.2 (by omega) (by omega)
  go_wp2_with fail
  refine C11.mono ?_
  rintro e w10 ⟨rfl, rfl⟩
  clear C11
  have C12 := toIntS_any a_d c_d n_d d w10 hn_d (hx_d.below HB10) hs_d'
  go_wp2_with fail
  refine C12.mono ?_
  rintro e w12 ⟨rfl, ho_t, hb12⟩
  clear C12
  have hs12 := hb12.size
  have HB12 := below_tr' HB10 hb12
  have hw := hw.below hb12
  have hg := hg.below hb12
  have r_ho_t := own_rin ho_t
  have C13 := implAllX_any _ n_d n_d d w12 hn_d (own_rd ho_t) (by omega) (own_nilc ho_t)
  go_wp2_with fail
  refine C13.mono ?_
  rintro e w13 ⟨a13, rfl, hh, hb13⟩
  clear C13
  have hs13 := hb13.size
  have HB13 := below_tr' HB12 hb13
  have ho_t := own_below ho_t hb13
  have hw := hw.below hb13
  have hg := hg.below hb13
  clear ho_t
  have C14 := eqGraphS_any a13 a2 (allV d).length c2 (allV d).length n_d (allV d) w13 rfl hh.rdG hw.rdG hW7.1 hW7.2
  go_wp2_with fail
  refine C14.mono ?_
  rintro e w14 ⟨rfl, hb14⟩
  clear C14
  have hs14 := hb14.size
  have HB14 := below_tr' HB13 hb14
  have hw := hw.below hb14
  have hg := hg.below hb14
  have hh := hh.below hb14
  clear hh hw
  have C15 := heldGraphS_any a4 (allV d).length (allV d).length 1 (allV d) w14 rfl hg.held hW7.1 hW7.2 (by omega) (by omega)
  go_wp2_with fail
  refine C15.mono ?_
  rintro e w14 ⟨rfl, rfl⟩
  clear C15
  go_wp2
  go_ret
  exact ⟨rfl, HB14⟩

end Go.Proofs.Ytjghcegacgpehaa
