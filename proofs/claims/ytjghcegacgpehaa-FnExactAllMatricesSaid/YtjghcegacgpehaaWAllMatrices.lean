
/- The walk of the law FnExactAllMatrices. -/
import Derived.Test.YtjghcegacgpehaaAllMS
namespace Go.Proofs.Ytjghcegacgpehaa
open Go.RowKit

set_option maxHeartbeats 4000000 in
set_option linter.unusedVariables false in
theorem walk_FnExactAllMatrices (a_r : Option Addr) (c_r n_r : Nat) (r : List Int) (a_c : Option Addr) (c_c n_c : Nat) (c : List Int) (w : World) (hn_r : r.length = n_r) (hx_r : Rd w a_r (ints r)) (hl_r : n_r ≤ 9223372036854775807) (hn_c : c.length = n_c) (hx_c : Rd w a_c (ints c)) (hl_c : n_c ≤ 9223372036854775807) :
    Calls Try.prog 12 #[.slice a_r n_r c_r, .slice a_c n_c c_c] w fun e w' => e = .returned (.bool true) ∧ Below w.heap.size w w' := by
  have hW7 := allM_len r c
  have hK7 := kK_le (k0 := 1) hW7.2 (allM r c).length (Nat.le_refl _)
  have HB0 := Below.refl w.heap.size w
  by_cases hs_r : 1048576 < n_r
  · go_enter Try.func12, Try.ntmps12
    go_wp2
    go_ret
    exact ⟨rfl, HB0⟩
  have hs_r' : n_r ≤ 1048576 := by omega
  by_cases hs_c : 1048576 < n_c
  · go_enter Try.func12, Try.ntmps12
    go_wp2
    go_ret
    exact ⟨rfl, HB0⟩
  have hs_c' : n_c ≤ 1048576 := by omega
  go_enter Try.func12, Try.ntmps12
  have C1 := toIntS_any a_r c_r n_r r w hn_r (hx_r.below HB0) hs_r'
  go_wp2_with fail
  refine C1.mono ?_
  rintro e w1 ⟨rfl, ho_t_r, hb1⟩
  clear C1
  have hs1 := hb1.size
  have HB1 := below_tr' HB0 hb1
  have r_ho_t_r := own_rin ho_t_r
  have C2 := toIntS_any a_c c_c n_c c w1 hn_c (hx_c.below HB1) hs_c'
  go_wp2_with fail
  refine C2.mono ?_
  rintro e w2 ⟨rfl, ho_t_c, hb2⟩
  clear C2
  have ap1 := apart_of ho_t_r ho_t_c
  have hs2 := hb2.size
  have HB2 := below_tr' HB1 hb2
  have ho_t_r := own_below ho_t_r hb2
  have r_ho_t_c := own_rin ho_t_c
  have C3 := specAllM_any _ _ n_r n_c n_r n_c r c w2 hn_r hn_c (own_rd ho_t_r) (own_rd ho_t_c) (by omega) (by omega)
  go_wp2_with fail
  refine C3.mono ?_
  rintro e w3 ⟨a3, c3, rfl, hw, hb3⟩
  clear C3
  have hs3 := hb3.size
  have HB3 := below_tr' HB2 hb3
  have ho_t_r := own_below ho_t_r hb3
  have ho_t_c := own_below ho_t_c hb3
  clear ho_t_r
  clear ho_t_c
  have C4 := toIntS_any a_r c_r n_r r w3 hn_r (hx_r.below HB3) hs_r'
  go_wp2_with fail
  refine C4.mono ?_
  rintro e w4 ⟨rfl, ho_x_r, hb4⟩
  clear C4
  have hs4 := hb4.size
  have HB4 := below_tr' HB3 hb4
  have hw := hw.below hb4
  have r_ho_x_r := own_rin ho_x_r
  have C5 := toIntS_any a_c c_c n_c c w4 hn_c (hx_c.below HB4) hs_c'
  go_wp2_with fail
  refine C5.mono ?_
  rintro e w5 ⟨rfl, ho_x_c, hb5⟩
  clear C5
  have ap2 := apart_of ho_x_r ho_x_c
  have hs5 := hb5.size
  have HB5 := below_tr' HB4 hb5
  have ho_x_r := own_below ho_x_r hb5
  have hw := hw.below hb5
  have r_ho_x_c := own_rin ho_x_c
  have C6 := implAllM_any _ _ n_r n_c n_r n_c r c w5 hn_r hn_c (own_rd ho_x_r) (own_rd ho_x_c) (by omega) (by omega)
  go_wp2_with fail
  refine C6.mono ?_
  rintro e w6 ⟨a6, rfl, hg, hb6⟩
  clear C6
  have hs6 := hb6.size
  have HB6 := below_tr' HB5 hb6
  have ho_x_r := own_below ho_x_r hb6
  have ho_x_c := own_below ho_x_c hb6
  have hw := hw.below hb6
  have C7 := eqIntSSS_any a6 a3 (allM r c).length c3 (allM r c).length (allM r c) w6 rfl hg.rdK hw.rdK hW7.1 hW7.2
  go_wp2_with fail
  refine C7.mono ?_
  rintro e w7 ⟨rfl, hb7⟩
  clear C7
  have hs7 := hb7.size
  have HB7 := below_tr' HB6 hb7
  have ho_x_r := own_below ho_x_r hb7
  have ho_x_c := own_below ho_x_c hb7
  have hw := hw.below hb7
  have hg := hg.below hb7
  have C8 := toIntS_any a_r c_r n_r r w7 hn_r (hx_r.below HB7) hs_r'
  go_wp2_with fail
  refine C8.mono ?_
  rintro e w8 ⟨rfl, ho_t8, hb8⟩
  clear C8
  have ap3 := apart_of ho_x_r ho_t8
  have ap4 := apart_of ho_x_c ho_t8
  have hs8 := hb8.size
  have HB8 := below_tr' HB7 hb8
  have ho_x_r := own_below ho_x_r hb8
  have ho_x_c := own_below ho_x_c hb8
  have hw := hw.below hb8
  have hg := hg.below hb8
  have r_ho_t8 := own_rin ho_t8
  have C9 := eqIntS_b _ _ n_r n_r n_r n_r r r w8 hn_r hn_r (own_rd ho_x_r) (own_rd ho_t8) (by omega) (by omega) true (decide_eq_true rfl)
  go_wp2_with fail
  refine C9.mono ?_
  rintro e w9 ⟨rfl, hb9⟩
  clear C9
  have hs9 := hb9.size
  have HB9 := below_tr' HB8 hb9
  have ho_x_r := own_below ho_x_r hb9
  have ho_x_c := own_below ho_x_c hb9
  have ho_t8 := own_below ho_t8 hb9
  have hw := hw.below hb9
  have hg := hg.below hb9
  clear ho_t8
  have C10 := toIntS_any a_c c_c n_c c w9 hn_c (hx_c.below HB9) hs_c'
  go_wp2_with fail
  refine C10.mono ?_
  rintro e w10 ⟨rfl, ho_t10, hb10⟩
  clear C10
  have ap5 := apart_of ho_x_r ho_t10
  have ap6 := apart_of ho_x_c ho_t10
  have hs10 := hb10.size
  have HB10 := below_tr' HB9 hb10
  have ho_x_r := own_below ho_x_r hb10
  have ho_x_c := own_below ho_x_c hb10
  have hw := hw.below hb10
  have hg := hg.below hb10
  have r_ho_t10 := own_rin ho_t10
  have C11 := eqIntS_b _ _ n_c n_c n_c n_c c c w10 hn_c hn_c (own_rd ho_x_c) (own_rd ho_t10) (by omega) (by omega) true (decide_eq_true rfl)
  go_wp2_with fail
  refine C11.mono ?_
  rintro e w11 ⟨rfl, hb11⟩
  clear C11
  have hs11 := hb11.size
  have HB11 := below_tr' HB10 hb11
  have ho_x_r := own_below ho_x_r hb11
  have ho_x_c := own_below ho_x_c hb11
  have ho_t10 := own_below ho_t10 hb11
  have hw := hw.below hb11
  have hg := hg.below hb11
  clear ho_t10
  have hk12 := ho_x_r
  have C12 := markIntS_any _ _ _ n_r n_r _ 1 w11 ho_x_r (by omega) (by omega) (by omega)
  go_wp2_with fail
  refine C12.mono ?_
  rintro e w12 ⟨rfl, hm12, hg12⟩
  clear C12
  have HB12 := below_mark HB11 ho_x_r (Nat.le_refl _) HB3.size hg12
  have ho_x_c := own_kept ho_x_c hg12 ap2.symm
  have ho_x_r := hm12
  clear hm12
  have hs12 := hg12.size
  have fr12 := MarkFr.row r_ho_x_r (below_row (Below.refl _ _) (by omega) hk12 hg12) hg12
  have hw := hw.fr fr12 (by omega)
  have hg := hg.fr fr12 (by omega)
  clear hk12 fr12
  have hk13 := ho_x_c
  have C13 := markIntS_any _ _ _ n_c n_c _ (1 + (n_r : Int)) w12 ho_x_c (by omega) (by omega) (by omega)
  go_wp2_with fail
  refine C13.mono ?_
  rintro e w13 ⟨rfl, hm13, hg13⟩
  clear C13
  have HB13 := below_mark HB12 ho_x_c (Nat.le_refl _) HB4.size hg13
  have ho_x_r := own_kept ho_x_r hg13 ap2
  have ho_x_c := hm13
  clear hm13
  have hs13 := hg13.size
  have fr13 := MarkFr.row r_ho_x_c (below_row (Below.refl _ _) (by omega) hk13 hg13) hg13
  have hw := hw.fr fr13 (by omega)
  have hg := hg.fr fr13 (by omega)
  clear hk13 fr13
  have C14 := eqIntSSS_any a6 a3 (allM r c).length c3 (allM r c).length (allM r c) w13 rfl hg.rdK hw.rdK hW7.1 hW7.2
  go_wp2_with fail
  refine C14.mono ?_
  rintro e w14 ⟨rfl, hb14⟩
  clear C14
  have hs14 := hb14.size
  have HB14 := below_tr' HB13 hb14
  have ho_x_r := own_below ho_x_r hb14
  have ho_x_c := own_below ho_x_c hb14
  have hw := hw.below hb14
  have hg := hg.below hb14
  clear ho_x_r
  clear ho_x_c
  have C15 := markHC_any 1 (allM r c).length hg rfl hW7.1 hW7.2 (by omega) (by omega) (by omega)
  go_wp2_with fail
  refine C15.mono ?_
  rintro e w15 ⟨rfl, hm15, fr15⟩
  clear C15
  have hs15 := fr15.1.size
  have HB15 := HB14.trans (fr15.1.mono (by omega))
  have hw := hw.fr fr15 (by omega)
  have hg := hm15
  clear hm15 fr15
  have C16 := heldIntSSS_any a6 (allM r c).length (allM r c).length 1 (allM r c) w15 rfl hg.rdK hW7.1 hW7.2 (by omega) (by omega)
  go_wp2_with fail
  refine C16.mono ?_
  rintro e w16 ⟨rfl, hb16⟩
  clear C16
  have hs16 := hb16.size
  have HB16 := below_tr' HB15 hb16
  have hw := hw.below hb16
  have hg := hg.below hb16
  have C17 := toIntS_any a_r c_r n_r r w16 hn_r (hx_r.below HB16) hs_r'
  go_wp2_with fail
  refine C17.mono ?_
  rintro e w17 ⟨rfl, ho_t_r, hb17⟩
  clear C17
  have hs17 := hb17.size
  have HB17 := below_tr' HB16 hb17
  have hw := hw.below hb17
  have hg := hg.below hb17
  have r_ho_t_r := own_rin ho_t_r
  have C18 := toIntS_any a_c c_c n_c c w17 hn_c (hx_c.below HB17) hs_c'
  go_wp2_with fail
  refine C18.mono ?_
  rintro e w18 ⟨rfl, ho_t_c, hb18⟩
  clear C18
  have ap7 := apart_of ho_t_r ho_t_c
  have hs18 := hb18.size
  have HB18 := below_tr' HB17 hb18
  have ho_t_r := own_below ho_t_r hb18
  have hw := hw.below hb18
  have hg := hg.below hb18
  have r_ho_t_c := own_rin ho_t_c
  have C19 := implAllM_any _ _ n_r n_c n_r n_c r c w18 hn_r hn_c (own_rd ho_t_r) (own_rd ho_t_c) (by omega) (by omega)
  go_wp2_with fail
  refine C19.mono ?_
  rintro e w19 ⟨a19, rfl, hh, hb19⟩
  clear C19
  have hs19 := hb19.size
  have HB19 := below_tr' HB18 hb19
  have ho_t_r := own_below ho_t_r hb19
  have ho_t_c := own_below ho_t_c hb19
  have hw := hw.below hb19
  have hg := hg.below hb19
  clear ho_t_r
  clear ho_t_c
  have C20 := eqIntSSS_any a19 a3 (allM r c).length c3 (allM r c).length (allM r c) w19 rfl hh.rdK hw.rdK hW7.1 hW7.2
  go_wp2_with fail
  refine C20.mono ?_
  rintro e w20 ⟨rfl, hb20⟩
  clear C20
  have hs20 := hb20.size
  have HB20 := below_tr' HB19 hb20
  have hw := hw.below hb20
  have hg := hg.below hb20
  have hh := hh.below hb20
  clear hh hw
  have C21 := heldIntSSS_any a6 (allM r c).length (allM r c).length 1 (allM r c) w20 rfl hg.rdK hW7.1 hW7.2 (by omega) (by omega)
  go_wp2_with fail
  refine C21.mono ?_
  rintro e w21 ⟨rfl, hb21⟩
  clear C21
  have hs21 := hb21.size
  have HB21 := below_tr' HB20 hb21
  have hg := hg.below hb21
  go_wp2
  go_ret
  exact ⟨rfl, HB21⟩

end Go.Proofs.Ytjghcegacgpehaa
