
/- The walk of the law FnExactIsDigraphic. -/
import Derived.Test.YtjghcegacgpehaaDigS
import Derived.Test.YtjghcegacgpehaaDigI
namespace Go.Proofs.Ytjghcegacgpehaa
open Go.RowKit

set_option maxHeartbeats 4000000 in
set_option linter.unusedVariables false in
theorem walk_FnExactIsDigraphic (a_r : Option Addr) (c_r n_r : Nat) (r : List Int) (a_c : Option Addr) (c_c n_c : Nat) (c : List Int) (w : World) (hn_r : r.length = n_r) (hx_r : Rd w a_r (ints r)) (hl_r : n_r ≤ 9223372036854775807) (hn_c : c.length = n_c) (hx_c : Rd w a_c (ints c)) (hl_c : n_c ≤ 9223372036854775807) :
    Calls Try.prog 6 #[.slice a_r n_r c_r, .slice a_c n_c c_c] w fun e w' => e = .returned (.bool true) ∧ Below w.heap.size w w' := by
  by_cases hs_r : 1048576 < n_r
  · go_enter Try.func6, Try.ntmps6
    go_wp2
    go_ret
    exact ⟨rfl, Below.refl _ _⟩
  have hs_r' : n_r ≤ 1048576 := by omega
  by_cases hs_c : 1048576 < n_c
  · go_enter Try.func6, Try.ntmps6
    go_wp2
    go_ret
    exact ⟨rfl, Below.refl _ _⟩
  have hs_c' : n_c ≤ 1048576 := by omega
  have HB0 := Below.refl w.heap.size w
  go_enter Try.func6, Try.ntmps6
  have C1 := toIntS_any a_r c_r n_r r w hn_r (hx_r.below HB0) hs_r'
  go_wp2_with fail
  refine C1.mono ?_
  rintro e w1 ⟨rfl, ho_w_r, hb1⟩
  clear C1
  have HB1 := below_tr' HB0 hb1
  have C2 := toIntS_any a_c c_c n_c c w1 hn_c (hx_c.below HB1) hs_c'
  go_wp2_with fail
  refine C2.mono ?_
  rintro e w2 ⟨rfl, ho_w_c, hb2⟩
  clear C2
  have ap1 := apart_of ho_w_r ho_w_c
  have HB2 := below_tr' HB1 hb2
  have ho_w_r := own_below ho_w_r hb2
  have C3 := specDig_any _ _ n_r n_c n_r n_c r c w2 hn_r hn_c (own_rd ho_w_r) (own_rd ho_w_c) (by omega) (by omega)
  go_wp2_with fail
  refine C3.mono ?_
  rintro e w3 ⟨rfl, hb3⟩
  clear C3
  have HB3 := below_tr' HB2 hb3
  have ho_w_r := own_below ho_w_r hb3
  have ho_w_c := own_below ho_w_c hb3
  clear ho_w_r ho_w_c
  have C4 := toIntS_any a_r c_r n_r r w3 hn_r (hx_r.below HB3) hs_r'
  go_wp2_with fail
  refine C4.mono ?_
  rintro e w4 ⟨rfl, ho_x_r, hb4⟩
  clear C4
  have HB4 := below_tr' HB3 hb4
  have C5 := toIntS_any a_c c_c n_c c w4 hn_c (hx_c.below HB4) hs_c'
  go_wp2_with fail
  refine C5.mono ?_
  rintro e w5 ⟨rfl, ho_x_c, hb5⟩
  clear C5
  have ap2 := apart_of ho_x_r ho_x_c
  have HB5 := below_tr' HB4 hb5
  have ho_x_r := own_below ho_x_r hb5
  have C6 := implDig_any _ _ n_r n_c n_r n_c r c w5 hn_r hn_c (own_rd ho_x_r) (own_rd ho_x_c) (by omega) (by omega)
  go_wp2_with fail
  refine C6.mono ?_
  rintro e w6 ⟨rfl, hb6⟩
  clear C6
  have HB6 := below_tr' HB5 hb6
  have ho_x_r := own_below ho_x_r hb6
  have ho_x_c := own_below ho_x_c hb6
  have C7 := toIntS_any a_r c_r n_r r w6 hn_r (hx_r.below HB6) hs_r'
  go_wp2_with fail
  refine C7.mono ?_
  rintro e w7 ⟨rfl, ho_t7, hb7⟩
  clear C7
  have ap3 := apart_of ho_x_r ho_t7
  have ap4 := apart_of ho_x_c ho_t7
  have HB7 := below_tr' HB6 hb7
  have ho_x_r := own_below ho_x_r hb7
  have ho_x_c := own_below ho_x_c hb7
  have C8 := eqIntS_b _ _ n_r n_r n_r n_r r r w7 hn_r hn_r (own_rd ho_x_r) (own_rd ho_t7) (by omega) (by omega) true (decide_eq_true rfl)
  go_wp2_with fail
  refine C8.mono ?_
  rintro e w8 ⟨rfl, hb8⟩
  clear C8
  have HB8 := below_tr' HB7 hb8
  have ho_x_r := own_below ho_x_r hb8
  have ho_x_c := own_below ho_x_c hb8
  have ho_t7 := own_below ho_t7 hb8
  clear ho_t7
  have C9 := toIntS_any a_c c_c n_c c w8 hn_c (hx_c.below HB8) hs_c'
  go_wp2_with fail
  refine C9.mono ?_
  rintro e w9 ⟨rfl, ho_t9, hb9⟩
  clear C9
  have ap5 := apart_of ho_x_r ho_t9
  have ap6 := apart_of ho_x_c ho_t9
  have HB9 := below_tr' HB8 hb9
  have ho_x_r := own_below ho_x_r hb9
  have ho_x_c := own_below ho_x_c hb9
  have C10 := eqIntS_b _ _ n_c n_c n_c n_c c c w9 hn_c hn_c (own_rd ho_x_c) (own_rd ho_t9) (by omega) (by omega) true (decide_eq_true rfl)
  go_wp2_with fail
  refine C10.mono ?_
  rintro e w10 ⟨rfl, hb10⟩
  clear C10
  have HB10 := below_tr' HB9 hb10
  have ho_x_r := own_below ho_x_r hb10
  have ho_x_c := own_below ho_x_c hb10
  have ho_t9 := own_below ho_t9 hb10
  clear ho_t9
  go_wp2
  go_ret
  exact ⟨rfl, HB10⟩

end Go.Proofs.Ytjghcegacgpehaa
