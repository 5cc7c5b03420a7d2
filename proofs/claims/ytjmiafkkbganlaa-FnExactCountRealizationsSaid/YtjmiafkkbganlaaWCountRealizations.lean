
/- The walk of the law FnExactCountRealizations. -/
import Derived.Test.YtjmiafkkbganlaaCountI
namespace Go.Proofs.Ytjmiafkkbganlaa
open Go.RowKit

set_option maxHeartbeats 4000000 in
set_option linter.unusedVariables false in
theorem walk_FnExactCountRealizations (a_d : Option Addr) (c_d n_d : Nat) (d : List Int) (w : World) (hn_d : d.length = n_d) (hx_d : Rd w a_d (ints d)) (hl_d : n_d ≤ 9223372036854775807) :
    Calls Try.prog 4 #[.slice a_d n_d c_d] w fun e w' => e = .returned (.bool true) ∧ Below w.heap.size w w' := by
  by_cases hs_d : 1048576 < n_d
  · go_enter Try.func4, Try.ntmps4
    go_wp2
    go_ret
    exact ⟨rfl, Below.refl _ _⟩
  have hs_d' : n_d ≤ 1048576 := by omega
  have HB0 := Below.refl w.heap.size w
  go_enter Try.func4, Try.ntmps4
  have C1 := toIntS_any a_d c_d n_d d w hn_d (hx_d.below HB0) hs_d'
  go_wp2_with fail
  refine C1.mono ?_
  rintro e w1 ⟨rfl, ho_w_d, hb1⟩
  clear C1
  have HB1 := below_tr' HB0 hb1
  have C2 := specCountRealizations_any _ n_d n_d d w1 hn_d (own_rd ho_w_d) (by omega) (own_nilc ho_w_d)
  go_wp2_with fail
  refine C2.mono ?_
  rintro e w2 ⟨rfl, hb2⟩
  clear C2
  have HB2 := below_tr' HB1 hb2
  have ho_w_d := own_below ho_w_d hb2
  clear ho_w_d
  have C3 := toIntS_any a_d c_d n_d d w2 hn_d (hx_d.below HB2) hs_d'
  go_wp2_with fail
  refine C3.mono ?_
  rintro e w3 ⟨rfl, ho_x_d, hb3⟩
  clear C3
  have HB3 := below_tr' HB2 hb3
  have C4 := implCountRealizations_any _ n_d n_d d w3 hn_d (own_rd ho_x_d) (by omega) (own_nilc ho_x_d)
  go_wp2_with fail
  refine C4.mono ?_
  rintro e w4 ⟨rfl, hb4⟩
  clear C4
  have HB4 := below_tr' HB3 hb4
  have ho_x_d := own_below ho_x_d hb4
  have C5 := toIntS_any a_d c_d n_d d w4 hn_d (hx_d.below HB4) hs_d'
  go_wp2_with fail
  refine C5.mono ?_
  rintro e w5 ⟨rfl, ho_t5, hb5⟩
  clear C5
  have ap1 := apart_of ho_x_d ho_t5
  have HB5 := below_tr' HB4 hb5
  have ho_x_d := own_below ho_x_d hb5
  have C6 := eqIntS_b _ _ n_d n_d n_d n_d d d w5 hn_d hn_d (own_rd ho_x_d) (own_rd ho_t5) (by omega) (by omega) true (decide_eq_true rfl)
  go_wp2_with fail
  refine C6.mono ?_
  rintro e w6 ⟨rfl, hb6⟩
  clear C6
  have HB6 := below_tr' HB5 hb6
  have ho_x_d := own_below ho_x_d hb6
  have ho_t5 := own_below ho_t5 hb6
  clear ho_t5
  go_wp2
  go_ret
  exact ⟨rfl, HB6⟩

end Go.Proofs.Ytjmiafkkbganlaa
