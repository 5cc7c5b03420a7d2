/- The walk of the law FnExactParseDegrees. -/
import Derived.Test.YtnjolpdpdmclhaaParse
namespace Go.Proofs.Ytnjolpdpdmclhaa
open Go.RowKit

set_option maxHeartbeats 4000000 in
set_option linter.unusedVariables false in
theorem walk_FnExactParseDegrees (s : ByteArray) (w : World) (hl_s : s.size ≤ 9223372036854775807) :
    Calls Try.prog 9 #[.string s] w fun e w' => e = .returned (.bool true) ∧ Below w.heap.size w w' := by
  by_cases hs_s : 1048576 < s.size
  · go_enter Try.func9, Try.ntmps9
    go_wp2
    go_ret
    exact ⟨rfl, Below.refl _ _⟩
  have hs_s' : s.size ≤ 1048576 := by omega
  have HB0 := Below.refl w.heap.size w
  have hW7 := pdL_len (s := s)
  go_enter Try.func9, Try.ntmps9
  have C1 := specPD_any s w hs_s'
  go_wp2_with fail
  refine C1.mono ?_
  rintro e w1 ⟨a0, c0, d0, rfl, ho_w, hb1⟩
  clear C1
  have HB1 := below_tr' HB0 hb1
  have C2 := implPD_any s w1 hs_s'
  go_wp2_with fail
  refine C2.mono ?_
  rintro e w2 ⟨a1, c1, d1, rfl, ho_g, hb2⟩
  clear C2
  have ap1 := apart_of ho_w ho_g
  have HB2 := below_tr' HB1 hb2
  have ho_w := own_below ho_w hb2
  have C3 := eqIntS_b a1 a0 c1 c0 (pdL s).length (pdL s).length _ _ w2 rfl rfl (own_rd ho_g) (own_rd ho_w) (by omega) (by omega) true (decide_eq_true rfl)
  go_wp2_with fail
  refine C3.mono ?_
  rintro e w3 ⟨rfl, hb3⟩
  clear C3
  have HB3 := below_tr' HB2 hb3
  have ho_w := own_below ho_w hb3
  have ho_g := own_below ho_g hb3
  have C4 := markIntS_any _ a1 _ c1 (pdL s).length _ 1 w3 ho_g (by omega) (by omega) (by omega)
  go_wp2_with fail
  refine C4.mono ?_
  rintro e w4 ⟨rfl, hm4, hg4⟩
  clear C4
  have HB4 := below_mark HB3 ho_g (Nat.le_refl _) HB1.size hg4
  have ho_w := own_kept ho_w hg4 ap1
  have ho_g := hm4
  have C5 := heldIntS_any a1 c1 (pdL s).length 1 w4 (own_rd ho_g) (by omega) (by omega) (by omega)
  go_wp2_with fail
  refine C5.mono ?_
  rintro e w4 ⟨rfl, rfl⟩
  clear C5
  have C6 := implPD_any s w4 hs_s'
  go_wp2_with fail
  refine C6.mono ?_
  rintro e w6 ⟨a2, c2, d2, rfl, ho_h, hb6⟩
  clear C6
  have ap2 := apart_of ho_w ho_h
  have ap3 := apart_of ho_g ho_h
  have HB6 := below_tr' HB4 hb6
  have ho_w := own_below ho_w hb6
  have ho_g := own_below ho_g hb6
  have C7 := eqIntS_b a2 a0 c2 c0 (pdL s).length (pdL s).length _ _ w6 rfl rfl (own_rd ho_h) (own_rd ho_w) (by omega) (by omega) true (decide_eq_true rfl)
  go_wp2_with fail
  refine C7.mono ?_
  rintro e w7 ⟨rfl, hb7⟩
  clear C7
  have HB7 := below_tr' HB6 hb7
  have ho_w := own_below ho_w hb7
  have ho_g := own_below ho_g hb7
  have ho_h := own_below ho_h hb7
  have C8 := heldIntS_any a1 c1 (pdL s).length 1 w7 (own_rd ho_g) (by omega) (by omega) (by omega)
  go_wp2_with fail
  refine C8.mono ?_
  rintro e w7 ⟨rfl, rfl⟩
  clear C8
  go_wp2
  go_ret
  exact ⟨rfl, HB7⟩

end Go.Proofs.Ytnjolpdpdmclhaa
