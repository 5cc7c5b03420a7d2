/- The walk of the law FnExactValidDegrees. -/
import Derived.Test.YtnjolpdpdmclhaaDeg
namespace Go.Proofs.Ytnjolpdpdmclhaa
open Go.RowKit

set_option maxHeartbeats 400000 in
theorem walk_FnExactValidDegrees (a : Option Addr) (c n : Nat) (xs : List Int) (w : World) (hn : xs.length = n) (hx : Rd w a (ints xs)) (hl : n ≤ 9223372036854775807) :
    Calls Try.prog 4 #[.slice a n c] w fun e w' => e = .returned (.bool true) ∧ Below w.heap.size w w' := by
  by_cases hbig : 1048576 < n
  · go_enter Try.func4, Try.ntmps4
    go_wp2
    go_ret
    exact ⟨rfl, Below.refl _ _⟩
  · have hs : n ≤ 1048576 := by omega
    have T0 := Lib.hid (toIntS_any a c n xs w hn hx hs)
    go_enter Try.func4, Try.ntmps4
    go_wp2_with fail
    refine T0.out.mono ?_
    rintro e w1 ⟨rfl, ho1, hb1⟩
    have V1 := specVD_any _ n n xs w1 hn (own_rd ho1) (by omega)
    go_wp2_with fail
    refine V1.mono ?_
    rintro e w1 ⟨rfl, rfl⟩
    clear V1
    have T2 := toIntS_any a c n xs w1 hn (hx.below hb1) hs
    go_wp2_with fail
    refine T2.mono ?_
    rintro e w2 ⟨rfl, ho2, hb2⟩
    have HB2 := below_tr' hb1 hb2
    clear T2 ho1
    have V3 := implVD_any _ n n xs w2 hn (own_rd ho2) (by omega)
    go_wp2_with fail
    refine V3.mono ?_
    rintro e w3 ⟨rfl, hb3⟩
    have HB3 := below_tr' HB2 hb3
    have ho3 := own_below ho2 hb3
    clear V3
    have T4 := toIntS_any a c n xs w3 hn (hx.below HB3) hs
    go_wp2_with fail
    refine T4.mono ?_
    rintro e w4 ⟨rfl, ho4, hb4⟩
    have HB4 := below_tr' HB3 hb4
    clear T4
    have E5 := eqIntS_b _ _ n n n n xs xs w4 hn hn (own_rd (own_below ho3 hb4)) (own_rd ho4) (by omega) (by omega) true (decide_eq_true rfl)
    go_wp2_with fail
    refine E5.mono ?_
    rintro e w5 ⟨rfl, hb5⟩
    have HB5 := below_tr' HB4 hb5
    go_wp2
    go_ret
    exact ⟨rfl, HB5⟩

end Go.Proofs.Ytnjolpdpdmclhaa
