
/- Numbers that may be degrees: the reference's test and the program's, both are 'validD'. -/
import Derived.Test.YtbiekdhikanhcaaAllIn
namespace Go.Proofs.Ytbiekdhikanhcaa
open Go.RowKit

def validD (xs : List Int) : Bool := allR xs 0 (xs.length - 1) && decide (xs.length ≤ 7)

set_option maxHeartbeats 400000 in
theorem implVD_any (a : Option Addr) (c n : Nat) (xs : List Int) (w : World) (hn : xs.length = n) (hx : Rd w a (ints xs)) (hl : n ≤ 140737488351232) :
    Calls Try.prog 99 #[.slice a n c] w fun e w' => e = .returned (.bool (validD xs)) ∧ Below w.heap.size w w' := by
  have HC := allIn_any a c n xs 0 (n - 1) w hn hx hl
  by_cases h7 : n ≤ 7
  · have HV := Lib.hid (show allR xs 0 (n - 1) = validD xs by simp [validD, hn, h7])
    generalize allR xs 0 (n - 1) = V at *
    clear hx
    go_enter Try.func99, Try.ntmps99
    go_wp2_with (go_at_call 72; refine HC.mono ?_; rintro e w' ⟨rfl, hb⟩)
    go_ret
    exact ⟨ret_bool HV.out, by assumption⟩
  · have HV := Lib.hid (show false = validD xs by simp [validD, hn, h7])
    clear hx HC
    go_enter Try.func99, Try.ntmps99
    go_wp2
    go_ret
    exact ⟨ret_bool HV.out, Below.refl _ _⟩

end Go.Proofs.Ytbiekdhikanhcaa
