
/- Numbers that may be degrees: the reference's test and the program's, both are 'validD'. -/
import Derived.Test.YtjghcegacgpehaaAllIn
namespace Go.Proofs.Ytjghcegacgpehaa
open Go.RowKit

def validD (xs : List Int) : Bool := allR xs 0 (xs.length - 1) && decide (xs.length ≤ 7)

set_option maxHeartbeats 400000 in
theorem specValidDegrees_any (a : Option Addr) (c n : Nat) (xs : List Int) (w : World) (hn : xs.length = n) (hx : Rd w a (ints xs)) (hl : n ≤ 140737488351232) :
    Calls Try.prog 100 #[.slice a n c] w fun e w' => e = .returned (.bool (validD xs)) ∧ w' = w := by
  go_enter Try.func100, Try.ntmps100
  go_wp2
  go_loop [3] (fun i => ∃ k : Nat, k ≤ n ∧ i = .int .i64 k ∧ ∀ j (hj : j < k) (h : j < xs.length), inR (xs[j]'h) 0 (n - 1) = true) (fun i => n - (intOf i).toNat)
  case atStart => exact ⟨0, by omega, rfl, by intro j hj; omega⟩
  case round =>
    obtain ⟨k, hk, rfl, hall⟩ := hrel
    by_cases hlt : k < n
    · obtain ⟨b1, o1, rfl, c1⟩ := hx.int (k := k) (by omega)
      have hyes : inR (xs[k]'(by omega)) 0 (n - 1) = true → (∀ j (hj : j < k + 1) (h : j < xs.length), inR (xs[j]'h) 0 (n - 1) = true) := by
        intro h0 j hj h
        by_cases e : j = k
        · subst e; exact h0
        · exact hall j (by omega) h
      have hno : inR (xs[k]'(by omega)) 0 (n - 1) = false → validD xs = false := by
        intro h0
        have := allR_no (xs := xs) (lo := 0) (hi := n - 1) (by omega) h0
        simp [validD, hn, this]
      have HN := Lib.hid hall; clear hall
      generalize hX : (xs[k]'(by omega)) = X at *
      clear hX
      have HI := inRange_any X 0 (n - 1) w
      cases hp : inR X 0 (n - 1)
      · have HE := Lib.hid (hno hp); clear hno hyes
        rw [hp] at HI
        clear hp
        go_wp2_with (go_at_call 107; refine HI.mono ?_; rintro e w' ⟨rfl, rfl⟩)
        go_ret
        exact ⟨ret_bool HE.out.symm, rfl⟩
      · have HE := Lib.hid (hyes hp); clear hno hyes
        rw [hp] at HI
        clear hp
        go_wp2_with (go_at_call 107; refine HI.mono ?_; rintro e w' ⟨rfl, rfl⟩)
        go_round
        case rel => exact ⟨k + 1, by omega, by go_num, HE.out⟩
        case measure => simp [intOf]; omega
    · have e : validD xs = decide (n ≤ 7) := by
        have : allR xs 0 (xs.length - 1) = true := allR_yes fun j hj => by rw [hn]; exact hall j (by omega) hj
        simp only [validD]; rw [this, hn]; simp
      have HE := Lib.hid e; clear e hall
      go_wp2
      go_ret
      exact ⟨ret_bool (by rw [HE.out, decide_eq_decide]; omega), rfl⟩

set_option maxHeartbeats 400000 in
theorem implVD_any (a : Option Addr) (c n : Nat) (xs : List Int) (w : World) (hn : xs.length = n) (hx : Rd w a (ints xs)) (hl : n ≤ 140737488351232) :
    Calls Try.prog 36 #[.slice a n c] w fun e w' => e = .returned (.bool (validD xs)) ∧ Below w.heap.size w w' := by
  have HC := allIn_any a c n xs 0 (n - 1) w hn hx hl
  by_cases h7 : n ≤ 7
  · have HV := Lib.hid (show allR xs 0 (n - 1) = validD xs by simp [validD, hn, h7])
    generalize allR xs 0 (n - 1) = V at *
    clear hx
    go_enter Try.func36, Try.ntmps36
    go_wp2_with (go_at_call 91; refine HC.mono ?_; rintro e w' ⟨rfl, hb⟩)
    go_ret
    exact ⟨ret_bool HV.out, by assumption⟩
  · have HV := Lib.hid (show false = validD xs by simp [validD, hn, h7])
    clear hx HC
    go_enter Try.func36, Try.ntmps36
    go_wp2
    go_ret
    exact ⟨ret_bool HV.out, Below.refl _ _⟩

end Go.Proofs.Ytjghcegacgpehaa
