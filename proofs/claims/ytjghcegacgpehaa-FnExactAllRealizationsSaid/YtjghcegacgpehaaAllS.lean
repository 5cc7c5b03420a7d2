
/- The reference's AllRealizations. -/
import Derived.Test.YtjghcegacgpehaaGraphL
namespace Go.Proofs.Ytjghcegacgpehaa
open Go.RowKit

set_option maxHeartbeats 2000000 in
theorem specAllReals_any (a : Option Addr) (c n : Nat) (xs : List Int) (w : World) (hn : xs.length = n) (hx : Rd w a (ints xs)) (hl : n ≤ 1048576) (hnil : a = none → n = 0 ∧ c = 0) :
    Calls Try.prog 64 #[.slice a n c] w fun e w' => ∃ a' d, e = .returned (.slice a' (allV xs).length d) ∧ RdG w' a' n (allV xs) ∧ Below w.heap.size w w' := by
  have C1 := specValidDegrees_any a c n xs w hn hx (by omega)
  have hnone : ¬ (validD xs = true ∧ n ≤ 5) → allV xs = [] := fun h => by rw [allV, if_neg (by rw [hn]; exact h)]
  by_cases hv : validD xs = true
  · have C2 := realizations_any a c n xs w hn hx hv hnil
    by_cases h5 : n ≤ 5
    · have HR := Lib.hid (show allV xs = realsN xs by rw [allV, if_pos ⟨hv, by omega⟩])
      rw [hv] at C1
      have hd : decide ((5 : Int) < (n : Int)) = false := decide_eq_false (by omega)
      clear hv hx hnone
      go_enter Try.func64, Try.ntmps64
      go_wp2_with fail
      refine C1.mono ?_
      rintro e w1 ⟨rfl, rfl⟩
      clear C1
      go_wp2_with fail
      refine C2.mono ?_
      rintro e w2 ⟨a2, c2, vs, rfl, hLG, hb⟩
      have HG := Lib.hid hLG.rdG
      clear C2 hLG
      go_wp2
      go_ret
      exact ⟨a2, c2, by rw [HR.out]; rfl, by rw [HR.out]; exact HG.out, hb⟩
    · have HR := Lib.hid (hnone (fun h => h5 h.2))
      have hd : decide ((5 : Int) < (n : Int)) = true := decide_eq_true (by omega)
      rw [hv] at C1
      clear hv hx hnone C2
      go_enter Try.func64, Try.ntmps64
      go_wp2_with fail
      refine C1.mono ?_
      rintro e w1 ⟨rfl, rfl⟩
      clear C1
      go_wp2
      go_ret
      exact ⟨none, 0, by rw [HR.out]; rfl, by rw [HR.out]; exact (fun r h => by simp at h), Below.refl _ _⟩
  · have HR := Lib.hid (hnone (fun h => hv h.1))
    rw [Bool.eq_false_iff.2 hv] at C1
    clear hv hx hnone
    go_enter Try.func64, Try.ntmps64
    go_wp2_with fail
    refine C1.mono ?_
    rintro e w1 ⟨rfl, rfl⟩
    clear C1
    go_wp2
    go_ret
    exact ⟨none, 0, by rw [HR.out]; rfl, by rw [HR.out]; exact (fun r h => by simp at h), Below.refl _ _⟩

end Go.Proofs.Ytjghcegacgpehaa
