
/- Numbers in a range: the reference's inRange and the program's in. -/
import Derived.Test.YtjghcegacgpehaaBase
import Derived.Test.YtjghcegacgpehaaChecked
namespace Go.Proofs.Ytjghcegacgpehaa
open Go.RowKit

def inR (n lo hi : Int) : Bool := decide (lo ≤ n) && decide (n ≤ hi)
theorem inR_true {n lo hi : Int} : inR n lo hi = true ↔ lo ≤ n ∧ n ≤ hi := by simp [inR]
theorem inR_false {n lo hi : Int} : inR n lo hi = false ↔ n < lo ∨ hi < n := by
  simp only [inR, Bool.and_eq_false_iff, decide_eq_false_iff_not]; omega
theorem ret_bool {a b : Bool} (h : a = b) : Ending.returned (.bool a) = .returned (.bool b) := by rw [h]
theorem ret_int {a b : Int} (h : a = b) : Ending.returned (.int .i64 a) = .returned (.int .i64 b) := by rw [h]

theorem inRange_any (n lo hi : Int) (w : World) :
    Calls Try.prog 107 #[.int .i64 n, .int .i64 lo, .int .i64 hi] w fun e w' => e = .returned (.bool (inR n lo hi)) ∧ w' = w := by
  by_cases h : lo ≤ n
  · have HR := Lib.hid (show decide (n ≤ hi) = inR n lo hi by simp [inR, h])
    go_enter Try.func107, Try.ntmps107
    go_wp2
    go_ret
    exact ⟨ret_bool HR.out, rfl⟩
  · have HR := Lib.hid (show false = inR n lo hi by simp [inR, h])
    go_enter Try.func107, Try.ntmps107
    go_wp2
    go_ret
    exact ⟨ret_bool HR.out, rfl⟩

theorem in_any (n lo hi : Int) (w : World) :
    Calls Try.prog 90 #[.int .i64 n, .int .i64 lo, .int .i64 hi] w fun e w' => e = .returned (.bool (inR n lo hi)) ∧ w' = w := by
  by_cases h : lo ≤ n
  · have HR := Lib.hid (show decide (n ≤ hi) = inR n lo hi by simp [inR, h])
    go_enter Try.func90, Try.ntmps90
    go_wp2
    go_ret
    exact ⟨ret_bool HR.out, rfl⟩
  · have HR := Lib.hid (show false = inR n lo hi by simp [inR, h])
    go_enter Try.func90, Try.ntmps90
    go_wp2
    go_ret
    exact ⟨ret_bool HR.out, rfl⟩

end Go.Proofs.Ytjghcegacgpehaa
