
/- The reference's ValidMatrix. -/
import Derived.Test.YtmlaohohbadgbaaVMat
namespace Go.Proofs.Ytmlaohohbadgbaa
open Go.RowKit

theorem specVM_any (a : Option Addr) (c n : Nat) (m : List (List Int)) (w : World) (hn : m.length = n) (hx : RdM w a m) (hl : n + sumLen m ≤ 1048576) :
    Calls Try.prog 11 #[.slice a n c] w fun e w' => e = .returned (.bool (validM m)) ∧ Below w.heap.size w w' := by
  have C1 := specValidMatrix_any a c n m w hn hx hl
  go_enter Try.func11, Try.ntmps11
  go_wp2_with fail
  refine C1.mono ?_
  rintro e w1 ⟨rfl, hb⟩
  go_wp2
  go_ret
  exact ⟨rfl, hb⟩

end Go.Proofs.Ytmlaohohbadgbaa
