
/- The program's CountRealizations. -/
import Derived.Test.YtjghcegacgpehaaReal
import Derived.Test.YtjghcegacgpehaaSubW4
import Derived.Test.YtjghcegacgpehaaWhich
namespace Go.Proofs.Ytjghcegacgpehaa
open Go.RowKit

theorem implListed_any (a : Option Addr) (c n m : Nat) (xs : List Int) (w : World) (hn : xs.length = n) (hx : Rd w a (ints xs)) (hl : n ≤ 140737488351232) :
    Calls Try.prog 139 #[.slice a n c, .int .i64 m] w fun e w' => e = .returned (.bool (validD xs && decide (n ≤ m))) ∧ Below w.heap.size w w' := by
  have C1 := implVD_any a c n xs w hn hx hl
  have hd : decide ((n : Int) ≤ (m : Int)) = decide (n ≤ m) := by simp only [decide_eq_decide]; omega
  clear hx
  cases hv : validD xs
  · rw [hv] at C1
    clear hv
    go_enter Try.func139, Try.ntmps139
    go_wp2_with fail
    refine C1.mono ?_
    rintro e w1 ⟨rfl, hb⟩
    clear C1
    go_wp2
    go_ret
    exact ⟨rfl, hb⟩
  · rw [hv] at C1
    clear hv
    go_enter Try.func139, Try.ntmps139
    go_wp2_with fail
    refine C1.mono ?_
    rintro e w1 ⟨rfl, hb⟩
    clear C1
    go_wp2
    go_ret
    exact ⟨by rw [Bool.true_and, ← hd]; rfl, hb⟩

/-- The state of the counter: the number in its cell. -/
def CntSt (A : Nat) (s : Nat) (l : List Nat) (w : World) : Prop := l = [A] ∧ w.heap[A]? = some (.cells #[.int .i64 (s : Int)] 3 (0, 0))
theorem cnt_keeps (A : Nat) : Keeps (CntSt A) := by
  refine ⟨?_, ?_⟩
  · rintro s l w w' ⟨rfl, h⟩ hs
    exact ⟨rfl, (hs A (List.mem_singleton.2 rfl)).trans h⟩
  · rintro s l w ⟨rfl, h⟩ i hi
    rw [List.mem_singleton.1 hi]
    exact blk_lt h
end Go.Proofs.Ytjghcegacgpehaa
