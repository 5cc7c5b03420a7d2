
/- The program's indices. -/
import Derived.Test.YtjghcegacgpehaaInts
import Derived.Test.YtjghcegacgpehaaBlk
namespace Go.Proofs.Ytjghcegacgpehaa
open Go.RowKit

def upI (n : Nat) : List Int := (List.range n).map fun i : Nat => (i : Int)
theorem upI_length (n : Nat) : (upI n).length = n := by simp [upI]
theorem upI_succ (n : Nat) : upI (n + 1) = upI n ++ [(n : Int)] := by simp [upI, List.range_succ]

theorem indices_any (n : Nat) (w : World) (hn : n ≤ 1000) :
    Calls Try.prog 109 #[.int .i64 n, .int .i64 (-1)] w fun e w' => ∃ a c, e = .returned (.slice a n c) ∧ w'.ownsRow w.heap.size 3 1 (.slice a n c) n (ints (upI n)) ∧ Below w.heap.size w w' := by
  go_enter Try.func109, Try.ntmps109
  go_wp2
  go_loopw [5, 6, 8] (fun v _ i wr => ∃ (k : Nat) (a : Option Addr) (c : Nat), k ≤ n ∧ i = .int .i64 k ∧ v = .slice a k c ∧ wr.ownsRow w.heap.size 3 1 (.slice a k c) k (ints (upI k)) ∧ Below w.heap.size w wr) (fun _ _ i _ => n - (intOf i).toNat)
  case atStart => exact ⟨0, none, 0, by omega, rfl, rfl, World.ownsRow_nil _ _ _ _, Below.refl _ _⟩
  case round =>
    obtain ⟨k, a, c, hk, rfl, rfl, hown, hb⟩ := hrel
    by_cases hlt : k < n
    · have hsz := hb.size
      go_wp2_with (at_builtin; refine appendI Try.infoI _ _ rfl rfl hown hb (Nat.le_refl _) hsz rfl rfl (by omega) ?_; intro a' c' w1 hown1 hb1)
      go_roundw
      case rel => exact ⟨k + 1, a', c', by omega, by go_num, rfl, by rw [upI_succ]; exact hown1, hb1⟩
      case measure => simp [intOf]; omega
    · obtain rfl : k = n := by omega
      go_wp2
      go_ret
      exact ⟨a, c, rfl, hown, hb⟩

end Go.Proofs.Ytjghcegacgpehaa
