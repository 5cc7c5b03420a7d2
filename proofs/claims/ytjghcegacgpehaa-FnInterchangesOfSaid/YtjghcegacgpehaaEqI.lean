
/- Equal rows of numbers (laws). -/
import Derived.Test.YtjghcegacgpehaaInts
import Derived.Test.YtjghcegacgpehaaBase
namespace Go.Proofs.Ytjghcegacgpehaa
open Go.RowKit

theorem equalInts_any (a b : Option Addr) (ca cb n : Nat) (xs : List Int) (w : World) (hn : xs.length = n) (hx : Rd w a (Go.Proofs.Ytjghcegacgpehaa.ints xs)) (hy : Rd w b (Go.Proofs.Ytjghcegacgpehaa.ints xs)) (hl : n ≤ 8796093022208) :
    Calls Try.prog 34 #[.slice a n ca, .slice b n cb] w fun e w' => e = .returned (.bool true) ∧ Below w.heap.size w w' := by
  go_enter Try.func34, Try.ntmps34
  go_wp2
  go_loopw [5] (fun i wr => ∃ k : Nat, k ≤ n ∧ i = .int .i64 k ∧ Below w.heap.size w wr) (fun i _ => n - (intOf i).toNat)
  case atStart => exact ⟨0, by omega, rfl, Below.refl _ _⟩
  case round =>
    obtain ⟨k, hk, rfl, hb⟩ := hrel
    by_cases hlt : k < n
    · obtain ⟨b1, o1, rfl, c1⟩ := (hx.below hb).int (k := k) (by omega)
      obtain ⟨b2, o2, rfl, c2⟩ := (hy.below hb).int (k := k) (by omega)
      generalize (xs[k]'(by omega)) = X at *
      have d1 := later_cell c1
      have d2 := later_cell c2
      clear c1 c2
      go_wp2
      refine wp_region_later (by kernel_rfl) (by kernel_rfl) ?_
      repeat (go_big_quiet_step (fail))
      refine wpQuiet_nil ?_
      intro w1 hw'
      have hb1 := below_tr' hb (later_below hw')
      clear hw' d1 d2
      go_wp2
      go_roundw
      case rel => exact ⟨k + 1, by omega, by go_num, hb1⟩
      case measure => simp [intOf]; omega
    · go_wp2
      go_ret
      exact ⟨rfl, hb⟩

end Go.Proofs.Ytjghcegacgpehaa
