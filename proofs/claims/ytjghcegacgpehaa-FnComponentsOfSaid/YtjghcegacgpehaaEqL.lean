
/- Equal rows of rows, rows that ascend (laws). -/
import Derived.Test.YtjghcegacgpehaaEqI
import Derived.Test.YtjghcegacgpehaaRowM
namespace Go.Proofs.Ytjghcegacgpehaa
open Go.RowKit

set_option maxHeartbeats 1000000 in
theorem equalLists_any (a b : Option Addr) (ca cb n : Nat) (m : List (List Int)) (w : World) (hn : m.length = n) (hx : RdM w a m) (hy : RdM w b m) (hl : n + sumLen m ≤ 1048576) :
    Calls Try.prog 39 #[.slice a n ca, .slice b n cb] w fun e w' => e = .returned (.bool true) ∧ Below w.heap.size w w' := by
  have HN := Lib.hid hn
  go_enter Try.func39, Try.ntmps39
  go_wp2
  go_loopw [5] (fun i wr => ∃ k : Nat, k ≤ n ∧ i = .int .i64 k ∧ Below w.heap.size w wr) (fun i _ => n - (intOf i).toNat)
  case atStart => exact ⟨0, by omega, rfl, Below.refl _ _⟩
  case round =>
    obtain ⟨k, hk, rfl, hb⟩ := hrel
    by_cases hlt : k < n
    · have hkm : k < m.length := by omega
      obtain ⟨b1, o1, a1, c1, rfl, k1, r1, _, _, _⟩ := hx.below hb k hkm
      obtain ⟨b2, o2, a2, c2, rfl, k2, r2, _, _, _⟩ := hy.below hb k hkm
      have hsl := sumLen_get m k hkm
      generalize m[k]'hkm = X at *
      obtain ⟨len, hlen⟩ : ∃ len, X.length = len := ⟨_, rfl⟩
      rw [hlen] at k1 k2 hsl
      have HE := Lib.hid (fun u : Later wr => equalInts_any a1 a2 c1 c2 len X u.val hlen (r1.below u.ok) (r2.below u.ok) (by omega))
      have d1 := later_cell k1
      have d2 := later_cell k2
      clear hlen r1 r2 k1 k2 hx hy
      go_wp2
      refine wp_region_later (by kernel_rfl) (by kernel_rfl) ?_
      repeat (go_big_quiet_step ((go_at_call 34; exact calls_later _ (HE.out _))))
      refine wpQuiet_nil ?_
      intro w1 hw'
      have hb1 := below_tr' hb (later_below hw')
      clear hw' d1 d2
      go_wp2
      go_roundw
      case rel => exact ⟨k + 1, by omega, by go_num, hb1⟩
      case measure => simp [intOf]; omega
    · go_wp2
      go_ret
      exact ⟨rfl, hb⟩

set_option maxHeartbeats 1000000 in
theorem ascends_any (a : Option Addr) (c n : Nat) (xs : List Int) (w : World) (hn : xs.length = n) (hx : Rd w a (ints xs)) (hl : n ≤ 1048576) (ha : ∀ j (h : j + 1 < xs.length), xs[j]'(by omega) < xs[j + 1]'h) :
    Calls Try.prog 42 #[.slice a n c] w fun e w' => e = .returned (.bool true) ∧ Below w.heap.size w w' := by
  go_enter Try.func42, Try.ntmps42
  go_wp2
  go_loopw [3] (fun i wr => ∃ k : Nat, (k ≤ n ∨ k = 1) ∧ 1 ≤ k ∧ i = .int .i64 k ∧ Below w.heap.size w wr) (fun i _ => n - (intOf i).toNat)
  case atStart => exact ⟨1, .inr rfl, by omega, rfl, Below.refl _ _⟩
  case round =>
    obtain ⟨k, hk, hk1, rfl, hb⟩ := hrel
    by_cases hlt : k < n
    · obtain ⟨j, rfl⟩ : ∃ j, k = j + 1 := ⟨k - 1, by omega⟩
      have he := ha j (by omega)
      obtain ⟨b1, o1, rfl, c1⟩ := (hx.below hb).int (k := j) (by omega)
      obtain ⟨b2, o2, e2, c2⟩ := (hx.below hb).int (k := j + 1) (by omega)
      cases e2
      obtain ⟨X, hX⟩ : ∃ X, X = xs[j]'(by omega) := ⟨_, rfl⟩
      obtain ⟨Y, hY⟩ : ∃ Y, Y = xs[j + 1]'(by omega) := ⟨_, rfl⟩
      rw [← hX, ← hY] at he
      rw [← hX] at c1
      rw [← hY] at c2
      have d1 := later_cell c1
      have d2 := later_cell c2
      clear c1 c2 hX hY ha
      go_wp2
      refine wp_region_later (by kernel_rfl) (by kernel_rfl) ?_
      repeat (go_big_quiet_step (fail))
      refine wpQuiet_nil ?_
      intro w1 hw'
      have hb1 := below_tr' hb (later_below hw')
      clear hw' d1 d2
      go_wp2
      go_roundw
      case rel => exact ⟨j + 1 + 1, by omega, by omega, by go_num, hb1⟩
      case measure => simp [intOf]; omega
    · go_wp2
      go_ret
      exact ⟨rfl, hb⟩

end Go.Proofs.Ytjghcegacgpehaa
