
/- The sum of numbers, the reference's and the program's, where it cannot wrap. -/
import Derived.Test.YtjghcegacgpehaaDeg
namespace Go.Proofs.Ytjghcegacgpehaa
open Go.RowKit

def Small (xs : List Int) : Prop := ∀ x ∈ xs, 0 ≤ x ∧ x ≤ 1000000

theorem Small.get {xs : List Int} (h : Small xs) (k : Nat) (hk : k < xs.length) : 0 ≤ xs[k] ∧ xs[k] ≤ 1000000 := h _ (List.getElem_mem hk)
theorem Small.take {xs : List Int} (h : Small xs) (k : Nat) : Small (xs.take k) := fun x hx => h x (List.mem_of_mem_take hx)

theorem sum_bd (xs : List Int) (h : Small xs) : 0 ≤ xs.sum ∧ xs.sum ≤ 1000000 * xs.length := by
  induction xs with
  | nil => simp
  | cons a l ih =>
    have h1 := h a (by simp)
    have h2 := ih (fun x hx => h x (by simp [hx]))
    simp only [List.sum_cons, List.length_cons]
    omega

theorem sum_take_succ (xs : List Int) (k : Nat) (hk : k < xs.length) : (xs.take (k + 1)).sum = (xs.take k).sum + xs[k] := by
  rw [List.take_succ_eq_append_getElem hk, List.sum_append]; simp

theorem validD_small {xs : List Int} (h : validD xs = true) : Small xs ∧ xs.length ≤ 7 := by
  simp only [validD, Bool.and_eq_true, decide_eq_true_eq] at h
  refine ⟨fun x hx => ?_, h.2⟩
  have := List.all_eq_true.1 h.1 x hx
  rw [inR_true] at this
  omega

set_option maxHeartbeats 400000 in
theorem specSum_any (a : Option Addr) (c n : Nat) (xs : List Int) (w : World) (hn : xs.length = n) (hx : Rd w a (ints xs)) (hl : n ≤ 1000000) (hs : Small xs) :
    Calls Try.prog 159 #[.slice a n c] w fun e w' => e = .returned (.int .i64 xs.sum) ∧ w' = w := by
  have HS := Lib.hid hs
  clear hs
  go_enter Try.func159, Try.ntmps159
  go_wp2
  go_loop [3, 4] (fun q i => ∃ k : Nat, k ≤ n ∧ i = .int .i64 k ∧ q = .int .i64 (xs.take k).sum) (fun _ i => n - (intOf i).toNat)
  case atStart => exact ⟨0, by omega, rfl, by simp⟩
  case round =>
    obtain ⟨k, hk, rfl, rfl⟩ := hrel
    have hb := sum_bd _ (HS.out.take k)
    have hbl : (xs.take k).length ≤ k := List.length_take_le _ _
    by_cases hlt : k < n
    · obtain ⟨b1, o1, rfl, c1⟩ := hx.int (k := k) (by omega)
      have hst := Lib.hid (sum_take_succ xs k (by omega))
      have hxk := HS.out.get k (by omega)
      generalize (xs[k]'(by omega)) = X at *
      generalize (xs.take k).sum = S at *
      go_wp2
      go_round
      case rel => exact ⟨k + 1, by omega, by go_num, by rw [hst.out]⟩
      case measure => simp [intOf]; omega
    · have : k = n := by omega
      have e := Lib.hid (show (xs.take k).sum = xs.sum by rw [this, ← hn, List.take_length])
      generalize (xs.take k).sum = S at *
      go_wp2
      go_ret
      exact ⟨ret_int e.out, rfl⟩

set_option maxHeartbeats 400000 in
theorem implSum_any (a : Option Addr) (c n : Nat) (xs : List Int) (w : World) (hn : xs.length = n) (hx : Rd w a (ints xs)) (hl : n ≤ 1000000) (hs : Small xs) :
    Calls Try.prog 163 #[.slice a n c] w fun e w' => e = .returned (.int .i64 xs.sum) ∧ w' = w := by
  have HS := Lib.hid hs
  clear hs
  go_enter Try.func163, Try.ntmps163
  go_wp2
  go_loop [3, 5, 8] (fun q _ i => ∃ k : Nat, k ≤ n ∧ i = .int .i64 k ∧ q = .int .i64 (xs.take k).sum) (fun _ _ i => n - (intOf i).toNat)
  case atStart => exact ⟨0, by omega, rfl, by simp⟩
  case round =>
    obtain ⟨k, hk, rfl, rfl⟩ := hrel
    have hb := sum_bd _ (HS.out.take k)
    have hbl : (xs.take k).length ≤ k := List.length_take_le _ _
    by_cases hlt : k < n
    · obtain ⟨b1, o1, rfl, c1⟩ := hx.int (k := k) (by omega)
      have hst := Lib.hid (sum_take_succ xs k (by omega))
      have hxk := HS.out.get k (by omega)
      generalize (xs[k]'(by omega)) = X at *
      generalize (xs.take k).sum = S at *
      go_wp2
      go_round
      case rel => exact ⟨k + 1, by omega, by go_num, by rw [hst.out]⟩
      case measure => simp [intOf]; omega
    · have : k = n := by omega
      have e := Lib.hid (show (xs.take k).sum = xs.sum by rw [this, ← hn, List.take_length])
      generalize (xs.take k).sum = S at *
      go_wp2
      go_ret
      exact ⟨ret_int e.out, rfl⟩

end Go.Proofs.Ytjghcegacgpehaa
