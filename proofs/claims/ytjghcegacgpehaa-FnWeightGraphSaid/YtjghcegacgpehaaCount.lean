
/- Counting: spec.countAtLeast, impl.count at any predicate. -/
import Derived.Test.YtjghcegacgpehaaEach
namespace Go.Proofs.Ytjghcegacgpehaa
open Go.RowKit

theorem countP_snoc (p : Int → Bool) (xs : List Int) (k : Nat) (h : k < xs.length) : (xs.take (k + 1)).countP p = (xs.take k).countP p + (if p (xs[k]'h) = true then 1 else 0) := by
  rw [List.take_succ_eq_append_getElem h, List.countP_append, List.countP_cons, List.countP_nil, Nat.zero_add]
theorem countP_yes {p : Int → Bool} {xs : List Int} {k : Nat} (h : k < xs.length) (hp : p (xs[k]'h) = true) : (xs.take (k + 1)).countP p = (xs.take k).countP p + 1 := by rw [countP_snoc p xs k h, if_pos hp]
theorem countP_no {p : Int → Bool} {xs : List Int} {k : Nat} (h : k < xs.length) (hp : p (xs[k]'h) = false) : (xs.take (k + 1)).countP p = (xs.take k).countP p := by rw [countP_snoc p xs k h, if_neg (by simp [hp]), Nat.add_zero]
theorem countP_take_le (p : Int → Bool) (xs : List Int) (k : Nat) : (xs.take k).countP p ≤ k := Nat.le_trans List.countP_le_length (List.length_take_le _ _)

set_option maxHeartbeats 400000 in
theorem count_any (a : Option Addr) (c n : Nat) (xs : List Int) (K : Nat) (cap : Array Value) (p : Int → Bool) (w : World) (hn : xs.length = n) (hx : Rd w a (ints xs)) (hl : n ≤ 140737488351232) (hf : Answers w K cap xs p) :
    Calls Try.prog 111 #[.slice a n c, .func (.func K) #[] cap] w fun e w' => e = .returned (.int .i64 (xs.countP p)) ∧ Below w.heap.size w w' := by
  obtain ⟨hK0, hf⟩ := hf
  have hK : ∀ args w, (callFunc K args).run Try.prog w = .ok (.enter K args) w := hK0
  go_enter Try.func111, Try.ntmps111
  go_wp2
  go_loopw [5, 7, 10] (fun q _ i wr => ∃ k : Nat, k ≤ n ∧ i = .int .i64 k ∧ q = .int .i64 ((xs.take k).countP p) ∧ Below w.heap.size w wr) (fun _ _ i _ => n - (intOf i).toNat)
  case atStart => exact ⟨0, by omega, rfl, by simp, Below.refl _ _⟩
  case round =>
    obtain ⟨k, hk, rfl, rfl, hb⟩ := hrel
    have hbd := countP_take_le p xs k
    by_cases hlt : k < n
    · obtain ⟨b1, o1, rfl, c1⟩ := (hx.below hb).int (k := k) (by omega)
      have HC := hf wr (xs[k]'(by omega)) hb (List.getElem_mem _)
      cases hp : p (xs[k]'(by omega))
      · have H := Lib.hid (countP_no (p := p) (xs := xs) (k := k) (by omega) hp)
        rw [hp] at HC
        clear hp
        generalize (xs[k]'(by omega)) = X at *
        generalize ((xs.take k).countP p) = C at *
        go_wp2_with fail
        refine HC.mono ?_
        rintro e w1 ⟨rfl, hb1⟩
        have HB := below_tr' hb hb1
        clear HC hb1
        go_wp2
        go_roundw
        case rel => exact ⟨k + 1, by omega, by go_num, by rw [H.out], HB⟩
        case measure => simp [intOf]; omega
      · have H := Lib.hid (countP_yes (p := p) (xs := xs) (k := k) (by omega) hp)
        rw [hp] at HC
        clear hp
        generalize (xs[k]'(by omega)) = X at *
        generalize ((xs.take k).countP p) = C at *
        go_wp2_with fail
        refine HC.mono ?_
        rintro e w1 ⟨rfl, hb1⟩
        have HB := below_tr' hb hb1
        clear HC hb1
        go_wp2
        go_roundw
        case rel => exact ⟨k + 1, by omega, by go_num, by rw [H.out]; go_num, HB⟩
        case measure => simp [intOf]; omega
    · have e := Lib.hid (show (xs.take k) = xs by rw [show k = n from by omega, ← hn, List.take_length])
      go_wp2
      go_ret
      exact ⟨ret_int (by rw [e.out]), hb⟩

end Go.Proofs.Ytjghcegacgpehaa
