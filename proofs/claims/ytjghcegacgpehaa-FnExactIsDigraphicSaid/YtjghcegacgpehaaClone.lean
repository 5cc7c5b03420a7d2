
/- Copies of rows of numbers: the reference's copyInts, the program's clone. -/
import Derived.Test.YtjghcegacgpehaaEach
import Derived.Test.YtjghcegacgpehaaCopy
import Derived.WalkSpells
namespace Go.Proofs.Ytjghcegacgpehaa
open Go.RowKit

set_option maxHeartbeats 400000 in
theorem copyInts_any (a : Option Addr) (c n : Nat) (xs : List Int) (w : World) (hn : xs.length = n) (hx : Rd w a (ints xs)) (hl : n ≤ 17592186044416) (hnil : a = none → n = 0 ∧ c = 0) :
    Calls Try.prog 180 #[.slice a n c] w fun e w' => ∃ a' c', e = .returned (.slice a' n c') ∧ w'.ownsRow w.heap.size 3 1 (.slice a' n c') n (ints xs) ∧ Below w.heap.size w w' := by
  have hB := below_alloc w (.cells #[] 3)
  have hown := World.ownsRow_made (base := w.heap.size) (e := 3) (size := 1) w #[] 0 (Nat.le_refl _) (by decide) rfl
  go_enter Try.func180, Try.ntmps180
  go_wp2_with (at_builtin; refine appendAll Try.infoI _ _ rfl rfl hown (hx.below hB) (by rw [ints_length]; omega) (ints_one xs) hnil hB (Nat.le_refl _) (by simp) rfl rfl (by omega) ?_; intro a' c' w1 hown1 hb1)
  go_ret
  exact ⟨a', c', by simp, by simpa using hown1, hb1⟩

set_option maxHeartbeats 400000 in
theorem Clone_any (a : Option Addr) (c n : Nat) (xs : List Int) (w : World) (hn : xs.length = n) (hx : Rd w a (ints xs)) (hl : n ≤ 17592186044416) (hnil : a = none → n = 0 ∧ c = 0) :
    Calls Try.prog 114 #[.slice a n c] w fun e w' => ∃ a' c', e = .returned (.slice a' n c') ∧ w'.ownsRow w.heap.size 3 1 (.slice a' n c') n (ints xs) ∧ Below w.heap.size w w' := by
  have heq := fun (w : World) => Lib.run_eql_slice_nil (P := Try.prog) w 38 3 a n c 0 0 Try.underlying38
  cases a with
  | none =>
    obtain ⟨rfl, rfl⟩ := hnil rfl
    have hx0 : xs = [] := List.eq_nil_of_length_eq_zero hn
    subst hx0
    clear hnil hx hn
    go_enter Try.func114, Try.ntmps114
    go_wp2
    go_ret
    exact ⟨none, 0, rfl, World.ownsRow_nil _ _ _ _, Below.refl _ _⟩
  | some ad =>
    have hB := below_alloc w (.cells #[] 3)
    have hown := World.ownsRow_made (base := w.heap.size) (e := 3) (size := 1) w #[] 0 (Nat.le_refl _) (by decide) rfl
    go_enter Try.func114, Try.ntmps114
    go_wp2_with (at_builtin; refine appendAll Try.infoI _ _ rfl rfl hown (hx.below hB) (by rw [ints_length]; omega) (ints_one xs) hnil hB (Nat.le_refl _) (by simp) rfl rfl (by omega) ?_; intro a' c' w1 hown1 hb1)
    go_ret
    exact ⟨a', c', by simp, by simpa using hown1, hb1⟩

theorem Clip_any (a : Option Addr) (c n : Nat) (w : World) (hc : n ≤ c) (_hl : n ≤ 17592186044416) :
    Calls Try.prog 167 #[.slice a n c] w fun e w' => e = .returned (.slice a n n) ∧ w' = w := by
  go_enter Try.func167, Try.ntmps167
  go_wp2
  go_ret
  exact ⟨rfl, rfl⟩

theorem own_cap {w : World} {B T s n c : Nat} {a : Option Addr} {cs : List Value} (h : w.ownsRow B T s (.slice a n c) n cs) : n ≤ c := by
  rcases h.2 with ⟨h1, h2⟩ | ⟨g, cap, cur, h1, hB, hg, hn, _⟩
  · omega
  · cases h1
    exact hn

theorem clone_any (a : Option Addr) (c n : Nat) (xs : List Int) (w : World) (hn : xs.length = n) (hx : Rd w a (ints xs)) (hl : n ≤ 17592186044416) (hnil : a = none → n = 0 ∧ c = 0) :
    Calls Try.prog 160 #[.slice a n c] w fun e w' => ∃ a' c', e = .returned (.slice a' n n) ∧ w'.ownsRow w.heap.size 3 1 (.slice a' n c') n (ints xs) ∧ Below w.heap.size w w' := by
  have HC := Clone_any a c n xs w hn hx hl hnil
  clear hx hn hnil
  go_enter Try.func160, Try.ntmps160
  go_wp2_with fail
  refine HC.mono ?_
  rintro e w1 ⟨a', c', rfl, ho, hb⟩
  have HP := Clip_any a' c' n w1 (own_cap ho) hl
  clear HC
  go_wp2_with fail
  refine HP.mono ?_
  rintro e w1 ⟨rfl, rfl⟩
  go_wp2
  go_ret
  exact ⟨a', c', rfl, ho, hb⟩

end Go.Proofs.Ytjghcegacgpehaa
