
/- slices.IndexFunc and slices.ContainsFunc on numbers, at any predicate that leaves old memory alone. -/
import Derived.Test.YtjghcegacgpehaaInts
namespace Go.Proofs.Ytjghcegacgpehaa
open Go.RowKit

/-- A function value that answers 'p', over memory that lies as it did at 'w'. -/
def Answers (w : World) (K : Nat) (cap : Array Value) (xs : List Int) (p : Int → Bool) : Prop :=
  Enters Try.prog K ∧ ∀ w' x, Below w.heap.size w w' → x ∈ xs → Calls Try.prog K (#[.int .i64 x] ++ cap) w' fun e w'' => e = .returned (.bool (p x)) ∧ Below w'.heap.size w' w''

def idxI (p : Int → Bool) (xs : List Int) : Int := match xs.findIdx? p with | some i => (i : Int) | none => -1

theorem idxI_none {p : Int → Bool} {xs : List Int} (h : ∀ x ∈ xs, p x = false) : idxI p xs = -1 := by
  have : xs.findIdx? p = none := by rw [List.findIdx?_eq_none_iff]; exact h
  simp [idxI, this]

theorem idxI_some {p : Int → Bool} {xs : List Int} {k : Nat} (hk : k < xs.length) (h : ∀ i (hi : i < k), p (xs[i]'(by omega)) = false) (hp : p (xs[k]'hk) = true) : idxI p xs = k := by
  have : xs.findIdx? p = some k := by
    rw [List.findIdx?_eq_some_iff_getElem]
    exact ⟨hk, hp, fun j hj => by simp [h j hj]⟩
  simp [idxI, this]

set_option maxHeartbeats 400000 in
theorem IndexFunc_any (a : Option Addr) (c n : Nat) (xs : List Int) (K : Nat) (cap : Array Value) (p : Int → Bool) (w : World) (hn : xs.length = n) (hx : Rd w a (ints xs)) (hl : n ≤ 140737488351232) (hf : Answers w K cap xs p) :
    Calls Try.prog 172 #[.slice a n c, .func (.func K) #[] cap] w fun e w' => e = .returned (.int .i64 (idxI p xs)) ∧ Below w.heap.size w w' := by
  obtain ⟨hK0, hf⟩ := hf
  have hK : ∀ args w, (callFunc K args).run Try.prog w = .ok (.enter K args) w := hK0
  go_enter Try.func172, Try.ntmps172
  go_wp2
  go_loopw [5, 8] (fun _ i wr => ∃ k : Nat, k ≤ n ∧ i = .int .i64 k ∧ (∀ j (hj : j < k), (h : j < xs.length) → p (xs[j]'h) = false) ∧ Below w.heap.size w wr) (fun _ i _ => n - (intOf i).toNat)
  case atStart => exact ⟨0, by omega, rfl, by intro j hj; omega, Below.refl _ _⟩
  case round =>
    obtain ⟨k, hk, rfl, hno, hb⟩ := hrel
    by_cases hlt : k < n
    · obtain ⟨b1, o1, rfl, c1⟩ := (hx.below hb).int (k := k) (by omega)
      have HC := hf wr (xs[k]'(by omega)) hb (List.getElem_mem _)
      have hno' : p (xs[k]'(by omega)) = false → (∀ j (hj : j < k + 1), (h : j < xs.length) → p (xs[j]'h) = false) := by
        intro h0 j hj h
        by_cases e : j = k
        · subst e; exact h0
        · exact hno j (by omega) h
      have hyes : p (xs[k]'(by omega)) = true → idxI p xs = k := fun h => idxI_some (by omega) (fun i hi => hno i hi (by omega)) h
      have HN := Lib.hid hno; clear hno
      generalize hX : (xs[k]'(by omega)) = X at *
      clear hX
      cases hp : p X
      · have HN' := Lib.hid (hno' hp); clear hno' hyes
        rw [hp] at HC
        clear hp
        go_wp2_with fail
        refine HC.mono ?_
        rintro e w1 ⟨rfl, hb1⟩
        have HB := hb.trans (hb1.mono hb.size)
        clear HC hb1
        go_wp2
        go_roundw
        case rel => exact ⟨k + 1, by omega, by go_num, HN'.out, HB⟩
        case measure => simp [intOf]; omega
      · have HE := Lib.hid (hyes hp); clear hno' hyes
        rw [hp] at HC
        clear hp
        go_wp2_with fail
        refine HC.mono ?_
        rintro e w1 ⟨rfl, hb1⟩
        have HB := hb.trans (hb1.mono hb.size)
        clear HC hb1
        go_wp2
        go_ret
        exact ⟨by rw [HE.out]; rfl, HB⟩
    · have e : idxI p xs = -1 := idxI_none (by
        intro x hx
        obtain ⟨i, hi, rfl⟩ := List.getElem_of_mem hx
        exact hno i (by omega) hi)
      have HE := Lib.hid e; clear e hno
      go_wp2
      go_ret
      exact ⟨by rw [HE.out]; rfl, hb⟩

theorem idxI_any (p : Int → Bool) (xs : List Int) : decide (0 ≤ idxI p xs) = xs.any p := by
  unfold idxI
  cases h : xs.findIdx? p with
  | none =>
    rw [List.findIdx?_eq_none_iff] at h
    have : xs.any p = false := by rw [List.any_eq_false]; intro x hx; simp [h x hx]
    simp [this]
  | some i =>
    obtain ⟨hi, hp, _⟩ := List.findIdx?_eq_some_iff_getElem.1 h
    have : xs.any p = true := List.any_eq_true.2 ⟨_, List.getElem_mem hi, hp⟩
    simp [this]

theorem ContainsFunc_any (a : Option Addr) (c n : Nat) (xs : List Int) (K : Nat) (cap : Array Value) (p : Int → Bool) (w : World) (hn : xs.length = n) (hx : Rd w a (ints xs)) (hl : n ≤ 140737488351232) (hf : Answers w K cap xs p) :
    Calls Try.prog 117 #[.slice a n c, .func (.func K) #[] cap] w fun e w' => e = .returned (.bool (xs.any p)) ∧ Below w.heap.size w w' := by
  have HA := Lib.hid (idxI_any p xs)
  go_enter Try.func117, Try.ntmps117
  go_wp2_with fail
  refine (IndexFunc_any a c n xs K cap p w hn hx hl hf).mono ?_
  rintro e w1 ⟨rfl, hb⟩
  clear hf hx
  go_wp2
  go_ret
  exact ⟨by rw [← HA.out]; rfl, hb⟩

end Go.Proofs.Ytjghcegacgpehaa
