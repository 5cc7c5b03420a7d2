
/- The sum of numbers, the reference's and the program's, where it cannot wrap. -/
import Derived.Test.YtchefkggnncalaaDeg
namespace Go.Proofs.Ytchefkggnncalaa
open Go.RowKit

def Small (xs : List Int) : Prop := ∀ x ∈ xs, 0 ≤ x ∧ x ≤ 1000000

theorem Small.get {xs : List Int} (h : Small xs) (k : Nat) (hk : k < xs.length) : 0 ≤ xs[k] ∧ xs[k] ≤ 1000000 := h _ (List.getElem_mem hk)
theorem Small.take {xs : List Int} (h : Small xs) (k : Nat) : Small (xs.take k) := fun x hx => h x (List.mem_of_mem_take hx)

theorem sum_bd (xs : List Int) (h : Small xs) : 0 ≤ xs.sum ∧ xs.sum ≤ 1000000 * xs.length := by
  induction xs with
  | nil => simp
  | cons a l ih =>
    have h1 := h a (by simp)
    have h2 := ih (fun x hx => h x (by simp [hx]))
    simp only [List.sum_cons, List.length_cons]
    omega

theorem sum_take_succ (xs : List Int) (k : Nat) (hk : k < xs.length) : (xs.take (k + 1)).sum = (xs.take k).sum + xs[k] := by
  rw [List.take_succ_eq_append_getElem hk, List.sum_append]; simp

theorem validD_small {xs : List Int} (h : validD xs = true) : Small xs ∧ xs.length ≤ 7 := by
  simp only [validD, Bool.and_eq_true, decide_eq_true_eq] at h
  refine ⟨fun x hx => ?_, h.2⟩
  have := List.all_eq_true.1 h.1 x hx
  rw [inR_true] at this
  omega

end Go.Proofs.Ytchefkggnncalaa
