
/- impl.each: a number for each index of valid degrees. -/
import Derived.Test.YtjmiafkkbganlaaSum
import Derived.Test.YtjmiafkkbganlaaMake
namespace Go.Proofs.Ytjmiafkkbganlaa
open Go.RowKit

/-- A function value that answers 'f k' for the indexes below n, over memory that lies as it did at 'w'. -/
def Gives (w : World) (K : Nat) (cap : Array Value) (n : Nat) (f : Nat → Int) : Prop :=
  Enters Try.prog K ∧ ∀ w' (k : Nat), Below w.heap.size w w' → k < n → Calls Try.prog K (#[.int .i64 k] ++ cap) w' fun e w'' => e = .returned (.int .i64 (f k)) ∧ Below w'.heap.size w' w''

def upto (f : Nat → Int) (n : Nat) : List Int := (List.range n).map f
theorem upto_succ (f : Nat → Int) (n : Nat) : upto f (n + 1) = upto f n ++ [f n] := by simp [upto, List.range_succ]
theorem upto_length (f : Nat → Int) (n : Nat) : (upto f n).length = n := by simp [upto]
def eachOf (xs : List Int) (f : Nat → Int) : List Int := if validD xs = true then upto f xs.length else []

theorem upto_set (f : Nat → Int) (n k : Nat) (hk : k < n) :
    ((ints (upto f k ++ List.replicate (n - k) 0)).set k (.int .i64 (f k))) = ints (upto f (k + 1) ++ List.replicate (n - (k + 1)) 0) := by
  rw [show n - k = (n - (k + 1)) + 1 from by omega, List.replicate_succ, set_mid _ _ _ _ _ (upto_length f k), upto_succ, List.append_assoc]
  rfl

theorem validD_len {xs : List Int} (h : validD xs = true) : xs.length ≤ 7 := by
  simp only [validD, Bool.and_eq_true, decide_eq_true_eq] at h
  exact h.2

end Go.Proofs.Ytjmiafkkbganlaa
