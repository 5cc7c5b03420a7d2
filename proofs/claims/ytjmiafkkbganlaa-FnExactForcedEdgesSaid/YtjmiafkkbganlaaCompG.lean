
/- The complement of a graph: the reference's complement. -/
import Derived.Test.YtjmiafkkbganlaaHasEdge
import Derived.Test.YtjmiafkkbganlaaBlk
namespace Go.Proofs.Ytjmiafkkbganlaa
open Go.RowKit

def filtUpto (L : List E2) (p : E2 → Bool) (k : Nat) : List E2 := (L.take k).filter p
theorem filt_yes {L : List E2} {p : E2 → Bool} {k : Nat} (h : k < L.length) (hp : p (L[k]'h) = true) : filtUpto L p (k + 1) = filtUpto L p k ++ [L[k]'h] := by
  rw [filtUpto, List.take_succ_eq_append_getElem h, List.filter_append]; simp [filtUpto, hp]
theorem filt_no {L : List E2} {p : E2 → Bool} {k : Nat} (h : k < L.length) (hp : p (L[k]'h) = false) : filtUpto L p (k + 1) = filtUpto L p k := by
  rw [filtUpto, List.take_succ_eq_append_getElem h, List.filter_append]; simp [filtUpto, hp]
theorem filt_all (L : List E2) (p : E2 → Bool) : filtUpto L p L.length = L.filter p := by rw [filtUpto, List.take_length]
theorem filt_len (L : List E2) (p : E2 → Bool) (k : Nat) : (filtUpto L p k).length ≤ k := Nat.le_trans (List.length_filter_le _ _) (List.length_take_le _ _)
def complG (N : Nat) (es : List E2) : List E2 := (pairsL N).filter fun e => !hasB es e.1 e.2

theorem pairsL_len {N : Nat} (hN : N ≤ 1000) : (pairsL N).length ≤ 1000000 := by
  have h1 := pairsUpto_length N N
  have h2 : N * N ≤ 1000 * 1000 := Nat.mul_le_mul hN hN
  unfold pairsL
  omega

end Go.Proofs.Ytjmiafkkbganlaa
