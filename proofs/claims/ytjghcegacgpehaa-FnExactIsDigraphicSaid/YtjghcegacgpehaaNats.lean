
/- Plain: natural numbers of numbers. -/
import Derived.Test.YtjghcegacgpehaaFrL
namespace Go.Proofs.Ytjghcegacgpehaa
open Go.RowKit

def natsOf (l : List Int) : List Nat := l.map Int.toNat
theorem natsOf_length (l : List Int) : (natsOf l).length = l.length := by simp [natsOf]
theorem natsOf_back {l : List Int} (h : ∀ x ∈ l, 0 ≤ x) : intsN (natsOf l) = l := by
  rw [intsN, natsOf, List.map_map]
  conv => rhs; rw [← List.map_id l]
  refine List.map_congr_left fun x hx => ?_
  have := h x hx
  simp; omega
theorem natsOf_at {l : List Int} (h : ∀ x ∈ l, 0 ≤ x) {q : Nat} (hq : q < l.length) : ((natsOf l).getD q 0 : Int) = l[q]'hq := by
  have h1 := h _ (List.getElem_mem hq)
  rw [natsOf, List.getD_eq_getElem?_getD, List.getElem?_map, List.getElem?_eq_getElem hq]
  show (((l[q]'hq).toNat : Nat) : Int) = _
  omega

end Go.Proofs.Ytjghcegacgpehaa
