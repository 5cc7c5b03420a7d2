
/- Whether all edges of a graph are edges of another one; two valid graphs with as many vertices; slices.ContainsFunc on edges. (Printed by gen_ispart.py.) -/
import Derived.Test.YtjmiafkkbganlaaHas
namespace Go.Proofs.Ytjmiafkkbganlaa
open Go.RowKit

theorem all_next {p : E2 → Bool} {es : List E2} {k : Nat} (h : ∀ j (_ : j < k) (hj : j < es.length), p (es[j]'hj) = true) (hk : k < es.length) (h0 : p (es[k]'hk) = true) : ∀ j (_ : j < k + 1) (hj : j < es.length), p (es[j]'hj) = true := by
  intro j hj h1
  by_cases e : j = k
  · subst e; exact h0
  · exact h j (by omega) h1
theorem all_end {p : E2 → Bool} {es : List E2} {k : Nat} (h : ∀ j (_ : j < k) (hj : j < es.length), p (es[j]'hj) = true) (hk : k = es.length) : es.all p = true := by
  rw [List.all_eq_true]
  intro e he
  obtain ⟨i, hi, rfl⟩ := List.getElem_of_mem he
  exact h i (by omega) hi
theorem all_no {p : E2 → Bool} {es : List E2} {k : Nat} (hk : k < es.length) (h0 : p (es[k]'hk) = false) : es.all p = false := by
  rw [List.all_eq_false]
  exact ⟨_, List.getElem_mem hk, by simp [h0]⟩
def partB (gs hs : List E2) : Bool := gs.all fun e => hasB hs e.1 e.2

noncomputable def bothV (Ng : Int) (gs : List E2) (Nh : Int) (hs : List E2) : Bool := validG Ng gs && (validG Nh hs && decide (Ng = Nh))
end Go.Proofs.Ytjmiafkkbganlaa
