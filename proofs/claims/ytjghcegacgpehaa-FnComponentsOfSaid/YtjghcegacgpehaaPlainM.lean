
/- Plain laws: the greatest number of edges no two of which meet, in two ways. No program is named here. -/
import Derived.Test.YtjghcegacgpehaaPairs
namespace Go.Proofs.Ytjghcegacgpehaa
open Go.RowKit

def meetE (e f : E2) : Bool := f.1 == e.1 || (f.1 == e.2 || (f.2 == e.1 || f.2 == e.2))
theorem filter_length_le' {α : Type} (p : α → Bool) (l : List α) : (l.filter p).length ≤ l.length := List.length_filter_le p l
/-- The program's way: the first edge is left out, or taken, and what meets it is left out. -/
def matchN : List E2 → Nat
  | [] => 0
  | e :: t => max (matchN t) (1 + matchN (t.filter fun f => !meetE e f))
termination_by l => l.length
decreasing_by
  · simp
  · simp only [List.length_cons, List.length_unattach]
    refine Nat.lt_succ_of_le (Nat.le_trans (List.length_filter_le _ _) ?_)
    simp
theorem matchN_cons (e : E2) (t : List E2) : matchN (e :: t) = max (matchN t) (1 + matchN (t.filter fun f => !meetE e f)) := by rw [matchN]
theorem matchN_nil : matchN [] = 0 := by rw [matchN]
theorem matchN_le (l : List E2) : matchN l ≤ l.length := by
  suffices h : ∀ n l, l.length ≤ n → matchN l ≤ l.length from h _ l (Nat.le_refl _)
  intro n
  induction n with
  | zero => intro l h; have : l = [] := List.eq_nil_of_length_eq_zero (by omega); subst this; rw [matchN_nil]; exact Nat.le_refl _
  | succ n ih =>
    intro l h
    cases l with
    | nil => rw [matchN_nil]; exact Nat.le_refl _
    | cons e t =>
      rw [matchN_cons]
      have h1 := ih t (by simpa using h)
      have h2 := List.length_filter_le (fun f => !meetE e f) t
      have h3 := ih (t.filter fun f => !meetE e f) (by simp at h; omega)
      simp only [List.length_cons]
      omega
def usedE (u : List Int) (e : E2) : Bool := u.contains e.1 || u.contains e.2
/-- The reference's way: the vertices of what was taken are kept in a list. -/
def mostL : List E2 → List Int → Nat
  | [], _ => 0
  | e :: t, u => if usedE u e then mostL t u else max (mostL t u) (1 + mostL t (u ++ [e.1, e.2]))
theorem used_append (u : List Int) (e f : E2) : usedE (u ++ [e.1, e.2]) f = (usedE u f || meetE e f) := by
  simp only [usedE, meetE, List.contains_append, List.contains_cons, List.contains_nil, Bool.or_false]
  cases u.contains f.1 <;> cases u.contains f.2 <;> cases f.1 == e.1 <;> cases f.1 == e.2 <;> cases f.2 == e.1 <;> cases f.2 == e.2 <;> rfl
theorem most_match (l : List E2) (u : List Int) : mostL l u = matchN (l.filter fun e => !usedE u e) := by
  induction l generalizing u with
  | nil => rw [List.filter_nil, matchN_nil]; rfl
  | cons e t ih =>
    rw [mostL]
    by_cases h : usedE u e = true
    · rw [if_pos h, ih, List.filter_cons_of_neg (by simp [h])]
    · have h' : usedE u e = false := by simpa using h
      rw [if_neg h, ih, ih, List.filter_cons_of_pos (by simp [h']), matchN_cons, List.filter_filter]
      congr 2
      congr 1
      apply List.filter_congr
      intro f _
      rw [used_append]
      cases usedE u f <;> cases meetE e f <;> rfl
theorem most_all (l : List E2) : mostL l [] = matchN l := by
  rw [most_match]
  congr 1
  rw [List.filter_eq_self]
  intro e _
  rfl

end Go.Proofs.Ytjghcegacgpehaa
