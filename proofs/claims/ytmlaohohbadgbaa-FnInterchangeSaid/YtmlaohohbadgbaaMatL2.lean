
/- The laws' helpers on rows of rows of numbers: compare (equal ones), mark. -/
import Derived.Test.YtmlaohohbadgbaaMatL
import Derived.Test.YtmlaohohbadgbaaLater
import Derived.Test.YtmlaohohbadgbaaAppG
import Derived.Test.YtmlaohohbadgbaaRng
namespace Go.Proofs.Ytmlaohohbadgbaa
open Go.RowKit

/-- What markIntSS leaves: the numbers from k0 on, row by row. -/
def markR (k0 : Int) (m : List (List Int)) (r : Nat) : List Int := marks (k0 + sumLen (m.take r)) (m.getD r []).length
def marksM (k0 : Int) (m : List (List Int)) : List (List Int) := (List.range m.length).map (markR k0 m)
theorem marksM_length (k0 : Int) (m : List (List Int)) : (marksM k0 m).length = m.length := by simp [marksM]
theorem marksM_get (k0 : Int) (m : List (List Int)) (r : Nat) (h : r < (marksM k0 m).length) : (marksM k0 m)[r]'h = markR k0 m r := by simp [marksM]
theorem markR_length (k0 : Int) (m : List (List Int)) (r : Nat) (h : r < m.length) : (markR k0 m r).length = (m[r]'h).length := by
  rw [markR, marks_length, List.getD, List.getElem?_eq_getElem h]; rfl
theorem rowVs_marks (rs : List At) (k0 : Int) (m : List (List Int)) (h : rs.length = m.length) : rowVs rs (marksM k0 m) = rowVs rs m := by
  apply List.ext_getElem?
  intro i
  by_cases hi : i < m.length
  · rw [rowVs_get rs _ i (by omega) (by rw [marksM_length]; exact hi), rowVs_get rs m i (by omega) hi, marksM_get, markR_length k0 m i hi]
  · rw [List.getElem?_eq_none (by rw [rowVs_length _ _ (by rw [marksM_length]; exact h), marksM_length]; omega), List.getElem?_eq_none (by rw [rowVs_length _ _ h]; omega)]

theorem sumLen_take (m : List (List Int)) (k : Nat) : sumLen (m.take k) ≤ sumLen m := by
  have e : sumLen m = sumLen (m.take k) + sumLen (m.drop k) := by
    rw [sumLen, sumLen, sumLen, ← List.sum_append, ← List.map_append, List.take_append_drop]
  omega

/-- No inner row lies in block i. -/
def OutOf (rs : List At) (i : Nat) : Prop := ∀ r (h : r < rs.length) x, (rs[r]'h).1 = some x → x.block ≠ i

end Go.Proofs.Ytmlaohohbadgbaa
