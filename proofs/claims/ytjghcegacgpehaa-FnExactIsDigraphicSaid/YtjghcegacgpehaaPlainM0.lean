
/- Plain: the entries of matrices made of a function, and of one with a number put. -/
import Derived.Test.YtjghcegacgpehaaCopyM
namespace Go.Proofs.Ytjghcegacgpehaa
open Go.RowKit

theorem tbl_row {r c : Nat} {f : Nat → Nat → Int} {i : Nat} (hi : i < (tbl r c f).length) : (tbl r c f)[i]'hi = rowF (f i) c := by simp [tbl]
theorem at2_tbl {r c : Nat} {f : Nat → Nat → Int} {i k : Nat} (hi : i < r) (hk : k < c) : at2 (tbl r c f) i k = f i k := by
  have h1 : i < (tbl r c f).length := by rw [tbl_length]; exact hi
  have h2 : k < ((tbl r c f)[i]'h1).length := by rw [tbl_row, rowF_length]; exact hk
  rw [at2_get h1 h2]
  simp [tbl, rowF]
theorem cols_tbl {r c : Nat} {f : Nat → Nat → Int} (hr : 1 ≤ r) : colsOf (tbl r c f) = c := by
  have h1 : 0 < (tbl r c f).length := by rw [tbl_length]; omega
  rw [colsOf, List.getD, List.getElem?_eq_getElem h1]
  show ((tbl r c f)[0]'h1).length = c
  rw [tbl_row, rowF_length]
theorem valid_tbl {r c : Nat} {f : Nat → Nat → Int} (hr : 1 ≤ r ∧ r ≤ 5) (hc : 1 ≤ c ∧ c ≤ 5) (hf : ∀ i k, i < r → k < c → 0 ≤ f i k ∧ f i k ≤ 1) : validM (tbl r c f) = true := by
  rw [validM, Bool.and_eq_true]
  constructor
  · rw [List.all_eq_true]
    intro X hX
    obtain ⟨i, hi, rfl⟩ := List.getElem_of_mem hX
    have hi' : i < r := by rw [tbl_length] at hi; exact hi
    have hcol : ((tbl r c f).getD 0 []).length = c := cols_tbl hr.1
    rw [rowOK, Bool.and_eq_true, Bool.and_eq_true, decide_eq_true_eq, inR_true, tbl_row, rowF_length, hcol]
    refine ⟨rfl, by omega, allR_yes fun j hj => ?_⟩
    have hj' : j < c := by rw [rowF_length] at hj; exact hj
    rw [inR_true]
    have := hf i j hi' hj'
    simpa [rowF] using this
  · rw [inR_true, tbl_length]; omega
/-- Changed at four places. -/
theorem at2_set2 {m : List (List Int)} {n cl : Nat} (h : Rect m n cl) {i k x y : Nat} (hi : i < n) (hk : k < cl) (hx : x < n) (hy : y < cl) (v : Int) : at2 (set2 m i k v) x y = if x = i ∧ y = k then v else at2 m x y := by
  have hxl : x < m.length := by rw [h.1]; exact hx
  have hil : i < m.length := by rw [h.1]; exact hi
  have hr := h.2 x hxl
  have hx2 : x < (set2 m i k v).length := by simpa [set2] using hxl
  have hr2 := (h.set2 i k v).2 x hx2
  rw [at2_get hx2 (by omega), at2_get hxl (by omega)]
  by_cases e : x = i
  · subst e
    have e2 : m.getD x [] = m[x]'hxl := by rw [List.getD, List.getElem?_eq_getElem hxl]; rfl
    simp only [set2, e2, List.getElem_set_self, true_and]
    by_cases e3 : y = k
    · subst e3; simp
    · rw [if_neg e3, List.getElem_set_ne (Ne.symm e3)]
  · rw [if_neg (fun hh => e hh.1)]
    simp only [set2, List.getElem_set_ne (Ne.symm e)]

end Go.Proofs.Ytjghcegacgpehaa
