
/- Tournaments: the plain part. -/
import Derived.Test.YtjghcegacgpehaaVMat
namespace Go.Proofs.Ytjghcegacgpehaa
open Go.RowKit

def at2 (m : List (List Int)) (i k : Nat) : Int := (m.getD i []).getD k 0
def okT (m : List (List Int)) (i k : Nat) : Bool := if i = k then decide (at2 m i i = 0) else decide (at2 m i k + at2 m k i = 1)
def tourB (m : List (List Int)) : Bool := validM m && (decide (m.length = (m.getD 0 []).length) && (List.range m.length).all fun i => (List.range m.length).all fun k => okT m i k)

theorem at2_get {m : List (List Int)} {i k : Nat} (hi : i < m.length) (hk : k < (m[i]'hi).length) : at2 m i k = (m[i]'hi)[k]'hk := by
  have e : m.getD i [] = m[i]'hi := by rw [List.getD, List.getElem?_eq_getElem hi]; rfl
  rw [at2, e, List.getD, List.getElem?_eq_getElem hk]
  rfl

theorem tour_noM {m : List (List Int)} (h : validM m = false) : tourB m = false := by simp [tourB, h]
theorem tour_noL {m : List (List Int)} (h : m.length ≠ (m.getD 0 []).length) : tourB m = false := by rw [tourB, decide_eq_false h, Bool.false_and, Bool.and_false]
theorem tour_no {m : List (List Int)} {i k : Nat} (hi : i < m.length) (hk : k < m.length) (h : okT m i k = false) : tourB m = false := by
  have h1 : ((List.range m.length).all fun i => (List.range m.length).all fun k => okT m i k) = false := by
    rw [List.all_eq_false]
    refine ⟨i, List.mem_range.2 hi, ?_⟩
    have h2 : ((List.range m.length).all fun k => okT m i k) = false := by
      rw [List.all_eq_false]
      exact ⟨k, List.mem_range.2 hk, by simp [h]⟩
    simp [h2]
  simp [tourB, h1]
theorem tour_all {m : List (List Int)} (h : ∀ i, i < m.length → ∀ k, k < m.length → okT m i k = true) : ((List.range m.length).all fun i => (List.range m.length).all fun k => okT m i k) = true := by
  rw [List.all_eq_true]
  intro i hi
  rw [List.all_eq_true]
  intro k hk
  exact h i (List.mem_range.1 hi) k (List.mem_range.1 hk)
theorem tour_yes {m : List (List Int)} (hv : validM m = true) (hl : m.length = (m.getD 0 []).length) (h : ∀ i, i < m.length → ∀ k, k < m.length → okT m i k = true) : tourB m = true := by
  rw [tourB, hv, tour_all h, decide_eq_true hl]; rfl

/-- In a matrix all rows are as long as the first one, and small. -/
theorem validM_row {m : List (List Int)} (h : validM m = true) {i : Nat} (hi : i < m.length) : (m[i]'hi).length = (m.getD 0 []).length ∧ (1 ≤ (m[i]'hi).length ∧ (m[i]'hi).length ≤ 5) ∧ ∀ x ∈ m[i]'hi, 0 ≤ x ∧ x ≤ 1 := by
  rw [validM, Bool.and_eq_true, List.all_eq_true] at h
  have h1 := h.1 _ (List.getElem_mem hi)
  rw [rowOK, Bool.and_eq_true, Bool.and_eq_true, decide_eq_true_eq, inR_true, allR, List.all_eq_true] at h1
  refine ⟨h1.1, by omega, fun x hx => ?_⟩
  have := inR_true.1 (h1.2.2 x hx)
  omega
theorem validM_size {m : List (List Int)} (h : validM m = true) : 1 ≤ m.length ∧ m.length ≤ 5 := by
  rw [validM, Bool.and_eq_true, inR_true] at h
  omega

theorem tour_noRow {m : List (List Int)} {i : Nat} (hi : i < m.length) (h : (m[i]'hi).length ≠ m.length) : tourB m = false := by
  cases hv : validM m
  · exact tour_noM hv
  · refine tour_noL fun hl => h ?_
    rw [(validM_row hv hi).1, ← hl]
theorem tour_noIn {m : List (List Int)} {i k : Nat} (hi : i < m.length) (hk : k < (m[i]'hi).length) (h : inR ((m[i]'hi)[k]'hk) 0 1 = false) : tourB m = false := by
  cases hv : validM m
  · exact tour_noM hv
  · have h1 := (validM_row hv hi).2.2 _ (List.getElem_mem hk)
    have : inR ((m[i]'hi)[k]'hk) 0 1 = true := inR_true.2 h1
    rw [this] at h
    cases h
theorem tour_end {m : List (List Int)} (hr : ∀ i (hi : i < m.length), (m[i]'hi).length = m.length) (hin : ∀ i (hi : i < m.length) k (hk : k < (m[i]'hi).length), inR ((m[i]'hi)[k]'hk) 0 1 = true)
    (h : ∀ i, i < m.length → ∀ k, k < m.length → okT m i k = true) : tourB m = inR m.length 1 5 := by
  cases hI : inR m.length 1 5
  · exact tour_noM (by rw [validM, hI, Bool.and_false])
  · have h0 : 0 < m.length := by have := inR_true.1 hI; omega
    have hl : m.length = (m.getD 0 []).length := by rw [getD_zero h0]; exact (hr 0 h0).symm
    refine tour_yes ?_ hl h
    rw [validM, hI, Bool.and_true, List.all_eq_true]
    intro row hrow
    obtain ⟨i, hi, rfl⟩ := List.getElem_of_mem hrow
    rw [rowOK, ← hl, hr i hi, hI, decide_eq_true rfl, Bool.true_and, Bool.true_and]
    refine allR_yes fun k hk => hin i hi k hk

end Go.Proofs.Ytjghcegacgpehaa
