
/- The weights of a code make the graph of the code: plain. -/
import Derived.Test.YtbiekdhikanhcaaWeights
import Derived.Test.YtbiekdhikanhcaaWeightG
import Derived.Test.YtbiekdhikanhcaaCodeG
import Derived.Test.YtbiekdhikanhcaaSorted
namespace Go.Proofs.Ytbiekdhikanhcaa
open Go.RowKit

theorem wts_getD (s : ByteArray) (n k : Nat) (h : k < n) : (wts s n).getD k 0 = wt s k := by
  rw [List.getD, List.getElem?_eq_getElem (by rw [wts_length]; exact h)]
  simp [wts]

theorem wt_bound (s : ByteArray) (k : Nat) : -(k : Int) - 1 ≤ wt s k ∧ wt s k ≤ (k : Int) + 1 := by
  unfold wt
  split <;> omega

theorem wP_dP (s : ByteArray) {e : E2} (h : e ∈ pairsL s.size) : wP (wts s s.size) 0 e = dP s e := by
  have h1 := mem_pairsL.1 h
  obtain ⟨x, hx⟩ : ∃ x : Nat, e.1 = x := ⟨e.1.toNat, by omega⟩
  obtain ⟨y, hy⟩ : ∃ y : Nat, e.2 = y := ⟨e.2.toNat, by omega⟩
  rw [wP, dP, hx, hy]
  rw [show ((x : Nat) : Int).toNat = x from rfl, show ((y : Nat) : Int).toNat = y from rfl]
  rw [wts_getD s _ x (by omega), wts_getD s _ y (by omega)]
  have hb := wt_bound s x
  by_cases hd : (s.data.toList.getD y 0).toNat = 100
  · have : wt s y = (y : Int) + 1 := by rw [wt, if_pos hd]
    rw [this, decide_eq_true hd]
    exact decide_eq_true (by omega)
  · have : wt s y = -(y : Int) - 1 := by rw [wt, if_neg hd]
    rw [this, decide_eq_false hd]
    exact decide_eq_false (by omega)

theorem wgr_cgr {s : ByteArray} (h : codeB s = true) : wgrOK (wtsOf s) = true ∧ wgrN (wtsOf s) = cgrN s ∧ wgrL (wtsOf s) 0 = cgrL s := by
  have h7 := (codeB_true h).2
  have e1 : wtsOf s = wts s s.size := by simp [wtsOf, h]
  have hok : wgrOK (wts s s.size) = true := by
    rw [wgrOK, Bool.and_eq_true, wts_length]
    refine ⟨?_, by simp; omega⟩
    rw [allR, List.all_eq_true]
    intro x hx
    simp only [wts, List.mem_map, List.mem_range] at hx
    obtain ⟨k, hk, rfl⟩ := hx
    have := wt_bound s k
    rw [inR_true]
    omega
  rw [e1]
  refine ⟨hok, ?_, ?_⟩
  · rw [wgrN, if_pos hok, wts_length, cgrN, if_pos h]
  · rw [wgrL, if_pos hok, wts_length, cgrL, if_pos h, wgtL, codeL]
    exact List.filter_congr fun e he => wP_dP s he

end Go.Proofs.Ytbiekdhikanhcaa
