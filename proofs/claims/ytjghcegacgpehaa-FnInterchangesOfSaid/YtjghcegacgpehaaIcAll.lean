
/- All matrices with the sums of a matrix, as the program lists them. -/
import Derived.Test.YtjghcegacgpehaaAllM
import Derived.Test.YtjghcegacgpehaaPlainIc
namespace Go.Proofs.Ytjghcegacgpehaa
open Go.RowKit

theorem vMarg_marg {m : List (List Int)} (h : validM m = true) : vMarg (margR m) (margC m) = true := by
  have h5 := validM_cols h
  obtain ⟨l1, l2⟩ := marg_lens h
  obtain ⟨r1, r2⟩ := marg_range h
  rw [vMarg, Bool.and_eq_true, Bool.and_eq_true, Bool.and_eq_true, inR_true, inR_true, l1, l2]
  refine ⟨?_, ?_, by omega, by omega⟩
  · rw [allR, List.all_eq_true]
    intro x hx
    rw [inR_true]
    exact r1 x hx
  · rw [allR, List.all_eq_true]
    intro x hx
    rw [inR_true]
    exact r2 x hx
theorem allM_marg {m : List (List Int)} (h : validM m = true) (h1 : m.length ≤ 4) (h2 : colsOf m ≤ 4) : decide ((icsL m).length = 0) = decide ((allM (margR m) (margC m)).length = 1) := by
  obtain ⟨l1, l2⟩ := marg_lens h
  rw [ics_law h, allM, if_pos ⟨vMarg_marg h, by omega, by omega⟩]

end Go.Proofs.Ytjghcegacgpehaa
