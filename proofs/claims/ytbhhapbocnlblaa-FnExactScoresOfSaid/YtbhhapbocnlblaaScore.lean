
/- The scores of a tournament: both sides. -/
import Derived.Test.YtbhhapbocnlblaaMarg
import Derived.Test.YtbhhapbocnlblaaTourS
namespace Go.Proofs.Ytbhhapbocnlblaa
open Go.RowKit

def scoreV (m : List (List Int)) : List Int := if tourB m = true then rowF (rsum m) m.length else []
theorem tour_valid {m : List (List Int)} (h : tourB m = true) : validM m = true := by
  cases hv : validM m
  · rw [tour_noM hv] at h; cases h
  · rfl
theorem score_len (m : List (List Int)) : (scoreV m).length ≤ 5 := by
  unfold scoreV
  split
  · rename_i h
    have h1 := validM_cols (tour_valid h)
    rw [rowF_length]; omega
  · simp

set_option maxHeartbeats 1000000 in
theorem specScores_any (a : Option Addr) (c n : Nat) (m : List (List Int)) (w : World) (hn : m.length = n) (hx : RdM w a m) (hl : n + sumLen m ≤ 1048576) (hwf : WfM m) :
    Calls Try.prog 35 #[.slice a n c] w fun e w' => ∃ a' c', e = .returned (.slice a' (scoreV m).length c') ∧ w'.ownsRow w.heap.size 3 1 (.slice a' (scoreV m).length c') (scoreV m).length (ints (scoreV m)) ∧ Below w.heap.size w w' := by
  have C1 := specValidTournament_any a c n m w hn hx hl hwf
  cases hv : tourB m
  · rw [hv] at C1
    have hR : scoreV m = [] := by simp [scoreV, hv]
    rw [hR]
    clear hR hx hv hwf
    go_enter Try.func35, Try.ntmps35
    go_wp2_with fail
    refine C1.mono ?_
    rintro e w1 ⟨rfl, hb⟩
    go_wp2
    go_ret
    exact ⟨none, 0, rfl, World.ownsRow_nil _ _ _ _, hb⟩
  · rw [hv] at C1
    have hR : scoreV m = rowF (rsum m) n := by simp [scoreV, hv, hn]
    rw [hR, rowF_length]
    have hv1 := tour_valid hv
    have h5 := validM_cols hv1
    have HR1 := Lib.hid (fun w1 (hb : Below w.heap.size w w1) => rowSums_any a c n m w1 hn (hx.below hb) (by omega) (fun i hi => ⟨row_small hv1 hi, by have := (validM_row hv1 hi).2.1; omega⟩))
    clear hR hx hv hn hv1 hwf
    go_enter Try.func35, Try.ntmps35
    go_wp2_with fail
    refine C1.mono ?_
    rintro e w1 ⟨rfl, hb⟩
    have C2 := HR1.out w1 hb
    clear C1 HR1
    go_wp2_with fail
    refine C2.mono ?_
    rintro e w2 ⟨a', c', rfl, ho1, hb2⟩
    have HO1 := Lib.hid (own_mono ho1 hb.size)
    clear C2 ho1
    go_wp2
    go_ret
    exact ⟨a', c', rfl, HO1.out, below_tr' hb hb2⟩

set_option maxHeartbeats 1000000 in
theorem implScores_any (a : Option Addr) (c n : Nat) (m : List (List Int)) (w : World) (hn : m.length = n) (hx : RdM w a m) (hl : n + sumLen m ≤ 1048576) :
    Calls Try.prog 36 #[.slice a n c] w fun e w' => ∃ a' c', e = .returned (.slice a' (scoreV m).length c') ∧ w'.ownsRow w.heap.size 3 1 (.slice a' (scoreV m).length c') (scoreV m).length (ints (scoreV m)) ∧ Below w.heap.size w w' := by
  have C1 := implValidTournament_any a c n m w hn hx hl
  cases hv : tourB m
  · rw [hv] at C1
    have hR : scoreV m = [] := by simp [scoreV, hv]
    rw [hR]
    clear hR hx hv
    go_enter Try.func36, Try.ntmps36
    go_wp2_with fail
    refine C1.mono ?_
    rintro e w1 ⟨rfl, hb⟩
    go_wp2
    go_ret
    exact ⟨none, 0, rfl, World.ownsRow_nil _ _ _ _, hb⟩
  · rw [hv] at C1
    have hv1 := tour_valid hv
    have hR : scoreV m = margR m := by simp [scoreV, margR, hv, hv1]
    rw [hR]
    have HR1 := Lib.hid (fun w1 (hb : Below w.heap.size w w1) => implMarg_any a c n m w1 hn (hx.below hb) hl)
    generalize margR m = R1 at *
    generalize margC m = R2 at *
    clear hR hx hv hn hv1
    go_enter Try.func36, Try.ntmps36
    go_wp2_with fail
    refine C1.mono ?_
    rintro e w1 ⟨rfl, hb⟩
    have C2 := HR1.out w1 hb
    clear C1 HR1
    go_wp2_with fail
    refine C2.mono ?_
    rintro e w2 ⟨a', c', a2, c2, rfl, ho1, ho2, _, hb2⟩
    have HO1 := Lib.hid (own_mono ho1 hb.size)
    clear C2 ho1 ho2
    go_wp2
    go_ret
    exact ⟨a', c', rfl, HO1.out, below_tr' hb hb2⟩

end Go.Proofs.Ytbhhapbocnlblaa
