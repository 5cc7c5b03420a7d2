
/- TransposeMatrix and FlipMatrix on both sides. (Printed by gen_trans2.py.) -/
import Derived.Test.YtjghcegacgpehaaTrans
namespace Go.Proofs.Ytjghcegacgpehaa
open Go.RowKit

set_option maxHeartbeats 1000000 in
theorem implTranspose_any (a : Option Addr) (c n : Nat) (m : List (List Int)) (w : World) (hn : m.length = n) (hx : RdM w a m) (hl : n + sumLen m ≤ 1048576) :
    Calls Try.prog 26 #[.slice a n c] w fun e w' => ∃ a' c' rs, e = .returned (.slice a' (transL m).length c') ∧ OwnM w' w.heap.size a' (transL m).length c' rs (transL m) ∧ Below w.heap.size w w' := by
  have hB := below_alloc w (.cells #[.slice a n c] 34)
  have hx1 := hx.below hB
  have C1 := implValidMatrix_any a c n m _ hn hx1 hl
  cases hv : validM m
  · rw [hv] at C1
    have hR : transL m = [] := by simp [transL, hv]
    rw [hR]
    clear hR hx hx1 hv
    go_enter Try.func26, Try.ntmps26
    go_wp2_with fail
    refine C1.mono ?_
    rintro e w1 ⟨rfl, hb⟩
    go_wp2
    go_ret
    exact ⟨none, 0, [], rfl, ownM_none _ _, below_tr' hB hb⟩
  · rw [hv] at C1
    have h5 := validM_cols hv
    have hR : transL m = tbl (colsOf m) m.length (fun i k => at2 m k i) := by simp [transL, hv]
    rw [hR, tbl_length]
    rw [hn] at h5 ⊢
    have HV := Lib.hid hv
    obtain ⟨cl, hcl⟩ : ∃ cl, cl = colsOf m := ⟨_, rfl⟩
    rw [← hcl] at h5 ⊢
    have HCL := Lib.hid hcl
    have HN := Lib.hid hn
    have p0 := Lib.hid (show ∀ w1, Below (w.alloc (.cells #[.slice a n c] 34)).heap.size (w.alloc (.cells #[.slice a n c] 34)) w1 → w1.cell? ⟨w.heap.size, 0, none⟩ = some (.slice a n c) from fun w1 h => cell_new _ _ h)
    clear hv hcl hn hR hx
    go_enter Try.func26, Try.ntmps26
    go_wp2_with fail
    refine C1.mono ?_
    rintro e w1 ⟨rfl, hb⟩
    have hp1 := p0.out w1 hb
    have hx2 := hx1.below hb
    have HB1 := below_tr' hB hb
    obtain ⟨b0, off0, a0, c0, e0, hc0⟩ := hx2.first HV.out
    rw [← HCL.out] at hc0
    subst e0
    have d1 := later_cell hp1
    have d2 := later_cell hc0
    have bd := bel_drew (Below.refl w1.heap.size w1)
    have HT := table_any cl n 89 #[.pointer (some ⟨w.heap.size, 0, none⟩)] (fun i k => at2 m k i) w1.drew (by omega) (by omega)
      ⟨enters_trans, fun w' i k hb' hi hk => same_below (trans1_any w.heap.size (some ⟨b0, off0, none⟩) c n m i k w' HV.out HN.out ((later_cell hp1) ⟨w', bd.trans hb'⟩) (hx2.below (bd.trans hb')) (by rw [← HCL.out]; exact hi) (by rw [HN.out]; exact hk))⟩
    have HT := Lib.hid HT
    have HB1 := Lib.hid HB1
    clear C1 hb hp1 hx2 hc0 p0 hx1 hB
    go_wp2
    refine wp_region_flags [true, true, true, true, true, true, false, false, false] 8 (C := fun w' => ∃ u : Later w1, w' = u.val) (by kernel_rfl) (by kernel_rfl) ⟨⟨_, bd⟩, rfl⟩ ?_
    simp only [pickT, pickF]
    repeat (go_big_quiet_step (fail))
    refine wpQuiet_nil ?_
    clear d1 d2
    refine tail_step fun K2 hK2 => ?_
    go_wp2
    refine hK2 _ _ ⟨⟨_, bd⟩, rfl⟩ ?_
    clear hK2
    refine tail_step fun K3 hK3 => ?_
    go_wp2_with fail
    refine HT.out.mono ?_
    rintro e w2 ⟨rs, rfl, hM, hb2⟩
    have hb3 : Below w1.heap.size w1 w2 := bd.trans hb2
    have HBE := Lib.hid (below_tr' HB1.out hb3)
    have HM := Lib.hid (hM.mono (B' := w.heap.size) (by have := HB1.out.size; simpa using this))
    obtain ⟨D, hD⟩ : ∃ D, D = w1.drew.heap.size := ⟨_, rfl⟩
    rw [← hD] at HM ⊢
    clear hD hM hb2
    go_wp2
    refine hK3 _ _ ⟨⟨_, hb3⟩, rfl⟩ ?_
    clear hK3
    refine tail_last fun K4 hK4 => ?_
    go_wp2
    go_ret
    exact ⟨_, _, rs, rfl, HM.out, HBE.out⟩

end Go.Proofs.Ytjghcegacgpehaa
