
/- TransposeMatrix and FlipMatrix on both sides. (Printed by gen_trans2.py.) -/
import Derived.Test.YtmlaohohbadgbaaTrans
namespace Go.Proofs.Ytmlaohohbadgbaa
open Go.RowKit

set_option maxHeartbeats 1000000 in
theorem implTranspose_any (a : Option Addr) (c n : Nat) (m : List (List Int)) (w : World) (hn : m.length = n) (hx : RdM w a m) (hl : n + sumLen m ≤ 1048576) :
    Calls Try.prog 12 #[.slice a n c] w fun e w' => ∃ a' c' rs, e = .returned (.slice a' (transL m).length c') ∧ OwnM w' w.heap.size a' (transL m).length c' rs (transL m) ∧ Below w.heap.size w w' := by
  have hB := below_alloc w (.cells #[.slice a n c] 23)
  have hx1 := hx.below hB
  have C1 := implValidMatrix_any a c n m _ hn hx1 hl
  cases hv : validM m
  · rw [hv] at C1
    have hR : transL m = [] := by simp [transL, hv]
    rw [hR]
    clear hR hx hx1 hv
    go_enter Try.func12, Try.ntmps12
    go_wp2_with fail
    refine C1.mono ?_
    rintro e w1 ⟨rfl, hb⟩
    go_wp2
    go_ret
    exact ⟨none, 0, [], rfl, ownM_none _ _, below_tr' hB hb⟩
  · rw [hv] at C1
    have h5 := validM_cols hv
    have hR : transL m = tbl (colsOf m) m.length (fun i k => at2 m k i) := by simp [transL, hv]
    rw [hR, tbl_length]
    rw [hn] at h5 ⊢
    have HV := Lib.hid hv
    obtain ⟨cl, hcl⟩ : ∃ cl, cl = colsOf m := ⟨_, rfl⟩
    rw [← hcl] at h5 ⊢
    have HCL := Lib.hid hcl
    have HN := Lib.hid hn
    have p0 := Lib.hid (show ∀ w1, Below (w.alloc (.cells #[.slice a n c] 23)).heap.size (w.alloc (.cells #[.slice a n c] 23)) w1 → w1.cell? ⟨w.heap.size, 0, none⟩ = some (.slice a n c) from fun w1 h => cell_new _ _ h)
    clear hv hcl hn hR hx
    go_enter Try.func12, Try.ntmps12
    go_wp2_with fail
    refine C1.mono ?_
    rintro e w1 ⟨rfl, hb⟩
    have hp1 := p0.out w1 hb
    have hx2 := hx1.below hb
    have HB1 := below_tr' hB hb
    obtain ⟨b0, off0, a0, c0, e0, hc0⟩ := hx2.first HV.out
    rw [← HCL.out] at hc0
    subst e0
    have d1 := later_cell hp1
    have d2 := later_cell hc0
    have bd := bel_drew (Below.refl w1.heap.size w1)
    have HT := table_any cl n 38 #[.pointer (some ⟨w.heap.size, 0, none⟩)] (fun i k => at2 m k i) w1.drew (by omega) (by omega)
      ⟨enters_trans, fun w' i k hb' hi hk => same_below (trans1_any w.heap.size (some ⟨b0, off0, none⟩) c n m i k w' HV.out HN.out ((later_cell hp1) ⟨w', bd.trans hb'⟩) (hx2.below (bd.trans hb')) (by rw [← HCL.out]; exact hi) (by rw [HN.out]; exact hk))⟩
    have HT := Lib.hid HT
    have HB1 := Lib.hid HB1
    clear C1 hb hp1 hx2 hc0 p0 hx1 hB
    go_wp2
    refine wp_region_flags [true, true, true, true, true, true, false, false, false] 8 (C := fun w' => ∃ u : Later w1, w' = u.val) (by kernel_rfl) (by kernel_rfl) ⟨⟨_, bd⟩, rfl⟩ ?_
    simp only [pickT, pickF]
    repeat (go_big_quiet_step (fail))
    refine wpQuiet_nil ?_
    clear d1 d2
    refine tail_step fun K2 hK2 => ?_
    go_wp2
    refine hK2 _ _ ⟨⟨_, bd⟩, rfl⟩ ?_
    clear hK2
    refine tail_step fun K3 hK3 => ?_
    go_wp2_with fail
    refine HT.out.mono ?_
    rintro e w2 ⟨rs, rfl, hM, hb2⟩
    have hb3 : Below w1.heap.size w1 w2 := bd.trans hb2
    have HBE := Lib.hid (below_tr' HB1.out hb3)
    have HM := Lib.hid (hM.mono (B' := w.heap.size) (by have := HB1.out.size; simpa using this))
    obtain ⟨D, hD⟩ : ∃ D, D = w1.drew.heap.size := ⟨_, rfl⟩
    rw [← hD] at HM ⊢
    clear hD hM hb2
    go_wp2
    refine hK3 _ _ ⟨⟨_, hb3⟩, rfl⟩ ?_
    clear hK3
    refine tail_last fun K4 hK4 => ?_
    go_wp2
    go_ret
    exact ⟨_, _, rs, rfl, HM.out, HBE.out⟩

set_option maxHeartbeats 1000000 in
theorem implFlip_any (a : Option Addr) (c n : Nat) (m : List (List Int)) (w : World) (hn : m.length = n) (hx : RdM w a m) (hl : n + sumLen m ≤ 1048576) :
    Calls Try.prog 13 #[.slice a n c] w fun e w' => ∃ a' c' rs, e = .returned (.slice a' (flipL m).length c') ∧ OwnM w' w.heap.size a' (flipL m).length c' rs (flipL m) ∧ Below w.heap.size w w' := by
  have hB := below_alloc w (.cells #[.slice a n c] 23)
  have hx1 := hx.below hB
  have C1 := implValidMatrix_any a c n m _ hn hx1 hl
  cases hv : validM m
  · rw [hv] at C1
    have hR : flipL m = [] := by simp [flipL, hv]
    rw [hR]
    clear hR hx hx1 hv
    go_enter Try.func13, Try.ntmps13
    go_wp2_with fail
    refine C1.mono ?_
    rintro e w1 ⟨rfl, hb⟩
    go_wp2
    go_ret
    exact ⟨none, 0, [], rfl, ownM_none _ _, below_tr' hB hb⟩
  · rw [hv] at C1
    have h5 := validM_cols hv
    have hR : flipL m = tbl m.length (colsOf m) (fun i k => 1 - at2 m i k) := by simp [flipL, hv]
    rw [hR, tbl_length]
    rw [hn] at h5 ⊢
    have HV := Lib.hid hv
    obtain ⟨cl, hcl⟩ : ∃ cl, cl = colsOf m := ⟨_, rfl⟩
    rw [← hcl] at h5 ⊢
    have HCL := Lib.hid hcl
    have HN := Lib.hid hn
    have p0 := Lib.hid (show ∀ w1, Below (w.alloc (.cells #[.slice a n c] 23)).heap.size (w.alloc (.cells #[.slice a n c] 23)) w1 → w1.cell? ⟨w.heap.size, 0, none⟩ = some (.slice a n c) from fun w1 h => cell_new _ _ h)
    clear hv hcl hn hR hx
    go_enter Try.func13, Try.ntmps13
    go_wp2_with fail
    refine C1.mono ?_
    rintro e w1 ⟨rfl, hb⟩
    have hp1 := p0.out w1 hb
    have hx2 := hx1.below hb
    have HB1 := below_tr' hB hb
    obtain ⟨b0, off0, a0, c0, e0, hc0⟩ := hx2.first HV.out
    rw [← HCL.out] at hc0
    subst e0
    have d1 := later_cell hp1
    have d2 := later_cell hc0
    have bd := bel_drew (Below.refl w1.heap.size w1)
    have HT := table_any n cl 39 #[.pointer (some ⟨w.heap.size, 0, none⟩)] (fun i k => 1 - at2 m i k) w1.drew (by omega) (by omega)
      ⟨enters_flip, fun w' i k hb' hi hk => same_below (flip1_any w.heap.size (some ⟨b0, off0, none⟩) c n m i k w' HV.out HN.out ((later_cell hp1) ⟨w', bd.trans hb'⟩) (hx2.below (bd.trans hb')) (by rw [HN.out]; exact hi) (by rw [← HCL.out]; exact hk))⟩
    have HT := Lib.hid HT
    have HB1 := Lib.hid HB1
    clear C1 hb hp1 hx2 hc0 p0 hx1 hB
    go_wp2
    refine wp_region_flags [true, true, true, true, true, true, false, false, false] 8 (C := fun w' => ∃ u : Later w1, w' = u.val) (by kernel_rfl) (by kernel_rfl) ⟨⟨_, bd⟩, rfl⟩ ?_
    simp only [pickT, pickF]
    repeat (go_big_quiet_step (fail))
    refine wpQuiet_nil ?_
    clear d1 d2
    refine tail_step fun K2 hK2 => ?_
    go_wp2
    refine hK2 _ _ ⟨⟨_, bd⟩, rfl⟩ ?_
    clear hK2
    refine tail_step fun K3 hK3 => ?_
    go_wp2_with fail
    refine HT.out.mono ?_
    rintro e w2 ⟨rs, rfl, hM, hb2⟩
    have hb3 : Below w1.heap.size w1 w2 := bd.trans hb2
    have HBE := Lib.hid (below_tr' HB1.out hb3)
    have HM := Lib.hid (hM.mono (B' := w.heap.size) (by have := HB1.out.size; simpa using this))
    obtain ⟨D, hD⟩ : ∃ D, D = w1.drew.heap.size := ⟨_, rfl⟩
    rw [← hD] at HM ⊢
    clear hD hM hb2
    go_wp2
    refine hK3 _ _ ⟨⟨_, hb3⟩, rfl⟩ ?_
    clear hK3
    refine tail_last fun K4 hK4 => ?_
    go_wp2
    go_ret
    exact ⟨_, _, rs, rfl, HM.out, HBE.out⟩

set_option maxHeartbeats 1000000 in
theorem specTM_any (a : Option Addr) (c n : Nat) (m : List (List Int)) (w : World) (hn : m.length = n) (hx : RdM w a m) (hl : n + sumLen m ≤ 1048576) :
    Calls Try.prog 19 #[.slice a n c] w fun e w' => ∃ a' c' rs, e = .returned (.slice a' (transL m).length c') ∧ OwnM w' w.heap.size a' (transL m).length c' rs (transL m) ∧ Below w.heap.size w w' := by
  have C1 := specValidMatrix_any a c n m w hn hx hl
  cases hv : validM m
  · rw [hv] at C1
    have hR : transL m = [] := by simp [transL, hv]
    rw [hR]
    clear hR hx hv
    go_enter Try.func19, Try.ntmps19
    go_wp2_with fail
    refine C1.mono ?_
    rintro e w1 ⟨rfl, hb⟩
    go_wp2
    go_ret
    exact ⟨none, 0, [], rfl, ownM_none _ _, hb⟩
  · rw [hv] at C1
    have hR : transL m = tbl (colsOf m) n (fun i k => at2 m k i) := by simp [transL, hv, hn]
    rw [hR, tbl_length]
    clear hR
    have HT := Lib.hid (fun w1 (hb : Below w.heap.size w w1) => specTranspose_any a c n m w1 hv hn (hx.below hb))
    clear hv hx hn
    go_enter Try.func19, Try.ntmps19
    go_wp2_with fail
    refine C1.mono ?_
    rintro e w1 ⟨rfl, hb⟩
    have C2 := HT.out w1 hb
    clear C1
    go_wp2_with fail
    refine C2.mono ?_
    rintro e w2 ⟨a', c', rs, rfl, hM, hb2⟩
    have HM := Lib.hid (hM.mono hb.size)
    clear hM C2
    go_wp2
    go_ret
    exact ⟨a', c', rs, rfl, HM.out, below_tr' hb hb2⟩

set_option maxHeartbeats 2000000 in
theorem specFlip_any (a : Option Addr) (c n : Nat) (m : List (List Int)) (w : World) (hn : m.length = n) (hx : RdM w a m) (hl : n + sumLen m ≤ 1048576) :
    Calls Try.prog 21 #[.slice a n c] w fun e w' => ∃ a' c' rs, e = .returned (.slice a' (flipL m).length c') ∧ OwnM w' w.heap.size a' (flipL m).length c' rs (flipL m) ∧ Below w.heap.size w w' := by
  have C1 := specValidMatrix_any a c n m w hn hx hl
  cases hv : validM m
  · rw [hv] at C1
    have hR : flipL m = [] := by simp [flipL, hv]
    rw [hR]
    clear hR hx hv
    go_enter Try.func21, Try.ntmps21
    go_wp2_with fail
    refine C1.mono ?_
    rintro e w1 ⟨rfl, hb⟩
    go_wp2
    go_ret
    exact ⟨none, 0, [], rfl, ownM_none _ _, hb⟩
  · rw [hv] at C1
    have h5 := validM_cols hv
    have hR : flipL m = tbl n (colsOf m) (fun i k => 1 - at2 m i k) := by simp [flipL, hv, hn]
    rw [hR, tbl_length]
    rw [hn] at h5
    have HV := Lib.hid hv
    obtain ⟨cl, hcl⟩ : ∃ cl, cl = colsOf m := ⟨_, rfl⟩
    rw [← hcl] at h5 ⊢
    have HCL := Lib.hid hcl
    have HN := Lib.hid hn
    clear hv hcl hn hR
    go_enter Try.func21, Try.ntmps21
    go_wp2_with fail
    refine C1.mono ?_
    rintro e w1 ⟨rfl, hbs⟩
    have hx1 := hx.below hbs
    clear C1 hx
    go_wp2
    go_loopw [3, 4, 5, 6] (fun v i _ _ wr => ∃ (k : Nat) (ao : Option Addr) (co : Nat) (rs : List At), k ≤ n ∧ i = .int .i64 k ∧ v = .slice ao k co ∧ OwnM wr w1.heap.size ao k co rs (tbl k cl (fun i k => 1 - at2 m i k)) ∧ Below w1.heap.size w1 wr) (fun _ i _ _ _ => n - (intOf i).toNat)
    case atStart => exact ⟨0, some ⟨w1.heap.size, 0, none⟩, 0, [], by omega, rfl, rfl, ownM_nil w1, below_alloc _ _⟩
    case round =>
      obtain ⟨k, ao, co, rs, hk, rfl, rfl, hM, hb⟩ := hrel
      by_cases hlt : k < n
      · obtain ⟨wo, rfl⟩ : ∃ wo : World, wo = wr := ⟨_, rfl⟩
        have hM0 := hM.below (below_alloc wo (.cells #[] 3))
        have hfr0 : ApartA rs (some ⟨wo.heap.size, 0, none⟩) := ApartA.fresh hM.2.2.2.1 (by rw [hM.1, hM.2.1]) (by intro x hx; cases hx; exact Nat.le_refl _)
        have hr0 : (wo.alloc (.cells #[] 3)).ownsRow w1.heap.size 3 1 (.slice (some ⟨wo.heap.size, 0, none⟩) 0 0) 0 (ints []) := World.ownsRow_made wo #[] 0 hb.size (by decide) rfl
        have hb0 := below_tr' hb (below_alloc wo (.cells #[] 3))
        have HM0 := Lib.hid hM0
        have HFR := Lib.hid hfr0
        have HR0 := Lib.hid hr0
        have HB0 := Lib.hid hb0
        clear hM0 hfr0 hr0 hb0 hM
        go_wp2
        go_loopw [5, 6] (fun v j wr => ∃ (t : Nat) (ar : Option Addr) (cr : Nat), t ≤ cl ∧ j = .int .i64 t ∧ v = .slice ar t cr ∧ OwnM wr w1.heap.size ao k co rs (tbl k cl (fun i k => 1 - at2 m i k)) ∧ ApartA rs ar ∧ wr.ownsRow w1.heap.size 3 1 (.slice ar t cr) t (ints (rowF (fun j => 1 - at2 m k j) t)) ∧ Below w1.heap.size w1 wr) (fun _ j _ => cl - (intOf j).toNat)
        case atStart => exact ⟨0, some ⟨wo.heap.size, 0, none⟩, 0, by omega, rfl, rfl, HM0.out, HFR.out, HR0.out, HB0.out⟩
        case round =>
          obtain ⟨t, ar, cr, ht, rfl, rfl, hM, hap, hrow, hb⟩ := hrel
          clear HM0 HFR HR0 HB0
          have hsz := hb.size
          by_cases hlt2 : t < cl
          · have hkm : k < m.length := by rw [HN.out]; exact hlt
            have htm : t < colsOf m := by rw [← HCL.out]; exact hlt2
            obtain ⟨b, off, bi, oi, ci, e1, c1, c2⟩ := (hx1.below hb).num HV.out (i := k) (k := t) hkm htm
            subst e1
            have h6 := at2_bounds HV.out hkm htm
            rw [← HCL.out] at c1
            clear hkm htm
            have HX := Lib.hid (rowF_succ (fun j => 1 - at2 m k j) t)
            generalize at2 m k t = X at *
            go_wp2_with (at_builtin; refine appendRow _ _ rfl rfl hM hap hrow hb (Nat.le_refl _) hsz rfl rfl (by omega) ?_; intro a' c' w5 hM1 hap1 hrow1 hb1)
            have HRW := Lib.hid hrow1
            clear hrow1 hrow c1 c2
            go_roundw
            case rel => exact ⟨t + 1, a', c', by omega, by go_num, rfl, hM1, hap1, by rw [HX.out]; exact HRW.out, hb1⟩
            case measure => simp [intOf]; omega
          · obtain rfl : t = cl := by omega
            obtain ⟨b, off, a0, c0, e1, c1⟩ := (hx1.below hb).row HV.out (i := k) (by rw [HN.out]; exact hlt)
            subst e1
            rw [← HCL.out] at c1
            have HX := Lib.hid (tbl_succ k t (fun i k => 1 - at2 m i k))
            have HL := Lib.hid (rowF_length (fun j => 1 - at2 m k j) t)
            go_wp2_with (at_builtin; refine pushRow _ _ rfl rfl hM hap HL.out hrow hb (Nat.le_refl _) hsz rfl rfl (by omega) ?_; intro a' c' w5 hM1 hb1)
            have HRW := Lib.hid hM1
            clear hM1 hM hrow c1
            go_roundw
            case rel => exact ⟨k + 1, a', c', _, by omega, by go_num, rfl, by rw [HX.out]; exact HRW.out, hb1⟩
            case measure => simp [intOf]; omega
      · obtain rfl : k = n := by omega
        have HR := Lib.hid (hM.mono hbs.size)
        clear hM
        go_wp2
        go_ret
        exact ⟨ao, co, rs, rfl, HR.out, below_tr' hbs hb⟩

end Go.Proofs.Ytmlaohohbadgbaa
