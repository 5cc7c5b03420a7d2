
/- The walk of the law FnFlipMatrix. (Printed by laws_d.py.) -/
import Derived.Test.YtmlaohohbadgbaaDrawM3
import Derived.Test.YtmlaohohbadgbaaPlainMat
import Derived.Test.YtmlaohohbadgbaaTrans2
namespace Go.Proofs.Ytmlaohohbadgbaa
open Go.RowKit

set_option maxHeartbeats 4000000 in
set_option linter.unusedVariables false in
theorem walk_FnFlipMatrix (a_c : Option Addr) (c_c n_c : Nat) (bs : List Int) (w : World) (hc : CodeOK w a_c c_c n_c bs) :
    Calls Try.prog 6 #[.slice a_c n_c c_c] w fun e w' => e = .returned (.bool true) ∧ Below w.heap.size w w' := by
  by_cases hs : 1048576 < n_c
  · go_enter Try.func6, Try.ntmps6
    go_wp2
    go_ret
    exact ⟨rfl, Below.refl _ _⟩
  have hs' : n_c ≤ 1048576 := by omega
  have HB0 := Below.refl w.heap.size w
  go_enter Try.func6, Try.ntmps6
  have C1 := DrawFlipMatrix_any a_c c_c n_c bs w hc hs'
  go_wp2_with fail
  refine C1.mono ?_
  rintro e w1 ⟨m, a_m, c_m, rfl, hS, hx, hb1⟩
  clear C1
  have hsz := hS.size
  have hwf := hS.wf
  obtain ⟨n_m, hn⟩ : ∃ n, m.length = n := ⟨_, rfl⟩
  rw [hn]
  rw [hn] at hsz
  have HB1 := below_tr' HB0 hb1
  clear hb1
  have hL1 := transL_len m
  have hL2 := flipL_len m
  have C2 := implFlip_any a_m c_m n_m m w1 hn hx (by omega)
  go_wp2_with fail
  refine C2.mono ?_
  rintro e w2 ⟨a2, c2, rs2, rfl, hM2, hb2⟩
  clear C2
  have HB2 := below_tr' HB1 hb2
  have hx := hx.below hb2
  clear hb2
  have ho := hM2.rdM
  clear hM2
  have C3 := specFlip_any a_m c_m n_m m w2 hn hx (by omega)
  go_wp2_with fail
  refine C3.mono ?_
  rintro e w3 ⟨a3, c3, rs3, rfl, hM3, hb3⟩
  clear C3
  have HB3 := below_tr' HB2 hb3
  have hx := hx.below hb3
  have ho := ho.below hb3
  clear hb3
  have hw := hM3.rdM
  clear hM3
  have C4 := equalLists_any a2 a3 c2 c3 (flipL m).length (flipL m) w3 rfl ho hw (by omega)
  go_wp2_with fail
  refine C4.mono ?_
  rintro e w4 ⟨rfl, hb4⟩
  clear C4
  have HB4 := below_tr' HB3 hb4
  have hx := hx.below hb4
  have ho := ho.below hb4
  have hw := hw.below hb4
  clear hb4
  clear hw
  cases hv : validM m
  · have C5 := implValidMatrix_any a_m c_m n_m m w4 hn hx (by omega)
    rw [hv] at C5
    go_wp2_with fail
    refine C5.mono ?_
    rintro e w5 ⟨rfl, hb5⟩
    clear C5
    have HB5 := below_tr' HB4 hb5
    have hx := hx.below hb5
    have ho := ho.below hb5
    clear hb5
    have C6 := specFlip_any a_m c_m n_m m w5 hn hx (by omega)
    go_wp2_with fail
    refine C6.mono ?_
    rintro e w6 ⟨a6, c6, rs6, rfl, hM6, hb6⟩
    clear C6
    have HB6 := below_tr' HB5 hb6
    have hx := hx.below hb6
    have ho := ho.below hb6
    clear hb6
    have hw := hM6.rdM
    clear hM6
    have C7 := equalLists_any a2 a6 c2 c6 (flipL m).length (flipL m) w6 rfl ho hw (by omega)
    go_wp2_with fail
    refine C7.mono ?_
    rintro e w7 ⟨rfl, hb7⟩
    clear C7
    have HB7 := below_tr' HB6 hb7
    have hx := hx.below hb7
    have ho := ho.below hb7
    have hw := hw.below hb7
    clear hb7
    go_wp2
    go_ret
    exact ⟨rfl, HB7⟩
  · have C5 := implValidMatrix_any a_m c_m n_m m w4 hn hx (by omega)
    rw [hv] at C5
    go_wp2_with fail
    refine C5.mono ?_
    rintro e w5 ⟨rfl, hb5⟩
    clear C5
    have HB5 := below_tr' HB4 hb5
    have hx := hx.below hb5
    have ho := ho.below hb5
    clear hb5
    have HT := Lib.hid (flip_flip hv)
    have HI := Lib.hid (ics_flip hv)
    have hL3 := icsL_len m
    have C6 := implFlip_any a2 c2 (flipL m).length (flipL m) w5 rfl ho (by omega)
    rw [HT.out, hn] at C6
    go_wp2_with fail
    refine C6.mono ?_
    rintro e w6 ⟨a6, c6, rs6, rfl, hM6, hb6⟩
    clear C6
    have HB6 := below_tr' HB5 hb6
    have hx := hx.below hb6
    have ho := ho.below hb6
    clear hb6
    have hb := hM6.rdM
    clear hM6
    have C7 := equalLists_any a6 a_m c6 c_m n_m (m) w6 hn hb hx (by omega)
    go_wp2_with fail
    refine C7.mono ?_
    rintro e w7 ⟨rfl, hb7⟩
    clear C7
    have HB7 := below_tr' HB6 hb7
    have hx := hx.below hb7
    have ho := ho.below hb7
    have hb := hb.below hb7
    clear hb7
    clear hb
    have C8 := implIcs_any a2 c2 (flipL m).length (flipL m) w7 rfl ho (by omega)
    rw [HI.out] at C8
    go_wp2_with fail
    refine C8.mono ?_
    rintro e w8 ⟨a8, c8, d8, rfl, hM8, hb8⟩
    clear C8 hM8
    have HB8 := below_tr' HB7 hb8
    have hx := hx.below hb8
    have ho := ho.below hb8
    clear hb8
    have C9 := implIcs_any a_m c_m n_m m w8 hn hx (by omega)
    go_wp2_with fail
    refine C9.mono ?_
    rintro e w9 ⟨a9, c9, d9, rfl, hM9, hb9⟩
    clear C9 hM9
    have HB9 := below_tr' HB8 hb9
    have hx := hx.below hb9
    have ho := ho.below hb9
    clear hb9
    go_wp2
    go_ret
    exact ⟨rfl, HB9⟩

end Go.Proofs.Ytmlaohohbadgbaa
