
/- The walk of the law FnValidMatrix. (Printed by laws_d.py.) -/
import Derived.Test.YtmlaohohbadgbaaDrawM3
import Derived.Test.YtmlaohohbadgbaaPlainMat
import Derived.Test.YtmlaohohbadgbaaTrans2
import Derived.Test.YtmlaohohbadgbaaVMatS
namespace Go.Proofs.Ytmlaohohbadgbaa
open Go.RowKit

set_option maxHeartbeats 4000000 in
set_option linter.unusedVariables false in
theorem walk_FnValidMatrix (a_c : Option Addr) (c_c n_c : Nat) (bs : List Int) (w : World) (hc : CodeOK w a_c c_c n_c bs) :
    Calls Try.prog 3 #[.slice a_c n_c c_c] w fun e w' => e = .returned (.bool true) ∧ Below w.heap.size w w' := by
  by_cases hs : 1048576 < n_c
  · go_enter Try.func3, Try.ntmps3
    go_wp2
    go_ret
    exact ⟨rfl, Below.refl _ _⟩
  have hs' : n_c ≤ 1048576 := by omega
  have HB0 := Below.refl w.heap.size w
  go_enter Try.func3, Try.ntmps3
  have C1 := DrawValidMatrix_any a_c c_c n_c bs w hc hs'
  go_wp2_with fail
  refine C1.mono ?_
  rintro e w1 ⟨m, a_m, c_m, rfl, hS, hx, hb1⟩
  clear C1
  have hsz := hS.size
  have hwf := hS.wf
  obtain ⟨n_m, hn⟩ : ∃ n, m.length = n := ⟨_, rfl⟩
  rw [hn]
  rw [hn] at hsz
  have HB1 := below_tr' HB0 hb1
  clear hb1
  have hL1 := transL_len m
  have hL2 := flipL_len m
  cases hv : validM m
  · have C2 := implValidMatrix_any a_m c_m n_m m w1 hn hx (by omega)
    rw [hv] at C2
    go_wp2_with fail
    refine C2.mono ?_
    rintro e w2 ⟨rfl, hb2⟩
    clear C2
    have HB2 := below_tr' HB1 hb2
    have hx := hx.below hb2
    clear hb2
    have C3 := specVM_any a_m c_m n_m m w2 hn hx (by omega)
    rw [hv] at C3
    go_wp2_with fail
    refine C3.mono ?_
    rintro e w3 ⟨rfl, hb3⟩
    clear C3
    have HB3 := below_tr' HB2 hb3
    have hx := hx.below hb3
    clear hb3
    have C4 := specVM_any a_m c_m n_m m w3 hn hx (by omega)
    rw [hv] at C4
    go_wp2_with fail
    refine C4.mono ?_
    rintro e w4 ⟨rfl, hb4⟩
    clear C4
    have HB4 := below_tr' HB3 hb4
    have hx := hx.below hb4
    clear hb4
    go_wp2
    go_ret
    exact ⟨rfl, HB4⟩
  · have C2 := implValidMatrix_any a_m c_m n_m m w1 hn hx (by omega)
    rw [hv] at C2
    go_wp2_with fail
    refine C2.mono ?_
    rintro e w2 ⟨rfl, hb2⟩
    clear C2
    have HB2 := below_tr' HB1 hb2
    have hx := hx.below hb2
    clear hb2
    have C3 := specVM_any a_m c_m n_m m w2 hn hx (by omega)
    rw [hv] at C3
    go_wp2_with fail
    refine C3.mono ?_
    rintro e w3 ⟨rfl, hb3⟩
    clear C3
    have HB3 := below_tr' HB2 hb3
    have hx := hx.below hb3
    clear hb3
    have HT := Lib.hid (trans_valid hv)
    have HF := Lib.hid (flip_valid hv)
    have C4 := implTranspose_any a_m c_m n_m m w3 hn hx (by omega)
    go_wp2_with fail
    refine C4.mono ?_
    rintro e w4 ⟨a4, c4, rs4, rfl, hM4, hb4⟩
    clear C4
    have HB4 := below_tr' HB3 hb4
    have hx := hx.below hb4
    clear hb4
    have ho := hM4.rdM
    clear hM4
    have C5 := implValidMatrix_any a4 c4 (transL m).length (transL m) w4 rfl ho (by omega)
    rw [HT.out] at C5
    go_wp2_with fail
    refine C5.mono ?_
    rintro e w5 ⟨rfl, hb5⟩
    clear C5
    have HB5 := below_tr' HB4 hb5
    have hx := hx.below hb5
    have ho := ho.below hb5
    clear hb5
    clear ho
    have C6 := implFlip_any a_m c_m n_m m w5 hn hx (by omega)
    go_wp2_with fail
    refine C6.mono ?_
    rintro e w6 ⟨a6, c6, rs6, rfl, hM6, hb6⟩
    clear C6
    have HB6 := below_tr' HB5 hb6
    have hx := hx.below hb6
    clear hb6
    have hf := hM6.rdM
    clear hM6
    have C7 := implValidMatrix_any a6 c6 (flipL m).length (flipL m) w6 rfl hf (by omega)
    rw [HF.out] at C7
    go_wp2_with fail
    refine C7.mono ?_
    rintro e w7 ⟨rfl, hb7⟩
    clear C7
    have HB7 := below_tr' HB6 hb7
    have hx := hx.below hb7
    have hf := hf.below hb7
    clear hb7
    go_wp2
    go_ret
    exact ⟨rfl, HB7⟩

end Go.Proofs.Ytmlaohohbadgbaa
