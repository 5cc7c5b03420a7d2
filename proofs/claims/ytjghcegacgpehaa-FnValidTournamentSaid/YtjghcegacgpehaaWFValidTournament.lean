
/- The walk of the law FnValidTournament. (Printed by laws_d.py.) -/
import Derived.Test.YtjghcegacgpehaaTourD
import Derived.Test.YtjghcegacgpehaaPlainMat
import Derived.Test.YtjghcegacgpehaaTrans2
import Derived.Test.YtjghcegacgpehaaTourI
import Derived.Test.YtjghcegacgpehaaTourS
namespace Go.Proofs.Ytjghcegacgpehaa
open Go.RowKit

set_option maxHeartbeats 4000000 in
set_option linter.unusedVariables false in
theorem walk_FnValidTournament (a_c : Option Addr) (c_c n_c : Nat) (bs : List Int) (w : World) (hc : CodeOK w a_c c_c n_c bs) :
    Calls Try.prog 5 #[.slice a_c n_c c_c] w fun e w' => e = .returned (.bool true) ∧ Below w.heap.size w w' := by
  by_cases hs : 1048576 < n_c
  · go_enter Try.func5, Try.ntmps5
    go_wp2
    go_ret
    exact ⟨rfl, Below.refl _ _⟩
  have hs' : n_c ≤ 1048576 := by omega
  have HB0 := Below.refl w.heap.size w
  go_enter Try.func5, Try.ntmps5
  have C1 := DrawValidTournament_any a_c c_c n_c bs w hc hs'
  go_wp2_with fail
  refine C1.mono ?_
  rintro e w1 ⟨m, a_m, c_m, rfl, hS, hx, hb1⟩
  clear C1
  have hsz := hS.size
  have hwf := hS.wf
  obtain ⟨n_m, hn⟩ : ∃ n, m.length = n := ⟨_, rfl⟩
  rw [hn]
  rw [hn] at hsz
  have HB1 := below_tr' HB0 hb1
  clear hb1
  have hL1 := transL_len m
  cases hv : tourB m
  · have C2 := implValidTournament_any a_m c_m n_m m w1 hn hx (by omega)
    rw [hv] at C2
    go_wp2_with fail
    refine C2.mono ?_
    rintro e w2 ⟨rfl, hb2⟩
    clear C2
    have HB2 := below_tr' HB1 hb2
    have hx := hx.below hb2
    clear hb2
    have C3 := specVT_any a_m c_m n_m m w2 hn hx (by omega) hwf
    rw [hv] at C3
    go_wp2_with fail
    refine C3.mono ?_
    rintro e w3 ⟨rfl, hb3⟩
    clear C3
    have HB3 := below_tr' HB2 hb3
    have hx := hx.below hb3
    clear hb3
    have C4 := specVT_any a_m c_m n_m m w3 hn hx (by omega) hwf
    rw [hv] at C4
    go_wp2_with fail
    refine C4.mono ?_
    rintro e w4 ⟨rfl, hb4⟩
    clear C4
    have HB4 := below_tr' HB3 hb4
    have hx := hx.below hb4
    clear hb4
    go_wp2
    go_ret
    exact ⟨rfl, HB4⟩
  · have C2 := implValidTournament_any a_m c_m n_m m w1 hn hx (by omega)
    rw [hv] at C2
    go_wp2_with fail
    refine C2.mono ?_
    rintro e w2 ⟨rfl, hb2⟩
    clear C2
    have HB2 := below_tr' HB1 hb2
    have hx := hx.below hb2
    clear hb2
    have C3 := specVT_any a_m c_m n_m m w2 hn hx (by omega) hwf
    rw [hv] at C3
    go_wp2_with fail
    refine C3.mono ?_
    rintro e w3 ⟨rfl, hb3⟩
    clear C3
    have HB3 := below_tr' HB2 hb3
    have hx := hx.below hb3
    clear hb3
    obtain ⟨hvm, hvt⟩ := tour_trans hv
    have C4 := implTranspose_any a_m c_m n_m m w3 hn hx (by omega)
    go_wp2_with fail
    refine C4.mono ?_
    rintro e w4 ⟨a4, c4, rs4, rfl, hM4, hb4⟩
    clear C4
    have HB4 := below_tr' HB3 hb4
    have hx := hx.below hb4
    clear hb4
    have ho := hM4.rdM
    clear hM4
    have C5 := implValidTournament_any a4 c4 (transL m).length (transL m) w4 rfl ho (by omega)
    rw [hvt] at C5
    go_wp2_with fail
    refine C5.mono ?_
    rintro e w5 ⟨rfl, hb5⟩
    clear C5
    have HB5 := below_tr' HB4 hb5
    have hx := hx.below hb5
    have ho := ho.below hb5
    clear hb5
    clear ho
    have C6 := implValidMatrix_any a_m c_m n_m m w5 hn hx (by omega)
    rw [hvm] at C6
    go_wp2_with fail
    refine C6.mono ?_
    rintro e w6 ⟨rfl, hb6⟩
    clear C6
    have HB6 := below_tr' HB5 hb6
    have hx := hx.below hb6
    clear hb6
    go_wp2
    go_ret
    exact ⟨rfl, HB6⟩

end Go.Proofs.Ytjghcegacgpehaa
