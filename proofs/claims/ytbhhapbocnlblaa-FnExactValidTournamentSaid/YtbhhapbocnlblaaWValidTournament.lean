
/- The walk of the law FnExactValidTournament. (Printed by laws_b.py.) -/
import Derived.Test.YtbhhapbocnlblaaTourS
import Derived.Test.YtbhhapbocnlblaaMatL2
namespace Go.Proofs.Ytbhhapbocnlblaa
open Go.RowKit

set_option maxHeartbeats 4000000 in
set_option linter.unusedVariables false in
theorem walk_FnExactValidTournament (a_m : Option Addr) (c_m n_m : Nat) (m : List (List Int)) (w : World) (hn : m.length = n_m) (hx : RdM w a_m m) (hl : n_m ≤ 9223372036854775807) (hw : WfM m) :
    Calls Try.prog 4 #[.slice a_m n_m c_m] w fun e w' => e = .returned (.bool true) ∧ Below w.heap.size w w' := by
  go_enter Try.func4, Try.ntmps4
  have C1 := szIntSS_any a_m c_m n_m m 1048576 w hn hx hl (by omega) (by omega)
  go_wp2_with fail
  refine C1.mono ?_
  rintro e w1 ⟨v, rfl, hv1, hv2, hb1⟩
  clear C1
  by_cases hneg : v < 0
  · go_wp2
    go_ret
    exact ⟨rfl, hb1⟩
  have hsz : n_m + sumLen m ≤ 1048576 := by have := hv2 (by omega); omega
  clear hv1 hv2
  have C2 := toIntSS_any a_m c_m n_m m w1 hn (hx.below hb1) hsz
  go_wp2_with fail
  refine C2.mono ?_
  rintro e w2 ⟨rs, rfl, hM, hb2⟩
  have hB2 := below_tr' hb1 hb2
  clear C2
  obtain ⟨V, hV⟩ : ∃ V, tourB m = V := ⟨_, rfl⟩
  have C3 := specVT_any (some ⟨w1.heap.size, 0, none⟩) n_m n_m m w2 hn hM.rdM hsz hw
  rw [hV] at C3
  go_wp2_with fail
  refine C3.mono ?_
  rintro e w3 ⟨rfl, hb3⟩
  have hB3 := below_tr' hB2 hb3
  clear C3 hM
  have C4 := toIntSS_any a_m c_m n_m m w3 hn (hx.below hB3) hsz
  go_wp2_with fail
  refine C4.mono ?_
  rintro e w4 ⟨rs4, rfl, hM, hb4⟩
  have hB4 := below_tr' hB3 hb4
  clear C4
  have C5 := implValidTournament_any (some ⟨w3.heap.size, 0, none⟩) n_m n_m m w4 hn hM.rdM hsz
  rw [hV] at C5
  go_wp2_with fail
  refine C5.mono ?_
  rintro e w5 ⟨rfl, hb5⟩
  have hB5 := below_tr' hB4 hb5
  have hM := hM.below hb5
  clear C5
  have C6 := toIntSS_any a_m c_m n_m m w5 hn (hx.below hB5) hsz
  go_wp2_with fail
  refine C6.mono ?_
  rintro e w6 ⟨rs6, rfl, hM6, hb6⟩
  have hB6 := below_tr' hB5 hb6
  have hM := hM.below hb6
  clear C6
  have C7 := eqIntSS_any (some ⟨w3.heap.size, 0, none⟩) (some ⟨w5.heap.size, 0, none⟩) n_m n_m n_m m w6 hn hM.rdM hM6.rdM hsz
  go_wp2_with fail
  refine C7.mono ?_
  rintro e w7 ⟨rfl, hb7⟩
  have hB7 := below_tr' hB6 hb7
  clear C7 hM hM6
  go_wp2
  go_ret
  exact ⟨rfl, hB7⟩

end Go.Proofs.Ytbhhapbocnlblaa
