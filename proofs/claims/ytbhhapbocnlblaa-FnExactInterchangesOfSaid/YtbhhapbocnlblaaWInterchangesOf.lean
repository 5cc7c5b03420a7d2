
/- The walk of the law FnExactInterchangesOf. (Printed by laws_b.py.) -/
import Derived.Test.YtbhhapbocnlblaaIcs
import Derived.Test.YtbhhapbocnlblaaMatL3
namespace Go.Proofs.Ytbhhapbocnlblaa
open Go.RowKit

set_option maxHeartbeats 4000000 in
set_option linter.unusedVariables false in
theorem walk_FnExactInterchangesOf (a_m : Option Addr) (c_m n_m : Nat) (m : List (List Int)) (w : World) (hn : m.length = n_m) (hx : RdM w a_m m) (hl : n_m ≤ 9223372036854775807) (hw : WfM m) :
    Calls Try.prog 12 #[.slice a_m n_m c_m] w fun e w' => e = .returned (.bool true) ∧ Below w.heap.size w w' := by
  have hW7 := icsL_len m
  have HB0 := Below.refl w.heap.size w
  go_enter Try.func12, Try.ntmps12
  have C1 := szIntSS_any a_m c_m n_m m 1048576 w hn hx hl (by omega) (by omega)
  go_wp2_with fail
  refine C1.mono ?_
  rintro e w1 ⟨v, rfl, hv1, hv2, hb1⟩
  clear C1
  have hs1 := hb1.size
  have HB1 := below_tr' HB0 hb1
  clear hb1
  by_cases hneg : v < 0
  · go_wp2
    go_ret
    exact ⟨rfl, HB1⟩
  have hsz : n_m + sumLen m ≤ 1048576 := by have := hv2 (by omega); omega
  clear hv1 hv2
  have C2 := toIntSS_any a_m c_m n_m m w1 hn (hx.below HB1) hsz
  go_wp2_with fail
  refine C2.mono ?_
  rintro e w2 ⟨rs2, rfl, ho_t, hb2⟩
  clear C2
  have r_ho_t := ho_t.min
  have hs2 := hb2.size
  have HB2 := below_tr' HB1 hb2
  clear hb2
  have C3 := specIcs_any (some ⟨w1.heap.size, 0, none⟩) n_m n_m m w2 hn ho_t.rdM hsz
  go_wp2_with fail
  refine C3.mono ?_
  rintro e w3 ⟨a3, c3, v3, rfl, ho_w, hb3⟩
  clear C3
  have r_ho_w := own_rin ho_w
  have hs3 := hb3.size
  have HB3 := below_tr' HB2 hb3
  have ho_t := ho_t.below hb3
  clear hb3
  clear ho_t r_ho_t
  have C4 := toIntSS_any a_m c_m n_m m w3 hn (hx.below HB3) hsz
  go_wp2_with fail
  refine C4.mono ?_
  rintro e w4 ⟨rs4, rfl, ho_x, hb4⟩
  clear C4
  have r_ho_x := ho_x.min
  have hs4 := hb4.size
  have HB4 := below_tr' HB3 hb4
  have ho_w := own_below ho_w hb4
  clear hb4
  have C5 := implIcs_any (some ⟨w3.heap.size, 0, none⟩) n_m n_m m w4 hn ho_x.rdM hsz
  go_wp2_with fail
  refine C5.mono ?_
  rintro e w5 ⟨a5, c5, v5, rfl, ho_g, hb5⟩
  clear C5
  have r_ho_g := own_rin ho_g
  have hs5 := hb5.size
  have HB5 := below_tr' HB4 hb5
  have ho_w := own_below ho_w hb5
  have ho_x := ho_x.below hb5
  clear hb5
  have C6 := eqSwitchS_any a5 a3 v5 v3 (icsL m).length (icsL m) w5 rfl (own_rd ho_g) (own_rd ho_w) (by omega)
  go_wp2_with fail
  refine C6.mono ?_
  rintro e w6 ⟨rfl, hb6⟩
  clear C6
  have hs6 := hb6.size
  have HB6 := below_tr' HB5 hb6
  have ho_w := own_below ho_w hb6
  have ho_x := ho_x.below hb6
  have ho_g := own_below ho_g hb6
  clear hb6
  have C7 := toIntSS_any a_m c_m n_m m w6 hn (hx.below HB6) hsz
  go_wp2_with fail
  refine C7.mono ?_
  rintro e w7 ⟨rs7, rfl, ho_u, hb7⟩
  clear C7
  have r_ho_u := ho_u.min
  have hs7 := hb7.size
  have HB7 := below_tr' HB6 hb7
  have ho_w := own_below ho_w hb7
  have ho_x := ho_x.below hb7
  have ho_g := own_below ho_g hb7
  clear hb7
  have C8 := eqIntSS_any (some ⟨w3.heap.size, 0, none⟩) (some ⟨w6.heap.size, 0, none⟩) n_m n_m n_m (m) w7 hn ho_x.rdM ho_u.rdM (by omega)
  go_wp2_with fail
  refine C8.mono ?_
  rintro e w8 ⟨rfl, hb8⟩
  clear C8
  have hs8 := hb8.size
  have HB8 := below_tr' HB7 hb8
  have ho_w := own_below ho_w hb8
  have ho_x := ho_x.below hb8
  have ho_g := own_below ho_g hb8
  have ho_u := ho_u.below hb8
  clear hb8
  clear ho_u r_ho_u
  have C9 := markIntSS_any w3.heap.size (some ⟨w3.heap.size, 0, none⟩) n_m n_m rs4 (m) (1) w8 ho_x (by omega) (by omega) (by omega) (by omega)
  go_wp2_with fail
  refine C9.mono ?_
  rintro e w9 ⟨rfl, hm9, hbm9, hf9⟩
  clear C9
  have hs9 := hbm9.size
  have HB9 := HB8.trans (hbm9.mono (by omega))
  have ho_w := own_marked ho_w r_ho_w r_ho_x (by omega) hf9
  have ho_g := own_marked ho_g r_ho_g r_ho_x (by omega) hf9
  have ho_x := hm9
  clear hm9 hf9 hbm9
  have C10 := eqSwitchS_any a5 a3 v5 v3 (icsL m).length (icsL m) w9 rfl (own_rd ho_g) (own_rd ho_w) (by omega)
  go_wp2_with fail
  refine C10.mono ?_
  rintro e w10 ⟨rfl, hb10⟩
  clear C10
  have hs10 := hb10.size
  have HB10 := below_tr' HB9 hb10
  have ho_w := own_below ho_w hb10
  have ho_x := ho_x.below hb10
  have ho_g := own_below ho_g hb10
  clear hb10
  clear ho_x r_ho_x
  have C11 := markSwitchS_any w4.heap.size a5 c5 v5 (icsL m).length (icsL m) (1) w10 ho_g (by omega) (by omega) (by omega)
  go_wp2_with fail
  refine C11.mono ?_
  rintro e w11 ⟨rfl, hm11, hf11⟩
  clear C11
  have hs11 := hf11.size
  have HB11 := below_row HB10 (Nat.le_refl _) (own_mono ho_g (by omega)) hf11
  have ho_w := own_marked1 ho_w r_ho_w r_ho_g (by omega) hf11
  have ho_g := hm11
  clear hm11 hf11
  have C12 := heldSwitchS_any a5 v5 (icsL m).length (1) w11 (own_rd ho_g) (by omega) (by omega) (by omega)
  go_wp2_with fail
  refine C12.mono ?_
  rintro e w11 ⟨rfl, rfl⟩
  clear C12
  have C13 := toIntSS_any a_m c_m n_m m w11 hn (hx.below HB11) hsz
  go_wp2_with fail
  refine C13.mono ?_
  rintro e w13 ⟨rs13, rfl, ho_y, hb13⟩
  clear C13
  have r_ho_y := ho_y.min
  have hs13 := hb13.size
  have HB13 := below_tr' HB11 hb13
  have ho_w := own_below ho_w hb13
  have ho_g := own_below ho_g hb13
  clear hb13
  have C14 := implIcs_any (some ⟨w11.heap.size, 0, none⟩) n_m n_m m w13 hn ho_y.rdM hsz
  go_wp2_with fail
  refine C14.mono ?_
  rintro e w14 ⟨a14, c14, v14, rfl, ho_h, hb14⟩
  clear C14
  have r_ho_h := own_rin ho_h
  have hs14 := hb14.size
  have HB14 := below_tr' HB13 hb14
  have ho_w := own_below ho_w hb14
  have ho_g := own_below ho_g hb14
  have ho_y := ho_y.below hb14
  clear hb14
  clear ho_y r_ho_y
  have C15 := eqSwitchS_any a14 a3 v14 v3 (icsL m).length (icsL m) w14 rfl (own_rd ho_h) (own_rd ho_w) (by omega)
  go_wp2_with fail
  refine C15.mono ?_
  rintro e w15 ⟨rfl, hb15⟩
  clear C15
  have hs15 := hb15.size
  have HB15 := below_tr' HB14 hb15
  have ho_w := own_below ho_w hb15
  have ho_g := own_below ho_g hb15
  have ho_h := own_below ho_h hb15
  clear hb15
  have C16 := heldSwitchS_any a5 v5 (icsL m).length (1) w15 (own_rd ho_g) (by omega) (by omega) (by omega)
  go_wp2_with fail
  refine C16.mono ?_
  rintro e w15 ⟨rfl, rfl⟩
  clear C16
  go_wp2
  go_ret
  exact ⟨rfl, HB15⟩

end Go.Proofs.Ytbhhapbocnlblaa
