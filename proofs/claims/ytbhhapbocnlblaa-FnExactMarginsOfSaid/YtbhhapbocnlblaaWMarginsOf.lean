
/- The walk of the law FnExactMarginsOf. (Printed by laws_b.py.) -/
import Derived.Test.YtbhhapbocnlblaaMarg
import Derived.Test.YtbhhapbocnlblaaMatL3
namespace Go.Proofs.Ytbhhapbocnlblaa
open Go.RowKit

set_option maxHeartbeats 4000000 in
set_option linter.unusedVariables false in
theorem walk_FnExactMarginsOf (a_m : Option Addr) (c_m n_m : Nat) (m : List (List Int)) (w : World) (hn : m.length = n_m) (hx : RdM w a_m m) (hl : n_m ≤ 9223372036854775807) (hw : WfM m) :
    Calls Try.prog 8 #[.slice a_m n_m c_m] w fun e w' => e = .returned (.bool true) ∧ Below w.heap.size w w' := by
  have hW7 := (marg_len m).1
  have hW8 := (marg_len m).2
  have HB0 := Below.refl w.heap.size w
  go_enter Try.func8, Try.ntmps8
  have C1 := szIntSS_any a_m c_m n_m m 1048576 w hn hx hl (by omega) (by omega)
  go_wp2_with fail
  refine C1.mono ?_
  rintro e w1 ⟨v, rfl, hv1, hv2, hb1⟩
  clear C1
  have hs1 := hb1.size
  have HB1 := below_tr' HB0 hb1
  clear hb1
  by_cases hneg : v < 0
  · go_wp2
    go_ret
    exact ⟨rfl, HB1⟩
  have hsz : n_m + sumLen m ≤ 1048576 := by have := hv2 (by omega); omega
  clear hv1 hv2
  have C2 := toIntSS_any a_m c_m n_m m w1 hn (hx.below HB1) hsz
  go_wp2_with fail
  refine C2.mono ?_
  rintro e w2 ⟨rs2, rfl, ho_t, hb2⟩
  clear C2
  have r_ho_t := ho_t.min
  have hs2 := hb2.size
  have HB2 := below_tr' HB1 hb2
  clear hb2
  have C3 := specMarg_any (some ⟨w1.heap.size, 0, none⟩) n_m n_m m w2 hn ho_t.rdM hsz
  go_wp2_with fail
  refine C3.mono ?_
  rintro e w3 ⟨a03, c03, a13, c13, rfl, ho_w1, ho_w2, ap_ho_w, hb3⟩
  clear C3
  have r_ho_w1 := own_rin ho_w1
  have r_ho_w2 := own_rin ho_w2
  have hs3 := hb3.size
  have HB3 := below_tr' HB2 hb3
  have ho_t := ho_t.below hb3
  clear hb3
  clear ho_t r_ho_t
  have C4 := toIntSS_any a_m c_m n_m m w3 hn (hx.below HB3) hsz
  go_wp2_with fail
  refine C4.mono ?_
  rintro e w4 ⟨rs4, rfl, ho_x, hb4⟩
  clear C4
  have r_ho_x := ho_x.min
  have hs4 := hb4.size
  have HB4 := below_tr' HB3 hb4
  have ho_w1 := own_below ho_w1 hb4
  have ho_w2 := own_below ho_w2 hb4
  clear hb4
  have C5 := implMarg_any (some ⟨w3.heap.size, 0, none⟩) n_m n_m m w4 hn ho_x.rdM hsz
  go_wp2_with fail
  refine C5.mono ?_
  rintro e w5 ⟨a05, c05, a15, c15, rfl, ho_g1, ho_g2, ap_ho_g, hb5⟩
  clear C5
  have r_ho_g1 := own_rin ho_g1
  have r_ho_g2 := own_rin ho_g2
  have hs5 := hb5.size
  have HB5 := below_tr' HB4 hb5
  have ho_w1 := own_below ho_w1 hb5
  have ho_w2 := own_below ho_w2 hb5
  have ho_x := ho_x.below hb5
  clear hb5
  have C6 := eqIntS_b a05 a03 c05 c03 (margR m).length (margR m).length (margR m) (margR m) w5 rfl rfl (own_rd ho_g1) (own_rd ho_w1) (by omega) (by omega) true (decide_eq_true rfl)
  go_wp2_with fail
  refine C6.mono ?_
  rintro e w6 ⟨rfl, hb6⟩
  clear C6
  have hs6 := hb6.size
  have HB6 := below_tr' HB5 hb6
  have ho_w1 := own_below ho_w1 hb6
  have ho_w2 := own_below ho_w2 hb6
  have ho_x := ho_x.below hb6
  have ho_g1 := own_below ho_g1 hb6
  have ho_g2 := own_below ho_g2 hb6
  clear hb6
  have C7 := eqIntS_b a15 a13 c15 c13 (margC m).length (margC m).length (margC m) (margC m) w6 rfl rfl (own_rd ho_g2) (own_rd ho_w2) (by omega) (by omega) true (decide_eq_true rfl)
  go_wp2_with fail
  refine C7.mono ?_
  rintro e w7 ⟨rfl, hb7⟩
  clear C7
  have hs7 := hb7.size
  have HB7 := below_tr' HB6 hb7
  have ho_w1 := own_below ho_w1 hb7
  have ho_w2 := own_below ho_w2 hb7
  have ho_x := ho_x.below hb7
  have ho_g1 := own_below ho_g1 hb7
  have ho_g2 := own_below ho_g2 hb7
  clear hb7
  have C8 := toIntSS_any a_m c_m n_m m w7 hn (hx.below HB7) hsz
  go_wp2_with fail
  refine C8.mono ?_
  rintro e w8 ⟨rs8, rfl, ho_u, hb8⟩
  clear C8
  have r_ho_u := ho_u.min
  have hs8 := hb8.size
  have HB8 := below_tr' HB7 hb8
  have ho_w1 := own_below ho_w1 hb8
  have ho_w2 := own_below ho_w2 hb8
  have ho_x := ho_x.below hb8
  have ho_g1 := own_below ho_g1 hb8
  have ho_g2 := own_below ho_g2 hb8
  clear hb8
  have C9 := eqIntSS_any (some ⟨w3.heap.size, 0, none⟩) (some ⟨w7.heap.size, 0, none⟩) n_m n_m n_m (m) w8 hn ho_x.rdM ho_u.rdM (by omega)
  go_wp2_with fail
  refine C9.mono ?_
  rintro e w9 ⟨rfl, hb9⟩
  clear C9
  have hs9 := hb9.size
  have HB9 := below_tr' HB8 hb9
  have ho_w1 := own_below ho_w1 hb9
  have ho_w2 := own_below ho_w2 hb9
  have ho_x := ho_x.below hb9
  have ho_g1 := own_below ho_g1 hb9
  have ho_g2 := own_below ho_g2 hb9
  have ho_u := ho_u.below hb9
  clear hb9
  clear ho_u r_ho_u
  have C10 := markIntSS_any w3.heap.size (some ⟨w3.heap.size, 0, none⟩) n_m n_m rs4 (m) (1) w9 ho_x (by omega) (by omega) (by omega) (by omega)
  go_wp2_with fail
  refine C10.mono ?_
  rintro e w10 ⟨rfl, hm10, hbm10, hf10⟩
  clear C10
  have hs10 := hbm10.size
  have HB10 := HB9.trans (hbm10.mono (by omega))
  have ho_w1 := own_marked ho_w1 r_ho_w1 r_ho_x (by omega) hf10
  have ho_w2 := own_marked ho_w2 r_ho_w2 r_ho_x (by omega) hf10
  have ho_g1 := own_marked ho_g1 r_ho_g1 r_ho_x (by omega) hf10
  have ho_g2 := own_marked ho_g2 r_ho_g2 r_ho_x (by omega) hf10
  have ho_x := hm10
  clear hm10 hf10 hbm10
  have C11 := eqIntS_b a05 a03 c05 c03 (margR m).length (margR m).length (margR m) (margR m) w10 rfl rfl (own_rd ho_g1) (own_rd ho_w1) (by omega) (by omega) true (decide_eq_true rfl)
  go_wp2_with fail
  refine C11.mono ?_
  rintro e w11 ⟨rfl, hb11⟩
  clear C11
  have hs11 := hb11.size
  have HB11 := below_tr' HB10 hb11
  have ho_w1 := own_below ho_w1 hb11
  have ho_w2 := own_below ho_w2 hb11
  have ho_x := ho_x.below hb11
  have ho_g1 := own_below ho_g1 hb11
  have ho_g2 := own_below ho_g2 hb11
  clear hb11
  have C12 := eqIntS_b a15 a13 c15 c13 (margC m).length (margC m).length (margC m) (margC m) w11 rfl rfl (own_rd ho_g2) (own_rd ho_w2) (by omega) (by omega) true (decide_eq_true rfl)
  go_wp2_with fail
  refine C12.mono ?_
  rintro e w12 ⟨rfl, hb12⟩
  clear C12
  have hs12 := hb12.size
  have HB12 := below_tr' HB11 hb12
  have ho_w1 := own_below ho_w1 hb12
  have ho_w2 := own_below ho_w2 hb12
  have ho_x := ho_x.below hb12
  have ho_g1 := own_below ho_g1 hb12
  have ho_g2 := own_below ho_g2 hb12
  clear hb12
  clear ho_x r_ho_x
  have C13 := markIntS_any w4.heap.size a05 c05 c05 (margR m).length (margR m) (1) w12 ho_g1 (by omega) (by omega) (by omega)
  go_wp2_with fail
  refine C13.mono ?_
  rintro e w13 ⟨rfl, hm13, hf13⟩
  clear C13
  have hs13 := hf13.size
  have HB13 := below_row HB12 (Nat.le_refl _) (own_mono ho_g1 (by omega)) hf13
  have ho_w1 := own_marked1 ho_w1 r_ho_w1 r_ho_g1 (by omega) hf13
  have ho_w2 := own_marked1 ho_w2 r_ho_w2 r_ho_g1 (by omega) hf13
  have ho_g2 := own_kept ho_g2 hf13 ap_ho_g.symm
  have ho_g1 := hm13
  clear hm13 hf13
  have C14 := markIntS_any w4.heap.size a15 c15 c15 (margC m).length (margC m) ((1 + ((margR m).length : Int))) w13 ho_g2 (by omega) (by omega) (by omega)
  go_wp2_with fail
  refine C14.mono ?_
  rintro e w14 ⟨rfl, hm14, hf14⟩
  clear C14
  have hs14 := hf14.size
  have HB14 := below_row HB13 (Nat.le_refl _) (own_mono ho_g2 (by omega)) hf14
  have ho_w1 := own_marked1 ho_w1 r_ho_w1 r_ho_g2 (by omega) hf14
  have ho_w2 := own_marked1 ho_w2 r_ho_w2 r_ho_g2 (by omega) hf14
  have ho_g1 := own_kept ho_g1 hf14 ap_ho_g
  have ho_g2 := hm14
  clear hm14 hf14
  have C15 := heldIntS_any a05 c05 (margR m).length (1) w14 (own_rd ho_g1) (by omega) (by omega) (by omega)
  go_wp2_with fail
  refine C15.mono ?_
  rintro e w14 ⟨rfl, rfl⟩
  clear C15
  have C16 := heldIntS_any a15 c15 (margC m).length ((1 + ((margR m).length : Int))) w14 (own_rd ho_g2) (by omega) (by omega) (by omega)
  go_wp2_with fail
  refine C16.mono ?_
  rintro e w14 ⟨rfl, rfl⟩
  clear C16
  have C17 := toIntSS_any a_m c_m n_m m w14 hn (hx.below HB14) hsz
  go_wp2_with fail
  refine C17.mono ?_
  rintro e w17 ⟨rs17, rfl, ho_y, hb17⟩
  clear C17
  have r_ho_y := ho_y.min
  have hs17 := hb17.size
  have HB17 := below_tr' HB14 hb17
  have ho_w1 := own_below ho_w1 hb17
  have ho_w2 := own_below ho_w2 hb17
  have ho_g1 := own_below ho_g1 hb17
  have ho_g2 := own_below ho_g2 hb17
  clear hb17
  have C18 := implMarg_any (some ⟨w14.heap.size, 0, none⟩) n_m n_m m w17 hn ho_y.rdM hsz
  go_wp2_with fail
  refine C18.mono ?_
  rintro e w18 ⟨a018, c018, a118, c118, rfl, ho_h1, ho_h2, ap_ho_h, hb18⟩
  clear C18
  have r_ho_h1 := own_rin ho_h1
  have r_ho_h2 := own_rin ho_h2
  have hs18 := hb18.size
  have HB18 := below_tr' HB17 hb18
  have ho_w1 := own_below ho_w1 hb18
  have ho_w2 := own_below ho_w2 hb18
  have ho_g1 := own_below ho_g1 hb18
  have ho_g2 := own_below ho_g2 hb18
  have ho_y := ho_y.below hb18
  clear hb18
  clear ho_y r_ho_y
  have C19 := eqIntS_b a018 a03 c018 c03 (margR m).length (margR m).length (margR m) (margR m) w18 rfl rfl (own_rd ho_h1) (own_rd ho_w1) (by omega) (by omega) true (decide_eq_true rfl)
  go_wp2_with fail
  refine C19.mono ?_
  rintro e w19 ⟨rfl, hb19⟩
  clear C19
  have hs19 := hb19.size
  have HB19 := below_tr' HB18 hb19
  have ho_w1 := own_below ho_w1 hb19
  have ho_w2 := own_below ho_w2 hb19
  have ho_g1 := own_below ho_g1 hb19
  have ho_g2 := own_below ho_g2 hb19
  have ho_h1 := own_below ho_h1 hb19
  have ho_h2 := own_below ho_h2 hb19
  clear hb19
  have C20 := eqIntS_b a118 a13 c118 c13 (margC m).length (margC m).length (margC m) (margC m) w19 rfl rfl (own_rd ho_h2) (own_rd ho_w2) (by omega) (by omega) true (decide_eq_true rfl)
  go_wp2_with fail
  refine C20.mono ?_
  rintro e w20 ⟨rfl, hb20⟩
  clear C20
  have hs20 := hb20.size
  have HB20 := below_tr' HB19 hb20
  have ho_w1 := own_below ho_w1 hb20
  have ho_w2 := own_below ho_w2 hb20
  have ho_g1 := own_below ho_g1 hb20
  have ho_g2 := own_below ho_g2 hb20
  have ho_h1 := own_below ho_h1 hb20
  have ho_h2 := own_below ho_h2 hb20
  clear hb20
  have C21 := heldIntS_any a05 c05 (margR m).length (1) w20 (own_rd ho_g1) (by omega) (by omega) (by omega)
  go_wp2_with fail
  refine C21.mono ?_
  rintro e w20 ⟨rfl, rfl⟩
  clear C21
  have C22 := heldIntS_any a15 c15 (margC m).length ((1 + ((margR m).length : Int))) w20 (own_rd ho_g2) (by omega) (by omega) (by omega)
  go_wp2_with fail
  refine C22.mono ?_
  rintro e w20 ⟨rfl, rfl⟩
  clear C22
  go_wp2
  go_ret
  exact ⟨rfl, HB20⟩

end Go.Proofs.Ytbhhapbocnlblaa
