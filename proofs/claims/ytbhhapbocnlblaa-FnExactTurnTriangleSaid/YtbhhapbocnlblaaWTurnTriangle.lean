
/- The walk of the law FnExactTurnTriangle. (Printed by laws_b.py.) -/
import Derived.Test.YtbhhapbocnlblaaTurn2
import Derived.Test.YtbhhapbocnlblaaMatL3
namespace Go.Proofs.Ytbhhapbocnlblaa
open Go.RowKit

set_option maxHeartbeats 4000000 in
set_option linter.unusedVariables false in
theorem walk_FnExactTurnTriangle (a_m : Option Addr) (c_m n_m : Nat) (m : List (List Int)) (A B C : Int) (w : World) (hn : m.length = n_m) (hx : RdM w a_m m) (hl : n_m ≤ 9223372036854775807) (hw : WfM m) :
    Calls Try.prog 11 #[.slice a_m n_m c_m, .int .i64 A, .int .i64 B, .int .i64 C] w fun e w' => e = .returned (.bool true) ∧ Below w.heap.size w w' := by
  have hW7 := turnL_len m A B C
  have HB0 := Below.refl w.heap.size w
  go_enter Try.func11, Try.ntmps11
  have C1 := szIntSS_any a_m c_m n_m m 1048576 w hn hx hl (by omega) (by omega)
  go_wp2_with fail
  refine C1.mono ?_
  rintro e w1 ⟨v, rfl, hv1, hv2, hb1⟩
  clear C1
  have hs1 := hb1.size
  have HB1 := below_tr' HB0 hb1
  clear hb1
  by_cases hneg : v < 0
  · go_wp2
    go_ret
    exact ⟨rfl, HB1⟩
  have hsz : n_m + sumLen m ≤ 1048576 := by have := hv2 (by omega); omega
  clear hv1 hv2
  have C2 := toIntSS_any a_m c_m n_m m w1 hn (hx.below HB1) hsz
  go_wp2_with fail
  refine C2.mono ?_
  rintro e w2 ⟨rs2, rfl, ho_t, hb2⟩
  clear C2
  have r_ho_t := ho_t.min
  have hs2 := hb2.size
  have HB2 := below_tr' HB1 hb2
  clear hb2
  have C3 := specTurn_any (some ⟨w1.heap.size, 0, none⟩) n_m n_m m A B C w2 hn ho_t.rdM hsz hw
  go_wp2_with fail
  refine C3.mono ?_
  rintro e w3 ⟨a3, c3, rs3, rfl, ho_w, hb3⟩
  clear C3
  have r_ho_w := ho_w.min
  have hs3 := hb3.size
  have HB3 := below_tr' HB2 hb3
  have ho_t := ho_t.below hb3
  clear hb3
  clear ho_t r_ho_t
  have C4 := toIntSS_any a_m c_m n_m m w3 hn (hx.below HB3) hsz
  go_wp2_with fail
  refine C4.mono ?_
  rintro e w4 ⟨rs4, rfl, ho_x, hb4⟩
  clear C4
  have r_ho_x := ho_x.min
  have hs4 := hb4.size
  have HB4 := below_tr' HB3 hb4
  have ho_w := ho_w.below hb4
  clear hb4
  have C5 := implTurn_any (some ⟨w3.heap.size, 0, none⟩) n_m n_m m A B C w4 hn ho_x.rdM hsz
  go_wp2_with fail
  refine C5.mono ?_
  rintro e w5 ⟨a5, c5, rs5, rfl, ho_g, hb5⟩
  clear C5
  have r_ho_g := ho_g.min
  have hs5 := hb5.size
  have HB5 := below_tr' HB4 hb5
  have ho_w := ho_w.below hb5
  have ho_x := ho_x.below hb5
  clear hb5
  have C6 := eqIntSS_any a5 a3 c5 c3 (turnL m A B C).length (turnL m A B C) w5 rfl ho_g.rdM ho_w.rdM (by omega)
  go_wp2_with fail
  refine C6.mono ?_
  rintro e w6 ⟨rfl, hb6⟩
  clear C6
  have hs6 := hb6.size
  have HB6 := below_tr' HB5 hb6
  have ho_w := ho_w.below hb6
  have ho_x := ho_x.below hb6
  have ho_g := ho_g.below hb6
  clear hb6
  have C7 := toIntSS_any a_m c_m n_m m w6 hn (hx.below HB6) hsz
  go_wp2_with fail
  refine C7.mono ?_
  rintro e w7 ⟨rs7, rfl, ho_u, hb7⟩
  clear C7
  have r_ho_u := ho_u.min
  have hs7 := hb7.size
  have HB7 := below_tr' HB6 hb7
  have ho_w := ho_w.below hb7
  have ho_x := ho_x.below hb7
  have ho_g := ho_g.below hb7
  clear hb7
  have C8 := eqIntSS_any (some ⟨w3.heap.size, 0, none⟩) (some ⟨w6.heap.size, 0, none⟩) n_m n_m n_m (m) w7 hn ho_x.rdM ho_u.rdM (by omega)
  go_wp2_with fail
  refine C8.mono ?_
  rintro e w8 ⟨rfl, hb8⟩
  clear C8
  have hs8 := hb8.size
  have HB8 := below_tr' HB7 hb8
  have ho_w := ho_w.below hb8
  have ho_x := ho_x.below hb8
  have ho_g := ho_g.below hb8
  have ho_u := ho_u.below hb8
  clear hb8
  clear ho_u r_ho_u
  have C9 := markIntSS_any w3.heap.size (some ⟨w3.heap.size, 0, none⟩) n_m n_m rs4 (m) (1) w8 ho_x (by omega) (by omega) (by omega) (by omega)
  go_wp2_with fail
  refine C9.mono ?_
  rintro e w9 ⟨rfl, hm9, hbm9, hf9⟩
  clear C9
  have hs9 := hbm9.size
  have HB9 := HB8.trans (hbm9.mono (by omega))
  have ho_w := OwnM.marked ho_w r_ho_w r_ho_x (by omega) hf9
  have ho_g := OwnM.marked ho_g r_ho_g r_ho_x (by omega) hf9
  have ho_x := hm9
  clear hm9 hf9 hbm9
  have C10 := eqIntSS_any a5 a3 c5 c3 (turnL m A B C).length (turnL m A B C) w9 rfl ho_g.rdM ho_w.rdM (by omega)
  go_wp2_with fail
  refine C10.mono ?_
  rintro e w10 ⟨rfl, hb10⟩
  clear C10
  have hs10 := hb10.size
  have HB10 := below_tr' HB9 hb10
  have ho_w := ho_w.below hb10
  have ho_x := ho_x.below hb10
  have ho_g := ho_g.below hb10
  clear hb10
  clear ho_x r_ho_x
  have C11 := markIntSS_any w4.heap.size a5 c5 (turnL m A B C).length rs5 (turnL m A B C) (1) w10 ho_g (by omega) (by omega) (by omega) (by omega)
  go_wp2_with fail
  refine C11.mono ?_
  rintro e w11 ⟨rfl, hm11, hbm11, hf11⟩
  clear C11
  have hs11 := hbm11.size
  have HB11 := HB10.trans (hbm11.mono (by omega))
  have ho_w := OwnM.marked ho_w r_ho_w r_ho_g (by omega) hf11
  have ho_g := hm11
  clear hm11 hf11 hbm11
  have C12 := heldIntSS_any a5 c5 (turnL m A B C).length (turnL m A B C) (1) w11 rfl ho_g.rdM (by omega) (by omega) (by omega)
  go_wp2_with fail
  refine C12.mono ?_
  rintro e w12 ⟨rfl, hb12⟩
  clear C12
  have hs12 := hb12.size
  have HB12 := below_tr' HB11 hb12
  have ho_w := ho_w.below hb12
  have ho_g := ho_g.below hb12
  clear hb12
  have C13 := toIntSS_any a_m c_m n_m m w12 hn (hx.below HB12) hsz
  go_wp2_with fail
  refine C13.mono ?_
  rintro e w13 ⟨rs13, rfl, ho_y, hb13⟩
  clear C13
  have r_ho_y := ho_y.min
  have hs13 := hb13.size
  have HB13 := below_tr' HB12 hb13
  have ho_w := ho_w.below hb13
  have ho_g := ho_g.below hb13
  clear hb13
  have C14 := implTurn_any (some ⟨w12.heap.size, 0, none⟩) n_m n_m m A B C w13 hn ho_y.rdM hsz
  go_wp2_with fail
  refine C14.mono ?_
  rintro e w14 ⟨a14, c14, rs14, rfl, ho_h, hb14⟩
  clear C14
  have r_ho_h := ho_h.min
  have hs14 := hb14.size
  have HB14 := below_tr' HB13 hb14
  have ho_w := ho_w.below hb14
  have ho_g := ho_g.below hb14
  have ho_y := ho_y.below hb14
  clear hb14
  clear ho_y r_ho_y
  have C15 := eqIntSS_any a14 a3 c14 c3 (turnL m A B C).length (turnL m A B C) w14 rfl ho_h.rdM ho_w.rdM (by omega)
  go_wp2_with fail
  refine C15.mono ?_
  rintro e w15 ⟨rfl, hb15⟩
  clear C15
  have hs15 := hb15.size
  have HB15 := below_tr' HB14 hb15
  have ho_w := ho_w.below hb15
  have ho_g := ho_g.below hb15
  have ho_h := ho_h.below hb15
  clear hb15
  have C16 := heldIntSS_any a5 c5 (turnL m A B C).length (turnL m A B C) (1) w15 rfl ho_g.rdM (by omega) (by omega) (by omega)
  go_wp2_with fail
  refine C16.mono ?_
  rintro e w16 ⟨rfl, hb16⟩
  clear C16
  have hs16 := hb16.size
  have HB16 := below_tr' HB15 hb16
  have ho_w := ho_w.below hb16
  have ho_g := ho_g.below hb16
  have ho_h := ho_h.below hb16
  clear hb16
  go_wp2
  go_ret
  exact ⟨rfl, HB16⟩

end Go.Proofs.Ytbhhapbocnlblaa
