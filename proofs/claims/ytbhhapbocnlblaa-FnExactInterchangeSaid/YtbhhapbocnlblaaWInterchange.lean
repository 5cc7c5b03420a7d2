
/- The walk of the law FnExactInterchange. (Printed by laws_b.py.) -/
import Derived.Test.YtbhhapbocnlblaaInter
import Derived.Test.YtbhhapbocnlblaaMatL3
import Derived.Test.YtbhhapbocnlblaaSwitch
namespace Go.Proofs.Ytbhhapbocnlblaa
open Go.RowKit

set_option maxHeartbeats 4000000 in
set_option linter.unusedVariables false in
theorem walk_FnExactInterchange (a_m : Option Addr) (c_m n_m : Nat) (m : List (List Int)) (A B C D : Int) (w : World) (hn : m.length = n_m) (hx : RdM w a_m m) (hl : n_m ≤ 9223372036854775807) (hw : WfM m) :
    Calls Try.prog 10 #[.slice a_m n_m c_m, .agg #[.int .i64 A, .int .i64 B, .int .i64 C, .int .i64 D]] w fun e w' => e = .returned (.bool true) ∧ Below w.heap.size w w' := by
  have hW7 := interL_len m A B C D
  have HB0 := below_alloc w (.cells #[.int .i64 A, .int .i64 B, .int .i64 C, .int .i64 D] 35)
  have qs := heap_alloc_new w (.cells #[.int .i64 A, .int .i64 B, .int .i64 C, .int .i64 D] 35)
  have hx0 := hx.below HB0
  have hs0 : w.heap.size < (w.alloc (.cells #[.int .i64 A, .int .i64 B, .int .i64 C, .int .i64 D] 35)).heap.size := by simp
  generalize hV0 : w.alloc (.cells #[.int .i64 A, .int .i64 B, .int .i64 C, .int .i64 D] 35) = w0 at *
  have HV0 := Lib.hid hV0
  clear hV0
  go_enter Try.func10, Try.ntmps10
  have C1 := szIntSS_any a_m c_m n_m m 1048576 w0 hn hx0 hl (by omega) (by omega)
  go_wp2_with (simp only [HV0.out])
  refine C1.mono ?_
  rintro e w1 ⟨v, rfl, hv1, hv2, hb1⟩
  clear C1 hx0
  have hs1 := hb1.size
  have HB1 := below_tr' HB0 hb1
  have qs := blk_below qs hb1
  clear hb1
  by_cases hneg : v < 0
  · go_wp2
    go_ret
    exact ⟨rfl, HB1⟩
  have hsz : n_m + sumLen m ≤ 1048576 := by have := hv2 (by omega); omega
  clear hv1 hv2
  have g0 := later_cell (blk_cell qs 0 (.int .i64 A) rfl)
  have g1 := later_cell (blk_cell qs 1 (.int .i64 B) rfl)
  have g2 := later_cell (blk_cell qs 2 (.int .i64 C) rfl)
  have g3 := later_cell (blk_cell qs 3 (.int .i64 D) rfl)
  have bd := bel_drew (Below.refl w1.heap.size w1)
  have CT := Lib.hid (toIntSS_any a_m c_m n_m m w1.drew hn (hx.below (bel_drew HB1)) hsz)
  go_wp2
  refine wp_region_heads [true, false, true, false, false, false, false, false, false, false] 9 8 (C := fun w' => ∃ u : Later w1, w' = u.val) (by kernel_rfl) (by kernel_rfl) ⟨⟨_, bd⟩, rfl⟩ ?_
  simp only [pickT]
  repeat (go_big_quiet_step (fail))
  refine wpQuiet_nil ?_
  clear g0 g1 g2 g3
  refine any_one (i := 1) (by kernel_rfl) rfl ?_
  intro K hK
  go_wp2_with fail
  refine CT.out.mono ?_
  rintro e w2 ⟨rs2, rfl, ho_t, hbx⟩
  have hb2 : Below w1.heap.size w1 w2 := bd.trans hbx
  clear CT hbx bd
  go_wp2
  refine hK _ _ (fun _ => ⟨⟨_, hb2⟩, rfl⟩) ?_
  clear hK
  have CS := toSwitch_any A B C D w2
  refine any_one (i := 3) (by kernel_rfl) rfl ?_
  intro K hK
  go_wp2_with fail
  refine CS.mono ?_
  rintro e w3 ⟨rfl, hbx⟩
  have hb3 := below_tr' hb2 hbx
  have ho_t := ho_t.below hbx
  clear CS hbx
  go_wp2
  refine hK _ _ (fun _ => ⟨⟨_, hb3⟩, rfl⟩) ?_
  clear hK
  have CC := specInter_any _ n_m n_m m A B C D w3 hn ho_t.rdM hsz
  refine any_one (i := 4) (by kernel_rfl) rfl ?_
  intro K hK
  go_wp2_with fail
  refine CC.mono ?_
  rintro e w4 ⟨a4, c4, rs4, rfl, ho_w, hbx⟩
  have hb4 := below_tr' hb3 hbx
  clear CC
  go_wp2
  refine hK _ _ (fun _ => ⟨⟨_, hb4⟩, rfl⟩) ?_
  clear hK ho_t
  refine any_heads (id := 3) (n := 2) [false, false, false, false, false, true, true, true, false, false] #[true, true, true, true, true, true, true, true, false, false] (by kernel_rfl) ⟨⟨_, hb4⟩, rfl⟩ ?_
  simp only [pickT]
  repeat (go_big_quiet_step (fail))
  refine wpQuiet_nil ?_
  refine any_one (i := 8) (by kernel_rfl) rfl ?_
  intro K hK
  go_wp2
  refine hK _ _ (fun _ => ⟨⟨_, hb4⟩, rfl⟩) ?_
  clear hK
  refine any_one (i := 9) (by kernel_rfl) rfl ?_
  intro K hK
  go_wp2
  refine hK _ _ (fun h => absurd rfl h) ?_
  clear hK
  refine any_end (by kernel_rfl) ?_
  have r_ho_w := ho_w.min
  have hs2 := hb2.size
  have hs3 := hb3.size
  have hsx4 := hbx.size
  clear hbx
  have qs := blk_below qs hb4
  have hs4 := hb4.size
  have HB4 := below_tr' HB1 hb4
  clear hb4
  have C5 := toIntSS_any a_m c_m n_m m w4 hn (hx.below HB4) hsz
  go_wp2_with fail
  refine C5.mono ?_
  rintro e w5 ⟨rs5, rfl, ho_x, hb5⟩
  clear C5
  have r_ho_x := ho_x.min
  have qs := blk_below qs hb5
  have hs5 := hb5.size
  have HB5 := below_tr' HB4 hb5
  have ho_w := ho_w.below hb5
  clear hb5
  have g0 := blk_cell qs 0 (.int .i64 A) rfl
  have g1 := blk_cell qs 1 (.int .i64 B) rfl
  have g2 := blk_cell qs 2 (.int .i64 C) rfl
  have g3 := blk_cell qs 3 (.int .i64 D) rfl
  have C6 := toSwitch_any A B C D w5
  go_wp2_with fail
  refine C6.mono ?_
  rintro e w6 ⟨rfl, hb6⟩
  clear C6
  have qs := blk_below qs hb6
  have hs6 := hb6.size
  have HB6 := below_tr' HB5 hb6
  have ho_w := ho_w.below hb6
  have ho_x := ho_x.below hb6
  clear hb6
  clear g0 g1 g2 g3
  have C7 := implInter_any (some ⟨w4.heap.size, 0, none⟩) n_m n_m m A B C D w6 hn ho_x.rdM hsz
  go_wp2_with fail
  refine C7.mono ?_
  rintro e w7 ⟨a7, c7, rs7, rfl, ho_g, hb7⟩
  clear C7
  have r_ho_g := ho_g.min
  have qs := blk_below qs hb7
  have hs7 := hb7.size
  have HB7 := below_tr' HB6 hb7
  have ho_w := ho_w.below hb7
  have ho_x := ho_x.below hb7
  clear hb7
  have C8 := eqIntSS_any a7 a4 c7 c4 (interL m A B C D).length (interL m A B C D) w7 rfl ho_g.rdM ho_w.rdM (by omega)
  go_wp2_with fail
  refine C8.mono ?_
  rintro e w8 ⟨rfl, hb8⟩
  clear C8
  have qs := blk_below qs hb8
  have hs8 := hb8.size
  have HB8 := below_tr' HB7 hb8
  have ho_w := ho_w.below hb8
  have ho_x := ho_x.below hb8
  have ho_g := ho_g.below hb8
  clear hb8
  have C9 := toIntSS_any a_m c_m n_m m w8 hn (hx.below HB8) hsz
  go_wp2_with fail
  refine C9.mono ?_
  rintro e w9 ⟨rs9, rfl, ho_u, hb9⟩
  clear C9
  have r_ho_u := ho_u.min
  have qs := blk_below qs hb9
  have hs9 := hb9.size
  have HB9 := below_tr' HB8 hb9
  have ho_w := ho_w.below hb9
  have ho_x := ho_x.below hb9
  have ho_g := ho_g.below hb9
  clear hb9
  have C10 := eqIntSS_any (some ⟨w4.heap.size, 0, none⟩) (some ⟨w8.heap.size, 0, none⟩) n_m n_m n_m (m) w9 hn ho_x.rdM ho_u.rdM (by omega)
  go_wp2_with fail
  refine C10.mono ?_
  rintro e w10 ⟨rfl, hb10⟩
  clear C10
  have qs := blk_below qs hb10
  have hs10 := hb10.size
  have HB10 := below_tr' HB9 hb10
  have ho_w := ho_w.below hb10
  have ho_x := ho_x.below hb10
  have ho_g := ho_g.below hb10
  have ho_u := ho_u.below hb10
  clear hb10
  clear ho_u r_ho_u
  have C11 := markIntSS_any w4.heap.size (some ⟨w4.heap.size, 0, none⟩) n_m n_m rs5 (m) (1) w10 ho_x (by omega) (by omega) (by omega) (by omega)
  go_wp2_with fail
  refine C11.mono ?_
  rintro e w11 ⟨rfl, hm11, hbm11, hf11⟩
  clear C11
  have hs11 := hbm11.size
  have HB11 := HB10.trans (hbm11.mono (by omega))
  have ho_w := OwnM.marked ho_w r_ho_w r_ho_x (by omega) hf11
  have ho_g := OwnM.marked ho_g r_ho_g r_ho_x (by omega) hf11
  have ho_x := hm11
  have qs := blk_marked qs (by omega) r_ho_x hf11
  clear hm11 hf11 hbm11
  have C12 := eqIntSS_any a7 a4 c7 c4 (interL m A B C D).length (interL m A B C D) w11 rfl ho_g.rdM ho_w.rdM (by omega)
  go_wp2_with fail
  refine C12.mono ?_
  rintro e w12 ⟨rfl, hb12⟩
  clear C12
  have qs := blk_below qs hb12
  have hs12 := hb12.size
  have HB12 := below_tr' HB11 hb12
  have ho_w := ho_w.below hb12
  have ho_x := ho_x.below hb12
  have ho_g := ho_g.below hb12
  clear hb12
  clear ho_x r_ho_x
  have C13 := markIntSS_any w6.heap.size a7 c7 (interL m A B C D).length rs7 (interL m A B C D) (1) w12 ho_g (by omega) (by omega) (by omega) (by omega)
  go_wp2_with fail
  refine C13.mono ?_
  rintro e w13 ⟨rfl, hm13, hbm13, hf13⟩
  clear C13
  have hs13 := hbm13.size
  have HB13 := HB12.trans (hbm13.mono (by omega))
  have ho_w := OwnM.marked ho_w r_ho_w r_ho_g (by omega) hf13
  have ho_g := hm13
  have qs := blk_marked qs (by omega) r_ho_g hf13
  clear hm13 hf13 hbm13
  have C14 := heldIntSS_any a7 c7 (interL m A B C D).length (interL m A B C D) (1) w13 rfl ho_g.rdM (by omega) (by omega) (by omega)
  go_wp2_with fail
  refine C14.mono ?_
  rintro e w14 ⟨rfl, hb14⟩
  clear C14
  have qs := blk_below qs hb14
  have hs14 := hb14.size
  have HB14 := below_tr' HB13 hb14
  have ho_w := ho_w.below hb14
  have ho_g := ho_g.below hb14
  clear hb14
  have g0 := later_cell (blk_cell qs 0 (.int .i64 A) rfl)
  have g1 := later_cell (blk_cell qs 1 (.int .i64 B) rfl)
  have g2 := later_cell (blk_cell qs 2 (.int .i64 C) rfl)
  have g3 := later_cell (blk_cell qs 3 (.int .i64 D) rfl)
  have bd := bel_drew (Below.refl w14.heap.size w14)
  have CT := Lib.hid (toIntSS_any a_m c_m n_m m w14.drew hn (hx.below (bel_drew HB14)) hsz)
  go_wp2
  refine wp_region_heads [true, false, true, false, false, false, false, false, false, false] 9 8 (C := fun w' => ∃ u : Later w14, w' = u.val) (by kernel_rfl) (by kernel_rfl) ⟨⟨_, bd⟩, rfl⟩ ?_
  simp only [pickT]
  repeat (go_big_quiet_step (fail))
  refine wpQuiet_nil ?_
  clear g0 g1 g2 g3
  refine any_one (i := 1) (by kernel_rfl) rfl ?_
  intro K hK
  go_wp2_with fail
  refine CT.out.mono ?_
  rintro e w15 ⟨rs15, rfl, ho_t, hbx⟩
  have hb15 : Below w14.heap.size w14 w15 := bd.trans hbx
  clear CT hbx bd
  go_wp2
  refine hK _ _ (fun _ => ⟨⟨_, hb15⟩, rfl⟩) ?_
  clear hK
  have CS := toSwitch_any A B C D w15
  refine any_one (i := 3) (by kernel_rfl) rfl ?_
  intro K hK
  go_wp2_with fail
  refine CS.mono ?_
  rintro e w16 ⟨rfl, hbx⟩
  have hb16 := below_tr' hb15 hbx
  have ho_t := ho_t.below hbx
  clear CS hbx
  go_wp2
  refine hK _ _ (fun _ => ⟨⟨_, hb16⟩, rfl⟩) ?_
  clear hK
  have CC := implInter_any _ n_m n_m m A B C D w16 hn ho_t.rdM hsz
  refine any_one (i := 4) (by kernel_rfl) rfl ?_
  intro K hK
  go_wp2_with fail
  refine CC.mono ?_
  rintro e w17 ⟨a17, c17, rs17, rfl, ho_h, hbx⟩
  have hb17 := below_tr' hb16 hbx
  clear CC
  go_wp2
  refine hK _ _ (fun _ => ⟨⟨_, hb17⟩, rfl⟩) ?_
  clear hK ho_t
  refine any_heads (id := 3) (n := 2) [false, false, false, false, false, true, true, true, false, false] #[true, true, true, true, true, true, true, true, false, false] (by kernel_rfl) ⟨⟨_, hb17⟩, rfl⟩ ?_
  simp only [pickT]
  repeat (go_big_quiet_step (fail))
  refine wpQuiet_nil ?_
  refine any_one (i := 8) (by kernel_rfl) rfl ?_
  intro K hK
  go_wp2
  refine hK _ _ (fun _ => ⟨⟨_, hb17⟩, rfl⟩) ?_
  clear hK
  refine any_one (i := 9) (by kernel_rfl) rfl ?_
  intro K hK
  go_wp2
  refine hK _ _ (fun h => absurd rfl h) ?_
  clear hK
  refine any_end (by kernel_rfl) ?_
  have r_ho_h := ho_h.min
  have hs15 := hb15.size
  have hs16 := hb16.size
  have hsx17 := hbx.size
  clear hbx
  have qs := blk_below qs hb17
  have hs17 := hb17.size
  have HB17 := below_tr' HB14 hb17
  have ho_w := ho_w.below hb17
  have ho_g := ho_g.below hb17
  clear hb17
  have C18 := eqIntSS_any a17 a4 c17 c4 (interL m A B C D).length (interL m A B C D) w17 rfl ho_h.rdM ho_w.rdM (by omega)
  go_wp2_with fail
  refine C18.mono ?_
  rintro e w18 ⟨rfl, hb18⟩
  clear C18
  have qs := blk_below qs hb18
  have hs18 := hb18.size
  have HB18 := below_tr' HB17 hb18
  have ho_w := ho_w.below hb18
  have ho_g := ho_g.below hb18
  have ho_h := ho_h.below hb18
  clear hb18
  have C19 := heldIntSS_any a7 c7 (interL m A B C D).length (interL m A B C D) (1) w18 rfl ho_g.rdM (by omega) (by omega) (by omega)
  go_wp2_with fail
  refine C19.mono ?_
  rintro e w19 ⟨rfl, hb19⟩
  clear C19
  have qs := blk_below qs hb19
  have hs19 := hb19.size
  have HB19 := below_tr' HB18 hb19
  have ho_w := ho_w.below hb19
  have ho_g := ho_g.below hb19
  have ho_h := ho_h.below hb19
  clear hb19
  go_wp2
  go_ret
  exact ⟨rfl, HB19⟩

end Go.Proofs.Ytbhhapbocnlblaa
