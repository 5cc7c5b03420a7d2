
/- The walk of the law FnIsPart. (Printed by laws_f.py.) -/
import Derived.Test.YtbiekdhikanhcaaDraw3
import Derived.Test.YtbiekdhikanhcaaPartG
namespace Go.Proofs.Ytbiekdhikanhcaa
open Go.RowKit

set_option maxHeartbeats 4000000 in
set_option linter.unusedVariables false in
theorem walk_FnIsPart (a_c : Option Addr) (c_c n_c : Nat) (bs : List Int) (w : World) (hc : CodeOK w a_c c_c n_c bs) :
    Calls Try.prog 9 #[.slice a_c n_c c_c] w fun e w' => e = .returned (.bool true) ∧ Below w.heap.size w w' := by
  by_cases hs : 1048576 < n_c
  · go_enter Try.func9, Try.ntmps9
    go_wp2
    go_ret
    exact ⟨rfl, Below.refl _ _⟩
  have hs' : n_c ≤ 1048576 := by omega
  have HB0 := Below.refl w.heap.size w
  go_enter Try.func9, Try.ntmps9
  have C1 := DrawIsPart_any a_c c_c n_c bs w hc hs'
  go_wp2_with fail
  refine C1.mono ?_
  rintro e w1 ⟨N_h, h, a_h, c_h, N_g, g, a_g, c_g, rfl, hN_h, hN_g, hb_h, hb_g, ho_h, ho_g, hb1⟩
  clear C1
  obtain ⟨n_h, hn_h'⟩ : ∃ n, n = h.length := ⟨_, rfl⟩
  rw [← hn_h'] at ho_h hb_h
  have CN_h : graphV N_h a_h h.length c_h = graphV N_h a_h n_h c_h := by rw [hn_h']
  rw [CN_h]
  have HN_h := Lib.hid hn_h'.symm
  clear CN_h hn_h'
  have hc_h := own_capE ho_h
  obtain ⟨n_g, hn_g'⟩ : ∃ n, n = g.length := ⟨_, rfl⟩
  rw [← hn_g'] at ho_g hb_g
  have CN_g : graphV N_g a_g g.length c_g = graphV N_g a_g n_g c_g := by rw [hn_g']
  rw [CN_g]
  have HN_g := Lib.hid hn_g'.symm
  clear CN_g hn_g'
  have hc_g := own_capE ho_g
  have HB1 := below_tr' HB0 hb1
  have HA := below_alloc2 w1 (.cells #[.int .i64 0, .slice none 0 0] 25) (.cells #[.int .i64 0, .slice none 0 0] 25)
  have q_b_h := blk_below (heap_alloc_new w1 (.cells #[.int .i64 0, .slice none 0 0] 25)) (below_alloc _ (.cells #[.int .i64 0, .slice none 0 0] 25))
  have q_b_g := heap_alloc_new (w1.alloc (.cells #[.int .i64 0, .slice none 0 0] 25)) (.cells #[.int .i64 0, .slice none 0 0] 25)
  rw [show (w1.alloc (.cells #[.int .i64 0, .slice none 0 0] 25)).heap.size = w1.heap.size + 1 from by simp] at q_b_g
  have ho_h := own_below ho_h HA
  have ho_g := own_below ho_g HA
  have HBa := below_tr' HB1 HA
  generalize hVa : (w1.alloc (.cells #[.int .i64 0, .slice none 0 0] 25)).alloc (.cells #[.int .i64 0, .slice none 0 0] 25) = va at *
  have HVa := Lib.hid hVa
  clear hVa HA
  have z00 := blk_cell q_b_h 0 (.int .i64 0) rfl
  have f00 := blk_free q_b_h 0
  have z01 := blk_cell q_b_h 1 (.slice none 0 0) rfl
  have f01 := blk_free q_b_h 1
  have ho_h := own_setOther (own_setOther ho_h (w1.heap.size) 0 (.int .i64 N_h) (own_ne ho_h q_b_h (by decide))) (w1.heap.size) 1 (.slice a_h n_h c_h) (own_ne ho_h q_b_h (by decide))
  have ho_g := own_setOther (own_setOther ho_g (w1.heap.size) 0 (.int .i64 N_h) (own_ne ho_g q_b_h (by decide))) (w1.heap.size) 1 (.slice a_h n_h c_h) (own_ne ho_g q_b_h (by decide))
  have q_b_g := blk_set_other (blk_set_other q_b_g 0 (.int .i64 N_h) (g := w1.heap.size) (by omega)) 1 (.slice a_h n_h c_h) (g := w1.heap.size) (by omega)
  have q_b_h := blk_set (blk_set q_b_h 0 (.int .i64 N_h)) 1 (.slice a_h n_h c_h)
  have HB_0 := ((HBa).setCell (p := ⟨w1.heap.size, 0, none⟩) (by have := hb1.size; simp; omega) (.int .i64 N_h)).setCell (p := ⟨w1.heap.size, 1, none⟩) (by have := hb1.size; simp; omega) (.slice a_h n_h c_h)
  generalize hV0 : (va.setCell ⟨w1.heap.size, 0, none⟩ (.int .i64 N_h)).setCell ⟨w1.heap.size, 1, none⟩ (.slice a_h n_h c_h) = vb0 at *
  have HV_0 := Lib.hid hV0
  clear hV0
  have z10 := blk_cell q_b_g 0 (.int .i64 0) rfl
  have f10 := blk_free q_b_g 0
  have z11 := blk_cell q_b_g 1 (.slice none 0 0) rfl
  have f11 := blk_free q_b_g 1
  have ho_h := own_setOther (own_setOther ho_h (w1.heap.size + 1) 0 (.int .i64 N_g) (own_ne ho_h q_b_g (by decide))) (w1.heap.size + 1) 1 (.slice a_g n_g c_g) (own_ne ho_h q_b_g (by decide))
  have ho_g := own_setOther (own_setOther ho_g (w1.heap.size + 1) 0 (.int .i64 N_g) (own_ne ho_g q_b_g (by decide))) (w1.heap.size + 1) 1 (.slice a_g n_g c_g) (own_ne ho_g q_b_g (by decide))
  have q_b_h := blk_set_other (blk_set_other q_b_h 0 (.int .i64 N_g) (g := w1.heap.size + 1) (by omega)) 1 (.slice a_g n_g c_g) (g := w1.heap.size + 1) (by omega)
  have q_b_g := blk_set (blk_set q_b_g 0 (.int .i64 N_g)) 1 (.slice a_g n_g c_g)
  have HB_1 := ((HB_0).setCell (p := ⟨w1.heap.size + 1, 0, none⟩) (by have := hb1.size; simp; omega) (.int .i64 N_g)).setCell (p := ⟨w1.heap.size + 1, 1, none⟩) (by have := hb1.size; simp; omega) (.slice a_g n_g c_g)
  generalize hV1 : (vb0.setCell ⟨w1.heap.size + 1, 0, none⟩ (.int .i64 N_g)).setCell ⟨w1.heap.size + 1, 1, none⟩ (.slice a_g n_g c_g) = vb1 at *
  have HV_1 := Lib.hid hV1
  clear hV1
  obtain ⟨V, hV⟩ : ∃ V, isPartV N_h h N_g g = V := ⟨_, rfl⟩
  have g_b_h_0 := blk_cell q_b_h 0 (.int .i64 N_h) rfl
  have g_b_h_1 := blk_cell q_b_h 1 (.slice a_h n_h c_h) rfl
  have g_b_g_0 := blk_cell q_b_g 0 (.int .i64 N_g) rfl
  have g_b_g_1 := blk_cell q_b_g 1 (.slice a_g n_g c_g) rfl
  have C2 := implIsPart_any N_h a_h c_h n_h h N_g a_g c_g n_g g vb1 (by omega) (by omega) HN_h.out (own_rd ho_h) (by omega) HN_g.out (own_rd ho_g) (by omega)
  rw [hV] at C2
  go_wp2_with (simp only [HVa.out, HV_0.out, HV_1.out])
  refine C2.mono ?_
  rintro e w2 ⟨rfl, hb2⟩
  clear C2
  have HB2 := below_tr' HB_1 hb2
  have ho_h := own_below ho_h hb2
  have ho_g := own_below ho_g hb2
  have q_b_h := blk_below q_b_h hb2
  have q_b_g := blk_below q_b_g hb2
  clear g_b_h_0 g_b_h_1 g_b_g_0 g_b_g_1
  cases hg : validG N_g g
  · have g_b_h_0 := blk_cell q_b_h 0 (.int .i64 N_h) rfl
    have g_b_h_1 := blk_cell q_b_h 1 (.slice a_h n_h c_h) rfl
    have g_b_g_0 := blk_cell q_b_g 0 (.int .i64 N_g) rfl
    have g_b_g_1 := blk_cell q_b_g 1 (.slice a_g n_g c_g) rfl
    have C3 := specIsPart_any N_h a_h c_h n_h h N_g a_g c_g n_g g w2 HN_h.out (own_rd ho_h) (by omega) HN_g.out (own_rd ho_g) (by omega)
    rw [hV] at C3
    go_wp2_with fail
    refine C3.mono ?_
    rintro e w3 ⟨rfl, hb3⟩
    clear C3
    have HB3 := below_tr' HB2 hb3
    have ho_h := own_below ho_h hb3
    have ho_g := own_below ho_g hb3
    have q_b_h := blk_below q_b_h hb3
    have q_b_g := blk_below q_b_g hb3
    clear g_b_h_0 g_b_h_1 g_b_g_0 g_b_g_1
    have g_b_g_0 := blk_cell q_b_g 0 (.int .i64 N_g) rfl
    have g_b_g_1 := blk_cell q_b_g 1 (.slice a_g n_g c_g) rfl
    have C4 := implValidGraph_any N_g a_g c_g n_g g w3 (by omega) HN_g.out (own_rd ho_g) (by omega)
    rw [hg] at C4
    go_wp2_with fail
    refine C4.mono ?_
    rintro e w4 ⟨rfl, hb4⟩
    clear C4
    have HB4 := below_tr' HB3 hb4
    have ho_h := own_below ho_h hb4
    have ho_g := own_below ho_g hb4
    have q_b_h := blk_below q_b_h hb4
    have q_b_g := blk_below q_b_g hb4
    clear g_b_g_0 g_b_g_1
    have g_b_h_0 := blk_cell q_b_h 0 (.int .i64 N_h) rfl
    have g_b_h_1 := blk_cell q_b_h 1 (.slice a_h n_h c_h) rfl
    have g_b_g_0 := blk_cell q_b_g 0 (.int .i64 N_g) rfl
    have g_b_g_1 := blk_cell q_b_g 1 (.slice a_g n_g c_g) rfl
    have C5 := specIsPart_any N_h a_h c_h n_h h N_g a_g c_g n_g g w4 HN_h.out (own_rd ho_h) (by omega) HN_g.out (own_rd ho_g) (by omega)
    rw [hV] at C5
    go_wp2_with fail
    refine C5.mono ?_
    rintro e w5 ⟨rfl, hb5⟩
    clear C5
    have HB5 := below_tr' HB4 hb5
    have ho_h := own_below ho_h hb5
    have ho_g := own_below ho_g hb5
    have q_b_h := blk_below q_b_h hb5
    have q_b_g := blk_below q_b_g hb5
    clear g_b_h_0 g_b_h_1 g_b_g_0 g_b_g_1
    go_wp2
    go_ret
    exact ⟨rfl, HB5⟩
  · cases hh : validG N_h h
    · have g_b_h_0 := blk_cell q_b_h 0 (.int .i64 N_h) rfl
      have g_b_h_1 := blk_cell q_b_h 1 (.slice a_h n_h c_h) rfl
      have g_b_g_0 := blk_cell q_b_g 0 (.int .i64 N_g) rfl
      have g_b_g_1 := blk_cell q_b_g 1 (.slice a_g n_g c_g) rfl
      have C3 := specIsPart_any N_h a_h c_h n_h h N_g a_g c_g n_g g w2 HN_h.out (own_rd ho_h) (by omega) HN_g.out (own_rd ho_g) (by omega)
      rw [hV] at C3
      go_wp2_with fail
      refine C3.mono ?_
      rintro e w3 ⟨rfl, hb3⟩
      clear C3
      have HB3 := below_tr' HB2 hb3
      have ho_h := own_below ho_h hb3
      have ho_g := own_below ho_g hb3
      have q_b_h := blk_below q_b_h hb3
      have q_b_g := blk_below q_b_g hb3
      clear g_b_h_0 g_b_h_1 g_b_g_0 g_b_g_1
      have g_b_g_0 := blk_cell q_b_g 0 (.int .i64 N_g) rfl
      have g_b_g_1 := blk_cell q_b_g 1 (.slice a_g n_g c_g) rfl
      have C4 := implValidGraph_any N_g a_g c_g n_g g w3 (by omega) HN_g.out (own_rd ho_g) (by omega)
      rw [hg] at C4
      go_wp2_with fail
      refine C4.mono ?_
      rintro e w4 ⟨rfl, hb4⟩
      clear C4
      have HB4 := below_tr' HB3 hb4
      have ho_h := own_below ho_h hb4
      have ho_g := own_below ho_g hb4
      have q_b_h := blk_below q_b_h hb4
      have q_b_g := blk_below q_b_g hb4
      clear g_b_g_0 g_b_g_1
      have g_b_h_0 := blk_cell q_b_h 0 (.int .i64 N_h) rfl
      have g_b_h_1 := blk_cell q_b_h 1 (.slice a_h n_h c_h) rfl
      have C5 := implValidGraph_any N_h a_h c_h n_h h w4 (by omega) HN_h.out (own_rd ho_h) (by omega)
      rw [hh] at C5
      go_wp2_with fail
      refine C5.mono ?_
      rintro e w5 ⟨rfl, hb5⟩
      clear C5
      have HB5 := below_tr' HB4 hb5
      have ho_h := own_below ho_h hb5
      have ho_g := own_below ho_g hb5
      have q_b_h := blk_below q_b_h hb5
      have q_b_g := blk_below q_b_g hb5
      clear g_b_h_0 g_b_h_1
      have g_b_h_0 := blk_cell q_b_h 0 (.int .i64 N_h) rfl
      have g_b_h_1 := blk_cell q_b_h 1 (.slice a_h n_h c_h) rfl
      have g_b_g_0 := blk_cell q_b_g 0 (.int .i64 N_g) rfl
      have g_b_g_1 := blk_cell q_b_g 1 (.slice a_g n_g c_g) rfl
      have C6 := specIsPart_any N_h a_h c_h n_h h N_g a_g c_g n_g g w5 HN_h.out (own_rd ho_h) (by omega) HN_g.out (own_rd ho_g) (by omega)
      rw [hV] at C6
      go_wp2_with fail
      refine C6.mono ?_
      rintro e w6 ⟨rfl, hb6⟩
      clear C6
      have HB6 := below_tr' HB5 hb6
      have ho_h := own_below ho_h hb6
      have ho_g := own_below ho_g hb6
      have q_b_h := blk_below q_b_h hb6
      have q_b_g := blk_below q_b_g hb6
      clear g_b_h_0 g_b_h_1 g_b_g_0 g_b_g_1
      go_wp2
      go_ret
      exact ⟨rfl, HB6⟩
    · have g_b_h_0 := blk_cell q_b_h 0 (.int .i64 N_h) rfl
      have g_b_h_1 := blk_cell q_b_h 1 (.slice a_h n_h c_h) rfl
      have g_b_g_0 := blk_cell q_b_g 0 (.int .i64 N_g) rfl
      have g_b_g_1 := blk_cell q_b_g 1 (.slice a_g n_g c_g) rfl
      have C3 := specIsPart_any N_h a_h c_h n_h h N_g a_g c_g n_g g w2 HN_h.out (own_rd ho_h) (by omega) HN_g.out (own_rd ho_g) (by omega)
      rw [hV] at C3
      go_wp2_with fail
      refine C3.mono ?_
      rintro e w3 ⟨rfl, hb3⟩
      clear C3
      have HB3 := below_tr' HB2 hb3
      have ho_h := own_below ho_h hb3
      have ho_g := own_below ho_g hb3
      have q_b_h := blk_below q_b_h hb3
      have q_b_g := blk_below q_b_g hb3
      clear g_b_h_0 g_b_h_1 g_b_g_0 g_b_g_1
      have g_b_g_0 := blk_cell q_b_g 0 (.int .i64 N_g) rfl
      have g_b_g_1 := blk_cell q_b_g 1 (.slice a_g n_g c_g) rfl
      have C4 := implValidGraph_any N_g a_g c_g n_g g w3 (by omega) HN_g.out (own_rd ho_g) (by omega)
      rw [hg] at C4
      go_wp2_with fail
      refine C4.mono ?_
      rintro e w4 ⟨rfl, hb4⟩
      clear C4
      have HB4 := below_tr' HB3 hb4
      have ho_h := own_below ho_h hb4
      have ho_g := own_below ho_g hb4
      have q_b_h := blk_below q_b_h hb4
      have q_b_g := blk_below q_b_g hb4
      clear g_b_g_0 g_b_g_1
      have g_b_h_0 := blk_cell q_b_h 0 (.int .i64 N_h) rfl
      have g_b_h_1 := blk_cell q_b_h 1 (.slice a_h n_h c_h) rfl
      have C5 := implValidGraph_any N_h a_h c_h n_h h w4 (by omega) HN_h.out (own_rd ho_h) (by omega)
      rw [hh] at C5
      go_wp2_with fail
      refine C5.mono ?_
      rintro e w5 ⟨rfl, hb5⟩
      clear C5
      have HB5 := below_tr' HB4 hb5
      have ho_h := own_below ho_h hb5
      have ho_g := own_below ho_g hb5
      have q_b_h := blk_below q_b_h hb5
      have q_b_g := blk_below q_b_g hb5
      clear g_b_h_0 g_b_h_1
      cases hVf : V
      · subst hVf
        have HP1 := Lib.hid ((part_compl hh hg).trans hV)
        have HP2 := Lib.hid (part_refl hg)
        have hL_g := cgL_len N_g g
        have hcgg : -1 ≤ cgN N_g g ∧ cgN N_g g ≤ 8 := by unfold cgN; split <;> omega
        have hL_h := cgL_len N_h h
        have hcgh : -1 ≤ cgN N_h h ∧ cgN N_h h ≤ 8 := by unfold cgN; split <;> omega
        have D_d_b_g_0 := Lib.hid (later_cell (blk_cell q_b_g 0 (.int .i64 N_g) rfl))
        have D_d_b_g_1 := Lib.hid (later_cell (blk_cell q_b_g 1 (.slice a_g n_g c_g) rfl))
        have D_d_b_h_0 := Lib.hid (later_cell (blk_cell q_b_h 0 (.int .i64 N_h) rfl))
        have D_d_b_h_1 := Lib.hid (later_cell (blk_cell q_b_h 1 (.slice a_h n_h c_h) rfl))
        have bd1 := bel_drew (Below.refl w5.heap.size w5)
        go_wp2
        refine wp_region_heads [true, false, true, false, false, true, false, false, false, false, false, false, false] 12 10 (C := fun w' => ∃ u : Later w5, w' = u.val) (by kernel_rfl) (by kernel_rfl) ⟨⟨_, bd1⟩, rfl⟩ ?_
        have d_b_g_0 := D_d_b_g_0.out
        have d_b_g_1 := D_d_b_g_1.out
        have d_b_h_0 := D_d_b_h_0.out
        have d_b_h_1 := D_d_b_h_1.out
        simp only [pickT]
        repeat (go_big_quiet_step (fail))
        refine wpQuiet_nil ?_
        clear d_b_g_0 d_b_g_1 d_b_h_0 d_b_h_1
        generalize hD1 : w5.drew = D1 at *
        clear hD1
        have ho_h := own_below ho_h bd1
        have ho_g := own_below ho_g bd1
        have q_b_h := blk_below q_b_h bd1
        have q_b_g := blk_below q_b_g bd1
        have HB6 := below_tr' HB5 bd1
        refine any_one (i := 1) (by kernel_rfl) rfl ?_
        intro K hK
        have C7 := implCG_any N_g a_g c_g n_g g D1 (by omega) HN_g.out (own_rd ho_g) (by omega)
        go_wp2_with fail
        refine C7.mono ?_
        rintro e w7 ⟨aKg, cKg, dKg, rfl, ho_kg, hb7⟩
        clear C7
        have hr1_7 := below_tr' bd1 hb7
        have ap1 := apart_of ho_h ho_kg
        have ap2 := apart_of ho_g ho_kg
        have HB7 := below_tr' HB6 hb7
        have ho_h := own_below ho_h hb7
        have ho_g := own_below ho_g hb7
        have q_b_h := blk_below q_b_h hb7
        have q_b_g := blk_below q_b_g hb7
        go_wp2
        refine hK _ _ (fun _ => ⟨⟨_, hr1_7⟩, rfl⟩) ?_
        clear hK
        refine any_one (i := 3) (by kernel_rfl) rfl ?_
        intro K hK
        have C8 := implCG_any N_h a_h c_h n_h h w7 (by omega) HN_h.out (own_rd ho_h) (by omega)
        go_wp2_with fail
        refine C8.mono ?_
        rintro e w8 ⟨aKh, cKh, dKh, rfl, ho_kh, hb8⟩
        clear C8
        have hr1_8 := below_tr' hr1_7 hb8
        have ap3 := apart_of ho_h ho_kh
        have ap4 := apart_of ho_g ho_kh
        have ap5 := apart_of ho_kg ho_kh
        have HB8 := below_tr' HB7 hb8
        have ho_h := own_below ho_h hb8
        have ho_g := own_below ho_g hb8
        have ho_kg := own_below ho_kg hb8
        have q_b_h := blk_below q_b_h hb8
        have q_b_g := blk_below q_b_g hb8
        go_wp2
        refine hK _ _ (fun _ => ⟨⟨_, hr1_8⟩, rfl⟩) ?_
        clear hK
        refine any_one (i := 4) (by kernel_rfl) rfl ?_
        intro K hK
        have C9 := implIsPart_any (cgN N_g g) aKg dKg (cgL N_g g).length (cgL N_g g) (cgN N_h h) aKh dKh (cgL N_h h).length (cgL N_h h) w8 (by omega) (by omega) rfl (own_rd ho_kg) (by omega) rfl (own_rd ho_kh) (by omega)
        rw [HP1.out] at C9
        go_wp2_with fail
        refine C9.mono ?_
        rintro e w9 ⟨rfl, hb9⟩
        clear C9
        have hr1_9 := below_tr' hr1_8 hb9
        have HB9 := below_tr' HB8 hb9
        have ho_h := own_below ho_h hb9
        have ho_g := own_below ho_g hb9
        have ho_kg := own_below ho_kg hb9
        have ho_kh := own_below ho_kh hb9
        have q_b_h := blk_below q_b_h hb9
        have q_b_g := blk_below q_b_g hb9
        go_wp2
        refine hK _ _ (fun _ => ⟨⟨_, hr1_9⟩, rfl⟩) ?_
        clear hK
        refine any_one (i := 6) (by kernel_rfl) rfl ?_
        intro K hK
        go_wp2
        refine hK _ _ (fun _ => ⟨⟨_, hr1_9⟩, rfl⟩) ?_
        clear hK
        refine any_one (i := 7) (by kernel_rfl) rfl ?_
        intro K hK
        go_wp2
        refine hK _ _ (fun _ => ⟨⟨_, hr1_9⟩, rfl⟩) ?_
        clear hK
        refine any_heads (id := 2) (n := 3) [false, false, false, false, false, false, false, false, true, true, false, false, false] #[true, true, true, true, true, true, true, true, true, true, false, false, false] (by kernel_rfl) ⟨⟨_, hr1_9⟩, rfl⟩ ?_
        have d_b_g_0 := D_d_b_g_0.out
        have d_b_g_1 := D_d_b_g_1.out
        have d_b_h_0 := D_d_b_h_0.out
        have d_b_h_1 := D_d_b_h_1.out
        simp only [pickT]
        repeat (go_big_quiet_step (fail))
        refine wpQuiet_nil ?_
        clear d_b_g_0 d_b_g_1 d_b_h_0 d_b_h_1
        refine any_one (i := 10) (by kernel_rfl) rfl ?_
        intro K hK
        have C10 := implIsPart_any N_g a_g c_g n_g g N_g a_g c_g n_g g w9 (by omega) (by omega) HN_g.out (own_rd ho_g) (by omega) HN_g.out (own_rd ho_g) (by omega)
        rw [HP2.out] at C10
        go_wp2_with fail
        refine C10.mono ?_
        rintro e w10 ⟨rfl, hb10⟩
        clear C10
        have hr1_10 := below_tr' hr1_9 hb10
        have HB10 := below_tr' HB9 hb10
        have ho_h := own_below ho_h hb10
        have ho_g := own_below ho_g hb10
        have ho_kg := own_below ho_kg hb10
        have ho_kh := own_below ho_kh hb10
        have q_b_h := blk_below q_b_h hb10
        have q_b_g := blk_below q_b_g hb10
        go_wp2
        refine hK _ _ (fun _ => ⟨⟨_, hr1_10⟩, rfl⟩) ?_
        clear hK
        refine any_one (i := 11) (by kernel_rfl) rfl ?_
        intro K hK
        go_wp2
        refine hK _ _ (fun _ => ⟨⟨_, hr1_10⟩, rfl⟩) ?_
        clear hK
        refine any_one (i := 12) (by kernel_rfl) rfl ?_
        intro K hK
        go_wp2
        refine hK _ _ (fun h => absurd rfl h) ?_
        clear hK
        refine any_end (by kernel_rfl) ?_
        clear D_d_b_g_0 D_d_b_g_1 D_d_b_h_0 D_d_b_h_1
        go_wp2
        go_ret
        exact ⟨rfl, HB10⟩
      · subst hVf
        have g_b_h_0 := blk_cell q_b_h 0 (.int .i64 N_h) rfl
        have g_b_h_1 := blk_cell q_b_h 1 (.slice a_h n_h c_h) rfl
        have C6 := implDegreesOf_any N_h a_h c_h n_h h w5 (by omega) HN_h.out (own_rd ho_h) (by omega)
        go_wp2_with fail
        refine C6.mono ?_
        rintro e w6 ⟨aDh, rfl, ho_dh, hb6⟩
        clear C6
        have ap1 := apart_of ho_h ho_dh
        have ap2 := apart_of ho_g ho_dh
        have HB6 := below_tr' HB5 hb6
        have ho_h := own_below ho_h hb6
        have ho_g := own_below ho_g hb6
        have q_b_h := blk_below q_b_h hb6
        have q_b_g := blk_below q_b_g hb6
        clear g_b_h_0 g_b_h_1
        have g_b_g_0 := blk_cell q_b_g 0 (.int .i64 N_g) rfl
        have g_b_g_1 := blk_cell q_b_g 1 (.slice a_g n_g c_g) rfl
        have C7 := implDegreesOf_any N_g a_g c_g n_g g w6 (by omega) HN_g.out (own_rd ho_g) (by omega)
        go_wp2_with fail
        refine C7.mono ?_
        rintro e w7 ⟨aDg, rfl, ho_dg, hb7⟩
        clear C7
        have ap3 := apart_of ho_h ho_dg
        have ap4 := apart_of ho_g ho_dg
        have ap5 := apart_of ho_dh ho_dg
        have HB7 := below_tr' HB6 hb7
        have ho_h := own_below ho_h hb7
        have ho_g := own_below ho_g hb7
        have ho_dh := own_below ho_dh hb7
        have q_b_h := blk_below q_b_h hb7
        have q_b_g := blk_below q_b_g hb7
        clear g_b_g_0 g_b_g_1
        have hlh := degsV_length hh
        have hlg := degsV_length hg
        have hNN := ((part_iff hh hg).1 hV).1
        have HM := Lib.hid (degs_mono hh hg hV)
        have hl7 := degsV_len N_g g
        have hl8 := degsV_len N_h h
        have hll : (degsV N_h h).length = (degsV N_g g).length := by omega
        clear hNN
        have g_b_g_0 := blk_cell q_b_g 0 (.int .i64 N_g) rfl
        have g_b_g_1 := blk_cell q_b_g 1 (.slice a_g n_g c_g) rfl
        generalize hLg : (degsV N_g g).length = Lg at *
        generalize hLh : (degsV N_h h).length = Lh at *
        have HLg := Lib.hid hLg
        have HLh := Lib.hid hLh
        have hLL : Lh = Lg := hll
        have HLL := Lib.hid hLL
        clear hLg hLh hll hLL
        have hk1 : (Lg : Int) ≤ N_g := by omega
        have hk2 : N_g ≤ (Lg : Int) := by omega
        clear hlg hlh
        have hB0 := Below.refl w7.heap.size w7
        go_wp2
        clear g_b_g_0 g_b_g_1
        go_loopw [8] (fun i wr => ∃ k : Nat, k ≤ Lg ∧ i = .int .i64 k ∧ Below w7.heap.size w7 wr) (fun i _ => Lg - (intOf i).toNat)
        case atStart => exact ⟨0, by omega, rfl, hB0⟩
        case round =>
          obtain ⟨k, hk, rfl, hb⟩ := hrel
          have HBr := below_tr' HB7 hb
          have q_b_h := blk_below q_b_h hb
          have q_b_g := blk_below q_b_g hb
          have ho_h := own_below ho_h hb
          have ho_g := own_below ho_g hb
          have ho_dh := own_below ho_dh hb
          have ho_dg := own_below ho_dg hb
          have g_b_g_0 := blk_cell q_b_g 0 (.int .i64 N_g) rfl
          by_cases hlt : k < Lg
          · have hxg : k < (degsV N_g g).length := by rw [HLg.out]; exact hlt
            have hxh : k < (degsV N_h h).length := by rw [HLh.out, HLL.out]; exact hlt
            have hle := HM.out k
            rw [List.getD_eq_getElem?_getD, List.getD_eq_getElem?_getD, List.getElem?_eq_getElem hxg, List.getElem?_eq_getElem hxh] at hle
            simp only [Option.getD_some] at hle
            obtain ⟨b1, o1, e1, c1⟩ := (own_rd ho_dh).int (k := k) hxh
            obtain ⟨b2, o2, e2, c2⟩ := (own_rd ho_dg).int (k := k) hxg
            generalize (degsV N_h h)[k]'hxh = X at *
            generalize (degsV N_g g)[k]'hxg = Y at *
            clear hxg hxh
            have hlL : k < Lh := by rw [HLL.out]; exact hlt
            subst e1
            subst e2
            have d1 := later_cell c1
            have d2 := later_cell c2
            clear c1 c2 ho_dh ho_dg
            go_wp2
            refine wp_region_later (by kernel_rfl) (by kernel_rfl) ?_
            repeat (go_big_quiet_step (fail))
            refine wpQuiet_nil ?_
            intro w' hw'
            have hb1 := below_tr' hb (later_below hw')
            clear hw' d1 d2
            go_wp2
            go_roundw
            case rel => exact ⟨k + 1, by omega, by go_num, hb1⟩
            case measure => simp [intOf]; omega
          · clear ho_dh ho_dg
            have HP1 := Lib.hid ((part_compl hh hg).trans hV)
            have HP2 := Lib.hid (part_refl hg)
            have hL_g := cgL_len N_g g
            have hcgg : -1 ≤ cgN N_g g ∧ cgN N_g g ≤ 8 := by unfold cgN; split <;> omega
            have hL_h := cgL_len N_h h
            have hcgh : -1 ≤ cgN N_h h ∧ cgN N_h h ≤ 8 := by unfold cgN; split <;> omega
            have D_d_b_g_0 := Lib.hid (later_cell (blk_cell q_b_g 0 (.int .i64 N_g) rfl))
            have D_d_b_g_1 := Lib.hid (later_cell (blk_cell q_b_g 1 (.slice a_g n_g c_g) rfl))
            have D_d_b_h_0 := Lib.hid (later_cell (blk_cell q_b_h 0 (.int .i64 N_h) rfl))
            have D_d_b_h_1 := Lib.hid (later_cell (blk_cell q_b_h 1 (.slice a_h n_h c_h) rfl))
            have bd1 := bel_drew (Below.refl wr.heap.size wr)
            go_wp2
            refine wp_region_heads [true, false, true, false, false, true, false, false, false, false, false, false, false] 12 10 (C := fun w' => ∃ u : Later wr, w' = u.val) (by kernel_rfl) (by kernel_rfl) ⟨⟨_, bd1⟩, rfl⟩ ?_
            have d_b_g_0 := D_d_b_g_0.out
            have d_b_g_1 := D_d_b_g_1.out
            have d_b_h_0 := D_d_b_h_0.out
            have d_b_h_1 := D_d_b_h_1.out
            simp only [pickT]
            repeat (go_big_quiet_step (fail))
            refine wpQuiet_nil ?_
            clear d_b_g_0 d_b_g_1 d_b_h_0 d_b_h_1
            generalize hD1 : wr.drew = D1 at *
            clear hD1
            have ho_h := own_below ho_h bd1
            have ho_g := own_below ho_g bd1
            have q_b_h := blk_below q_b_h bd1
            have q_b_g := blk_below q_b_g bd1
            have HB8 := below_tr' HBr bd1
            refine any_one (i := 1) (by kernel_rfl) rfl ?_
            intro K hK
            have C9 := implCG_any N_g a_g c_g n_g g D1 (by omega) HN_g.out (own_rd ho_g) (by omega)
            go_wp2_with fail
            refine C9.mono ?_
            rintro e w9 ⟨aKg, cKg, dKg, rfl, ho_kg, hb9⟩
            clear C9
            have hr1_9 := below_tr' bd1 hb9
            have ap6 := apart_of ho_h ho_kg
            have ap7 := apart_of ho_g ho_kg
            have HB9 := below_tr' HB8 hb9
            have ho_h := own_below ho_h hb9
            have ho_g := own_below ho_g hb9
            have q_b_h := blk_below q_b_h hb9
            have q_b_g := blk_below q_b_g hb9
            go_wp2
            refine hK _ _ (fun _ => ⟨⟨_, hr1_9⟩, rfl⟩) ?_
            clear hK
            refine any_one (i := 3) (by kernel_rfl) rfl ?_
            intro K hK
            have C10 := implCG_any N_h a_h c_h n_h h w9 (by omega) HN_h.out (own_rd ho_h) (by omega)
            go_wp2_with fail
            refine C10.mono ?_
            rintro e w10 ⟨aKh, cKh, dKh, rfl, ho_kh, hb10⟩
            clear C10
            have hr1_10 := below_tr' hr1_9 hb10
            have ap8 := apart_of ho_h ho_kh
            have ap9 := apart_of ho_g ho_kh
            have ap10 := apart_of ho_kg ho_kh
            have HB10 := below_tr' HB9 hb10
            have ho_h := own_below ho_h hb10
            have ho_g := own_below ho_g hb10
            have ho_kg := own_below ho_kg hb10
            have q_b_h := blk_below q_b_h hb10
            have q_b_g := blk_below q_b_g hb10
            go_wp2
            refine hK _ _ (fun _ => ⟨⟨_, hr1_10⟩, rfl⟩) ?_
            clear hK
            refine any_one (i := 4) (by kernel_rfl) rfl ?_
            intro K hK
            have C11 := implIsPart_any (cgN N_g g) aKg dKg (cgL N_g g).length (cgL N_g g) (cgN N_h h) aKh dKh (cgL N_h h).length (cgL N_h h) w10 (by omega) (by omega) rfl (own_rd ho_kg) (by omega) rfl (own_rd ho_kh) (by omega)
            rw [HP1.out] at C11
            go_wp2_with fail
            refine C11.mono ?_
            rintro e w11 ⟨rfl, hb11⟩
            clear C11
            have hr1_11 := below_tr' hr1_10 hb11
            have HB11 := below_tr' HB10 hb11
            have ho_h := own_below ho_h hb11
            have ho_g := own_below ho_g hb11
            have ho_kg := own_below ho_kg hb11
            have ho_kh := own_below ho_kh hb11
            have q_b_h := blk_below q_b_h hb11
            have q_b_g := blk_below q_b_g hb11
            go_wp2
            refine hK _ _ (fun _ => ⟨⟨_, hr1_11⟩, rfl⟩) ?_
            clear hK
            refine any_one (i := 6) (by kernel_rfl) rfl ?_
            intro K hK
            go_wp2
            refine hK _ _ (fun _ => ⟨⟨_, hr1_11⟩, rfl⟩) ?_
            clear hK
            refine any_one (i := 7) (by kernel_rfl) rfl ?_
            intro K hK
            go_wp2
            refine hK _ _ (fun _ => ⟨⟨_, hr1_11⟩, rfl⟩) ?_
            clear hK
            refine any_heads (id := 2) (n := 3) [false, false, false, false, false, false, false, false, true, true, false, false, false] #[true, true, true, true, true, true, true, true, true, true, false, false, false] (by kernel_rfl) ⟨⟨_, hr1_11⟩, rfl⟩ ?_
            have d_b_g_0 := D_d_b_g_0.out
            have d_b_g_1 := D_d_b_g_1.out
            have d_b_h_0 := D_d_b_h_0.out
            have d_b_h_1 := D_d_b_h_1.out
            simp only [pickT]
            repeat (go_big_quiet_step (fail))
            refine wpQuiet_nil ?_
            clear d_b_g_0 d_b_g_1 d_b_h_0 d_b_h_1
            refine any_one (i := 10) (by kernel_rfl) rfl ?_
            intro K hK
            have C12 := implIsPart_any N_g a_g c_g n_g g N_g a_g c_g n_g g w11 (by omega) (by omega) HN_g.out (own_rd ho_g) (by omega) HN_g.out (own_rd ho_g) (by omega)
            rw [HP2.out] at C12
            go_wp2_with fail
            refine C12.mono ?_
            rintro e w12 ⟨rfl, hb12⟩
            clear C12
            have hr1_12 := below_tr' hr1_11 hb12
            have HB12 := below_tr' HB11 hb12
            have ho_h := own_below ho_h hb12
            have ho_g := own_below ho_g hb12
            have ho_kg := own_below ho_kg hb12
            have ho_kh := own_below ho_kh hb12
            have q_b_h := blk_below q_b_h hb12
            have q_b_g := blk_below q_b_g hb12
            go_wp2
            refine hK _ _ (fun _ => ⟨⟨_, hr1_12⟩, rfl⟩) ?_
            clear hK
            refine any_one (i := 11) (by kernel_rfl) rfl ?_
            intro K hK
            go_wp2
            refine hK _ _ (fun _ => ⟨⟨_, hr1_12⟩, rfl⟩) ?_
            clear hK
            refine any_one (i := 12) (by kernel_rfl) rfl ?_
            intro K hK
            go_wp2
            refine hK _ _ (fun h => absurd rfl h) ?_
            clear hK
            refine any_end (by kernel_rfl) ?_
            clear D_d_b_g_0 D_d_b_g_1 D_d_b_h_0 D_d_b_h_1
            go_wp2
            go_ret
            exact ⟨rfl, HB12⟩

end Go.Proofs.Ytbiekdhikanhcaa
