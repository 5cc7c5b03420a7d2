
/- The walk of the law FnUnionOf. (Printed by laws_f.py.) -/
import Derived.Test.YtjghcegacgpehaaTwoE
import Derived.Test.YtjghcegacgpehaaPlainDf
import Derived.Test.YtjghcegacgpehaaDraw1
import Derived.Test.YtjghcegacgpehaaUnionS
namespace Go.Proofs.Ytjghcegacgpehaa
open Go.RowKit

set_option maxHeartbeats 4000000 in
set_option linter.unusedVariables false in
theorem walk_FnUnionOf (a_c : Option Addr) (c_c n_c : Nat) (bs : List Int) (w : World) (hc : CodeOK w a_c c_c n_c bs) :
    Calls Try.prog 4 #[.slice a_c n_c c_c] w fun e w' => e = .returned (.bool true) ∧ Below w.heap.size w w' := by
  by_cases hs : 1048576 < n_c
  · go_enter Try.func4, Try.ntmps4
    go_wp2
    go_ret
    exact ⟨rfl, Below.refl _ _⟩
  have hs' : n_c ≤ 1048576 := by omega
  have HB0 := Below.refl w.heap.size w
  go_enter Try.func4, Try.ntmps4
  have C1 := DrawUnionOf_any a_c c_c n_c bs w hc hs'
  go_wp2_with fail
  refine C1.mono ?_
  rintro e w1 ⟨N_g, g, a_g, c_g, N_h, h, a_h, c_h, rfl, hN_g, hN_h, hb_g, hb_h, ho_g, ho_h, hb1⟩
  clear C1
  obtain ⟨n_g, hn_g'⟩ : ∃ n, n = g.length := ⟨_, rfl⟩
  rw [← hn_g'] at ho_g hb_g
  have CN_g : graphV N_g a_g g.length c_g = graphV N_g a_g n_g c_g := by rw [hn_g']
  rw [CN_g]
  have HN_g := Lib.hid hn_g'.symm
  clear CN_g hn_g'
  have hc_g := own_capE ho_g
  obtain ⟨n_h, hn_h'⟩ : ∃ n, n = h.length := ⟨_, rfl⟩
  rw [← hn_h'] at ho_h hb_h
  have CN_h : graphV N_h a_h h.length c_h = graphV N_h a_h n_h c_h := by rw [hn_h']
  rw [CN_h]
  have HN_h := Lib.hid hn_h'.symm
  clear CN_h hn_h'
  have hc_h := own_capE ho_h
  have HB1 := below_tr' HB0 hb1
  have HA := below_alloc2 w1 (.cells #[.int .i64 0, .slice none 0 0] 25) (.cells #[.int .i64 0, .slice none 0 0] 25)
  have q_b_g := blk_below (heap_alloc_new w1 (.cells #[.int .i64 0, .slice none 0 0] 25)) (below_alloc _ (.cells #[.int .i64 0, .slice none 0 0] 25))
  have q_b_h := heap_alloc_new (w1.alloc (.cells #[.int .i64 0, .slice none 0 0] 25)) (.cells #[.int .i64 0, .slice none 0 0] 25)
  rw [show (w1.alloc (.cells #[.int .i64 0, .slice none 0 0] 25)).heap.size = w1.heap.size + 1 from by simp] at q_b_h
  have ho_g := own_below ho_g HA
  have ho_h := own_below ho_h HA
  have HBa := below_tr' HB1 HA
  generalize hVa : (w1.alloc (.cells #[.int .i64 0, .slice none 0 0] 25)).alloc (.cells #[.int .i64 0, .slice none 0 0] 25) = va at *
  have HVa := Lib.hid hVa
  clear hVa HA
  have z00 := blk_cell q_b_g 0 (.int .i64 0) rfl
  have f00 := blk_free q_b_g 0
  have z01 := blk_cell q_b_g 1 (.slice none 0 0) rfl
  have f01 := blk_free q_b_g 1
  have ho_g := own_setOther (own_setOther ho_g (w1.heap.size) 0 (.int .i64 N_g) (own_ne ho_g q_b_g (by decide))) (w1.heap.size) 1 (.slice a_g n_g c_g) (own_ne ho_g q_b_g (by decide))
  have ho_h := own_setOther (own_setOther ho_h (w1.heap.size) 0 (.int .i64 N_g) (own_ne ho_h q_b_g (by decide))) (w1.heap.size) 1 (.slice a_g n_g c_g) (own_ne ho_h q_b_g (by decide))
  have q_b_h := blk_set_other (blk_set_other q_b_h 0 (.int .i64 N_g) (g := w1.heap.size) (by omega)) 1 (.slice a_g n_g c_g) (g := w1.heap.size) (by omega)
  have q_b_g := blk_set (blk_set q_b_g 0 (.int .i64 N_g)) 1 (.slice a_g n_g c_g)
  have HB_0 := ((HBa).setCell (p := ⟨w1.heap.size, 0, none⟩) (by have := hb1.size; simp; omega) (.int .i64 N_g)).setCell (p := ⟨w1.heap.size, 1, none⟩) (by have := hb1.size; simp; omega) (.slice a_g n_g c_g)
  generalize hV0 : (va.setCell ⟨w1.heap.size, 0, none⟩ (.int .i64 N_g)).setCell ⟨w1.heap.size, 1, none⟩ (.slice a_g n_g c_g) = vb0 at *
  have HV_0 := Lib.hid hV0
  clear hV0
  have z10 := blk_cell q_b_h 0 (.int .i64 0) rfl
  have f10 := blk_free q_b_h 0
  have z11 := blk_cell q_b_h 1 (.slice none 0 0) rfl
  have f11 := blk_free q_b_h 1
  have ho_g := own_setOther (own_setOther ho_g (w1.heap.size + 1) 0 (.int .i64 N_h) (own_ne ho_g q_b_h (by decide))) (w1.heap.size + 1) 1 (.slice a_h n_h c_h) (own_ne ho_g q_b_h (by decide))
  have ho_h := own_setOther (own_setOther ho_h (w1.heap.size + 1) 0 (.int .i64 N_h) (own_ne ho_h q_b_h (by decide))) (w1.heap.size + 1) 1 (.slice a_h n_h c_h) (own_ne ho_h q_b_h (by decide))
  have q_b_g := blk_set_other (blk_set_other q_b_g 0 (.int .i64 N_h) (g := w1.heap.size + 1) (by omega)) 1 (.slice a_h n_h c_h) (g := w1.heap.size + 1) (by omega)
  have q_b_h := blk_set (blk_set q_b_h 0 (.int .i64 N_h)) 1 (.slice a_h n_h c_h)
  have HB_1 := ((HB_0).setCell (p := ⟨w1.heap.size + 1, 0, none⟩) (by have := hb1.size; simp; omega) (.int .i64 N_h)).setCell (p := ⟨w1.heap.size + 1, 1, none⟩) (by have := hb1.size; simp; omega) (.slice a_h n_h c_h)
  generalize hV1 : (vb0.setCell ⟨w1.heap.size + 1, 0, none⟩ (.int .i64 N_h)).setCell ⟨w1.heap.size + 1, 1, none⟩ (.slice a_h n_h c_h) = vb1 at *
  have HV_1 := Lib.hid hV1
  clear hV1
  have hUL := uniE_len N_g g N_h h
  have hUN : -1 ≤ uniN N_g g N_h h ∧ uniN N_g g N_h h ≤ 8 := by unfold uniN; split <;> omega
  cases hv : bothV N_g g N_h h
  · have g_b_g_0 := blk_cell q_b_g 0 (.int .i64 N_g) rfl
    have g_b_g_1 := blk_cell q_b_g 1 (.slice a_g n_g c_g) rfl
    have g_b_h_0 := blk_cell q_b_h 0 (.int .i64 N_h) rfl
    have g_b_h_1 := blk_cell q_b_h 1 (.slice a_h n_h c_h) rfl
    have C2 := implUnionOf_any N_g a_g c_g n_g g N_h a_h c_h n_h h vb1 (by omega) (by omega) HN_g.out (own_rd ho_g) (by omega) HN_h.out (own_rd ho_h) (by omega)
    rw [hv] at C2
    go_wp2_with (simp only [HVa.out, HV_0.out, HV_1.out])
    refine C2.mono ?_
    rintro e w2 ⟨aK, cK, dK, rfl, ho_k, hb2⟩
    clear C2
    have ap1 := apart_of ho_g ho_k
    have ap2 := apart_of ho_h ho_k
    have HB2 := below_tr' HB_1 hb2
    have ho_g := own_below ho_g hb2
    have ho_h := own_below ho_h hb2
    have q_b_g := blk_below q_b_g hb2
    have q_b_h := blk_below q_b_h hb2
    clear g_b_g_0 g_b_g_1 g_b_h_0 g_b_h_1
    have HA1 := below_alloc w2 (.cells #[.int .i64 (uniN N_g g N_h h), .slice aK (uniE N_g g N_h h).length dK] 25)
    have q_b_k := heap_alloc_new w2 (.cells #[.int .i64 (uniN N_g g N_h h), .slice aK (uniE N_g g N_h h).length dK] 25)
    have ho_g := own_below ho_g HA1
    have ho_h := own_below ho_h HA1
    have ho_k := own_below ho_k HA1
    have q_b_g := blk_below q_b_g HA1
    have q_b_h := blk_below q_b_h HA1
    have HBc1 := below_tr' HB2 HA1
    generalize hV1 : w2.alloc (.cells #[.int .i64 (uniN N_g g N_h h), .slice aK (uniE N_g g N_h h).length dK] 25) = v1 at *
    have HV1 := Lib.hid hV1
    clear hV1 HA1
    have g_b_g_0 := blk_cell q_b_g 0 (.int .i64 N_g) rfl
    have g_b_g_1 := blk_cell q_b_g 1 (.slice a_g n_g c_g) rfl
    have g_b_h_0 := blk_cell q_b_h 0 (.int .i64 N_h) rfl
    have g_b_h_1 := blk_cell q_b_h 1 (.slice a_h n_h c_h) rfl
    have C3 := specUnionOf_any N_g a_g c_g n_g g N_h a_h c_h n_h h v1 HN_g.out (own_rd ho_g) (by omega) HN_h.out (own_rd ho_h) (by omega) (by omega) (own_formD ho_g).2.2.1
    rw [hv] at C3
    go_wp2_with (simp only [HV1.out])
    refine C3.mono ?_
    rintro e w3 ⟨aS, cS, dS, rfl, ho_s, hb3⟩
    clear C3
    have ap3 := apart_of ho_g ho_s
    have ap4 := apart_of ho_h ho_s
    have ap5 := apart_of ho_k ho_s
    have HB3 := below_tr' HBc1 hb3
    have ho_g := own_below ho_g hb3
    have ho_h := own_below ho_h hb3
    have ho_k := own_below ho_k hb3
    have q_b_g := blk_below q_b_g hb3
    have q_b_h := blk_below q_b_h hb3
    have q_b_k := blk_below q_b_k hb3
    clear g_b_g_0 g_b_g_1 g_b_h_0 g_b_h_1
    have HA2 := below_alloc w3 (.cells #[.int .i64 (uniN N_g g N_h h), .slice aS (uniE N_g g N_h h).length dS] 25)
    have q_b_s := heap_alloc_new w3 (.cells #[.int .i64 (uniN N_g g N_h h), .slice aS (uniE N_g g N_h h).length dS] 25)
    have ho_g := own_below ho_g HA2
    have ho_h := own_below ho_h HA2
    have ho_k := own_below ho_k HA2
    have ho_s := own_below ho_s HA2
    have q_b_g := blk_below q_b_g HA2
    have q_b_h := blk_below q_b_h HA2
    have q_b_k := blk_below q_b_k HA2
    have HBc2 := below_tr' HB3 HA2
    generalize hV2 : w3.alloc (.cells #[.int .i64 (uniN N_g g N_h h), .slice aS (uniE N_g g N_h h).length dS] 25) = v2 at *
    have HV2 := Lib.hid hV2
    clear hV2 HA2
    have g_b_k_0 := blk_cell q_b_k 0 (.int .i64 (uniN N_g g N_h h)) rfl
    have g_b_k_1 := blk_cell q_b_k 1 (.slice aK (uniE N_g g N_h h).length dK) rfl
    have g_b_s_0 := blk_cell q_b_s 0 (.int .i64 (uniN N_g g N_h h)) rfl
    have g_b_s_1 := blk_cell q_b_s 1 (.slice aS (uniE N_g g N_h h).length dS) rfl
    have C4 := equalGraph_any (uniN N_g g N_h h) (uniN N_g g N_h h) aK aS dK dS (uniE N_g g N_h h).length (uniE N_g g N_h h).length (uniE N_g g N_h h) (uniE N_g g N_h h) v2 rfl rfl (own_rd ho_k) (own_rd ho_s) (by omega) (by omega)
    rw [show decide ((uniN N_g g N_h h) = (uniN N_g g N_h h) ∧ (uniE N_g g N_h h) = (uniE N_g g N_h h)) = true from by simp] at C4
    go_wp2_with (simp only [HV2.out])
    refine C4.mono ?_
    rintro e w4 ⟨rfl, hb4⟩
    clear C4
    have HB4 := below_tr' HBc2 hb4
    have ho_g := own_below ho_g hb4
    have ho_h := own_below ho_h hb4
    have ho_k := own_below ho_k hb4
    have ho_s := own_below ho_s hb4
    have q_b_g := blk_below q_b_g hb4
    have q_b_h := blk_below q_b_h hb4
    have q_b_k := blk_below q_b_k hb4
    have q_b_s := blk_below q_b_s hb4
    clear g_b_k_0 g_b_k_1 g_b_s_0 g_b_s_1
    have g_b_k_0 := blk_cell q_b_k 0 (.int .i64 (uniN N_g g N_h h)) rfl
    have g_b_k_1 := blk_cell q_b_k 1 (.slice aK (uniE N_g g N_h h).length dK) rfl
    have g_b_s_0 := blk_cell q_b_s 0 (.int .i64 (uniN N_g g N_h h)) rfl
    have g_b_s_1 := blk_cell q_b_s 1 (.slice aS (uniE N_g g N_h h).length dS) rfl
    have C5 := equalGraph_any (uniN N_g g N_h h) (uniN N_g g N_h h) aK aS dK dS (uniE N_g g N_h h).length (uniE N_g g N_h h).length (uniE N_g g N_h h) (uniE N_g g N_h h) w4 rfl rfl (own_rd ho_k) (own_rd ho_s) (by omega) (by omega)
    rw [show decide ((uniN N_g g N_h h) = (uniN N_g g N_h h) ∧ (uniE N_g g N_h h) = (uniE N_g g N_h h)) = true from by simp] at C5
    go_wp2_with fail
    refine C5.mono ?_
    rintro e w5 ⟨rfl, hb5⟩
    clear C5
    have HB5 := below_tr' HB4 hb5
    have ho_g := own_below ho_g hb5
    have ho_h := own_below ho_h hb5
    have ho_k := own_below ho_k hb5
    have ho_s := own_below ho_s hb5
    have q_b_g := blk_below q_b_g hb5
    have q_b_h := blk_below q_b_h hb5
    have q_b_k := blk_below q_b_k hb5
    have q_b_s := blk_below q_b_s hb5
    clear g_b_k_0 g_b_k_1 g_b_s_0 g_b_s_1
    go_wp2
    go_ret
    exact ⟨rfl, HB5⟩
  · obtain ⟨hU1, hU2, hU3, hU4, hU5, hU6⟩ := union_law hv
    have hDV : diffV N_g g N_h h = (diffB g h : Nat) := by rw [diffV, hv]; rfl
    rw [HN_g.out, HN_h.out] at hU6
    generalize hDD : diffB g h = D at *
    have HU1 := Lib.hid hU1
    have HU2 := Lib.hid hU2
    have HU3 := Lib.hid hU3
    have HU4 := Lib.hid hU4
    have HU5 := Lib.hid hU5
    have HDV := Lib.hid hDV
    clear hU1 hU2 hU3 hU4 hU5 hDV hDD
    have g_b_g_0 := blk_cell q_b_g 0 (.int .i64 N_g) rfl
    have g_b_g_1 := blk_cell q_b_g 1 (.slice a_g n_g c_g) rfl
    have g_b_h_0 := blk_cell q_b_h 0 (.int .i64 N_h) rfl
    have g_b_h_1 := blk_cell q_b_h 1 (.slice a_h n_h c_h) rfl
    have C2 := implUnionOf_any N_g a_g c_g n_g g N_h a_h c_h n_h h vb1 (by omega) (by omega) HN_g.out (own_rd ho_g) (by omega) HN_h.out (own_rd ho_h) (by omega)
    rw [hv] at C2
    go_wp2_with (simp only [HVa.out, HV_0.out, HV_1.out])
    refine C2.mono ?_
    rintro e w2 ⟨aK, cK, dK, rfl, ho_k, hb2⟩
    clear C2
    have ap1 := apart_of ho_g ho_k
    have ap2 := apart_of ho_h ho_k
    have HB2 := below_tr' HB_1 hb2
    have ho_g := own_below ho_g hb2
    have ho_h := own_below ho_h hb2
    have q_b_g := blk_below q_b_g hb2
    have q_b_h := blk_below q_b_h hb2
    clear g_b_g_0 g_b_g_1 g_b_h_0 g_b_h_1
    have HA1 := below_alloc w2 (.cells #[.int .i64 (uniN N_g g N_h h), .slice aK (uniE N_g g N_h h).length dK] 25)
    have q_b_k := heap_alloc_new w2 (.cells #[.int .i64 (uniN N_g g N_h h), .slice aK (uniE N_g g N_h h).length dK] 25)
    have ho_g := own_below ho_g HA1
    have ho_h := own_below ho_h HA1
    have ho_k := own_below ho_k HA1
    have q_b_g := blk_below q_b_g HA1
    have q_b_h := blk_below q_b_h HA1
    have HBc1 := below_tr' HB2 HA1
    generalize hV1 : w2.alloc (.cells #[.int .i64 (uniN N_g g N_h h), .slice aK (uniE N_g g N_h h).length dK] 25) = v1 at *
    have HV1 := Lib.hid hV1
    clear hV1 HA1
    have g_b_g_0 := blk_cell q_b_g 0 (.int .i64 N_g) rfl
    have g_b_g_1 := blk_cell q_b_g 1 (.slice a_g n_g c_g) rfl
    have g_b_h_0 := blk_cell q_b_h 0 (.int .i64 N_h) rfl
    have g_b_h_1 := blk_cell q_b_h 1 (.slice a_h n_h c_h) rfl
    have C3 := specUnionOf_any N_g a_g c_g n_g g N_h a_h c_h n_h h v1 HN_g.out (own_rd ho_g) (by omega) HN_h.out (own_rd ho_h) (by omega) (by omega) (own_formD ho_g).2.2.1
    rw [hv] at C3
    go_wp2_with (simp only [HV1.out])
    refine C3.mono ?_
    rintro e w3 ⟨aS, cS, dS, rfl, ho_s, hb3⟩
    clear C3
    have ap3 := apart_of ho_g ho_s
    have ap4 := apart_of ho_h ho_s
    have ap5 := apart_of ho_k ho_s
    have HB3 := below_tr' HBc1 hb3
    have ho_g := own_below ho_g hb3
    have ho_h := own_below ho_h hb3
    have ho_k := own_below ho_k hb3
    have q_b_g := blk_below q_b_g hb3
    have q_b_h := blk_below q_b_h hb3
    have q_b_k := blk_below q_b_k hb3
    clear g_b_g_0 g_b_g_1 g_b_h_0 g_b_h_1
    have HA2 := below_alloc w3 (.cells #[.int .i64 (uniN N_g g N_h h), .slice aS (uniE N_g g N_h h).length dS] 25)
    have q_b_s := heap_alloc_new w3 (.cells #[.int .i64 (uniN N_g g N_h h), .slice aS (uniE N_g g N_h h).length dS] 25)
    have ho_g := own_below ho_g HA2
    have ho_h := own_below ho_h HA2
    have ho_k := own_below ho_k HA2
    have ho_s := own_below ho_s HA2
    have q_b_g := blk_below q_b_g HA2
    have q_b_h := blk_below q_b_h HA2
    have q_b_k := blk_below q_b_k HA2
    have HBc2 := below_tr' HB3 HA2
    generalize hV2 : w3.alloc (.cells #[.int .i64 (uniN N_g g N_h h), .slice aS (uniE N_g g N_h h).length dS] 25) = v2 at *
    have HV2 := Lib.hid hV2
    clear hV2 HA2
    have g_b_k_0 := blk_cell q_b_k 0 (.int .i64 (uniN N_g g N_h h)) rfl
    have g_b_k_1 := blk_cell q_b_k 1 (.slice aK (uniE N_g g N_h h).length dK) rfl
    have g_b_s_0 := blk_cell q_b_s 0 (.int .i64 (uniN N_g g N_h h)) rfl
    have g_b_s_1 := blk_cell q_b_s 1 (.slice aS (uniE N_g g N_h h).length dS) rfl
    have C4 := equalGraph_any (uniN N_g g N_h h) (uniN N_g g N_h h) aK aS dK dS (uniE N_g g N_h h).length (uniE N_g g N_h h).length (uniE N_g g N_h h) (uniE N_g g N_h h) v2 rfl rfl (own_rd ho_k) (own_rd ho_s) (by omega) (by omega)
    rw [show decide ((uniN N_g g N_h h) = (uniN N_g g N_h h) ∧ (uniE N_g g N_h h) = (uniE N_g g N_h h)) = true from by simp] at C4
    go_wp2_with (simp only [HV2.out])
    refine C4.mono ?_
    rintro e w4 ⟨rfl, hb4⟩
    clear C4
    have HB4 := below_tr' HBc2 hb4
    have ho_g := own_below ho_g hb4
    have ho_h := own_below ho_h hb4
    have ho_k := own_below ho_k hb4
    have ho_s := own_below ho_s hb4
    have q_b_g := blk_below q_b_g hb4
    have q_b_h := blk_below q_b_h hb4
    have q_b_k := blk_below q_b_k hb4
    have q_b_s := blk_below q_b_s hb4
    clear g_b_k_0 g_b_k_1 g_b_s_0 g_b_s_1
    have g_b_h_0 := blk_cell q_b_h 0 (.int .i64 N_h) rfl
    have g_b_h_1 := blk_cell q_b_h 1 (.slice a_h n_h c_h) rfl
    have g_b_g_0 := blk_cell q_b_g 0 (.int .i64 N_g) rfl
    have g_b_g_1 := blk_cell q_b_g 1 (.slice a_g n_g c_g) rfl
    have C5 := implUnionOf_any N_h a_h c_h n_h h N_g a_g c_g n_g g w4 (by omega) (by omega) HN_h.out (own_rd ho_h) (by omega) HN_g.out (own_rd ho_g) (by omega)
    rw [HU3.out, HU4.out, HU5.out] at C5
    go_wp2_with fail
    refine C5.mono ?_
    rintro e w5 ⟨aO, cO, dO, rfl, ho_o, hb5⟩
    clear C5
    have ap6 := apart_of ho_g ho_o
    have ap7 := apart_of ho_h ho_o
    have ap8 := apart_of ho_k ho_o
    have ap9 := apart_of ho_s ho_o
    have HB5 := below_tr' HB4 hb5
    have ho_g := own_below ho_g hb5
    have ho_h := own_below ho_h hb5
    have ho_k := own_below ho_k hb5
    have ho_s := own_below ho_s hb5
    have q_b_g := blk_below q_b_g hb5
    have q_b_h := blk_below q_b_h hb5
    have q_b_k := blk_below q_b_k hb5
    have q_b_s := blk_below q_b_s hb5
    clear g_b_h_0 g_b_h_1 g_b_g_0 g_b_g_1
    have HA3 := below_alloc w5 (.cells #[.int .i64 (uniN N_g g N_h h), .slice aO (uniE N_g g N_h h).length dO] 25)
    have q_b_o := heap_alloc_new w5 (.cells #[.int .i64 (uniN N_g g N_h h), .slice aO (uniE N_g g N_h h).length dO] 25)
    have ho_g := own_below ho_g HA3
    have ho_h := own_below ho_h HA3
    have ho_k := own_below ho_k HA3
    have ho_s := own_below ho_s HA3
    have ho_o := own_below ho_o HA3
    have q_b_g := blk_below q_b_g HA3
    have q_b_h := blk_below q_b_h HA3
    have q_b_k := blk_below q_b_k HA3
    have q_b_s := blk_below q_b_s HA3
    have HBc3 := below_tr' HB5 HA3
    generalize hV3 : w5.alloc (.cells #[.int .i64 (uniN N_g g N_h h), .slice aO (uniE N_g g N_h h).length dO] 25) = v3 at *
    have HV3 := Lib.hid hV3
    clear hV3 HA3
    have hU7 : ((2 * ((uniE N_g g N_h h).length : Int)) == ((n_g : Int) + (n_h : Int) + (D : Int))) = true := by simp; omega
    have d_b_g_0 := later_cell (blk_cell q_b_g 0 (.int .i64 N_g) rfl)
    have d_b_g_1 := later_cell (blk_cell q_b_g 1 (.slice a_g n_g c_g) rfl)
    have d_b_h_0 := later_cell (blk_cell q_b_h 0 (.int .i64 N_h) rfl)
    have d_b_h_1 := later_cell (blk_cell q_b_h 1 (.slice a_h n_h c_h) rfl)
    have d_b_k_0 := later_cell (blk_cell q_b_k 0 (.int .i64 (uniN N_g g N_h h)) rfl)
    have d_b_k_1 := later_cell (blk_cell q_b_k 1 (.slice aK (uniE N_g g N_h h).length dK) rfl)
    have d_b_o_0 := later_cell (blk_cell q_b_o 0 (.int .i64 (uniN N_g g N_h h)) rfl)
    have d_b_o_1 := later_cell (blk_cell q_b_o 1 (.slice aO (uniE N_g g N_h h).length dO) rfl)
    have hE0 := fun u : Later v3 => implIsPart_any N_g a_g c_g n_g g (uniN N_g g N_h h) aK dK (uniE N_g g N_h h).length (uniE N_g g N_h h) u.val (by omega) (by omega) HN_g.out (own_rd (own_below ho_g u.ok)) (by omega) rfl (own_rd (own_below ho_k u.ok)) (by omega)
    simp only [HU1.out] at hE0
    have HE0 := Lib.hid hE0
    clear hE0
    have hE1 := fun u : Later v3 => implIsPart_any N_h a_h c_h n_h h (uniN N_g g N_h h) aK dK (uniE N_g g N_h h).length (uniE N_g g N_h h) u.val (by omega) (by omega) HN_h.out (own_rd (own_below ho_h u.ok)) (by omega) rfl (own_rd (own_below ho_k u.ok)) (by omega)
    simp only [HU2.out] at hE1
    have HE1 := Lib.hid hE1
    clear hE1
    have hE2 := fun u : Later v3 => equalGraph_any (uniN N_g g N_h h) (uniN N_g g N_h h) aO aK dO dK (uniE N_g g N_h h).length (uniE N_g g N_h h).length (uniE N_g g N_h h) (uniE N_g g N_h h) u.val rfl rfl (own_rd (own_below ho_o u.ok)) (own_rd (own_below ho_k u.ok)) (by omega) (by omega)
    simp only [and_self, decide_true] at hE2
    have HE2 := Lib.hid hE2
    clear hE2
    have hE3 := fun u : Later v3 => implDiff_any N_g a_g c_g n_g g N_h a_h c_h n_h h u.val (by omega) (by omega) HN_g.out (own_rd (own_below ho_g u.ok)) (by omega) HN_h.out (own_rd (own_below ho_h u.ok)) (by omega)
    simp only [HDV.out] at hE3
    have HE3 := Lib.hid hE3
    clear hE3
    go_wp2_with (simp only [HV3.out])
    refine wp_region_later (by kernel_rfl) (by kernel_rfl) ?_
    iterate 4 (go_big_quiet_step ((go_at_call 22; exact calls_later _ (HE0.out _))))
    iterate 8 (go_big_quiet_step ((go_at_call 22; exact calls_later _ (HE1.out _))))
    iterate 5 (go_big_quiet_step ((go_at_call 17; exact calls_later _ (HE2.out _))))
    repeat (go_big_quiet_step ((go_at_call 15; exact calls_later _ (HE3.out _))))
    refine wpQuiet_nil ?_
    intro w6 hw6
    have hb6 := later_below hw6
    clear hw6 d_b_g_0 d_b_g_1 d_b_h_0 d_b_h_1 d_b_k_0 d_b_k_1 d_b_o_0 d_b_o_1
    have HB6 := below_tr' HBc3 hb6
    have ho_g := own_below ho_g hb6
    have ho_h := own_below ho_h hb6
    have ho_k := own_below ho_k hb6
    have ho_s := own_below ho_s hb6
    have ho_o := own_below ho_o hb6
    have q_b_g := blk_below q_b_g hb6
    have q_b_h := blk_below q_b_h hb6
    have q_b_k := blk_below q_b_k hb6
    have q_b_s := blk_below q_b_s hb6
    have q_b_o := blk_below q_b_o hb6
    go_wp2
    go_ret
    first | exact ⟨rfl, HB6⟩ | exact ⟨ret_bool (by simp; omega), HB6⟩

end Go.Proofs.Ytjghcegacgpehaa
