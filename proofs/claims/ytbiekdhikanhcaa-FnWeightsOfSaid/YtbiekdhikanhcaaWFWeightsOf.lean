
/- The walk of the law FnWeightsOf. (Printed by laws_f.py.) -/
import Derived.Test.YtbiekdhikanhcaaDrawC
import Derived.Test.YtbiekdhikanhcaaPlainW
namespace Go.Proofs.Ytbiekdhikanhcaa
open Go.RowKit

set_option maxHeartbeats 4000000 in
set_option linter.unusedVariables false in
theorem walk_FnWeightsOf (a_c : Option Addr) (c_c n_c : Nat) (bs : List Int) (w : World) (hc : CodeOK w a_c c_c n_c bs) :
    Calls Try.prog 5 #[.slice a_c n_c c_c] w fun e w' => e = .returned (.bool true) ∧ Below w.heap.size w w' := by
  by_cases hs : 1048576 < n_c
  · go_enter Try.func5, Try.ntmps5
    go_wp2
    go_ret
    exact ⟨rfl, Below.refl _ _⟩
  have hs' : n_c ≤ 1048576 := by omega
  have HB0 := Below.refl w.heap.size w
  go_enter Try.func5, Try.ntmps5
  have C1 := DrawWeightsOf_any a_c c_c n_c bs w hc hs'
  go_wp2_with fail
  refine C1.mono ?_
  rintro e w1 ⟨s, rfl, hs13, hb1⟩
  clear C1
  have HB1 := below_tr' HB0 hb1
  have hLw : (wtsOf s).length ≤ 13 := by unfold wtsOf; split <;> simp [wts_length] <;> omega
  cases hv : codeB s
  · have C2 := implWeights_any s w1 (by omega)
    rw [hv] at C2
    go_wp2_with fail
    refine C2.mono ?_
    rintro e w2 ⟨aW, cW, rfl, ho_w, hb2⟩
    clear C2
    have HB2 := below_tr' HB1 hb2
    have C3 := specWeights_any s w2 (by omega)
    rw [hv] at C3
    go_wp2_with fail
    refine C3.mono ?_
    rintro e w3 ⟨aS, cS, rfl, ho_s, hb3⟩
    clear C3
    have ap1 := apart_of ho_w ho_s
    have HB3 := below_tr' HB2 hb3
    have ho_w := own_below ho_w hb3
    have C4 := equalInts_any aW aS cW cS (wtsOf s).length (wtsOf s) w3 rfl (own_rd ho_w) (own_rd ho_s) (by omega)
    go_wp2_with fail
    refine C4.mono ?_
    rintro e w4 ⟨rfl, hb4⟩
    clear C4
    have HB4 := below_tr' HB3 hb4
    have ho_w := own_below ho_w hb4
    have ho_s := own_below ho_s hb4
    have C5 := equalInts_any aW aS cW cS (wtsOf s).length (wtsOf s) w4 rfl (own_rd ho_w) (own_rd ho_s) (by omega)
    go_wp2_with fail
    refine C5.mono ?_
    rintro e w5 ⟨rfl, hb5⟩
    clear C5
    have HB5 := below_tr' HB4 hb5
    have ho_w := own_below ho_w hb5
    have ho_s := own_below ho_s hb5
    go_wp2
    go_ret
    exact ⟨rfl, HB5⟩
  · have C2 := implWeights_any s w1 (by omega)
    rw [hv] at C2
    go_wp2_with fail
    refine C2.mono ?_
    rintro e w2 ⟨aW, cW, rfl, ho_w, hb2⟩
    clear C2
    have HB2 := below_tr' HB1 hb2
    have C3 := specWeights_any s w2 (by omega)
    rw [hv] at C3
    go_wp2_with fail
    refine C3.mono ?_
    rintro e w3 ⟨aS, cS, rfl, ho_s, hb3⟩
    clear C3
    have ap1 := apart_of ho_w ho_s
    have HB3 := below_tr' HB2 hb3
    have ho_w := own_below ho_w hb3
    have C4 := equalInts_any aW aS cW cS (wtsOf s).length (wtsOf s) w3 rfl (own_rd ho_w) (own_rd ho_s) (by omega)
    go_wp2_with fail
    refine C4.mono ?_
    rintro e w4 ⟨rfl, hb4⟩
    clear C4
    have HB4 := below_tr' HB3 hb4
    have ho_w := own_below ho_w hb4
    have ho_s := own_below ho_s hb4
    have HP := Lib.hid (wgr_cgr hv)
    have hLc := cgrL_len s
    have C5 := implWeightGraph_any aW cW (wtsOf s).length (wtsOf s) 0 w4 rfl (own_rd ho_w) (by omega)
    rw [HP.out.1, HP.out.2.1, HP.out.2.2] at C5
    go_wp2_with fail
    refine C5.mono ?_
    rintro e w5 ⟨aK, cK, dK, rfl, ho_k, hb5⟩
    clear C5
    have ap2 := apart_of ho_w ho_k
    have ap3 := apart_of ho_s ho_k
    have HB5 := below_tr' HB4 hb5
    have ho_w := own_below ho_w hb5
    have ho_s := own_below ho_s hb5
    have HA1 := below_alloc w5 (.cells #[.int .i64 (cgrN s), .slice aK (cgrL s).length dK] 25)
    have q_b_k := heap_alloc_new w5 (.cells #[.int .i64 (cgrN s), .slice aK (cgrL s).length dK] 25)
    have ho_w := own_below ho_w HA1
    have ho_s := own_below ho_s HA1
    have ho_k := own_below ho_k HA1
    have HBc1 := below_tr' HB5 HA1
    generalize hV1 : w5.alloc (.cells #[.int .i64 (cgrN s), .slice aK (cgrL s).length dK] 25) = v1 at *
    have HV1 := Lib.hid hV1
    clear hV1 HA1
    have C6 := implCodeGraph_any s v1 (by omega)
    rw [hv] at C6
    go_wp2_with (simp only [HV1.out])
    refine C6.mono ?_
    rintro e w6 ⟨aM, cM, dM, rfl, ho_m, hb6⟩
    clear C6
    have ap4 := apart_of ho_w ho_m
    have ap5 := apart_of ho_s ho_m
    have ap6 := apart_of ho_k ho_m
    have HB6 := below_tr' HBc1 hb6
    have ho_w := own_below ho_w hb6
    have ho_s := own_below ho_s hb6
    have ho_k := own_below ho_k hb6
    have q_b_k := blk_below q_b_k hb6
    have HA2 := below_alloc w6 (.cells #[.int .i64 (cgrN s), .slice aM (cgrL s).length dM] 25)
    have q_b_m := heap_alloc_new w6 (.cells #[.int .i64 (cgrN s), .slice aM (cgrL s).length dM] 25)
    have ho_w := own_below ho_w HA2
    have ho_s := own_below ho_s HA2
    have ho_k := own_below ho_k HA2
    have ho_m := own_below ho_m HA2
    have q_b_k := blk_below q_b_k HA2
    have HBc2 := below_tr' HB6 HA2
    generalize hV2 : w6.alloc (.cells #[.int .i64 (cgrN s), .slice aM (cgrL s).length dM] 25) = v2 at *
    have HV2 := Lib.hid hV2
    clear hV2 HA2
    have g_b_k_0 := blk_cell q_b_k 0 (.int .i64 (cgrN s)) rfl
    have g_b_k_1 := blk_cell q_b_k 1 (.slice aK (cgrL s).length dK) rfl
    have g_b_m_0 := blk_cell q_b_m 0 (.int .i64 (cgrN s)) rfl
    have g_b_m_1 := blk_cell q_b_m 1 (.slice aM (cgrL s).length dM) rfl
    have C7 := equalGraph_any (cgrN s) (cgrN s) aK aM dK dM (cgrL s).length (cgrL s).length (cgrL s) (cgrL s) v2 rfl rfl (own_rd ho_k) (own_rd ho_m) (by omega) (by omega)
    rw [show decide (cgrN s = cgrN s ∧ cgrL s = cgrL s) = true from by simp] at C7
    go_wp2_with (simp only [HV2.out])
    refine C7.mono ?_
    rintro e w7 ⟨rfl, hb7⟩
    clear C7
    have HB7 := below_tr' HBc2 hb7
    have ho_w := own_below ho_w hb7
    have ho_s := own_below ho_s hb7
    have ho_k := own_below ho_k hb7
    have ho_m := own_below ho_m hb7
    have q_b_k := blk_below q_b_k hb7
    have q_b_m := blk_below q_b_m hb7
    clear g_b_k_0 g_b_k_1 g_b_m_0 g_b_m_1
    go_wp2
    go_ret
    exact ⟨rfl, HB7⟩

end Go.Proofs.Ytbiekdhikanhcaa
