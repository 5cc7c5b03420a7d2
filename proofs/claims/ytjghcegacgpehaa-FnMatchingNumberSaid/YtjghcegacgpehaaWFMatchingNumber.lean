
/- The walk of the law FnMatchingNumber. (Printed by laws_f.py.) -/
import Derived.Test.YtjghcegacgpehaaPlainMt
import Derived.Test.YtjghcegacgpehaaMatchI
import Derived.Test.YtjghcegacgpehaaFactI
import Derived.Test.YtjghcegacgpehaaDraw1
import Derived.Test.YtjghcegacgpehaaPlainG
namespace Go.Proofs.Ytjghcegacgpehaa
open Go.RowKit

set_option maxHeartbeats 4000000 in
set_option linter.unusedVariables false in
theorem walk_FnMatchingNumber (a_c : Option Addr) (c_c n_c : Nat) (bs : List Int) (w : World) (hc : CodeOK w a_c c_c n_c bs) :
    Calls Try.prog 11 #[.slice a_c n_c c_c] w fun e w' => e = .returned (.bool true) ∧ Below w.heap.size w w' := by
  by_cases hs : 1048576 < n_c
  · go_enter Try.func11, Try.ntmps11
    go_wp2
    go_ret
    exact ⟨rfl, Below.refl _ _⟩
  have hs' : n_c ≤ 1048576 := by omega
  have HB0 := Below.refl w.heap.size w
  go_enter Try.func11, Try.ntmps11
  have C1 := DrawMatchingNumber_any a_c c_c n_c bs w hc hs'
  go_wp2_with fail
  refine C1.mono ?_
  rintro e w1 ⟨N_g, g, a_g, c_g, rfl, hN_g, hb_g, ho_g, hb1⟩
  clear C1
  obtain ⟨n_g, hn_g'⟩ : ∃ n, n = g.length := ⟨_, rfl⟩
  rw [← hn_g'] at ho_g hb_g
  have CN_g : graphV N_g a_g g.length c_g = graphV N_g a_g n_g c_g := by rw [hn_g']
  rw [CN_g]
  have hn_g := hn_g'.symm
  clear CN_g hn_g'
  have hc_g := own_capE ho_g
  have HN_g := Lib.hid hn_g
  clear hn_g
  have HB1 := below_tr' HB0 hb1
  have HA1 := below_alloc w1 (.cells #[.int .i64 N_g, .slice a_g n_g c_g] 25)
  have q_b_g := heap_alloc_new w1 (.cells #[.int .i64 N_g, .slice a_g n_g c_g] 25)
  have ho_g := own_below ho_g HA1
  have HBc1 := below_tr' HB1 HA1
  generalize hV1 : w1.alloc (.cells #[.int .i64 N_g, .slice a_g n_g c_g] 25) = v1 at *
  have HV1 := Lib.hid hV1
  clear hV1 HA1
  cases hv : validG N_g g
  · have hMV : matchV N_g g = -1 := by rw [matchV, hv]; rfl
    have g_b_g_0 := blk_cell q_b_g 0 (.int .i64 N_g) rfl
    have g_b_g_1 := blk_cell q_b_g 1 (.slice a_g n_g c_g) rfl
    have C2 := implMatchingNumber_any N_g a_g c_g n_g g v1 (by omega) HN_g.out (own_rd ho_g) (by omega) (own_form3 ho_g)
    rw [hMV] at C2
    go_wp2_with (simp only [HV1.out])
    refine C2.mono ?_
    rintro e w2 ⟨rfl, hb2⟩
    clear C2
    have HB2 := below_tr' HBc1 hb2
    have ho_g := own_below ho_g hb2
    have q_b_g := blk_below q_b_g hb2
    clear g_b_g_0 g_b_g_1
    have g_b_g_0 := blk_cell q_b_g 0 (.int .i64 N_g) rfl
    have g_b_g_1 := blk_cell q_b_g 1 (.slice a_g n_g c_g) rfl
    have C3 := specMatchingNumber_any N_g a_g c_g n_g g w2 HN_g.out (own_rd ho_g) (by omega)
    rw [hMV] at C3
    go_wp2_with fail
    refine C3.mono ?_
    rintro e w3 ⟨rfl, hb3⟩
    clear C3
    have HB3 := below_tr' HB2 hb3
    have ho_g := own_below ho_g hb3
    have q_b_g := blk_below q_b_g hb3
    clear g_b_g_0 g_b_g_1
    have g_b_g_0 := blk_cell q_b_g 0 (.int .i64 N_g) rfl
    have g_b_g_1 := blk_cell q_b_g 1 (.slice a_g n_g c_g) rfl
    have C4 := implValidGraph_any N_g a_g c_g n_g g w3 (by omega) HN_g.out (own_rd ho_g) (by omega)
    rw [hv] at C4
    go_wp2_with fail
    refine C4.mono ?_
    rintro e w4 ⟨rfl, hb4⟩
    clear C4
    have HB4 := below_tr' HB3 hb4
    have ho_g := own_below ho_g hb4
    have q_b_g := blk_below q_b_g hb4
    clear g_b_g_0 g_b_g_1
    have g_b_g_0 := blk_cell q_b_g 0 (.int .i64 N_g) rfl
    have g_b_g_1 := blk_cell q_b_g 1 (.slice a_g n_g c_g) rfl
    have C5 := specMatchingNumber_any N_g a_g c_g n_g g w4 HN_g.out (own_rd ho_g) (by omega)
    rw [hMV] at C5
    go_wp2_with fail
    refine C5.mono ?_
    rintro e w5 ⟨rfl, hb5⟩
    clear C5
    have HB5 := below_tr' HB4 hb5
    have ho_g := own_below ho_g hb5
    have q_b_g := blk_below q_b_g hb5
    clear g_b_g_0 g_b_g_1
    go_wp2
    go_ret
    exact ⟨rfl, HB5⟩
  · have hMV : matchV N_g g = (matchN g : Int) := by rw [matchV, hv]; rfl
    have hNv := (validG_true.1 hv).2
    obtain ⟨N, rfl⟩ : ∃ N : Nat, N_g = N := ⟨N_g.toNat, by omega⟩
    have hP := match_fact hv
    have hV3 := valid_take hv (n_g - 1)
    have hMV3 : matchV N (g.take (n_g - 1)) = (matchN (g.take (n_g - 1)) : Int) := by rw [matchV, hV3]; rfl
    have hD : 0 < n_g → _ := match_drop (n := n_g) HN_g.out
    have hML := matchN_le g
    rw [HN_g.out] at hML
    generalize hM : matchN g = M at *
    generalize hM3 : matchN (g.take (n_g - 1)) = M3 at *
    have HMV := Lib.hid hMV
    have HMV3 := Lib.hid hMV3
    have HV := Lib.hid hv
    have HFO := Lib.hid hP.2
    have hP1 := hP.1
    clear hMV hMV3 hP hM hM3 hV3 hv
    have g_b_g_0 := blk_cell q_b_g 0 (.int .i64 (N : Int)) rfl
    have g_b_g_1 := blk_cell q_b_g 1 (.slice a_g n_g c_g) rfl
    have C2 := implMatchingNumber_any N a_g c_g n_g g v1 (by omega) HN_g.out (own_rd ho_g) (by omega) (own_form3 ho_g)
    rw [HMV.out] at C2
    go_wp2_with (simp only [HV1.out])
    refine C2.mono ?_
    rintro e w2 ⟨rfl, hb2⟩
    clear C2
    have HB2 := below_tr' HBc1 hb2
    have ho_g := own_below ho_g hb2
    have q_b_g := blk_below q_b_g hb2
    clear g_b_g_0 g_b_g_1
    have g_b_g_0 := blk_cell q_b_g 0 (.int .i64 (N : Int)) rfl
    have g_b_g_1 := blk_cell q_b_g 1 (.slice a_g n_g c_g) rfl
    have C3 := specMatchingNumber_any N a_g c_g n_g g w2 HN_g.out (own_rd ho_g) (by omega)
    rw [HMV.out] at C3
    go_wp2_with fail
    refine C3.mono ?_
    rintro e w3 ⟨rfl, hb3⟩
    clear C3
    have HB3 := below_tr' HB2 hb3
    have ho_g := own_below ho_g hb3
    have q_b_g := blk_below q_b_g hb3
    clear g_b_g_0 g_b_g_1
    have g_b_g_0 := blk_cell q_b_g 0 (.int .i64 (N : Int)) rfl
    have g_b_g_1 := blk_cell q_b_g 1 (.slice a_g n_g c_g) rfl
    have C4 := implValidGraph_any N a_g c_g n_g g w3 (by omega) HN_g.out (own_rd ho_g) (by omega)
    rw [HV.out] at C4
    go_wp2_with fail
    refine C4.mono ?_
    rintro e w4 ⟨rfl, hb4⟩
    clear C4
    have HB4 := below_tr' HB3 hb4
    have ho_g := own_below ho_g hb4
    have q_b_g := blk_below q_b_g hb4
    clear g_b_g_0 g_b_g_1
    have hb0 := below_alloc w4 (.cells #[] 3)
    have hown0 : (w4.alloc (.cells #[] 3)).ownsRow w4.heap.size 3 1 (.slice (some ⟨w4.heap.size, 0, none⟩) 0 0) 0 (ints []) := by
      simpa [ints] using World.ownsRow_made (e := 3) (size := 1) w4 #[] 0 (Nat.le_refl w4.heap.size) (by decide) rfl
    have HX := Lib.hid (And.intro q_b_g (And.intro ho_g HB4))
    clear q_b_g ho_g HB4
    go_wp2
    go_loopw [5, 6] (fun av i wr => ∃ (k : Nat) (ao : Option Addr) (co : Nat), k ≤ N ∧ i = .int .i64 k ∧ av = .slice ao k co ∧ wr.ownsRow w4.heap.size 3 1 (.slice ao k co) k (ints (List.replicate k 1)) ∧ Below w4.heap.size w4 wr) (fun _ i _ => N - (intOf i).toNat)
    case atStart => exact ⟨0, _, 0, by omega, rfl, rfl, hown0, hb0⟩
    case round =>
      clear hown0 hb0
      obtain ⟨k, ao, co, hk, rfl, rfl, hown, hb⟩ := hrel
      have hsz := hb.size
      obtain ⟨q_b_g, ho_g, HB⟩ := HX.out
      have q_b_g := blk_below q_b_g hb
      have ho_g := own_below ho_g hb
      have HB := below_tr' HB hb
      have g0 := blk_cell q_b_g 0 (.int .i64 (N : Int)) rfl
      by_cases hlt : k < N
      · clear q_b_g ho_g HB
        go_wp2_with (at_builtin; refine appendI Try.infoI _ _ rfl rfl hown hb (Nat.le_refl _) hsz rfl rfl (by omega) ?_; intro a' c' w1 hown1 hb1)
        have HO := Lib.hid hown1
        have HBB := Lib.hid hb1
        clear hown hown1 hb hb1 g0
        go_roundw
        case rel => exact ⟨k + 1, a', c', by omega, by go_num, rfl, by rw [List.replicate_succ']; exact HO.out, HBB.out⟩
        case measure => simp [intOf]; omega
      · obtain rfl : k = N := by omega
        clear hlt hk
        have g1 := blk_cell q_b_g 1 (.slice a_g n_g c_g) rfl
        have C5 := implFactorOf_any (k : Int) a_g ao c_g n_g co k g (List.replicate k 1) wr HN_g.out (by simp) (own_rd ho_g) (own_rd hown) (fun i hi => (own_blks ho_g i hi).2) (by omega) (by omega) (by omega) (own_nilc hown)
        clear hown
        go_wp2_with fail
        refine C5.mono ?_
        rintro e w5 ⟨aF, cF, dF, rfl, _, hb5⟩
        clear C5 g0 g1
        have HB5 := below_tr' HB hb5
        have ho_g := own_below ho_g hb5
        have q_b_g := blk_below q_b_g hb5
        rw [HFO.out]
        generalize fctN (k : Int) g (List.replicate k 1) = NF
        generalize (fctL (k : Int) g (List.replicate k 1)).length = nF
        have HA2 := below_alloc w5 (.cells #[.int .i64 NF, .slice aF nF cF] 25)
        have q_b_f := heap_alloc_new w5 (.cells #[.int .i64 NF, .slice aF nF cF] 25)
        have ho_g := own_below ho_g HA2
        have q_b_g := blk_below q_b_g HA2
        have HBc2 := below_tr' HB5 HA2
        generalize hV2 : w5.alloc (.cells #[.int .i64 NF, .slice aF nF cF] 25) = v2 at *
        have HV2 := Lib.hid hV2
        clear hV2 HA2
        by_cases h0 : n_g = 0
        · clear hD HMV3
          subst h0
          by_cases hp : 2 * M = k
          · have HF5 := Lib.hid (show decide (2 * M = k) = true by simp [hp])
            have hc1 : ((2 * (M : Int)) == (k : Int)) = true := by simp; omega
            have g_b_g_0 := blk_cell q_b_g 0 (.int .i64 (k : Int)) rfl
            have g_b_g_1 := blk_cell q_b_g 1 (.slice a_g 0 c_g) rfl
            rw [HF5.out]
            go_wp2_with (simp only [HV2.out])
            go_ret
            first | exact ⟨rfl, HBc2⟩ | exact ⟨ret_bool (by simp [hc1]), HBc2⟩
          · have HF5 := Lib.hid (show decide (2 * M = k) = false by simp [hp])
            have hc1 : ((2 * (M : Int)) == (k : Int)) = false := by simp; omega
            have g_b_g_0 := blk_cell q_b_g 0 (.int .i64 (k : Int)) rfl
            have g_b_g_1 := blk_cell q_b_g 1 (.slice a_g 0 c_g) rfl
            rw [HF5.out]
            go_wp2_with (simp only [HV2.out])
            go_ret
            first | exact ⟨rfl, HBc2⟩ | exact ⟨ret_bool (by simp [hc1]), HBc2⟩
        · obtain ⟨hD1, hD2⟩ := hD (by omega)
          have g_b_g_0 := blk_cell q_b_g 0 (.int .i64 (k : Int)) rfl
          have g_b_g_1 := blk_cell q_b_g 1 (.slice a_g n_g c_g) rfl
          have D_d_b_g_0 := Lib.hid (later_cell (blk_cell q_b_g 0 (.int .i64 (k : Int)) rfl))
          have D_d_b_g_1 := Lib.hid (later_cell (blk_cell q_b_g 1 (.slice a_g n_g c_g) rfl))
          have bd1 := bel_drew (Below.refl v2.heap.size v2)
          go_wp2_with (simp only [HV2.out])
          refine wp_region_heads [true, true, true, true, true, true, true, true, false, false] 9 2 (C := fun w' => ∃ u : Later v2, w' = u.val) (by kernel_rfl) (by kernel_rfl) ⟨⟨_, bd1⟩, rfl⟩ ?_
          have d_b_g_0 := D_d_b_g_0.out
          have d_b_g_1 := D_d_b_g_1.out
          simp only [pickT]
          repeat (go_big_quiet_step (fail))
          refine wpQuiet_nil ?_
          clear d_b_g_0 d_b_g_1
          generalize hD1 : v2.drew = D1 at *
          clear hD1
          have ho_g := own_below ho_g bd1
          have q_b_g := blk_below q_b_g bd1
          have q_b_f := blk_below q_b_f bd1
          have HB6 := below_tr' HBc2 bd1
          refine any_one (i := 8) (by kernel_rfl) rfl ?_
          intro K hK
          have C7 := implMatchingNumber_any (k : Int) a_g c_g (n_g - 1) (g.take (n_g - 1)) D1 (by omega) (by rw [List.length_take, HN_g.out]; omega) (Rd.take (own_rd ho_g) _) (by omega) ⟨by have := (own_form3 ho_g).1; omega, (own_form3 ho_g).2.1, fun h => by have := (own_form3 ho_g).2.2 h; omega⟩
          rw [HMV3.out] at C7
          go_wp2_with fail
          refine C7.mono ?_
          rintro e w7 ⟨rfl, hb7⟩
          clear C7
          have hr1_7 := below_tr' bd1 hb7
          have HB7 := below_tr' HB6 hb7
          have ho_g := own_below ho_g hb7
          have q_b_g := blk_below q_b_g hb7
          have q_b_f := blk_below q_b_f hb7
          go_wp2
          refine hK _ _ (fun _ => ⟨⟨_, hr1_7⟩, rfl⟩) ?_
          clear hK
          refine any_one (i := 9) (by kernel_rfl) rfl ?_
          intro K hK
          go_wp2
          refine hK _ _ (fun h => absurd rfl h) ?_
          clear hK
          refine any_end (by kernel_rfl) ?_
          clear D_d_b_g_0 D_d_b_g_1
          by_cases hp : 2 * M = k
          · have HF5 := Lib.hid (show decide (2 * M = k) = true by simp [hp])
            have hc1 : ((2 * (M : Int)) == (k : Int)) = true := by simp; omega
            have g_b_g_0 := blk_cell q_b_g 0 (.int .i64 (k : Int)) rfl
            have g_b_g_1 := blk_cell q_b_g 1 (.slice a_g n_g c_g) rfl
            rw [HF5.out]
            go_wp2
            go_ret
            first | exact ⟨rfl, HB7⟩ | exact ⟨ret_bool (by simp [hc1]), HB7⟩
          · have HF5 := Lib.hid (show decide (2 * M = k) = false by simp [hp])
            have hc1 : ((2 * (M : Int)) == (k : Int)) = false := by simp; omega
            have g_b_g_0 := blk_cell q_b_g 0 (.int .i64 (k : Int)) rfl
            have g_b_g_1 := blk_cell q_b_g 1 (.slice a_g n_g c_g) rfl
            rw [HF5.out]
            go_wp2
            go_ret
            first | exact ⟨rfl, HB7⟩ | exact ⟨ret_bool (by simp [hc1]), HB7⟩

end Go.Proofs.Ytjghcegacgpehaa
