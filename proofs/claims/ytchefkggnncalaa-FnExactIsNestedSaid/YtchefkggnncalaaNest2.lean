
/- IsNested itself, both sides. (Printed by gen_nest2.py.) -/
import Derived.Test.YtchefkggnncalaaNest
import Derived.Laws.EntriesVeiled
namespace Go.Proofs.Ytchefkggnncalaa
open Go.RowKit

theorem nestedV_M {M : Nat} {gs : List E2} (h : validG M gs = true) : nestedV M gs = !((pairsL M).any fun e => !nestM M gs e.1 e.2 && !nestM M gs e.2 e.1) := by
  have h1 : nestedV M gs = (pairsL M).all fun e => nestM M gs e.1 e.2 || nestM M gs e.2 e.1 := by rw [nestedV, h, Bool.true_and]; rfl
  rw [h1, List.all_eq_not_any_not]
  congr 2
  funext e
  rw [Bool.not_or]
theorem nestedV_B {M : Nat} {gs : List E2} (h : validG M gs = true) : nestedV M gs = (pairsL M).all fun e => nestB M gs e.1 e.2 || nestB M gs e.2 e.1 := by
  have h1 : nestedV M gs = (pairsL M).all fun e => nestM M gs e.1 e.2 || nestM M gs e.2 e.1 := by rw [nestedV, h, Bool.true_and]; rfl
  rw [h1]
  congr 1
  funext e
  rw [nestB_M (valid_lt h), nestB_M (valid_lt h)]

set_option maxHeartbeats 1000000 in
theorem implIsNested_any (N : Int) (a : Option Addr) (c n : Nat) (gs : List E2) (w : World) (hN : N ≤ 9223372036854775807) (hn : gs.length = n) (hx : Rd w a (edges gs)) (hl : n ≤ 8796093022208) :
    Calls Try.prog 38 #[graphV N a n c] w fun e w' => e = .returned (.bool (nestedV N gs)) ∧ Below w.heap.size w w' := by
  have hB := below_alloc w (.cells #[.int .i64 N, .slice a n c] 29)
  have qg := heap_alloc_new w (.cells #[.int .i64 N, .slice a n c] 29)
  have xg := hx.below hB
  clear hx
  generalize hW : w.alloc (.cells #[.int .i64 N, .slice a n c] 29) = W at *
  have HW := Lib.hid hW
  clear hW
  have g0 := blk_cell qg 0 (.int .i64 N) rfl
  have g1 := blk_cell qg 1 (.slice a n c) rfl
  have C1 := implValidGraph_any N a c n gs W hN hn xg hl
  cases hv : validG N gs
  · rw [hv] at C1
    have HR := Lib.hid (show nestedV N gs = false by simp [nestedV, hv])
    go_enter Try.func38, Try.ntmps38
    go_wp2_with (simp only [HW.out])
    refine C1.mono ?_
    rintro e w1 ⟨rfl, hb⟩
    go_wp2
    go_ret
    exact ⟨ret_bool HR.out.symm, below_tr' hB hb⟩
  · rw [hv] at C1
    have h7 := (validG_true.1 hv).2
    obtain ⟨M, rfl⟩ : ∃ M : Nat, N = M := ⟨N.toNat, by omega⟩
    have HR := Lib.hid (nestedV_M hv)
    go_enter Try.func38, Try.ntmps38
    go_wp2_with (simp only [HW.out])
    refine C1.mono ?_
    rintro e w1 ⟨rfl, hb⟩
    clear C1 g0 g1
    have qg := blk_below qg hb
    have xg := xg.below hb
    have hB := below_tr' hB hb
    have hA := below_alloc w1 (.cells #[.nilFunc] 63)
    have qc := heap_alloc_new w1 (.cells #[.nilFunc] 63)
    have qg := blk_below qg hA
    have hgs := blk_lt qg
    generalize hV0 : w1.alloc (.cells #[.nilFunc] 63) = V0 at *
    have HV0 := Lib.hid hV0
    clear hV0
    have zc := blk_cell qc 0 .nilFunc rfl
    have fc := blk_free qc 0
    have hne : w.heap.size ≠ w1.heap.size := by
      intro e
      rw [e] at qg
      rw [qg] at qc
      simp at qc
    have qc := blk_set qc 0 (.func (.func 79) #[] #[.pointer (some ⟨w.heap.size, 0, none⟩)])
    have qg := blk_set_other qg 0 (.func (.func 79) #[] #[.pointer (some ⟨w.heap.size, 0, none⟩)]) hne
    have hA := hA.setCell (p := ⟨w1.heap.size, 0, none⟩) (Nat.le_refl _) (.func (.func 79) #[] #[.pointer (some ⟨w.heap.size, 0, none⟩)])
    have xg := xg.below hA
    have hB := below_tr' hB hA
    generalize hV : V0.setCell ⟨w1.heap.size, 0, none⟩ (.func (.func 79) #[] #[.pointer (some ⟨w.heap.size, 0, none⟩)]) = V at *
    have HV := Lib.hid hV
    clear hV hA
    have g0 := blk_cell qg 0 (.int .i64 M) rfl
    have C2 := implPairs_any M V (by omega)
    go_wp2_with (first | simp only [HV0.out] | simp only [HV.out])
    refine C2.mono ?_
    rintro e w3 ⟨aL, cL, rfl, hoL, hb3⟩
    have hAn : AnswersF w3 83 #[.pointer (some ⟨w1.heap.size, 0, none⟩)] (pairsL M) (fun e => !nestM M gs e.1 e.2 && !nestM M gs e.2 e.1) :=
      ⟨enters_nest2, fun w' e hb' _ => nest2_any M a c n gs e.1 e.2 w1.heap.size w.heap.size w' (blk_below (blk_below qc hb3) hb') (blk_below (blk_below qg hb3) hb') (by omega) hn ((xg.below hb3).below hb') hl⟩
    have hpl := pairsL_len (N := M) (by omega)
    have C3 := ContainsFuncE_any aL cL (pairsL M).length (pairsL M) _ _ _ w3 rfl (own_rd hoL) (by omega) hAn
    generalize (pairsL M).any (fun e => !nestM M gs e.1 e.2 && !nestM M gs e.2 e.1) = B at *
    generalize (pairsL M).length = m at *
    clear hAn C2 hoL qc qg g0 xg
    go_wp2_with fail
    refine C3.mono ?_
    rintro e w4 ⟨rfl, hb4⟩
    clear C3
    go_wp2
    go_ret
    exact ⟨ret_bool HR.out.symm, below_tr' hB (below_tr' hb3 hb4)⟩

set_option maxHeartbeats 2000000 in
theorem specIsNested_any (N : Int) (a : Option Addr) (c n : Nat) (gs : List E2) (w : World) (hn : gs.length = n) (hx : Rd w a (edges gs)) (hl : n ≤ 8796093022208) :
    Calls Try.prog 37 #[graphV N a n c] w fun e w' => e = .returned (.bool (nestedV N gs)) ∧ Below w.heap.size w w' := by
  have hB := below_alloc w (.cells #[.int .i64 N, .slice a n c] 29)
  have qg := heap_alloc_new w (.cells #[.int .i64 N, .slice a n c] 29)
  have xg := hx.below hB
  clear hx
  generalize hW : w.alloc (.cells #[.int .i64 N, .slice a n c] 29) = W at *
  have HW := Lib.hid hW
  clear hW
  have g0 := blk_cell qg 0 (.int .i64 N) rfl
  have g1 := blk_cell qg 1 (.slice a n c) rfl
  have C1 := specValidGraph_any N a c n gs W hn xg hl
  cases hv : validG N gs
  · rw [hv] at C1
    have HR := Lib.hid (show nestedV N gs = false by simp [nestedV, hv])
    go_enter Try.func37, Try.ntmps37
    go_wp2_with (simp only [HW.out])
    refine C1.mono ?_
    rintro e w1 ⟨rfl, hb⟩
    go_wp2
    go_ret
    exact ⟨ret_bool HR.out.symm, below_tr' hB hb⟩
  · rw [hv] at C1
    have h7 := (validG_true.1 hv).2
    obtain ⟨M, rfl⟩ : ∃ M : Nat, N = M := ⟨N.toNat, by omega⟩
    have HR := Lib.hid (nestedV_B hv)
    go_enter Try.func37, Try.ntmps37
    go_wp2_with (simp only [HW.out])
    refine C1.mono ?_
    rintro e w1 ⟨rfl, hb⟩
    clear C1 g0 g1
    have qg := blk_below qg hb
    have xg := xg.below hb
    have hB := below_tr' hB hb
    have g0 := blk_cell qg 0 (.int .i64 M) rfl
    have C2 := specPairs_any M w1 (by omega)
    go_wp2_with fail
    refine C2.mono ?_
    rintro e w2 ⟨aL, cL, rfl, hoL, hb2⟩
    clear C2 g0
    have qg := blk_below qg hb2
    have xg := xg.below hb2
    have hB := below_tr' hB hb2
    have hpl := pairsL_len (N := M) (by omega)
    obtain ⟨m, hm⟩ : ∃ m, m = (pairsL M).length := ⟨_, rfl⟩
    rw [← hm] at hoL hpl ⊢
    have HM := Lib.hid hm
    clear hm
    have hB0 := Below.refl w2.heap.size w2
    go_wp2
    go_loopw [4] (fun i wr => ∃ k : Nat, k ≤ m ∧ i = .int .i64 k ∧ (∀ j (_ : j < k) (hj : j < (pairsL M).length), (nestB M gs ((pairsL M)[j]'hj).1 ((pairsL M)[j]'hj).2 || nestB M gs ((pairsL M)[j]'hj).2 ((pairsL M)[j]'hj).1) = true) ∧ Below w2.heap.size w2 wr) (fun i _ => m - (intOf i).toNat)
    case atStart => exact ⟨0, by omega, rfl, by intro j hj; omega, hB0⟩
    case round =>
      obtain ⟨k, hk, rfl, hall, hb⟩ := hrel
      have rg := blk_below qg hb
      have x1 := xg.below hb
      by_cases hlt : k < m
      · have hkl : k < (pairsL M).length := by rw [← HM.out]; exact hlt
        obtain ⟨b1, o1, e1, c1, c2⟩ := (own_rd (own_below hoL hb)).edge (k := k) hkl
        have HY := Lib.hid (all_next (p := fun e => nestB M gs e.1 e.2 || nestB M gs e.2 e.1) hall hkl)
        have HN := Lib.hid (all_no (p := fun e => nestB M gs e.1 e.2 || nestB M gs e.2 e.1) hkl)
        clear hall
        generalize ((pairsL M)[k]'hkl) = X at *
        obtain ⟨X, Y⟩ := X
        simp only at c1 c2 HY HN
        subst e1
        have HE1 := Lib.hid (fun u : Later wr => specNested_any M a c n gs X Y u.val (by omega) hn (x1.below u.ok) hl)
        have HE2 := Lib.hid (fun u : Later wr => specNested_any M a c n gs Y X u.val (by omega) hn (x1.below u.ok) hl)
        have d1 := later_cell c1
        have d2 := later_cell c2
        have d3 := later_cell (blk_cell rg 0 (.int .i64 M) rfl)
        have d4 := later_cell (blk_cell rg 1 (.slice a n c) rfl)
        have hlt2 : (k : Int) < m := by omega
        cases hA : nestB M gs X Y
        · rw [hA] at HE1
          cases hA2 : nestB M gs Y X
          · rw [hA2] at HE2
            have HZ := Lib.hid (HN.out (by simp [hA, hA2]))
            clear HY HN
            go_wp2
            refine wp_region_later (by kernel_rfl) (by kernel_rfl) ?_
            iterate 12 (go_big_quiet_step ((go_at_call 78; exact calls_later _ (HE1.out _))))
            repeat (go_big_quiet_step ((go_at_call 78; exact calls_later _ (HE2.out _))))
            refine wpQuiet_nil ?_
            intro w5 hw'
            have hb1 := below_tr' hB (below_tr' hb (later_below hw'))
            clear hw' d1 d2 d3 d4
            go_wp2
            go_ret
            exact ⟨ret_bool (by rw [HR.out, HZ.out]), hb1⟩
          · rw [hA2] at HE2
            have HZ := Lib.hid (HY.out (by simp [hA, hA2]))
            clear HY HN
            go_wp2
            refine wp_region_later (by kernel_rfl) (by kernel_rfl) ?_
            iterate 12 (go_big_quiet_step ((go_at_call 78; exact calls_later _ (HE1.out _))))
            repeat (go_big_quiet_step ((go_at_call 78; exact calls_later _ (HE2.out _))))
            refine wpQuiet_nil ?_
            intro w5 hw'
            have hb1 := below_tr' hb (later_below hw')
            clear hw' d1 d2 d3 d4
            go_wp2
            go_roundw
            case rel => exact ⟨k + 1, by omega, by go_num, HZ.out, hb1⟩
            case measure => simp [intOf]; omega
        · rw [hA] at HE1
          have HZ := Lib.hid (HY.out (by simp [hA]))
          clear HY HN
          go_wp2
          refine wp_region_later (by kernel_rfl) (by kernel_rfl) ?_
          repeat (go_big_quiet_step ((go_at_call 78; exact calls_later _ (HE1.out _))))
          refine wpQuiet_nil ?_
          intro w5 hw'
          have hb1 := below_tr' hb (later_below hw')
          clear hw' d1 d2 d3 d4
          go_wp2
          go_roundw
          case rel => exact ⟨k + 1, by omega, by go_num, HZ.out, hb1⟩
          case measure => simp [intOf]; omega
      · obtain rfl : k = m := by omega
        have HZ := Lib.hid (all_end (p := fun e => nestB M gs e.1 e.2 || nestB M gs e.2 e.1) hall HM.out)
        clear hall
        go_wp2
        go_ret
        exact ⟨ret_bool (by rw [HR.out, HZ.out]), below_tr' hB hb⟩

end Go.Proofs.Ytchefkggnncalaa
