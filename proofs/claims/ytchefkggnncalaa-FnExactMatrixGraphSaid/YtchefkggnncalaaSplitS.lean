
/- The reference's MatrixGraph. (Printed by gen_split.py.) -/
import Derived.Test.YtchefkggnncalaaSplitI
namespace Go.Proofs.Ytchefkggnncalaa
open Go.RowKit

theorem pairs_at {n : Nat} {k : Nat} (h : k < (pairsL n).length) : 0 ≤ ((pairsL n)[k]'h).1 ∧ ((pairsL n)[k]'h).1 < ((pairsL n)[k]'h).2 ∧ ((pairsL n)[k]'h).2 < n := mem_pairsL.1 (List.getElem_mem h)
set_option maxHeartbeats 8000000 in
theorem specSplit_any (a : Option Addr) (c n cl : Nat) (m : List (List Int)) (w : World) (hv : validM m = true) (hn : m.length = n) (hcl : colsOf m = cl) (hx : RdM w a m) :
    Calls Try.prog 90 #[.slice a n c] w fun e w' => ∃ a' c', e = .returned (graphV ((n : Int) + (cl : Int)) a' ((pairsL (n + cl)).filter (splitP n m)).length c') ∧ w'.ownsRow w.heap.size 59 2 (.slice a' ((pairsL (n + cl)).filter (splitP n m)).length c') ((pairsL (n + cl)).filter (splitP n m)).length (edges ((pairsL (n + cl)).filter (splitP n m))) ∧ Below w.heap.size w w' := by
  have h5 := validM_cols hv
  rw [hn, hcl] at h5
  obtain ⟨b, off, a0, c0, ea, hc0⟩ := hx.first hv
  rw [hcl] at hc0
  subst ea
  have HNUM := Lib.hid (fun (wr : World) (hb : Below w.heap.size w wr) (i j : Nat) (hi : i < n) (hj : j < cl) => (hx.below hb).num hv (i := i) (k := j) (by rw [hn]; exact hi) (by rw [hcl]; exact hj))
  rw [hcl] at HNUM
  obtain ⟨W3, hW3⟩ : ∃ W, W = (((w.alloc (.cells #[.int .i64 0, .slice none 0 0] 29)).alloc (.cells #[] 59)).alloc (.cells #[.int .i64 ((n : Int) + (cl : Int)), .slice (some ⟨w.heap.size + 1, 0, none⟩) 0 0] 29)) := ⟨_, rfl⟩
  have hB3 : Below w.heap.size w W3 := by rw [hW3]; exact below_tr' (below_alloc2 w _ _) (below_alloc _ _)
  have hs3 : W3.heap.size = w.heap.size + 1 + 1 + 1 := by rw [hW3]; simp
  have q1 : W3.heap[w.heap.size]? = some (.cells #[.int .i64 0, .slice none 0 0] 29 (0, 0)) := by
    rw [hW3, heap_alloc_old _ _ (by simp; omega), heap_alloc_old _ _ (by simp), heap_alloc_new]
  have q2 : W3.heap[w.heap.size + 1]? = some (.cells #[] 59 (0, 0)) := by
    rw [hW3, heap_alloc_old _ _ (by simp), show w.heap.size + 1 = (w.alloc (.cells #[.int .i64 0, .slice none 0 0] 29)).heap.size from by simp, heap_alloc_new]
  have q3 : W3.heap[w.heap.size + 1 + 1]? = some (.cells #[.int .i64 ((n : Int) + (cl : Int)), .slice (some ⟨w.heap.size + 1, 0, none⟩) 0 0] 29 (0, 0)) := by
    rw [hW3, show w.heap.size + 1 + 1 = ((w.alloc (.cells #[.int .i64 0, .slice none 0 0] 29)).alloc (.cells #[] 59)).heap.size from by simp, heap_alloc_new]
  have hown0 : W3.ownsRow w.heap.size 59 2 (.slice (some ⟨w.heap.size + 1, 0, none⟩) 0 0) 0 (edges []) :=
    ⟨rfl, .inr ⟨w.heap.size + 1, 0, #[], rfl, by omega, q2, Nat.le_refl _, by decide, rfl, rfl⟩⟩
  have HP := specPairs_any (n + cl) W3 (by omega)
  rw [show (((n + cl : Nat)) : Int) = ((n : Int) + (cl : Int)) from by omega] at HP
  have hpl := pairsL_len (N := n + cl) (by omega)
  have HW3 := Lib.hid hW3
  have c00 : (w.alloc (.cells #[.int .i64 0, .slice none 0 0] 29)).cell? ⟨b, off, none⟩ = some (.slice a0 cl c0) := ((below_alloc w _).cell (p := ⟨b, off, none⟩) (Rd.lt hc0)).trans hc0
  clear hW3 q2 hv hx
  go_enter Try.func90, Try.ntmps90
  go_wp2_with fail
  rw [← HW3.out]
  refine HP.mono ?_
  rintro e w5 ⟨aL, cL, rfl, hoL, hb5⟩
  have hap : Apart aL (some ⟨w.heap.size + 1, 0, none⟩) := (apart_of hown0 hoL).symm
  have hown5 := own_below hown0 hb5
  have q1 := blk_below q1 hb5
  have q3 := blk_below q3 hb5
  have hoL := own_mono hoL hB3.size
  have hB5 := below_tr' hB3 hb5
  clear hown0 hb5 hB3 c00 HP
  obtain ⟨mm, hm⟩ : ∃ mm, mm = (pairsL (n + cl)).length := ⟨_, rfl⟩
  rw [← hm] at hoL hpl
  have HM := Lib.hid hm
  go_wp2_with fail
  rw [← hm]
  clear hm
  go_loopw [5, 6] (fun i _ wr => ∃ (k : Nat) (av : Option Addr) (kv cv : Nat), k ≤ mm ∧ i = .int .i64 k ∧ kv = (filtUpto (pairsL (n + cl)) (splitP n m) k).length ∧
      wr.ownsRow w.heap.size 59 2 (.slice av kv cv) kv (edges (filtUpto (pairsL (n + cl)) (splitP n m) k)) ∧
      wr.heap[w.heap.size + 1 + 1]? = some (.cells #[.int .i64 ((n : Int) + (cl : Int)), .slice av kv cv] 29 (0, 0)) ∧
      wr.heap[w.heap.size]? = some (.cells #[.int .i64 0, .slice none 0 0] 29 (0, 0)) ∧
      wr.ownsRow w.heap.size 59 2 (.slice aL mm cL) mm (edges (pairsL (n + cl))) ∧ Apart aL av ∧ Below w.heap.size w wr) (fun i _ _ => mm - (intOf i).toNat)
  case atStart => exact ⟨0, _, 0, 0, by omega, rfl, by simp [filtUpto], hown5, q3, q1, hoL, hap, hB5⟩
  case round =>
    clear hown5 q3 q1 hoL hap hB5
    obtain ⟨k, av, kv, cv, hk, rfl, hkv, ho, r3, r1, hL, hapr, hb⟩ := hrel
    by_cases hlt : k < mm
    · have hLk : k < (pairsL (n + cl)).length := by rw [← HM.out]; exact hlt
      obtain ⟨b1, o1, ea, c1, c2⟩ := (own_rd hL).edge (k := k) hLk
      subst ea
      have hmem := pairs_at hLk
      have HY := Lib.hid (filt_yes (p := (splitP n m)) hLk)
      have HNo := Lib.hid (filt_no (p := (splitP n m)) hLk)
      have hkl := filt_len (pairsL (n + cl)) (splitP n m) k
      rw [← hkv] at hkl
      generalize hF : filtUpto (pairsL (n + cl)) (splitP n m) k = G at *
      clear hF
      generalize ((pairsL (n + cl))[k]'hLk) = XY at *
      obtain ⟨X, Y⟩ := XY
      simp only at c1 c2 hmem
      have HKV := Lib.hid hkv
      have hA := below_alloc wr (.cells #[.int .i64 X, .int .i64 Y] 59)
      have qe := heap_alloc_new wr (.cells #[.int .i64 X, .int .i64 Y] 59)
      have HO := Lib.hid (own_below ho hA)
      have HLL := Lib.hid (own_below hL hA)
      have R3 := Lib.hid (blk_below r3 hA)
      have R1 := Lib.hid (blk_below r1 hA)
      have QE := Lib.hid qe
      have hb := below_tr' hb hA
      have HRV := Lib.hid (fun (i j : Nat) (hi : i < n) (hj : j < cl) => HNUM.out _ hb i j hi hj)
      have d1 := later_cell (blk_cell qe 0 (.int .i64 X) rfl)
      have d2 := later_cell (blk_cell qe 1 (.int .i64 Y) rfl)
      generalize hV : wr.alloc (.cells #[.int .i64 X, .int .i64 Y] 59) = wv at *
      have HWV := Lib.hid hV
      clear hV hkv ho hL r3 r1 hA qe
      by_cases h1 : Y < n
      · have HV := Lib.hid (show splitP n m (X, Y) = true by simp [splitP, h1])
        have hd1 : decide (Y < (n : Int)) = true := by simpa using h1
        go_wp2_with (simp only [HWV.out])
        clear c1 c2 HRV
        go_wp2
        refine wp_region_later (by kernel_rfl) (by kernel_rfl) ?_
        repeat (go_big_quiet_step (fail))
        refine wpQuiet_nil ?_
        intro w1 hw'
        have hb1 := later_below hw'
        clear hw' d1 d2
        have R3 := Lib.hid (blk_below R3.out hb1)
        have R1 := Lib.hid (blk_below R1.out hb1)
        have QE := Lib.hid (blk_below QE.out hb1)
        have ho := own_below HO.out hb1
        have hL := own_below HLL.out hb1
        have hB1 := below_tr' hb hb1
        clear HO HLL
        have HY := Lib.hid (HY.out HV.out)
        have hsz := hB1.size
        have g0 := blk_cell QE.out 0 (.int .i64 X) rfl
        have g1 := blk_cell QE.out 1 (.int .i64 Y) rfl
        have g3 := blk_cell R3.out 1 (.slice av kv cv) rfl
        have HOo := Lib.hid ho
        have HLL := Lib.hid hL
        have H3 := Lib.hid (own_ne ho R3.out (by decide))
        have H1 := Lib.hid (own_ne ho R1.out (by decide))
        clear hL QE
        go_wp2_with (at_builtin; refine appendEg _ _ rfl rfl ho hsz rfl rfl (by omega) ?_; intro a' c' w2 ho2 hg2 hf2; have r3 := blk_grown R3.out hg2 H3.out; have r1 := blk_grown R1.out hg2 H1.out; have hL2 := own_kept HLL.out hg2 hapr; have hb2 := below_row hB1 (Nat.le_refl _) HOo.out hg2; have hap2 := apart_append hapr (fun x hx => by cases hx; exact (own_lt HLL.out _ rfl).2) hf2; have k3 := blk_cell r3 1 (.slice av kv cv) rfl; have f3 := blk_free r3 1; have SS := Lib.hid (And.intro (blk_set r3 1 (.slice a' (kv + 1) c')) (And.intro (blk_set_other r1 1 (.slice a' (kv + 1) c') (g := w.heap.size + 1 + 1) (by omega)) (And.intro (own_setOther ho2 (w.heap.size + 1 + 1) 1 (.slice a' (kv + 1) c') (own_ne ho2 r3 (by decide))) (And.intro (own_setOther hL2 (w.heap.size + 1 + 1) 1 (.slice a' (kv + 1) c') (own_ne hL2 r3 (by decide))) (hb2.setCell (p := ⟨w.heap.size + 1 + 1, 1, none⟩) (by simp; omega) (.slice a' (kv + 1) c')))))); have AP := Lib.hid hap2; clear r3 r1 ho2 hL2 hb2 hap2 hg2 hf2 ho)
        go_roundw
        case rel => exact ⟨k + 1, a', kv + 1, c', by omega, by go_num, by rw [HY.out, List.length_append, ← HKV.out]; rfl, by rw [HY.out]; exact SS.out.2.2.1, SS.out.1, SS.out.2.1, SS.out.2.2.2.1, AP.out, SS.out.2.2.2.2⟩
        case measure => simp [intOf]; omega
      · have hd1 : decide (Y < (n : Int)) = false := by simpa using h1
        by_cases h2 : X < n
        · have hd2 : decide (X < (n : Int)) = true := by simpa using h2
          obtain ⟨xi, hxi⟩ : ∃ xi : Nat, X = xi := ⟨X.toNat, by omega⟩
          subst hxi
          obtain ⟨j, hj⟩ : ∃ j : Nat, Y - n = j := ⟨(Y - n).toNat, by omega⟩
          obtain ⟨b9, o9, bi, oi, ci, e9, t1, t2⟩ := HRV.out xi j (by omega) (by omega)
          cases e9
          have hj0 : 0 ≤ Y - n := by omega
          have d3 := later_cell t1
          have d4 := later_cell t2
          cases hq : (at2 m xi j == 1)
          · have HV := Lib.hid (show splitP n m ((xi : Int), Y) = false by simp [splitP, h1, h2, hj, hq])
            go_wp2_with (simp only [HWV.out])
            clear c1 c2 HRV t1 t2
            go_wp2
            refine wp_region_later (by kernel_rfl) (by kernel_rfl) ?_
            repeat (go_big_quiet_step (fail))
            refine wpQuiet_nil ?_
            intro w1 hw'
            have hb1 := later_below hw'
            clear hw' d1 d2 d3 d4
            have R3 := Lib.hid (blk_below R3.out hb1)
            have R1 := Lib.hid (blk_below R1.out hb1)
            have QE := Lib.hid (blk_below QE.out hb1)
            have ho := own_below HO.out hb1
            have hL := own_below HLL.out hb1
            have hB1 := below_tr' hb hb1
            clear HO HLL
            have HNo := Lib.hid (HNo.out HV.out)
            have HO := Lib.hid ho
            have HLL := Lib.hid hL
            clear ho hL
            go_wp2
            go_roundw
            case rel => exact ⟨k + 1, av, kv, cv, by omega, by go_num, by rw [HNo.out]; exact HKV.out, by rw [HNo.out]; exact HO.out, R3.out, R1.out, HLL.out, hapr, hB1⟩
            case measure => simp [intOf]; omega
          · have HV := Lib.hid (show splitP n m ((xi : Int), Y) = true by simp [splitP, h1, h2, hj, hq])
            go_wp2_with (simp only [HWV.out])
            clear c1 c2 HRV t1 t2
            go_wp2
            refine wp_region_later (by kernel_rfl) (by kernel_rfl) ?_
            repeat (go_big_quiet_step (fail))
            refine wpQuiet_nil ?_
            intro w1 hw'
            have hb1 := later_below hw'
            clear hw' d1 d2 d3 d4
            have R3 := Lib.hid (blk_below R3.out hb1)
            have R1 := Lib.hid (blk_below R1.out hb1)
            have QE := Lib.hid (blk_below QE.out hb1)
            have ho := own_below HO.out hb1
            have hL := own_below HLL.out hb1
            have hB1 := below_tr' hb hb1
            clear HO HLL
            have HY := Lib.hid (HY.out HV.out)
            have hsz := hB1.size
            have g0 := blk_cell QE.out 0 (.int .i64 (xi : Int)) rfl
            have g1 := blk_cell QE.out 1 (.int .i64 Y) rfl
            have g3 := blk_cell R3.out 1 (.slice av kv cv) rfl
            have HOo := Lib.hid ho
            have HLL := Lib.hid hL
            have H3 := Lib.hid (own_ne ho R3.out (by decide))
            have H1 := Lib.hid (own_ne ho R1.out (by decide))
            clear hL QE
            go_wp2_with (at_builtin; refine appendEg _ _ rfl rfl ho hsz rfl rfl (by omega) ?_; intro a' c' w2 ho2 hg2 hf2; have r3 := blk_grown R3.out hg2 H3.out; have r1 := blk_grown R1.out hg2 H1.out; have hL2 := own_kept HLL.out hg2 hapr; have hb2 := below_row hB1 (Nat.le_refl _) HOo.out hg2; have hap2 := apart_append hapr (fun x hx => by cases hx; exact (own_lt HLL.out _ rfl).2) hf2; have k3 := blk_cell r3 1 (.slice av kv cv) rfl; have f3 := blk_free r3 1; have SS := Lib.hid (And.intro (blk_set r3 1 (.slice a' (kv + 1) c')) (And.intro (blk_set_other r1 1 (.slice a' (kv + 1) c') (g := w.heap.size + 1 + 1) (by omega)) (And.intro (own_setOther ho2 (w.heap.size + 1 + 1) 1 (.slice a' (kv + 1) c') (own_ne ho2 r3 (by decide))) (And.intro (own_setOther hL2 (w.heap.size + 1 + 1) 1 (.slice a' (kv + 1) c') (own_ne hL2 r3 (by decide))) (hb2.setCell (p := ⟨w.heap.size + 1 + 1, 1, none⟩) (by simp; omega) (.slice a' (kv + 1) c')))))); have AP := Lib.hid hap2; clear r3 r1 ho2 hL2 hb2 hap2 hg2 hf2 ho)
            go_roundw
            case rel => exact ⟨k + 1, a', kv + 1, c', by omega, by go_num, by rw [HY.out, List.length_append, ← HKV.out]; rfl, by rw [HY.out]; exact SS.out.2.2.1, SS.out.1, SS.out.2.1, SS.out.2.2.2.1, AP.out, SS.out.2.2.2.2⟩
            case measure => simp [intOf]; omega
        · have HV := Lib.hid (show splitP n m (X, Y) = false by simp [splitP, h1, h2])
          have hd2 : decide (X < (n : Int)) = false := by simpa using h2
          go_wp2_with (simp only [HWV.out])
          clear c1 c2 HRV
          go_wp2
          refine wp_region_later (by kernel_rfl) (by kernel_rfl) ?_
          repeat (go_big_quiet_step (fail))
          refine wpQuiet_nil ?_
          intro w1 hw'
          have hb1 := later_below hw'
          clear hw' d1 d2
          have R3 := Lib.hid (blk_below R3.out hb1)
          have R1 := Lib.hid (blk_below R1.out hb1)
          have QE := Lib.hid (blk_below QE.out hb1)
          have ho := own_below HO.out hb1
          have hL := own_below HLL.out hb1
          have hB1 := below_tr' hb hb1
          clear HO HLL
          have HNo := Lib.hid (HNo.out HV.out)
          have HO := Lib.hid ho
          have HLL := Lib.hid hL
          clear ho hL
          go_wp2
          go_roundw
          case rel => exact ⟨k + 1, av, kv, cv, by omega, by go_num, by rw [HNo.out]; exact HKV.out, by rw [HNo.out]; exact HO.out, R3.out, R1.out, HLL.out, hapr, hB1⟩
          case measure => simp [intOf]; omega
    · obtain rfl : k = mm := by omega
      have hE : filtUpto (pairsL (n + cl)) (splitP n m) k = (pairsL (n + cl)).filter (splitP n m) := by rw [HM.out]; exact filt_all _ _
      rw [hE] at ho hkv
      have HO := Lib.hid ho
      have HKV := Lib.hid hkv
      have R1 := Lib.hid r1
      have k0 := blk_cell r3 0 (.int .i64 ((n : Int) + (cl : Int))) rfl
      have k1 := blk_cell r3 1 (.slice av kv cv) rfl
      have z0 := blk_cell r1 0 (.int .i64 0) rfl
      have z1 := blk_cell r1 1 (.slice none 0 0) rfl
      have f0 := blk_free r1 0
      have f1 := blk_free r1 1
      clear ho hkv hL hE r3 r1
      have sO := own_setOther (own_setOther HO.out w.heap.size 0 (.int .i64 ((n : Int) + (cl : Int))) (own_ne HO.out R1.out (by decide))) w.heap.size 1 (.slice av kv cv) (own_ne HO.out R1.out (by decide))
      have sB := (hb.setCell (p := ⟨w.heap.size, 0, none⟩) (by simp) (.int .i64 ((n : Int) + (cl : Int)))).setCell (p := ⟨w.heap.size, 1, none⟩) (by simp) (.slice av kv cv)
      have SO := Lib.hid sO
      have SB := Lib.hid sB
      clear sO sB
      go_wp2
      refine bodyPost_ret (v := graphV ((n : Int) + (cl : Int)) av kv cv) (by simp [results, Try.results90, go_sem, z0, z1]) rfl ⟨av, cv, by rw [← HKV.out], by rw [← HKV.out]; exact SO.out, SB.out⟩

end Go.Proofs.Ytchefkggnncalaa
