
/- The walk of the law FnWeightGraph: graphs of weights are nested, and have codes. -/
import Derived.Test.YtjghcegacgpehaaCodeR
import Derived.Test.YtjghcegacgpehaaDrawW
import Derived.Test.YtjghcegacgpehaaNest2
import Derived.Test.YtjghcegacgpehaaDraw1
namespace Go.Proofs.Ytjghcegacgpehaa
open Go.RowKit

set_option maxHeartbeats 2000000 in
theorem CodeOf_zero (a : Option Addr) (c n : Nat) (es : List E2) (w : World) (hn : es.length = n) (hx : Rd w a (edges es)) (hl : n ≤ 8796093022208) (hV : validG 0 es = true) :
    Calls Try.prog 46 #[graphV 0 a n c] w fun e w' => ∃ s v, e = .returned (.tuple #[s, v, .bool false]) ∧ Below w.heap.size w w' := by
  have hB := below_alloc w (.cells #[.int .i64 0, .slice a n c] 25)
  have qg := heap_alloc_new w (.cells #[.int .i64 0, .slice a n c] 25)
  have hx1 := hx.below hB
  generalize hW : w.alloc (.cells #[.int .i64 0, .slice a n c] 25) = W at *
  have HW := Lib.hid hW
  clear hW
  have g0 := blk_cell qg 0 (.int .i64 0) rfl
  have g1 := blk_cell qg 1 (.slice a n c) rfl
  have C1 := implValidGraph_any 0 a c n es W (by omega) hn hx1 hl
  rw [hV] at C1
  go_enter Try.func46, Try.ntmps46
  go_wp2_with (simp only [HW.out])
  refine C1.mono ?_
  rintro e w1 ⟨rfl, hb1⟩
  clear C1 g0 g1 HW
  have qg := blk_below qg hb1
  have hB1 := below_tr' hB hb1
  have g0 := blk_cell qg 0 (.int .i64 0) rfl
  go_wp2
  exact bodyPost_ret (v := .tuple #[.string { data := #[] }, .slice none 0 0, .bool false]) (by simp [results, Try.results46, go_sem]) rfl ⟨_, _, rfl, hB1⟩

theorem wgt_valid {n : Nat} {xs : List Int} {lim : Int} (hn : n ≤ 7) : validG n (wgtL n xs lim) = true :=
  valid_of_asc hn ((asc_pairsL n).filter _) fun _ hx => (List.mem_filter.1 hx).1

set_option maxHeartbeats 4000000 in
theorem walk_FnWeightGraph (a_c : Option Addr) (c_c n_c : Nat) (bs : List Int) (w : World) (hc : CodeOK w a_c c_c n_c bs) :
    Calls Try.prog 9 #[.slice a_c n_c c_c] w fun e w' => e = .returned (.bool true) ∧ Below w.heap.size w w' := by
  by_cases hs : 1048576 < n_c
  · go_enter Try.func9, Try.ntmps9
    go_wp2
    go_ret
    exact ⟨rfl, Below.refl _ _⟩
  have hs' : n_c ≤ 1048576 := by omega
  go_enter Try.func9, Try.ntmps9
  have C1 := DrawWeightGraph_any a_c c_c n_c bs w hc hs'
  go_wp2_with fail
  refine C1.mono ?_
  rintro e w1 ⟨ys, a, c, n, lim, rfl, hok, hn, hx, hb1⟩
  have hn8 : n ≤ 8 := by rw [← hn]; exact hok.1
  clear C1 hok
  have HN := Lib.hid hn
  have C2 := implWeightGraph_any a c n ys lim w1 hn hx (by omega)
  have hLL := wgrL_len ys lim
  obtain ⟨es, hes⟩ : ∃ es, es = wgrL ys lim := ⟨_, rfl⟩
  obtain ⟨M, hM⟩ : ∃ M, M = wgrN ys := ⟨_, rfl⟩
  obtain ⟨k, hk⟩ : ∃ k, k = es.length := ⟨_, rfl⟩
  rw [← hes, ← hM, ← hk] at C2
  rw [← hes, ← hk] at hLL
  have HES := Lib.hid hes
  have HM := Lib.hid hM
  have HK := Lib.hid hk
  clear hn hes hM hk
  cases hv : wgrOK ys
  · rw [hv] at C2
    go_wp2_with fail
    refine C2.mono ?_
    rintro e w2 ⟨a2, c2, d2, rfl, ho2, hb2⟩
    clear C2
    have HB2 := below_tr' hb1 hb2
    have hx2 := hx.below hb2
    have HA2 := below_alloc w2 (.cells #[.int .i64 M, .slice a2 k d2] 25)
    have q2 := heap_alloc_new w2 (.cells #[.int .i64 M, .slice a2 k d2] 25)
    have ho2 := own_below ho2 HA2
    have hx2 := hx2.below HA2
    have HB2 := below_tr' HB2 HA2
    generalize hV2 : w2.alloc (.cells #[.int .i64 M, .slice a2 k d2] 25) = v2 at *
    have HV2 := Lib.hid hV2
    clear hV2 HA2 hb2 hx hb1
    have C3 := specWeightGraph_any a c n ys lim v2 HN.out hx2 (by omega)
    rw [← HES.out, ← HM.out, ← HK.out, hv] at C3
    go_wp2_with (simp only [HV2.out])
    refine C3.mono ?_
    rintro e w3 ⟨a3, c3, d3, rfl, ho3, hb3⟩
    clear C3
    have HB3 := below_tr' HB2 hb3
    have ho2 := own_below ho2 hb3
    have q2 := blk_below q2 hb3
    have HA3 := below_alloc w3 (.cells #[.int .i64 M, .slice a3 k d3] 25)
    have q3 := heap_alloc_new w3 (.cells #[.int .i64 M, .slice a3 k d3] 25)
    have ho2 := own_below ho2 HA3
    have ho3 := own_below ho3 HA3
    have q2 := blk_below q2 HA3
    have HB3 := below_tr' HB3 HA3
    generalize hV3 : w3.alloc (.cells #[.int .i64 M, .slice a3 k d3] 25) = v3 at *
    have HV3 := Lib.hid hV3
    clear hV3 HA3 hb3 HB2 hx2
    have x0 := blk_cell q2 0 (.int .i64 M) rfl
    have x1 := blk_cell q2 1 (.slice a2 k d2) rfl
    have y0 := blk_cell q3 0 (.int .i64 M) rfl
    have y1 := blk_cell q3 1 (.slice a3 k d3) rfl
    have C4 := equalGraph_any M M a2 a3 d2 d3 k k es es v3 HK.out.symm HK.out.symm (own_rd ho2) (own_rd ho3) (by omega) (by omega)
    rw [decide_eq_true ⟨rfl, rfl⟩] at C4
    go_wp2_with (simp only [HV3.out])
    refine C4.mono ?_
    rintro e w4 ⟨rfl, hb4⟩
    clear C4 x0 x1 y0 y1
    have HB4 := below_tr' HB3 hb4
    have ho2 := own_below ho2 hb4
    have ho3 := own_below ho3 hb4
    have q2 := blk_below q2 hb4
    have q3 := blk_below q3 hb4
    have x0 := blk_cell q2 0 (.int .i64 M) rfl
    have x1 := blk_cell q2 1 (.slice a2 k d2) rfl
    clear hb4 HB3
    have y0 := blk_cell q3 0 (.int .i64 M) rfl
    have y1 := blk_cell q3 1 (.slice a3 k d3) rfl
    have C5 := equalGraph_any M M a2 a3 d2 d3 k k es es w4 HK.out.symm HK.out.symm (own_rd ho2) (own_rd ho3) (by omega) (by omega)
    rw [decide_eq_true ⟨rfl, rfl⟩] at C5
    clear ho2 ho3 q2 q3
    go_wp2_with fail
    refine C5.mono ?_
    rintro e w5 ⟨rfl, hb5⟩
    have HB5 := below_tr' HB4 hb5
    clear C5 hb5
    go_wp2
    go_ret
    exact ⟨rfl, HB5⟩
  · rw [hv] at C2
    go_wp2_with fail
    refine C2.mono ?_
    rintro e w2 ⟨a2, c2, d2, rfl, ho2, hb2⟩
    clear C2
    have HB2 := below_tr' hb1 hb2
    have hx2 := hx.below hb2
    have HA2 := below_alloc w2 (.cells #[.int .i64 M, .slice a2 k d2] 25)
    have q2 := heap_alloc_new w2 (.cells #[.int .i64 M, .slice a2 k d2] 25)
    have ho2 := own_below ho2 HA2
    have hx2 := hx2.below HA2
    have HB2 := below_tr' HB2 HA2
    generalize hV2 : w2.alloc (.cells #[.int .i64 M, .slice a2 k d2] 25) = v2 at *
    have HV2 := Lib.hid hV2
    clear hV2 HA2 hb2 hx hb1
    have C3 := specWeightGraph_any a c n ys lim v2 HN.out hx2 (by omega)
    rw [← HES.out, ← HM.out, ← HK.out, hv] at C3
    go_wp2_with (simp only [HV2.out])
    refine C3.mono ?_
    rintro e w3 ⟨a3, c3, d3, rfl, ho3, hb3⟩
    clear C3
    have HB3 := below_tr' HB2 hb3
    have ho2 := own_below ho2 hb3
    have q2 := blk_below q2 hb3
    have HA3 := below_alloc w3 (.cells #[.int .i64 M, .slice a3 k d3] 25)
    have q3 := heap_alloc_new w3 (.cells #[.int .i64 M, .slice a3 k d3] 25)
    have ho2 := own_below ho2 HA3
    have ho3 := own_below ho3 HA3
    have q2 := blk_below q2 HA3
    have HB3 := below_tr' HB3 HA3
    generalize hV3 : w3.alloc (.cells #[.int .i64 M, .slice a3 k d3] 25) = v3 at *
    have HV3 := Lib.hid hV3
    clear hV3 HA3 hb3 HB2 hx2
    have x0 := blk_cell q2 0 (.int .i64 M) rfl
    have x1 := blk_cell q2 1 (.slice a2 k d2) rfl
    have y0 := blk_cell q3 0 (.int .i64 M) rfl
    have y1 := blk_cell q3 1 (.slice a3 k d3) rfl
    have C4 := equalGraph_any M M a2 a3 d2 d3 k k es es v3 HK.out.symm HK.out.symm (own_rd ho2) (own_rd ho3) (by omega) (by omega)
    rw [decide_eq_true ⟨rfl, rfl⟩] at C4
    go_wp2_with (simp only [HV3.out])
    refine C4.mono ?_
    rintro e w4 ⟨rfl, hb4⟩
    clear C4 x0 x1 y0 y1
    have HB4 := below_tr' HB3 hb4
    have ho2 := own_below ho2 hb4
    have ho3 := own_below ho3 hb4
    have q2 := blk_below q2 hb4
    have q3 := blk_below q3 hb4
    have x0 := blk_cell q2 0 (.int .i64 M) rfl
    have x1 := blk_cell q2 1 (.slice a2 k d2) rfl
    clear hb4 HB3
    have hn7 : n ≤ 7 := by
      have h := HN.out
      simp only [wgrOK, Bool.and_eq_true, decide_eq_true_eq] at hv
      omega
    have hMn : M = (n : Int) := by rw [HM.out, wgrN, if_pos hv, HN.out]
    have hEn : es = wgtL n ys lim := by rw [HES.out, wgrL, if_pos hv, HN.out]
    have HV := Lib.hid (wgt_valid (n := n) (xs := ys) (lim := lim) hn7)
    have HNE := Lib.hid (wgt_nested HV.out)
    rw [← hEn] at HV HNE
    have HPE := Lib.hid (wgt_peels n ys lim)
    rw [← hEn] at HPE
    have HEn := Lib.hid hEn
    clear hv hEn ho3 q3
    subst hMn
    by_cases hn0 : n = 0
    · subst hn0
      have C5 := CodeOf_zero a2 d2 k es w4 HK.out.symm (own_rd ho2) (by omega) HV.out
      go_wp2_with fail
      refine C5.mono ?_
      rintro e w5 ⟨z1, z2, rfl, hb5⟩
      clear C5 x0 x1
      have HB5 := below_tr' HB4 hb5
      have ho2 := own_below ho2 hb5
      have q2 := blk_below q2 hb5
      have x0 := blk_cell q2 0 (.int .i64 0) rfl
      have x1 := blk_cell q2 1 (.slice a2 k d2) rfl
      have C6 := implIsNested_any 0 a2 d2 k es w5 (by omega) HK.out.symm (own_rd ho2) (by omega)
      rw [show nestedV 0 es = true from HNE.out] at C6
      go_wp2_with fail
      refine C6.mono ?_
      rintro e w6 ⟨rfl, hb6⟩
      clear C6 x0 x1
      have HB6 := below_tr' HB5 hb6
      have q2 := blk_below q2 hb6
      have x0 := blk_cell q2 0 (.int .i64 0) rfl
      clear hb5 hb6 HB4 HB5 ho2
      go_wp2
      go_ret
      exact ⟨ret_bool (by simp), HB6⟩
    · have C5 := CodeOf_any n a2 d2 k es w4 (by omega) hn7 HK.out.symm (own_rd ho2) (by omega) HV.out HPE.out
      go_wp2_with fail
      refine C5.mono ?_
      rintro e w5 ⟨z1, z2, rfl, hb5⟩
      clear C5 x0 x1
      have HB5 := below_tr' HB4 hb5
      have ho2 := own_below ho2 hb5
      have q2 := blk_below q2 hb5
      have x0 := blk_cell q2 0 (.int .i64 n) rfl
      have x1 := blk_cell q2 1 (.slice a2 k d2) rfl
      have C6 := implIsNested_any n a2 d2 k es w5 (by omega) HK.out.symm (own_rd ho2) (by omega)
      rw [show nestedV n es = true from HNE.out] at C6
      go_wp2_with fail
      refine C6.mono ?_
      rintro e w6 ⟨rfl, hb6⟩
      clear C6 x0 x1
      have HB6 := below_tr' HB5 hb6
      have q2 := blk_below q2 hb6
      have x0 := blk_cell q2 0 (.int .i64 n) rfl
      clear hb5 hb6 HB4 HB5 ho2
      go_wp2
      go_ret
      exact ⟨ret_bool (by simp), HB6⟩

end Go.Proofs.Ytjghcegacgpehaa
