
/- DifferenceOf, both sides. (Printed by gen_differ2.py.) -/
import Derived.Test.YtjghcegacgpehaaDiffer
namespace Go.Proofs.Ytjghcegacgpehaa
open Go.RowKit

theorem countP_add {l : List E2} {f g h : E2 → Bool} (H : ∀ x ∈ l, h x = (f x || g x) ∧ (f x && g x) = false) : l.countP f + l.countP g = l.countP h := by
  induction l with
  | nil => rfl
  | cons a l ih =>
    have ih := ih fun x hx => H x (List.mem_cons_of_mem _ hx)
    obtain ⟨h1, h2⟩ := H a List.mem_cons_self
    rw [List.countP_cons, List.countP_cons, List.countP_cons, h1, ← ih]
    cases hf : f a <;> cases hg : g a <;> simp_all <;> omega

def xorM (gs hs : List E2) (e : E2) : Bool := hasM gs e.1 e.2 != hasM hs e.1 e.2

theorem diff_pairs {N : Nat} {gs hs : List E2} (hg : validG N gs = true) (hh : validG N hs = true) : diffB gs hs = (pairsL N).countP (xorM gs hs) := by
  have e1 : gs.countP (lackB hs) = (pairsL N).countP (fun a => lackB hs a && decide (a ∈ gs)) := by
    rw [← List.countP_filter]; exact congrArg (List.countP (lackB hs)) (valid_filter hg)
  have e2 : hs.countP (lackB gs) = (pairsL N).countP (fun a => lackB gs a && decide (a ∈ hs)) := by
    rw [← List.countP_filter]; exact congrArg (List.countP (lackB gs)) (valid_filter hh)
  rw [diffB, e1, e2]
  refine countP_add fun x hx => ?_
  simp only [lackB, xorM, hasB_hasM (valid_lt hg), hasB_hasM (valid_lt hh), has_mem hx]
  cases decide (x ∈ gs) <;> cases decide (x ∈ hs) <;> simp

noncomputable def diffV (Ng : Int) (gs : List E2) (Nh : Int) (hs : List E2) : Int := if bothV Ng gs Nh hs then (diffB gs hs : Nat) else -1

set_option maxHeartbeats 1000000 in
theorem specDiff_any (Ng : Int) (ag : Option Addr) (cg ng : Nat) (gs : List E2) (Nh : Int) (ah : Option Addr) (ch nh : Nat) (hs : List E2) (w : World) (hng : gs.length = ng) (hxg : Rd w ag (edges gs)) (hlg : ng ≤ 8796093022208) (hnh : hs.length = nh) (hxh : Rd w ah (edges hs)) (hlh : nh ≤ 8796093022208) :
    Calls Try.prog 16 #[graphV Ng ag ng cg, graphV Nh ah nh ch] w fun e w' => e = .returned (.int .i64 (diffV Ng gs Nh hs)) ∧ Below w.heap.size w w' := by
  have hB := below_alloc2 w (.cells #[.int .i64 Ng, .slice ag ng cg] 25) (.cells #[.int .i64 Nh, .slice ah nh ch] 25)
  have qg := heap_alloc_new w (.cells #[.int .i64 Ng, .slice ag ng cg] 25)
  have qg := blk_below qg (below_alloc _ (.cells #[.int .i64 Nh, .slice ah nh ch] 25))
  have qh := heap_alloc_new (w.alloc (.cells #[.int .i64 Ng, .slice ag ng cg] 25)) (.cells #[.int .i64 Nh, .slice ah nh ch] 25)
  have hsz : (w.alloc (.cells #[.int .i64 Ng, .slice ag ng cg] 25)).heap.size = w.heap.size + 1 := by simp
  rw [hsz] at qh
  have hWs : w.heap.size + 1 < ((w.alloc (.cells #[.int .i64 Ng, .slice ag ng cg] 25)).alloc (.cells #[.int .i64 Nh, .slice ah nh ch] 25)).heap.size := by simp
  generalize hW : (w.alloc (.cells #[.int .i64 Ng, .slice ag ng cg] 25)).alloc (.cells #[.int .i64 Nh, .slice ah nh ch] 25) = W at *
  have HW := Lib.hid hW
  clear hW hsz
  have xg := hxg.below hB
  have xh := hxh.below hB
  clear hxg hxh
  have g0 := blk_cell qg 0 (.int .i64 Ng) rfl
  have g1 := blk_cell qg 1 (.slice ag ng cg) rfl
  have C1 := specValidGraph_any Ng ag cg ng gs W hng xg hlg
  have Qg := Lib.hid qg
  have Qh := Lib.hid qh
  clear qg qh
  cases hv : validG Ng gs
  · have HR := Lib.hid (show -1 = diffV Ng gs Nh hs by simp [diffV, bothV, hv])
    rw [hv] at C1
    go_enter Try.func16, Try.ntmps16
    go_wp2_with (simp only [HW.out])
    refine C1.mono ?_
    rintro e w1 ⟨rfl, hb⟩
    go_wp2
    go_ret
    exact ⟨ret_int HR.out, below_tr' hB hb⟩
  · rw [hv] at C1
    cases hv2 : validG Nh hs
    · have HR := Lib.hid (show -1 = diffV Ng gs Nh hs by simp [diffV, bothV, hv2])
      go_enter Try.func16, Try.ntmps16
      go_wp2_with (simp only [HW.out])
      refine C1.mono ?_
      rintro e w1 ⟨rfl, hb⟩
      have r := blk_below Qh.out hb
      have h0 := blk_cell r 0 (.int .i64 Nh) rfl
      have h1 := blk_cell r 1 (.slice ah nh ch) rfl
      have C2 := specValidGraph_any Nh ah ch nh hs w1 hnh (xh.below hb) hlh
      rw [hv2] at C2
      go_wp2_with fail
      refine C2.mono ?_
      rintro e w2 ⟨rfl, hb2⟩
      go_wp2
      go_ret
      exact ⟨ret_int HR.out, below_tr' (below_tr' hB hb) hb2⟩
    · cases hne : (Ng != Nh)
      · have hNN : Ng = Nh := by simpa using hne
        have hbo : bothV Ng gs Nh hs = true := by rw [bothV, hv, hv2, decide_eq_true hNN]; rfl
        have HR := Lib.hid (show (diffB gs hs : Nat) = diffV Ng gs Nh hs by rw [diffV, if_pos hbo])
        clear hNN hbo
        go_enter Try.func16, Try.ntmps16
        go_wp2_with (simp only [HW.out])
        refine C1.mono ?_
        rintro e w1 ⟨rfl, hb⟩
        have r := blk_below Qh.out hb
        have r' := blk_below Qg.out hb
        clear g0 g1
        have h0 := blk_cell r 0 (.int .i64 Nh) rfl
        have h1 := blk_cell r 1 (.slice ah nh ch) rfl
        have C2 := specValidGraph_any Nh ah ch nh hs w1 hnh (xh.below hb) hlh
        rw [hv2] at C2
        go_wp2_with fail
        refine C2.mono ?_
        rintro e w2 ⟨rfl, hb2⟩
        clear h0 h1
        have h0 := blk_cell (blk_below r hb2) 0 (.int .i64 Nh) rfl
        have h1 := blk_cell (blk_below r hb2) 1 (.slice ah nh ch) rfl
        have g0 := blk_cell (blk_below r' hb2) 0 (.int .i64 Ng) rfl
        have g1 := blk_cell (blk_below r' hb2) 1 (.slice ag ng cg) rfl
        have hb12 := below_tr' hb hb2
        have C3 := specDiffer_any Ng ag cg ng gs Nh ah ch nh hs w2 hng (xg.below hb12) hlg hnh (xh.below hb12) hlh
        go_wp2_with fail
        refine C3.mono ?_
        rintro e w3 ⟨rfl, hb3⟩
        go_wp2
        go_ret
        exact ⟨ret_int HR.out, below_tr' (below_tr' hB hb12) hb3⟩
      · have HR := Lib.hid (show -1 = diffV Ng gs Nh hs by have : Ng ≠ Nh := by simpa using hne
                                                           simp [diffV, bothV, this])
        go_enter Try.func16, Try.ntmps16
        go_wp2_with (simp only [HW.out])
        refine C1.mono ?_
        rintro e w1 ⟨rfl, hb⟩
        have r := blk_below Qh.out hb
        have r' := blk_below Qg.out hb
        clear g0 g1
        have h0 := blk_cell r 0 (.int .i64 Nh) rfl
        have h1 := blk_cell r 1 (.slice ah nh ch) rfl
        have C2 := specValidGraph_any Nh ah ch nh hs w1 hnh (xh.below hb) hlh
        rw [hv2] at C2
        go_wp2_with fail
        refine C2.mono ?_
        rintro e w2 ⟨rfl, hb2⟩
        clear h0 h1
        have h0 := blk_cell (blk_below r hb2) 0 (.int .i64 Nh) rfl
        have g0 := blk_cell (blk_below r' hb2) 0 (.int .i64 Ng) rfl
        go_wp2
        go_ret
        exact ⟨ret_int HR.out, below_tr' (below_tr' hB hb) hb2⟩

set_option maxHeartbeats 4000000 in
theorem implDiff_any (Ng : Int) (ag : Option Addr) (cg ng : Nat) (gs : List E2) (Nh : Int) (ah : Option Addr) (ch nh : Nat) (hs : List E2) (w : World) (hNg : Ng ≤ 9223372036854775807) (hNh : Nh ≤ 9223372036854775807) (hng : gs.length = ng) (hxg : Rd w ag (edges gs)) (hlg : ng ≤ 8796093022208) (hnh : hs.length = nh) (hxh : Rd w ah (edges hs)) (hlh : nh ≤ 8796093022208) :
    Calls Try.prog 15 #[graphV Ng ag ng cg, graphV Nh ah nh ch] w fun e w' => e = .returned (.int .i64 (diffV Ng gs Nh hs)) ∧ Below w.heap.size w w' := by
  have hB := below_alloc2 w (.cells #[.int .i64 Ng, .slice ag ng cg] 25) (.cells #[.int .i64 Nh, .slice ah nh ch] 25)
  have qg := heap_alloc_new w (.cells #[.int .i64 Ng, .slice ag ng cg] 25)
  have qg := blk_below qg (below_alloc _ (.cells #[.int .i64 Nh, .slice ah nh ch] 25))
  have qh := heap_alloc_new (w.alloc (.cells #[.int .i64 Ng, .slice ag ng cg] 25)) (.cells #[.int .i64 Nh, .slice ah nh ch] 25)
  have hsz : (w.alloc (.cells #[.int .i64 Ng, .slice ag ng cg] 25)).heap.size = w.heap.size + 1 := by simp
  rw [hsz] at qh
  have hWs : w.heap.size + 1 < ((w.alloc (.cells #[.int .i64 Ng, .slice ag ng cg] 25)).alloc (.cells #[.int .i64 Nh, .slice ah nh ch] 25)).heap.size := by simp
  generalize hW : (w.alloc (.cells #[.int .i64 Ng, .slice ag ng cg] 25)).alloc (.cells #[.int .i64 Nh, .slice ah nh ch] 25) = W at *
  have HW := Lib.hid hW
  clear hW hsz
  have xg := hxg.below hB
  have xh := hxh.below hB
  clear hxg hxh
  have g0 := blk_cell qg 0 (.int .i64 Ng) rfl
  have g1 := blk_cell qg 1 (.slice ag ng cg) rfl
  have h0 := blk_cell qh 0 (.int .i64 Nh) rfl
  have h1 := blk_cell qh 1 (.slice ah nh ch) rfl
  have C1 := both_any Ng ag cg ng gs Nh ah ch nh hs W hNg hNh hng xg hlg hnh xh hlh
  have Qg := Lib.hid qg
  have Qh := Lib.hid qh
  clear qg qh
  cases hv : bothV Ng gs Nh hs
  · have HR := Lib.hid (show -1 = diffV Ng gs Nh hs by simp [diffV, hv])
    rw [hv] at C1
    go_enter Try.func15, Try.ntmps15
    go_wp2_with (simp only [HW.out])
    refine C1.mono ?_
    rintro e w1 ⟨rfl, hb⟩
    go_wp2
    go_ret
    exact ⟨ret_int HR.out, below_tr' hB hb⟩
  · have hvv : validG Ng gs = true ∧ validG Nh hs = true ∧ Ng = Nh := by simpa [bothV] using hv
    obtain ⟨hvg, hvh, hNN⟩ := hvv
    have h7 := (validG_true.1 hvg).2
    obtain ⟨M, hM⟩ : ∃ M : Nat, Ng = M := ⟨Ng.toNat, by omega⟩
    have HR := Lib.hid (show ((pairsL M).countP (xorM gs hs) : Nat) = diffV Ng gs Nh hs by rw [diffV, if_pos hv, ← diff_pairs (hM ▸ hvg) (by rw [← hM, hNN]; exact hvh)])
    rw [hv] at C1
    have HMM := Lib.hid hM
    have hM7 : M ≤ 7 := by omega
    clear hvg hvh hv hM hNN
    go_enter Try.func15, Try.ntmps15
    go_wp2_with (simp only [HW.out])
    refine C1.mono ?_
    rintro e w1 ⟨rfl, hb⟩
    have rg := blk_below Qg.out hb
    have rh := blk_below Qh.out hb
    clear g0 g1 h0 h1 C1
    have g0 := blk_cell rg 0 (.int .i64 Ng) rfl
    have CP := implPairs_any M w1 (by omega)
    rw [← HMM.out] at CP
    have hpl := pairsL_len (N := M) (by omega)
    go_wp2_with fail
    refine CP.mono ?_
    rintro e w2 ⟨aL, cL, rfl, hoL, hb2⟩
    have rg := blk_below rg hb2
    have rh := blk_below rh hb2
    have hB1 := below_tr' hB hb
    have hB2 := below_tr' hB1 hb2
    have xg2 := (xg.below hb).below hb2
    have xh2 := (xh.below hb).below hb2
    obtain ⟨m, hm⟩ : ∃ m, m = (pairsL M).length := ⟨_, rfl⟩
    rw [← hm] at hoL hpl
    have HM := Lib.hid hm
    clear g0 CP
    go_wp2_with fail
    rw [← HM.out]
    clear hm
    go_loopw [5, 7, 16] (fun v _ i wr => ∃ k : Nat, k ≤ m ∧ i = .int .i64 k ∧ v = .int .i64 (cntUpto (xorM gs hs) (pairsL M) k : Nat) ∧ wr.ownsRow w1.heap.size 48 2 (.slice aL m cL) m (edges (pairsL M)) ∧ Below w2.heap.size w2 wr) (fun _ _ i _ => m - (intOf i).toNat)
    case atStart => exact ⟨0, by omega, rfl, by simp [cntUpto], hoL, Below.refl _ _⟩
    case round =>
      obtain ⟨k, hk, rfl, rfl, ho, hbr⟩ := hrel
      have hcl := cnt_le (xorM gs hs) (pairsL M) k
      by_cases hlt : k < m
      · have hkl : k < (pairsL M).length := by rw [← HM.out]; exact hlt
        obtain ⟨b1, o1, rfl, c1, c2⟩ := (own_rd ho).edge (k := k) hkl
        have HY := Lib.hid (cnt_yes (p := xorM gs hs) hkl)
        have HN := Lib.hid (cnt_no (p := xorM gs hs) hkl)
        generalize hXY : ((pairsL M)[k]'hkl) = X at *
        obtain ⟨X, Y⟩ := X
        simp only at c1 c2
        have HAL := below_alloc wr (.cells #[.int .i64 X, .int .i64 Y] 48)
        have qe := heap_alloc_new wr (.cells #[.int .i64 X, .int .i64 Y] 48)
        have hoV := own_below ho HAL
        have hbV := below_tr' hbr HAL
        generalize hV : wr.alloc (.cells #[.int .i64 X, .int .i64 Y] 48) = V at *
        have HV := Lib.hid hV
        have tg := blk_below rg hbV
        have th := blk_below rh hbV
        have xg3 := xg2.below hbV
        have xh3 := xh2.below hbV
        have HG := Lib.hid (fun u : Later V => has_any Ng ag cg ng gs X Y u.val hng (xg3.below u.ok) hlg)
        have HH := Lib.hid (fun u : Later V => has_any Nh ah ch nh hs X Y u.val hnh (xh3.below u.ok) hlh)
        have d0 := later_cell (blk_cell tg 0 (.int .i64 Ng) rfl)
        have d1 := later_cell (blk_cell tg 1 (.slice ag ng cg) rfl)
        have d2 := later_cell (blk_cell th 0 (.int .i64 Nh) rfl)
        have d3 := later_cell (blk_cell th 1 (.slice ah nh ch) rfl)
        have d4 := later_cell (blk_cell qe 0 (.int .i64 X) rfl)
        have d5 := later_cell (blk_cell qe 1 (.int .i64 Y) rfl)
        generalize hC0 : cntUpto (xorM gs hs) (pairsL M) k = C at *
        clear hC0 hV hXY tg th xg3 xh3 qe HAL ho
        cases hA : hasM gs X Y <;> cases hC : hasM hs X Y
        · have HX := Lib.hid (HN.out (by simp [xorM, hA, hC]))
          rw [hA] at HG
          rw [hC] at HH
          clear HY HN
          go_wp2_with (simp only [HV.out])
          refine wp_region_later (by kernel_rfl) (by kernel_rfl) ?_
          iterate 6 (go_big_quiet_step ((go_at_call 74; exact calls_later _ (HG.out _))))
          repeat (go_big_quiet_step ((go_at_call 74; exact calls_later _ (HH.out _))))
          refine wpQuiet_nil ?_
          intro w9 hw'
          have hb9 := later_below hw'
          have hb10 := below_tr' hbV hb9
          have ho9 := Lib.hid (own_below hoV hb9)
          clear hw' d0 d1 d2 d3 d4 d5 hoV
          go_wp2
          go_roundw
          case rel => exact ⟨k + 1, by omega, by go_num, by rw [HX.out], ho9.out, hb10⟩
          case measure => simp [intOf]; omega
        · have HX := Lib.hid (HY.out (by simp [xorM, hA, hC]))
          rw [hA] at HG
          rw [hC] at HH
          clear HY HN
          go_wp2_with (simp only [HV.out])
          refine wp_region_later (by kernel_rfl) (by kernel_rfl) ?_
          iterate 6 (go_big_quiet_step ((go_at_call 74; exact calls_later _ (HG.out _))))
          repeat (go_big_quiet_step ((go_at_call 74; exact calls_later _ (HH.out _))))
          refine wpQuiet_nil ?_
          intro w9 hw'
          have hb9 := later_below hw'
          have hb10 := below_tr' hbV hb9
          have ho9 := Lib.hid (own_below hoV hb9)
          clear hw' d0 d1 d2 d3 d4 d5 hoV
          go_wp2
          go_roundw
          case rel => exact ⟨k + 1, by omega, by go_num, by rw [HX.out]; go_num, ho9.out, hb10⟩
          case measure => simp [intOf]; omega
        · have HX := Lib.hid (HY.out (by simp [xorM, hA, hC]))
          rw [hA] at HG
          rw [hC] at HH
          clear HY HN
          go_wp2_with (simp only [HV.out])
          refine wp_region_later (by kernel_rfl) (by kernel_rfl) ?_
          iterate 6 (go_big_quiet_step ((go_at_call 74; exact calls_later _ (HG.out _))))
          repeat (go_big_quiet_step ((go_at_call 74; exact calls_later _ (HH.out _))))
          refine wpQuiet_nil ?_
          intro w9 hw'
          have hb9 := later_below hw'
          have hb10 := below_tr' hbV hb9
          have ho9 := Lib.hid (own_below hoV hb9)
          clear hw' d0 d1 d2 d3 d4 d5 hoV
          go_wp2
          go_roundw
          case rel => exact ⟨k + 1, by omega, by go_num, by rw [HX.out]; go_num, ho9.out, hb10⟩
          case measure => simp [intOf]; omega
        · have HX := Lib.hid (HN.out (by simp [xorM, hA, hC]))
          rw [hA] at HG
          rw [hC] at HH
          clear HY HN
          go_wp2_with (simp only [HV.out])
          refine wp_region_later (by kernel_rfl) (by kernel_rfl) ?_
          iterate 6 (go_big_quiet_step ((go_at_call 74; exact calls_later _ (HG.out _))))
          repeat (go_big_quiet_step ((go_at_call 74; exact calls_later _ (HH.out _))))
          refine wpQuiet_nil ?_
          intro w9 hw'
          have hb9 := later_below hw'
          have hb10 := below_tr' hbV hb9
          have ho9 := Lib.hid (own_below hoV hb9)
          clear hw' d0 d1 d2 d3 d4 d5 hoV
          go_wp2
          go_roundw
          case rel => exact ⟨k + 1, by omega, by go_num, by rw [HX.out], ho9.out, hb10⟩
          case measure => simp [intOf]; omega
      · have HE2 := Lib.hid (cnt_all (xorM gs hs) (pairsL M) k (by rw [← HM.out]; omega))
        go_wp2
        go_ret
        exact ⟨ret_int (by rw [HE2.out, HR.out]), below_tr' hB2 hbr⟩

end Go.Proofs.Ytjghcegacgpehaa
