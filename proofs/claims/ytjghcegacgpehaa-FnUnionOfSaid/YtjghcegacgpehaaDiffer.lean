
/- In how many edges two graphs differ, both sides. (Printed by gen_differ.py.) -/
import Derived.Test.YtjghcegacgpehaaSorted
import Derived.Test.YtjghcegacgpehaaIsPart2
import Derived.Test.YtjghcegacgpehaaWhich
namespace Go.Proofs.Ytjghcegacgpehaa
open Go.RowKit

def cntUpto (p : E2 → Bool) (l : List E2) (k : Nat) : Nat := (l.take k).countP p
theorem cnt_yes {p : E2 → Bool} {l : List E2} {k : Nat} (h : k < l.length) (h0 : p (l[k]'h) = true) : cntUpto p l (k + 1) = cntUpto p l k + 1 := by
  rw [cntUpto, List.take_succ_eq_append_getElem h, List.countP_append]; simp [cntUpto, h0]
theorem cnt_no {p : E2 → Bool} {l : List E2} {k : Nat} (h : k < l.length) (h0 : p (l[k]'h) = false) : cntUpto p l (k + 1) = cntUpto p l k := by
  rw [cntUpto, List.take_succ_eq_append_getElem h, List.countP_append]; simp [cntUpto, h0]
theorem cnt_all (p : E2 → Bool) (l : List E2) (k : Nat) (h : k = l.length) : cntUpto p l k = l.countP p := by rw [cntUpto, h, List.take_length]
theorem cnt_le (p : E2 → Bool) (l : List E2) (k : Nat) : cntUpto p l k ≤ k := Nat.le_trans List.countP_le_length (List.length_take_le _ _)
def lackB (hs : List E2) (e : E2) : Bool := !hasB hs e.1 e.2
def diffB (gs hs : List E2) : Nat := gs.countP (lackB hs) + hs.countP (lackB gs)

set_option maxHeartbeats 4000000 in
theorem specDiffer_any (Ng : Int) (ag : Option Addr) (cg ng : Nat) (gs : List E2) (Nh : Int) (ah : Option Addr) (ch nh : Nat) (hs : List E2) (w : World) (hng : gs.length = ng) (hxg : Rd w ag (edges gs)) (hlg : ng ≤ 8796093022208) (hnh : hs.length = nh) (hxh : Rd w ah (edges hs)) (hlh : nh ≤ 8796093022208) :
    Calls Try.prog 76 #[graphV Ng ag ng cg, graphV Nh ah nh ch] w fun e w' => e = .returned (.int .i64 (diffB gs hs : Nat)) ∧ Below w.heap.size w w' := by
  have hB := below_alloc2 w (.cells #[.int .i64 Ng, .slice ag ng cg] 25) (.cells #[.int .i64 Nh, .slice ah nh ch] 25)
  have qg := heap_alloc_new w (.cells #[.int .i64 Ng, .slice ag ng cg] 25)
  have qg := blk_below qg (below_alloc _ (.cells #[.int .i64 Nh, .slice ah nh ch] 25))
  have qh := heap_alloc_new (w.alloc (.cells #[.int .i64 Ng, .slice ag ng cg] 25)) (.cells #[.int .i64 Nh, .slice ah nh ch] 25)
  have hsz : (w.alloc (.cells #[.int .i64 Ng, .slice ag ng cg] 25)).heap.size = w.heap.size + 1 := by simp
  rw [hsz] at qh
  have hWs : w.heap.size + 1 < ((w.alloc (.cells #[.int .i64 Ng, .slice ag ng cg] 25)).alloc (.cells #[.int .i64 Nh, .slice ah nh ch] 25)).heap.size := by simp
  generalize hW : (w.alloc (.cells #[.int .i64 Ng, .slice ag ng cg] 25)).alloc (.cells #[.int .i64 Nh, .slice ah nh ch] 25) = W at *
  have HW := Lib.hid hW
  clear hW hsz
  have xg := hxg.below hB
  have xh := hxh.below hB
  clear hxg hxh
  have g1 := blk_cell qg 1 (.slice ag ng cg) rfl
  have HB0 := Below.refl W.heap.size W
  go_enter Try.func76, Try.ntmps76
  go_wp2_with (simp only [HW.out])
  clear g1
  go_loopw [5, 6] (fun v i wr => ∃ k : Nat, k ≤ ng ∧ i = .int .i64 k ∧ v = .int .i64 ((0 : Nat) + cntUpto (lackB hs) gs k : Nat) ∧ Below W.heap.size W wr) (fun _ i _ => ng - (intOf i).toNat)
  case atStart => exact ⟨0, by omega, rfl, by simp [cntUpto], HB0⟩
  case round =>
    obtain ⟨k, hk, rfl, rfl, hb⟩ := hrel
    have rg := blk_below qg hb
    have rh := blk_below qh hb
    have g0 := blk_cell rg 0 (.int .i64 Ng) rfl
    have g1 := blk_cell rg 1 (.slice ag ng cg) rfl
    have h0 := blk_cell rh 0 (.int .i64 Nh) rfl
    have h1 := blk_cell rh 1 (.slice ah nh ch) rfl
    have hcl := cnt_le (lackB hs) gs k
    by_cases hlt : k < ng
    · have hkl : k < gs.length := by omega
      obtain ⟨b1, o1, e1, c1, c2⟩ := (xg.below hb).edge (k := k) hkl
      rw [e1] at g1
      have HY := Lib.hid (cnt_yes (p := lackB hs) hkl)
      have HN := Lib.hid (cnt_no (p := lackB hs) hkl)
      generalize (gs[k]'hkl) = X at *
      obtain ⟨X, Y⟩ := X
      simp only at c1 c2
      have HE := Lib.hid (fun u : Later wr => specHasEdge_any Nh ah ch nh hs X Y u.val hnh (xh.below (below_tr' hb u.ok)) hlh)
      have d1 := later_cell c1
      have d2 := later_cell c2
      have d3 := later_cell g1
      have d4 := later_cell h0
      have d5 := later_cell h1
      have d6 := later_cell g0
      generalize hC : cntUpto (lackB hs) gs k = C at *
      clear hC
      cases hv : hasB hs X Y
      · rw [hv] at HE
        have HY := Lib.hid (HY.out (by simp [lackB, hv]))
        clear HN
        go_wp2
        refine wp_region_later (by kernel_rfl) (by kernel_rfl) ?_
        repeat (go_big_quiet_step ((go_at_call 81; exact calls_later _ (HE.out _))))
        refine wpQuiet_nil ?_
        intro w1 hw'
        have hb1 := below_tr' hb (later_below hw')
        clear hw' d1 d2 d3 d4 d5 d6
        go_wp2
        go_roundw
        case rel => exact ⟨k + 1, by omega, by go_num, by rw [HY.out]; go_num, hb1⟩
        case measure => simp [intOf]; omega
      · rw [hv] at HE
        have HN := Lib.hid (HN.out (by simp [lackB, hv]))
        clear HY
        go_wp2
        refine wp_region_later (by kernel_rfl) (by kernel_rfl) ?_
        repeat (go_big_quiet_step ((go_at_call 81; exact calls_later _ (HE.out _))))
        refine wpQuiet_nil ?_
        intro w1 hw'
        have hb1 := below_tr' hb (later_below hw')
        clear hw' d1 d2 d3 d4 d5 d6
        go_wp2
        go_roundw
        case rel => exact ⟨k + 1, by omega, by go_num, by rw [HN.out], hb1⟩
        case measure => simp [intOf]; omega
    · have HE := Lib.hid (cnt_all (lackB hs) gs k (by omega))
      have hcb : cntUpto (lackB hs) gs k ≤ 8796093022208 := by omega
      generalize hC : cntUpto (lackB hs) gs k = C0 at *
      have HB0 := Lib.hid hb
      go_wp2
      clear g0 g1 h0 h1 rg rh hC hcl hk hlt hb
      have HB0 := HB0.out
      go_loopw [5, 7] (fun v i wr => ∃ k : Nat, k ≤ nh ∧ i = .int .i64 k ∧ v = .int .i64 ((C0 : Nat) + cntUpto (lackB gs) hs k : Nat) ∧ Below W.heap.size W wr) (fun _ i _ => nh - (intOf i).toNat)
      case atStart => exact ⟨0, by omega, rfl, by simp [cntUpto], HB0⟩
      case round =>
        obtain ⟨k, hk, rfl, rfl, hb⟩ := hrel
        have rg := blk_below qg hb
        have rh := blk_below qh hb
        have g0 := blk_cell rg 0 (.int .i64 Ng) rfl
        have g1 := blk_cell rg 1 (.slice ag ng cg) rfl
        have h0 := blk_cell rh 0 (.int .i64 Nh) rfl
        have h1 := blk_cell rh 1 (.slice ah nh ch) rfl
        have hcl := cnt_le (lackB gs) hs k
        by_cases hlt : k < nh
        · have hkl : k < hs.length := by omega
          obtain ⟨b1, o1, e1, c1, c2⟩ := (xh.below hb).edge (k := k) hkl
          rw [e1] at h1
          have HY := Lib.hid (cnt_yes (p := lackB gs) hkl)
          have HN := Lib.hid (cnt_no (p := lackB gs) hkl)
          generalize (hs[k]'hkl) = X at *
          obtain ⟨X, Y⟩ := X
          simp only at c1 c2
          have HE := Lib.hid (fun u : Later wr => specHasEdge_any Ng ag cg ng gs X Y u.val hng (xg.below (below_tr' hb u.ok)) hlg)
          have d1 := later_cell c1
          have d2 := later_cell c2
          have d3 := later_cell g1
          have d4 := later_cell h0
          have d5 := later_cell h1
          have d6 := later_cell g0
          generalize hC : cntUpto (lackB gs) hs k = C at *
          clear hC
          cases hv : hasB gs X Y
          · rw [hv] at HE
            have HY := Lib.hid (HY.out (by simp [lackB, hv]))
            clear HN
            go_wp2
            refine wp_region_later (by kernel_rfl) (by kernel_rfl) ?_
            repeat (go_big_quiet_step ((go_at_call 81; exact calls_later _ (HE.out _))))
            refine wpQuiet_nil ?_
            intro w1 hw'
            have hb1 := below_tr' hb (later_below hw')
            clear hw' d1 d2 d3 d4 d5 d6
            go_wp2
            go_roundw
            case rel => exact ⟨k + 1, by omega, by go_num, by rw [HY.out]; go_num, hb1⟩
            case measure => simp [intOf]; omega
          · rw [hv] at HE
            have HN := Lib.hid (HN.out (by simp [lackB, hv]))
            clear HY
            go_wp2
            refine wp_region_later (by kernel_rfl) (by kernel_rfl) ?_
            repeat (go_big_quiet_step ((go_at_call 81; exact calls_later _ (HE.out _))))
            refine wpQuiet_nil ?_
            intro w1 hw'
            have hb1 := below_tr' hb (later_below hw')
            clear hw' d1 d2 d3 d4 d5 d6
            go_wp2
            go_roundw
            case rel => exact ⟨k + 1, by omega, by go_num, by rw [HN.out], hb1⟩
            case measure => simp [intOf]; omega
        · have HE2 := Lib.hid (cnt_all (lackB gs) hs k (by omega))
          have HD := Lib.hid (show C0 + cntUpto (lackB gs) hs k = diffB gs hs by rw [HE2.out, HE.out]; rfl)
          go_wp2
          go_ret
          exact ⟨ret_int (by rw [← HD.out]), below_tr' hB hb⟩

end Go.Proofs.Ytjghcegacgpehaa
