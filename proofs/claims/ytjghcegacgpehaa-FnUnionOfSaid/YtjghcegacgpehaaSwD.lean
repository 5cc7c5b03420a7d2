
/- The reference's dropEdge, maySwitch, switches and switched: what a drawn graph needs of them. (Printed by gen_swd.py.) -/
import Derived.Test.YtjghcegacgpehaaAddE
import Derived.Test.YtjghcegacgpehaaHasEdge
import Derived.Test.YtjghcegacgpehaaSwL
namespace Go.Proofs.Ytjghcegacgpehaa
open Go.RowKit

set_option maxHeartbeats 4000000 in
theorem specAddEdgeR_any (N : Int) (a : Option Addr) (c n : Nat) (es : List E2) (x y : Int) (w : World) (hn : es.length = n) (hx : Rd w a (edges es)) (hl : n ≤ 1048576) (hc : n ≤ c) (hcm : c ≤ 9223372036854775807) (hnil : a = none → n = 0 ∧ c = 0) (hform : ∀ ad, a = some ad → ∃ b off, ad = ⟨b, off, none⟩) (hxy : x < y) :
    Calls Try.prog 82 #[graphV N a n c, .int .i64 y, .int .i64 x] w fun e w' => ∃ a' c', e = .returned (graphV N a' (n + 1) c') ∧
      w'.ownsRow w.heap.size 48 2 (.slice a' (n + 1) c') (n + 1) (edges (insE es (x, y))) ∧ Below w.heap.size w w' := by
  have hB := below_tr' (below_alloc2 w (.cells #[.int .i64 N, .slice a n c] 25) (.cells #[.int .i64 0, .slice none 0 0] 25)) (below_alloc _ (.cells #[.int .i64 x, .int .i64 y] 48))
  have qg := blk_below (blk_below (heap_alloc_new w (.cells #[.int .i64 N, .slice a n c] 25)) (below_alloc _ (.cells #[.int .i64 0, .slice none 0 0] 25))) (below_alloc _ (.cells #[.int .i64 x, .int .i64 y] 48))
  have q1 := blk_below (heap_alloc_new (w.alloc (.cells #[.int .i64 N, .slice a n c] 25)) (.cells #[.int .i64 0, .slice none 0 0] 25)) (below_alloc _ (.cells #[.int .i64 x, .int .i64 y] 48))
  have qe := heap_alloc_new ((w.alloc (.cells #[.int .i64 N, .slice a n c] 25)).alloc (.cells #[.int .i64 0, .slice none 0 0] 25)) (.cells #[.int .i64 x, .int .i64 y] 48)
  rw [show (w.alloc (.cells #[.int .i64 N, .slice a n c] 25)).heap.size = w.heap.size + 1 from by simp] at q1
  rw [show ((w.alloc (.cells #[.int .i64 N, .slice a n c] 25)).alloc (.cells #[.int .i64 0, .slice none 0 0] 25)).heap.size = w.heap.size + 1 + 1 from by simp] at qe
  have hWs : w.heap.size + 1 + 1 < (((w.alloc (.cells #[.int .i64 N, .slice a n c] 25)).alloc (.cells #[.int .i64 0, .slice none 0 0] 25)).alloc (.cells #[.int .i64 x, .int .i64 y] 48)).heap.size := by simp
  generalize hW : ((w.alloc (.cells #[.int .i64 N, .slice a n c] 25)).alloc (.cells #[.int .i64 0, .slice none 0 0] 25)).alloc (.cells #[.int .i64 x, .int .i64 y] 48) = W at *
  have HW := Lib.hid hW
  clear hW
  have xg := hx.below hB
  clear hx
  go_enter Try.func82, Try.ntmps82
  go_wp2_with (simp only [HW.out])
  go_loopw [8] (fun i wr => ∃ k : Nat, k ≤ n ∧ i = .int .i64 k ∧ (∀ j (_ : j < k) (hj : j < es.length), belowE (es[j]'hj) (x, y) = true) ∧ Below W.heap.size W wr) (fun i _ => n - (intOf i).toNat)
  case atStart => exact ⟨0, by omega, rfl, by intro j hj; omega, Below.refl _ _⟩
  case round =>
    obtain ⟨k, hk, rfl, hall, hb⟩ := hrel
    have rg := blk_below qg hb
    have re := blk_below qe hb
    have d1 := later_cell (blk_cell rg 1 (.slice a n c) rfl)
    have d2 := later_cell (blk_cell re 0 (.int .i64 x) rfl)
    have d3 := later_cell (blk_cell re 1 (.int .i64 y) rfl)
    by_cases hlt : k < n
    · have hkl : k < es.length := by omega
      obtain ⟨b1, o1, e1, c1, c2⟩ := (xg.below hb).edge (k := k) hkl
      subst e1
      have HS := Lib.hid (insK_at (e := (x, y)) hall hkl)
      have hnx : belowE (es[k]'hkl) (x, y) = true → ∀ j (_ : j < k + 1) (hj : j < es.length), belowE (es[j]'hj) (x, y) = true := by
        intro h0 j hj h
        by_cases e : j = k
        · subst e; exact h0
        · exact hall j (by omega) h
      have HN := Lib.hid hnx
      clear hall hnx
      generalize hX : (es[k]'hkl) = X at *
      have HE := Lib.hid (fun u : Later wr => edgeBelow_any X (x, y) u.val)
      have d4 := later_cell c1
      have d5 := later_cell c2
      clear hX
      obtain ⟨X1, X2⟩ := X
      simp only at d4 d5
      cases hv : belowE (X1, X2) (x, y)
      · rw [hv] at HE
        have HS := Lib.hid (HS.out hv)
        clear HN
        go_wp2
        refine wp_region_later (by kernel_rfl) (by kernel_rfl) ?_
        repeat (go_big_quiet_step ((go_at_call 151; exact calls_later _ (HE.out _))))
        refine wpQuiet_nil ?_
        intro w1 hw'
        have hb1 := below_tr' hb (later_below hw')
        clear hw' d1 d2 d3 d4 d5
        have rg := blk_below (blk_below qg hb1) (below_alloc w1 (.cells #[] 48))
        have hoV : (w1.alloc (.cells #[] 48)).ownsRow W.heap.size 48 2 (.slice (some ⟨w1.heap.size, 0, none⟩) 0 0) 0 (edges []) := own_mono (World.ownsRow_made w1 #[] 0 (Nat.le_refl _) (by decide) rfl) hb1.size
        have hbV := below_tr' hb1 (below_alloc w1 (.cells #[] 48))
        generalize hV : w1.alloc (.cells #[] 48) = V at *
        have HV := Lib.hid hV
        have hVs := hbV.size
        have hkk : k ≤ n := hk
        have g1 := blk_cell rg 1 (.slice (some ⟨b1, o1, none⟩) n c) rfl
        have hlk : (es.take k).length = k := by rw [List.length_take]; omega
        have hrt := (xg.below hbV).take k
        clear hV
        go_wp2_with (first | simp only [HV.out] | (at_builtin; refine appendAll Try.infoE _ _ rfl rfl (m := k) hoV hrt (by rw [edges_length, hlk]) (edges_one _) (by intro h; first | (cases h; done) | exact ⟨by omega, rfl⟩) hbV (Nat.le_refl _) hVs rfl rfl (by omega) ?_; intro a2 c2 w2 ho2 hb2))
        have ho2 : w2.ownsRow W.heap.size 48 2 (.slice a2 k c2) k (edges (es.take k)) := by have h := ho2; rw [Nat.zero_add] at h; exact h
        try simp only [Nat.zero_add]
        have d1 := later_cell (blk_cell qg 0 (.int .i64 N) rfl)
        have d2 := later_cell (blk_cell qg 1 (.slice (some ⟨b1, o1, none⟩) n c) rfl)
        have d3 := later_cell (blk_cell qe 0 (.int .i64 x) rfl)
        have d4 := later_cell (blk_cell qe 1 (.int .i64 y) rfl)
        have hw2s := hb2.size
        refine wp_region_flags [true, true, true, true, false, false, true, true, true, true, false, false, false] 12 (C := fun w' => ∃ u : Later W, w' = u.val) (by kernel_rfl) (by kernel_rfl) ⟨⟨_, bel_drew hb2⟩, rfl⟩ ?_
        simp only [pickT, pickF]
        repeat (go_big_quiet_step (fail))
        refine wpQuiet_nil ?_
        refine tail_step fun K hK => ?_
        go_wp2
        refine hK _ _ ⟨⟨_, bel_drew (hb2.alloc hw2s _)⟩, rfl⟩ ?_
        clear hK d1 d2 d3 d4
        refine tail_step fun K2 hK2 => ?_
        change wpList _ _ _ _ _ (w2.drew.alloc (.cells #[.int .i64 x, .int .i64 y] 48))
        refine append1 Try.infoE _ _ rfl rfl ho2.drew (bel_drew hb2) (Nat.le_refl _) hw2s rfl rfl rfl (by intro u hu; simp at hu; rcases hu with rfl | rfl <;> rfl) (by omega) ?_
        intro a3 c3 w3 ho3 hb3
        refine wpList_nil ⟨rfl, hK2 _ _ ⟨⟨_, hb3⟩, rfl⟩ ?_⟩
        clear hK2
        have hdl : (es.drop k).length = (n - k) := by rw [List.length_drop, hn]
        refine tail_step fun K3 hK3 => ?_
        refine appendAll Try.infoE _ _ rfl rfl (m := (n - k)) (b := (some ⟨b1, o1 + k * 2, none⟩)) (ys := edges (es.drop k)) ho3 (by first | exact (xg.below hb3).drop k | (rw [List.drop_of_length_le (by omega)]; exact Rd.nil _ _)) (by rw [edges_length, hdl]) (edges_one _) (by intro h; first | (cases h; done) | exact ⟨by omega, rfl⟩) hb3 (Nat.le_refl _) hb3.size rfl rfl (by omega) ?_
        intro a4 c4 w4 ho4 hb4
        refine wpList_nil ⟨rfl, hK3 _ _ ⟨⟨_, hb4⟩, rfl⟩ ?_⟩
        clear hK3
        have e9 : k + 1 + (n - k) = n + 1 := by omega
        rw [e9] at ho4
        simp only [e9]
        have hIns : edges (es.take k) ++ [Value.int .i64 x, Value.int .i64 y] ++ edges (es.drop k) = edges (insE es (x, y)) := by
          rw [insE, HS.out, edges_append, edges_cons, List.append_assoc]; rfl
        have ho5 : w4.ownsRow W.heap.size 48 2 (.slice a4 (n + 1) c4) (n + 1) (edges (insE es (x, y))) := by rw [← hIns]; exact ho4
        refine tail_step fun K4 hK4 => ?_
        go_wp2
        refine hK4 _ _ ⟨⟨_, hb4⟩, rfl⟩ ?_
        clear hK4
        refine tail_last fun K5 hK5 => ?_
        have r1 := blk_below q1 hb4
        have z0 := blk_cell r1 0 (.int .i64 0) rfl
        have z1 := blk_cell r1 1 (.slice none 0 0) rfl
        have f0 := blk_free r1 0
        have f1 := blk_free r1 1
        have ho6 := own_mono ho5 hB.size
        have sO := own_setOther (own_setOther ho6 (w.heap.size + 1) 0 (.int .i64 N) (own_ne ho6 r1 (by decide))) (w.heap.size + 1) 1 (.slice a4 (n + 1) c4) (own_ne ho6 r1 (by decide))
        have sB := ((below_tr' hB hb4).setCell (p := ⟨w.heap.size + 1, 0, none⟩) (by simp) (.int .i64 N)).setCell (p := ⟨w.heap.size + 1, 1, none⟩) (by simp) (.slice a4 (n + 1) c4)
        have SO := Lib.hid sO
        have SB := Lib.hid sB
        clear sO sB ho4 ho5 ho6 hIns
        go_wp2
        refine bodyPost_ret (v := graphV N a4 (n + 1) c4) (by simp [results, Try.results82, go_sem, z0, z1]) rfl ⟨a4, c4, rfl, SO.out, SB.out⟩
      · rw [hv] at HE
        have HN := Lib.hid (HN.out hv)
        clear HS
        go_wp2
        refine wp_region_later (by kernel_rfl) (by kernel_rfl) ?_
        repeat (go_big_quiet_step ((go_at_call 151; exact calls_later _ (HE.out _))))
        refine wpQuiet_nil ?_
        intro w1 hw'
        have hb1 := below_tr' hb (later_below hw')
        clear hw' d1 d2 d3 d4 d5
        go_wp2
        go_roundw
        case rel => exact ⟨k + 1, by omega, by go_num, HN.out, hb1⟩
        case measure => simp [intOf]; omega
    · have HS := Lib.hid (insK_end (e := (x, y)) hall (by omega))
      clear hall
      rcases a with _ | ad
      · obtain ⟨rfl, rfl⟩ := hnil rfl
        obtain rfl : k = 0 := by omega
        go_wp2
        refine wp_region_later (by kernel_rfl) (by kernel_rfl) ?_
        repeat (go_big_quiet_step (fail))
        refine wpQuiet_nil ?_
        intro w1 hw'
        have hb1 := below_tr' hb (later_below hw')
        clear hw' d1 d2 d3
        have rg := blk_below (blk_below qg hb1) (below_alloc w1 (.cells #[] 48))
        have hoV : (w1.alloc (.cells #[] 48)).ownsRow W.heap.size 48 2 (.slice (some ⟨w1.heap.size, 0, none⟩) 0 0) 0 (edges []) := own_mono (World.ownsRow_made w1 #[] 0 (Nat.le_refl _) (by decide) rfl) hb1.size
        have hbV := below_tr' hb1 (below_alloc w1 (.cells #[] 48))
        generalize hV : w1.alloc (.cells #[] 48) = V at *
        have HV := Lib.hid hV
        have hVs := hbV.size
        have hkk : 0 ≤ 0 := hk
        have g1 := blk_cell rg 1 (.slice none 0 0) rfl
        have hlk : (es.take 0).length = 0 := by rw [List.length_take]; omega
        have hrt := (xg.below hbV).take 0
        clear hV
        go_wp2_with (first | simp only [HV.out] | (at_builtin; refine appendAll Try.infoE _ _ rfl rfl (m := 0) hoV hrt (by rw [edges_length, hlk]) (edges_one _) (by intro h; first | (cases h; done) | exact ⟨by omega, rfl⟩) hbV (Nat.le_refl _) hVs rfl rfl (by omega) ?_; intro a2 c2 w2 ho2 hb2))
        have ho2 : w2.ownsRow W.heap.size 48 2 (.slice a2 0 c2) 0 (edges (es.take 0)) := by have h := ho2; rw [Nat.zero_add] at h; exact h
        try simp only [Nat.zero_add]
        have d1 := later_cell (blk_cell qg 0 (.int .i64 N) rfl)
        have d2 := later_cell (blk_cell qg 1 (.slice none 0 0) rfl)
        have d3 := later_cell (blk_cell qe 0 (.int .i64 x) rfl)
        have d4 := later_cell (blk_cell qe 1 (.int .i64 y) rfl)
        have hw2s := hb2.size
        refine wp_region_flags [true, true, true, true, false, false, true, true, true, true, false, false, false] 12 (C := fun w' => ∃ u : Later W, w' = u.val) (by kernel_rfl) (by kernel_rfl) ⟨⟨_, bel_drew hb2⟩, rfl⟩ ?_
        simp only [pickT, pickF]
        repeat (go_big_quiet_step (fail))
        refine wpQuiet_nil ?_
        refine tail_step fun K hK => ?_
        go_wp2
        refine hK _ _ ⟨⟨_, bel_drew (hb2.alloc hw2s _)⟩, rfl⟩ ?_
        clear hK d1 d2 d3 d4
        refine tail_step fun K2 hK2 => ?_
        change wpList _ _ _ _ _ (w2.drew.alloc (.cells #[.int .i64 x, .int .i64 y] 48))
        refine append1 Try.infoE _ _ rfl rfl ho2.drew (bel_drew hb2) (Nat.le_refl _) hw2s rfl rfl rfl (by intro u hu; simp at hu; rcases hu with rfl | rfl <;> rfl) (by omega) ?_
        intro a3 c3 w3 ho3 hb3
        refine wpList_nil ⟨rfl, hK2 _ _ ⟨⟨_, hb3⟩, rfl⟩ ?_⟩
        clear hK2
        have hdl : (es.drop 0).length = (0 - 0) := by rw [List.length_drop, hn]
        refine tail_step fun K3 hK3 => ?_
        refine appendAll Try.infoE _ _ rfl rfl (m := (0 - 0)) (b := none) (ys := edges (es.drop 0)) ho3 (by first | exact (xg.below hb3).drop 0 | (rw [List.drop_of_length_le (by omega)]; exact Rd.nil _ _)) (by rw [edges_length, hdl]) (edges_one _) (by intro h; first | (cases h; done) | exact ⟨by omega, rfl⟩) hb3 (Nat.le_refl _) hb3.size rfl rfl (by omega) ?_
        intro a4 c4 w4 ho4 hb4
        refine wpList_nil ⟨rfl, hK3 _ _ ⟨⟨_, hb4⟩, rfl⟩ ?_⟩
        clear hK3
        have e9 : 0 + 1 + (0 - 0) = 0 + 1 := by omega
        rw [e9] at ho4
        simp only [e9]
        have hIns : edges (es.take 0) ++ [Value.int .i64 x, Value.int .i64 y] ++ edges (es.drop 0) = edges (insE es (x, y)) := by
          rw [insE, HS.out, edges_append, edges_cons, List.append_assoc]; rfl
        have ho5 : w4.ownsRow W.heap.size 48 2 (.slice a4 (0 + 1) c4) (0 + 1) (edges (insE es (x, y))) := by rw [← hIns]; exact ho4
        refine tail_step fun K4 hK4 => ?_
        go_wp2
        refine hK4 _ _ ⟨⟨_, hb4⟩, rfl⟩ ?_
        clear hK4
        refine tail_last fun K5 hK5 => ?_
        have r1 := blk_below q1 hb4
        have z0 := blk_cell r1 0 (.int .i64 0) rfl
        have z1 := blk_cell r1 1 (.slice none 0 0) rfl
        have f0 := blk_free r1 0
        have f1 := blk_free r1 1
        have ho6 := own_mono ho5 hB.size
        have sO := own_setOther (own_setOther ho6 (w.heap.size + 1) 0 (.int .i64 N) (own_ne ho6 r1 (by decide))) (w.heap.size + 1) 1 (.slice a4 (0 + 1) c4) (own_ne ho6 r1 (by decide))
        have sB := ((below_tr' hB hb4).setCell (p := ⟨w.heap.size + 1, 0, none⟩) (by simp) (.int .i64 N)).setCell (p := ⟨w.heap.size + 1, 1, none⟩) (by simp) (.slice a4 (0 + 1) c4)
        have SO := Lib.hid sO
        have SB := Lib.hid sB
        clear sO sB ho4 ho5 ho6 hIns
        go_wp2
        refine bodyPost_ret (v := graphV N a4 (0 + 1) c4) (by simp [results, Try.results82, go_sem, z0, z1]) rfl ⟨a4, c4, rfl, SO.out, SB.out⟩
      · obtain ⟨b1, o1, rfl⟩ := hform _ rfl
        by_cases hck : k < c
        · go_wp2
          refine wp_region_later (by kernel_rfl) (by kernel_rfl) ?_
          repeat (go_big_quiet_step (fail))
          refine wpQuiet_nil ?_
          intro w1 hw'
          have hb1 := below_tr' hb (later_below hw')
          clear hw' d1 d2 d3
          have rg := blk_below (blk_below qg hb1) (below_alloc w1 (.cells #[] 48))
          have hoV : (w1.alloc (.cells #[] 48)).ownsRow W.heap.size 48 2 (.slice (some ⟨w1.heap.size, 0, none⟩) 0 0) 0 (edges []) := own_mono (World.ownsRow_made w1 #[] 0 (Nat.le_refl _) (by decide) rfl) hb1.size
          have hbV := below_tr' hb1 (below_alloc w1 (.cells #[] 48))
          generalize hV : w1.alloc (.cells #[] 48) = V at *
          have HV := Lib.hid hV
          have hVs := hbV.size
          have hkk : k ≤ n := hk
          have g1 := blk_cell rg 1 (.slice (some ⟨b1, o1, none⟩) n c) rfl
          have hlk : (es.take k).length = k := by rw [List.length_take]; omega
          have hrt := (xg.below hbV).take k
          clear hV
          go_wp2_with (first | simp only [HV.out] | (at_builtin; refine appendAll Try.infoE _ _ rfl rfl (m := k) hoV hrt (by rw [edges_length, hlk]) (edges_one _) (by intro h; first | (cases h; done) | exact ⟨by omega, rfl⟩) hbV (Nat.le_refl _) hVs rfl rfl (by omega) ?_; intro a2 c2 w2 ho2 hb2))
          have ho2 : w2.ownsRow W.heap.size 48 2 (.slice a2 k c2) k (edges (es.take k)) := by have h := ho2; rw [Nat.zero_add] at h; exact h
          try simp only [Nat.zero_add]
          have d1 := later_cell (blk_cell qg 0 (.int .i64 N) rfl)
          have d2 := later_cell (blk_cell qg 1 (.slice (some ⟨b1, o1, none⟩) n c) rfl)
          have d3 := later_cell (blk_cell qe 0 (.int .i64 x) rfl)
          have d4 := later_cell (blk_cell qe 1 (.int .i64 y) rfl)
          have hw2s := hb2.size
          refine wp_region_flags [true, true, true, true, false, false, true, true, true, true, false, false, false] 12 (C := fun w' => ∃ u : Later W, w' = u.val) (by kernel_rfl) (by kernel_rfl) ⟨⟨_, bel_drew hb2⟩, rfl⟩ ?_
          simp only [pickT, pickF]
          repeat (go_big_quiet_step (fail))
          refine wpQuiet_nil ?_
          refine tail_step fun K hK => ?_
          go_wp2
          refine hK _ _ ⟨⟨_, bel_drew (hb2.alloc hw2s _)⟩, rfl⟩ ?_
          clear hK d1 d2 d3 d4
          refine tail_step fun K2 hK2 => ?_
          change wpList _ _ _ _ _ (w2.drew.alloc (.cells #[.int .i64 x, .int .i64 y] 48))
          refine append1 Try.infoE _ _ rfl rfl ho2.drew (bel_drew hb2) (Nat.le_refl _) hw2s rfl rfl rfl (by intro u hu; simp at hu; rcases hu with rfl | rfl <;> rfl) (by omega) ?_
          intro a3 c3 w3 ho3 hb3
          refine wpList_nil ⟨rfl, hK2 _ _ ⟨⟨_, hb3⟩, rfl⟩ ?_⟩
          clear hK2
          have hdl : (es.drop k).length = (n - k) := by rw [List.length_drop, hn]
          refine tail_step fun K3 hK3 => ?_
          refine appendAll Try.infoE _ _ rfl rfl (m := (n - k)) (b := (some ⟨b1, o1 + k * 2, none⟩)) (ys := edges (es.drop k)) ho3 (by first | exact (xg.below hb3).drop k | (rw [List.drop_of_length_le (by omega)]; exact Rd.nil _ _)) (by rw [edges_length, hdl]) (edges_one _) (by intro h; first | (cases h; done) | exact ⟨by omega, rfl⟩) hb3 (Nat.le_refl _) hb3.size rfl rfl (by omega) ?_
          intro a4 c4 w4 ho4 hb4
          refine wpList_nil ⟨rfl, hK3 _ _ ⟨⟨_, hb4⟩, rfl⟩ ?_⟩
          clear hK3
          have e9 : k + 1 + (n - k) = n + 1 := by omega
          rw [e9] at ho4
          simp only [e9]
          have hIns : edges (es.take k) ++ [Value.int .i64 x, Value.int .i64 y] ++ edges (es.drop k) = edges (insE es (x, y)) := by
            rw [insE, HS.out, edges_append, edges_cons, List.append_assoc]; rfl
          have ho5 : w4.ownsRow W.heap.size 48 2 (.slice a4 (n + 1) c4) (n + 1) (edges (insE es (x, y))) := by rw [← hIns]; exact ho4
          refine tail_step fun K4 hK4 => ?_
          go_wp2
          refine hK4 _ _ ⟨⟨_, hb4⟩, rfl⟩ ?_
          clear hK4
          refine tail_last fun K5 hK5 => ?_
          have r1 := blk_below q1 hb4
          have z0 := blk_cell r1 0 (.int .i64 0) rfl
          have z1 := blk_cell r1 1 (.slice none 0 0) rfl
          have f0 := blk_free r1 0
          have f1 := blk_free r1 1
          have ho6 := own_mono ho5 hB.size
          have sO := own_setOther (own_setOther ho6 (w.heap.size + 1) 0 (.int .i64 N) (own_ne ho6 r1 (by decide))) (w.heap.size + 1) 1 (.slice a4 (n + 1) c4) (own_ne ho6 r1 (by decide))
          have sB := ((below_tr' hB hb4).setCell (p := ⟨w.heap.size + 1, 0, none⟩) (by simp) (.int .i64 N)).setCell (p := ⟨w.heap.size + 1, 1, none⟩) (by simp) (.slice a4 (n + 1) c4)
          have SO := Lib.hid sO
          have SB := Lib.hid sB
          clear sO sB ho4 ho5 ho6 hIns
          go_wp2
          refine bodyPost_ret (v := graphV N a4 (n + 1) c4) (by simp [results, Try.results82, go_sem, z0, z1]) rfl ⟨a4, c4, rfl, SO.out, SB.out⟩
        · obtain rfl : k = c := by omega
          go_wp2
          refine wp_region_later (by kernel_rfl) (by kernel_rfl) ?_
          repeat (go_big_quiet_step (fail))
          refine wpQuiet_nil ?_
          intro w1 hw'
          have hb1 := below_tr' hb (later_below hw')
          clear hw' d1 d2 d3
          have rg := blk_below (blk_below qg hb1) (below_alloc w1 (.cells #[] 48))
          have hoV : (w1.alloc (.cells #[] 48)).ownsRow W.heap.size 48 2 (.slice (some ⟨w1.heap.size, 0, none⟩) 0 0) 0 (edges []) := own_mono (World.ownsRow_made w1 #[] 0 (Nat.le_refl _) (by decide) rfl) hb1.size
          have hbV := below_tr' hb1 (below_alloc w1 (.cells #[] 48))
          generalize hV : w1.alloc (.cells #[] 48) = V at *
          have HV := Lib.hid hV
          have hVs := hbV.size
          have hkk : k ≤ n := hk
          have g1 := blk_cell rg 1 (.slice (some ⟨b1, o1, none⟩) n k) rfl
          have hlk : (es.take k).length = k := by rw [List.length_take]; omega
          have hrt := (xg.below hbV).take k
          clear hV
          go_wp2_with (first | simp only [HV.out] | (at_builtin; refine appendAll Try.infoE _ _ rfl rfl (m := k) hoV hrt (by rw [edges_length, hlk]) (edges_one _) (by intro h; first | (cases h; done) | exact ⟨by omega, rfl⟩) hbV (Nat.le_refl _) hVs rfl rfl (by omega) ?_; intro a2 c2 w2 ho2 hb2))
          have ho2 : w2.ownsRow W.heap.size 48 2 (.slice a2 k c2) k (edges (es.take k)) := by have h := ho2; rw [Nat.zero_add] at h; exact h
          try simp only [Nat.zero_add]
          have d1 := later_cell (blk_cell qg 0 (.int .i64 N) rfl)
          have d2 := later_cell (blk_cell qg 1 (.slice (some ⟨b1, o1, none⟩) n k) rfl)
          have d3 := later_cell (blk_cell qe 0 (.int .i64 x) rfl)
          have d4 := later_cell (blk_cell qe 1 (.int .i64 y) rfl)
          have hw2s := hb2.size
          refine wp_region_flags [true, true, true, true, false, false, true, true, true, true, false, false, false] 12 (C := fun w' => ∃ u : Later W, w' = u.val) (by kernel_rfl) (by kernel_rfl) ⟨⟨_, bel_drew hb2⟩, rfl⟩ ?_
          simp only [pickT, pickF]
          repeat (go_big_quiet_step (fail))
          refine wpQuiet_nil ?_
          refine tail_step fun K hK => ?_
          go_wp2
          refine hK _ _ ⟨⟨_, bel_drew (hb2.alloc hw2s _)⟩, rfl⟩ ?_
          clear hK d1 d2 d3 d4
          refine tail_step fun K2 hK2 => ?_
          change wpList _ _ _ _ _ (w2.drew.alloc (.cells #[.int .i64 x, .int .i64 y] 48))
          refine append1 Try.infoE _ _ rfl rfl ho2.drew (bel_drew hb2) (Nat.le_refl _) hw2s rfl rfl rfl (by intro u hu; simp at hu; rcases hu with rfl | rfl <;> rfl) (by omega) ?_
          intro a3 c3 w3 ho3 hb3
          refine wpList_nil ⟨rfl, hK2 _ _ ⟨⟨_, hb3⟩, rfl⟩ ?_⟩
          clear hK2
          have hdl : (es.drop k).length = 0 := by rw [List.length_drop, hn]; omega
          refine tail_step fun K3 hK3 => ?_
          refine appendAll Try.infoE _ _ rfl rfl (m := 0) (b := (some ⟨b1, o1, none⟩)) (ys := edges (es.drop k)) ho3 (by first | exact (xg.below hb3).drop k | (rw [List.drop_of_length_le (by omega)]; exact Rd.nil _ _)) (by rw [edges_length, hdl]) (edges_one _) (by intro h; first | (cases h; done) | exact ⟨by omega, rfl⟩) hb3 (Nat.le_refl _) hb3.size rfl rfl (by omega) ?_
          intro a4 c4 w4 ho4 hb4
          refine wpList_nil ⟨rfl, hK3 _ _ ⟨⟨_, hb4⟩, rfl⟩ ?_⟩
          clear hK3
          have e9 : k + 1 + 0 = n + 1 := by omega
          rw [e9] at ho4
          simp only [e9]
          have hIns : edges (es.take k) ++ [Value.int .i64 x, Value.int .i64 y] ++ edges (es.drop k) = edges (insE es (x, y)) := by
            rw [insE, HS.out, edges_append, edges_cons, List.append_assoc]; rfl
          have ho5 : w4.ownsRow W.heap.size 48 2 (.slice a4 (n + 1) c4) (n + 1) (edges (insE es (x, y))) := by rw [← hIns]; exact ho4
          refine tail_step fun K4 hK4 => ?_
          go_wp2
          refine hK4 _ _ ⟨⟨_, hb4⟩, rfl⟩ ?_
          clear hK4
          refine tail_last fun K5 hK5 => ?_
          have r1 := blk_below q1 hb4
          have z0 := blk_cell r1 0 (.int .i64 0) rfl
          have z1 := blk_cell r1 1 (.slice none 0 0) rfl
          have f0 := blk_free r1 0
          have f1 := blk_free r1 1
          have ho6 := own_mono ho5 hB.size
          have sO := own_setOther (own_setOther ho6 (w.heap.size + 1) 0 (.int .i64 N) (own_ne ho6 r1 (by decide))) (w.heap.size + 1) 1 (.slice a4 (n + 1) c4) (own_ne ho6 r1 (by decide))
          have sB := ((below_tr' hB hb4).setCell (p := ⟨w.heap.size + 1, 0, none⟩) (by simp) (.int .i64 N)).setCell (p := ⟨w.heap.size + 1, 1, none⟩) (by simp) (.slice a4 (n + 1) c4)
          have SO := Lib.hid sO
          have SB := Lib.hid sB
          clear sO sB ho4 ho5 ho6 hIns
          go_wp2
          refine bodyPost_ret (v := graphV N a4 (n + 1) c4) (by simp [results, Try.results82, go_sem, z0, z1]) rfl ⟨a4, c4, rfl, SO.out, SB.out⟩

theorem own_formD {w : World} {B T s n c : Nat} {a : Option Addr} {cs : List Value} (h : w.ownsRow B T s (.slice a n c) n cs) : n ≤ c ∧ c ≤ 9223372036854775807 ∧ (a = none → n = 0 ∧ c = 0) ∧ ∀ ad, a = some ad → ∃ b off, ad = ⟨b, off, none⟩ := by
  have hm : maxLen ≤ 9223372036854775807 := by decide
  rcases h.2 with ⟨h1, h2⟩ | ⟨g, cap, cur, h1, hB, hg, hn, hc, _⟩
  · cases h1
    exact ⟨by omega, by decide, (fun _ => ⟨rfl, rfl⟩), (fun ad h => by cases h)⟩
  · cases h1
    exact ⟨hn, Nat.le_trans hc hm, (fun h => by cases h), (fun ad h => by cases h; exact ⟨_, _, rfl⟩)⟩

/-- addEdge of two vertices that differ. -/
theorem addEdge_some (N : Int) (a : Option Addr) (c n B : Nat) (es : List E2) (x y : Int) (w : World) (ho : w.ownsRow B 48 2 (.slice a n c) n (edges es)) (hl : n ≤ 1048576) (hxy : x ≠ y) :
    Calls Try.prog 82 #[graphV N a n c, .int .i64 x, .int .i64 y] w fun e w' => ∃ F a' c', e = .returned (graphV N a' (n + 1) c') ∧ w'.ownsRow w.heap.size 48 2 (.slice a' (n + 1) c') (n + 1) (edges F) ∧ Below w.heap.size w w' := by
  have hn : es.length = n := own_edgeLen ho
  obtain ⟨f1, f2, f3, f4⟩ := own_formD ho
  rcases Int.lt_or_le x y with h | h
  · refine (specAddEdge_any N a c n es x y w hn (own_rd ho) hl f1 f2 f3 f4 h).mono ?_
    rintro e w' ⟨a', c', rfl, h1, h2⟩
    exact ⟨_, a', c', rfl, h1, h2⟩
  · refine (specAddEdgeR_any N a c n es y x w hn (own_rd ho) hl f1 f2 f3 f4 (by omega)).mono ?_
    rintro e w' ⟨a', c', rfl, h1, h2⟩
    exact ⟨_, a', c', rfl, h1, h2⟩

/-- An edge is appended, and the row stored into the graph. -/
theorem drop_keep {w V w4 : World} {N X Y : Int} {av a a' : Option Addr} {kv cv c n c' : Nat} {F : List E2} (ho : V.ownsRow w.heap.size 48 2 (.slice av kv cv) kv (edges F)) (qh : V.heap[w.heap.size + 1 + 1 + 1]? = some (.cells #[.int .i64 N, .slice av kv cv] 25 (0, 0)))
    (qr : V.heap[w.heap.size + 1]? = some (.cells #[.int .i64 0, .slice none 0 0] 25 (0, 0))) (qg : V.heap[w.heap.size]? = some (.cells #[.int .i64 N, .slice a n c] 25 (0, 0))) (hB : Below w.heap.size w V) (hg : V.grownBy w4 (Value.slice av kv cv).ownBlock)
    (h4 : w4.ownsRow w.heap.size 48 2 (.slice a' (kv + 1) c') (kv + 1) (edges F ++ [.int .i64 X, .int .i64 Y])) :
    (w4.setCell ⟨w.heap.size + 1 + 1 + 1, 1, none⟩ (.slice a' (kv + 1) c')).ownsRow w.heap.size 48 2 (.slice a' (kv + 1) c') (kv + 1) (edges (F ++ [(X, Y)])) ∧
    (w4.setCell ⟨w.heap.size + 1 + 1 + 1, 1, none⟩ (.slice a' (kv + 1) c')).heap[w.heap.size + 1 + 1 + 1]? = some (.cells #[.int .i64 N, .slice a' (kv + 1) c'] 25 (0, 0)) ∧
    (w4.setCell ⟨w.heap.size + 1 + 1 + 1, 1, none⟩ (.slice a' (kv + 1) c')).heap[w.heap.size + 1]? = some (.cells #[.int .i64 0, .slice none 0 0] 25 (0, 0)) ∧
    (w4.setCell ⟨w.heap.size + 1 + 1 + 1, 1, none⟩ (.slice a' (kv + 1) c')).heap[w.heap.size]? = some (.cells #[.int .i64 N, .slice a n c] 25 (0, 0)) ∧
    Below w.heap.size w (w4.setCell ⟨w.heap.size + 1 + 1 + 1, 1, none⟩ (.slice a' (kv + 1) c')) := by
  have q1 := blk_grown qh hg (own_ne ho qh (by decide))
  have q2 := blk_grown qr hg (own_ne ho qr (by decide))
  have q3 := blk_grown qg hg (own_ne ho qg (by decide))
  have hb := below_row hB (Nat.le_refl _) ho hg
  have h5 : w4.ownsRow w.heap.size 48 2 (.slice a' (kv + 1) c') (kv + 1) (edges (F ++ [(X, Y)])) := by rw [edges_append]; exact h4
  exact ⟨own_setOther h5 _ 1 _ (own_ne h5 q1 (by decide)), blk_set q1 1 _, blk_set_other q2 1 _ (g := w.heap.size + 1 + 1 + 1) (by omega), blk_set_other q3 1 _ (g := w.heap.size + 1 + 1 + 1) (by omega), hb.setCell (p := ⟨w.heap.size + 1 + 1 + 1, 1, none⟩) (by simp; omega) _⟩

set_option maxHeartbeats 4000000 in
theorem dropEdge_any (N : Int) (a : Option Addr) (c n : Nat) (es : List E2) (x y : Int) (w : World) (hn : es.length = n) (hx : Rd w a (edges es)) (hl : n ≤ 1048576) :
    Calls Try.prog 190 #[graphV N a n c, .int .i64 x, .int .i64 y] w fun e w' => ∃ F a' m c', e = .returned (graphV N a' m c') ∧ m ≤ n ∧ w'.ownsRow w.heap.size 48 2 (.slice a' m c') m (edges F) ∧ Below w.heap.size w w' := by
  rcases Int.lt_or_le y x with hyx | hyx
  ·
    have hB := below_tr' (below_tr' (below_alloc2 w (.cells #[.int .i64 N, .slice a n c] 25) (.cells #[.int .i64 0, .slice none 0 0] 25)) (below_alloc ((w.alloc (.cells #[.int .i64 N, .slice a n c] 25)).alloc (.cells #[.int .i64 0, .slice none 0 0] 25)) (.cells #[] 48))) (below_alloc (((w.alloc (.cells #[.int .i64 N, .slice a n c] 25)).alloc (.cells #[.int .i64 0, .slice none 0 0] 25)).alloc (.cells #[] 48)) (.cells #[.int .i64 N, .slice (some ⟨w.heap.size + 1 + 1, 0, none⟩) 0 0] 25))
    have qg := blk_below (blk_below (blk_below (heap_alloc_new w (.cells #[.int .i64 N, .slice a n c] 25)) (below_alloc _ (.cells #[.int .i64 0, .slice none 0 0] 25))) (below_alloc _ (.cells #[] 48))) (below_alloc _ (.cells #[.int .i64 N, .slice (some ⟨w.heap.size + 1 + 1, 0, none⟩) 0 0] 25))
    have qr := blk_below (blk_below (heap_alloc_new (w.alloc (.cells #[.int .i64 N, .slice a n c] 25)) (.cells #[.int .i64 0, .slice none 0 0] 25)) (below_alloc _ (.cells #[] 48))) (below_alloc _ (.cells #[.int .i64 N, .slice (some ⟨w.heap.size + 1 + 1, 0, none⟩) 0 0] 25))
    have qh := heap_alloc_new (((w.alloc (.cells #[.int .i64 N, .slice a n c] 25)).alloc (.cells #[.int .i64 0, .slice none 0 0] 25)).alloc (.cells #[] 48)) (.cells #[.int .i64 N, .slice (some ⟨w.heap.size + 1 + 1, 0, none⟩) 0 0] 25)
    rw [show (w.alloc (.cells #[.int .i64 N, .slice a n c] 25)).heap.size = w.heap.size + 1 from by simp] at qr
    rw [show (((w.alloc (.cells #[.int .i64 N, .slice a n c] 25)).alloc (.cells #[.int .i64 0, .slice none 0 0] 25)).alloc (.cells #[] 48)).heap.size = w.heap.size + 1 + 1 + 1 from by simp] at qh
    have ho0 := World.ownsRow_made (base := w.heap.size) (e := 48) (size := 2) ((w.alloc (.cells #[.int .i64 N, .slice a n c] 25)).alloc (.cells #[.int .i64 0, .slice none 0 0] 25)) #[] 0 (by simp; omega) (by decide) rfl
    rw [show ((w.alloc (.cells #[.int .i64 N, .slice a n c] 25)).alloc (.cells #[.int .i64 0, .slice none 0 0] 25)).heap.size = w.heap.size + 1 + 1 from by simp] at ho0
    have ho0 := own_below ho0 (below_alloc _ (.cells #[.int .i64 N, .slice (some ⟨w.heap.size + 1 + 1, 0, none⟩) 0 0] 25))
    have hWs : ((((w.alloc (.cells #[.int .i64 N, .slice a n c] 25)).alloc (.cells #[.int .i64 0, .slice none 0 0] 25)).alloc (.cells #[] 48)).alloc (.cells #[.int .i64 N, .slice (some ⟨w.heap.size + 1 + 1, 0, none⟩) 0 0] 25)).heap.size = w.heap.size + 4 := by simp
    generalize hW : ((((w.alloc (.cells #[.int .i64 N, .slice a n c] 25)).alloc (.cells #[.int .i64 0, .slice none 0 0] 25)).alloc (.cells #[] 48)).alloc (.cells #[.int .i64 N, .slice (some ⟨w.heap.size + 1 + 1, 0, none⟩) 0 0] 25)) = W at *
    have HW := Lib.hid hW
    have HX := Lib.hid hx
    clear hW hx
    go_enter Try.func190, Try.ntmps190
    go_wp2_with (simp only [HW.out])
    go_loopw [8, 9] (fun i _ wr => ∃ (k : Nat) (av : Option Addr) (kv cv : Nat) (F : List E2), k ≤ n ∧ i = .int .i64 k ∧ F.length = kv ∧ kv ≤ k ∧ wr.ownsRow w.heap.size 48 2 (.slice av kv cv) kv (edges F) ∧ wr.heap[w.heap.size + 1 + 1 + 1]? = some (.cells #[.int .i64 N, .slice av kv cv] 25 (0, 0)) ∧
      wr.heap[w.heap.size + 1]? = some (.cells #[.int .i64 0, .slice none 0 0] 25 (0, 0)) ∧ wr.heap[w.heap.size]? = some (.cells #[.int .i64 N, .slice a n c] 25 (0, 0)) ∧ Below w.heap.size w wr) (fun i _ _ => n - (intOf i).toNat)
    case atStart => exact ⟨0, _, 0, 0, [], by omega, rfl, rfl, by omega, ho0, qh, qr, qg, hB⟩
    case round =>
      clear ho0 qh qr qg hB hWs
      obtain ⟨k, av, kv, cv, F, hk, rfl, hF, hkv, ho, qh, qr, qg, hB⟩ := hrel
      have HF := Lib.hid hF
      clear hF
      have g1 := blk_cell qg 1 (.slice a n c) rfl
      by_cases hlt : k < n
      · obtain ⟨b1, o1, rfl, c1, c2⟩ := (HX.out.below hB).edge (k := k) (by omega)
        generalize (es[k]'(by omega)) = XY at *
        obtain ⟨X, Y⟩ := XY
        simp only at c1 c2
        have hA := below_alloc wr (.cells #[.int .i64 X, .int .i64 Y] 48)
        have qe := heap_alloc_new wr (.cells #[.int .i64 X, .int .i64 Y] 48)
        have ho := own_below ho hA
        have qh := blk_below qh hA
        have qr := blk_below qr hA
        have qg := blk_below qg hA
        have hB := below_tr' hB hA
        generalize hV : wr.alloc (.cells #[.int .i64 X, .int .i64 Y] 48) = V at *
        have HV := Lib.hid hV
        clear hV hA
        have e0 := blk_cell qe 0 (.int .i64 X) rfl
        have e1 := blk_cell qe 1 (.int .i64 Y) rfl
        have k1 := blk_cell qh 1 (.slice av kv cv) rfl
        have f1 := blk_free qh 1
        cases hc1 : (X != y)
        · cases hc2 : (Y != x)
          · have HO := Lib.hid ho
            clear ho
            go_wp2_with (simp only [HV.out])
            go_roundw
            case rel => exact ⟨k + 1, av, kv, cv, F, by omega, by go_num, HF.out, by omega, HO.out, qh, qr, qg, hB⟩
            case measure => simp [intOf]; omega
          · have no := own_ne ho qh (by decide)
            have HK := Lib.hid (fun (w4 : World) (a' : Option Addr) (c' : Nat) (hg : V.grownBy w4 (Value.slice av kv cv).ownBlock) (h4 : w4.ownsRow w.heap.size 48 2 (.slice a' (kv + 1) c') (kv + 1) (edges F ++ [.int .i64 X, .int .i64 Y])) => drop_keep (X := X) (Y := Y) ho qh qr qg hB hg h4)
            have nQ := own_ne ho qh (by decide)
            have HO := Lib.hid ho
            clear ho
            go_wp2_with (first | simp only [HV.out] | (at_builtin; refine append1g Try.infoE _ _ rfl rfl HO.out (World.grownBy.refl _ _) (by have := hB.size; omega) rfl rfl rfl (by intro u hu; simp at hu; rcases hu with rfl | rfl <;> rfl) (by omega) ?_; intro a' c' w4 oh4 hg4 hf4; have qh4 := blk_grown qh hg4 nQ; have k1 := blk_cell qh4 1 (.slice av kv cv) rfl; have f1 := blk_free qh4 1; have R := Lib.hid (HK.out w4 a' c' hg4 oh4); clear oh4 hg4 hf4 qh4))
            obtain ⟨R1, R2, R3, R4, R5⟩ := R.out
            have R1 := Lib.hid R1
            go_roundw
            case rel => exact ⟨k + 1, a', kv + 1, c', F ++ [(X, Y)], by omega, by go_num, by rw [List.length_append, HF.out]; rfl, by omega, R1.out, R2, R3, R4, R5⟩
            case measure => simp [intOf]; omega
        · have no := own_ne ho qh (by decide)
          have HK := Lib.hid (fun (w4 : World) (a' : Option Addr) (c' : Nat) (hg : V.grownBy w4 (Value.slice av kv cv).ownBlock) (h4 : w4.ownsRow w.heap.size 48 2 (.slice a' (kv + 1) c') (kv + 1) (edges F ++ [.int .i64 X, .int .i64 Y])) => drop_keep (X := X) (Y := Y) ho qh qr qg hB hg h4)
          have nQ := own_ne ho qh (by decide)
          have HO := Lib.hid ho
          clear ho
          go_wp2_with (first | simp only [HV.out] | (at_builtin; refine append1g Try.infoE _ _ rfl rfl HO.out (World.grownBy.refl _ _) (by have := hB.size; omega) rfl rfl rfl (by intro u hu; simp at hu; rcases hu with rfl | rfl <;> rfl) (by omega) ?_; intro a' c' w4 oh4 hg4 hf4; have qh4 := blk_grown qh hg4 nQ; have k1 := blk_cell qh4 1 (.slice av kv cv) rfl; have f1 := blk_free qh4 1; have R := Lib.hid (HK.out w4 a' c' hg4 oh4); clear oh4 hg4 hf4 qh4))
          obtain ⟨R1, R2, R3, R4, R5⟩ := R.out
          have R1 := Lib.hid R1
          go_roundw
          case rel => exact ⟨k + 1, a', kv + 1, c', F ++ [(X, Y)], by omega, by go_num, by rw [List.length_append, HF.out]; rfl, by omega, R1.out, R2, R3, R4, R5⟩
          case measure => simp [intOf]; omega
      · obtain rfl : k = n := by omega
        have z0 := blk_cell qr 0 (.int .i64 0) rfl
        have z1 := blk_cell qr 1 (.slice none 0 0) rfl
        have f0 := blk_free qr 0
        have f1 := blk_free qr 1
        have k0 := blk_cell qh 0 (.int .i64 N) rfl
        have k1 := blk_cell qh 1 (.slice av kv cv) rfl
        have SO := Lib.hid (own_setOther (own_setOther ho (w.heap.size + 1) 0 (.int .i64 N) (own_ne ho qr (by decide))) (w.heap.size + 1) 1 (.slice av kv cv) (own_ne ho qr (by decide)))
        have SB := Lib.hid ((hB.setCell (p := ⟨w.heap.size + 1, 0, none⟩) (by simp) (.int .i64 N)).setCell (p := ⟨w.heap.size + 1, 1, none⟩) (by simp) (.slice av kv cv))
        clear ho hB qr qh
        go_wp2
        refine bodyPost_ret (v := graphV N av kv cv) (by simp [results, Try.results190, go_sem, z0, z1]) rfl ⟨F, av, kv, cv, rfl, hkv, SO.out, SB.out⟩

  ·
    have hB := below_tr' (below_tr' (below_alloc2 w (.cells #[.int .i64 N, .slice a n c] 25) (.cells #[.int .i64 0, .slice none 0 0] 25)) (below_alloc ((w.alloc (.cells #[.int .i64 N, .slice a n c] 25)).alloc (.cells #[.int .i64 0, .slice none 0 0] 25)) (.cells #[] 48))) (below_alloc (((w.alloc (.cells #[.int .i64 N, .slice a n c] 25)).alloc (.cells #[.int .i64 0, .slice none 0 0] 25)).alloc (.cells #[] 48)) (.cells #[.int .i64 N, .slice (some ⟨w.heap.size + 1 + 1, 0, none⟩) 0 0] 25))
    have qg := blk_below (blk_below (blk_below (heap_alloc_new w (.cells #[.int .i64 N, .slice a n c] 25)) (below_alloc _ (.cells #[.int .i64 0, .slice none 0 0] 25))) (below_alloc _ (.cells #[] 48))) (below_alloc _ (.cells #[.int .i64 N, .slice (some ⟨w.heap.size + 1 + 1, 0, none⟩) 0 0] 25))
    have qr := blk_below (blk_below (heap_alloc_new (w.alloc (.cells #[.int .i64 N, .slice a n c] 25)) (.cells #[.int .i64 0, .slice none 0 0] 25)) (below_alloc _ (.cells #[] 48))) (below_alloc _ (.cells #[.int .i64 N, .slice (some ⟨w.heap.size + 1 + 1, 0, none⟩) 0 0] 25))
    have qh := heap_alloc_new (((w.alloc (.cells #[.int .i64 N, .slice a n c] 25)).alloc (.cells #[.int .i64 0, .slice none 0 0] 25)).alloc (.cells #[] 48)) (.cells #[.int .i64 N, .slice (some ⟨w.heap.size + 1 + 1, 0, none⟩) 0 0] 25)
    rw [show (w.alloc (.cells #[.int .i64 N, .slice a n c] 25)).heap.size = w.heap.size + 1 from by simp] at qr
    rw [show (((w.alloc (.cells #[.int .i64 N, .slice a n c] 25)).alloc (.cells #[.int .i64 0, .slice none 0 0] 25)).alloc (.cells #[] 48)).heap.size = w.heap.size + 1 + 1 + 1 from by simp] at qh
    have ho0 := World.ownsRow_made (base := w.heap.size) (e := 48) (size := 2) ((w.alloc (.cells #[.int .i64 N, .slice a n c] 25)).alloc (.cells #[.int .i64 0, .slice none 0 0] 25)) #[] 0 (by simp; omega) (by decide) rfl
    rw [show ((w.alloc (.cells #[.int .i64 N, .slice a n c] 25)).alloc (.cells #[.int .i64 0, .slice none 0 0] 25)).heap.size = w.heap.size + 1 + 1 from by simp] at ho0
    have ho0 := own_below ho0 (below_alloc _ (.cells #[.int .i64 N, .slice (some ⟨w.heap.size + 1 + 1, 0, none⟩) 0 0] 25))
    have hWs : ((((w.alloc (.cells #[.int .i64 N, .slice a n c] 25)).alloc (.cells #[.int .i64 0, .slice none 0 0] 25)).alloc (.cells #[] 48)).alloc (.cells #[.int .i64 N, .slice (some ⟨w.heap.size + 1 + 1, 0, none⟩) 0 0] 25)).heap.size = w.heap.size + 4 := by simp
    generalize hW : ((((w.alloc (.cells #[.int .i64 N, .slice a n c] 25)).alloc (.cells #[.int .i64 0, .slice none 0 0] 25)).alloc (.cells #[] 48)).alloc (.cells #[.int .i64 N, .slice (some ⟨w.heap.size + 1 + 1, 0, none⟩) 0 0] 25)) = W at *
    have HW := Lib.hid hW
    have HX := Lib.hid hx
    clear hW hx
    go_enter Try.func190, Try.ntmps190
    go_wp2_with (simp only [HW.out])
    go_loopw [8, 9] (fun i _ wr => ∃ (k : Nat) (av : Option Addr) (kv cv : Nat) (F : List E2), k ≤ n ∧ i = .int .i64 k ∧ F.length = kv ∧ kv ≤ k ∧ wr.ownsRow w.heap.size 48 2 (.slice av kv cv) kv (edges F) ∧ wr.heap[w.heap.size + 1 + 1 + 1]? = some (.cells #[.int .i64 N, .slice av kv cv] 25 (0, 0)) ∧
      wr.heap[w.heap.size + 1]? = some (.cells #[.int .i64 0, .slice none 0 0] 25 (0, 0)) ∧ wr.heap[w.heap.size]? = some (.cells #[.int .i64 N, .slice a n c] 25 (0, 0)) ∧ Below w.heap.size w wr) (fun i _ _ => n - (intOf i).toNat)
    case atStart => exact ⟨0, _, 0, 0, [], by omega, rfl, rfl, by omega, ho0, qh, qr, qg, hB⟩
    case round =>
      clear ho0 qh qr qg hB hWs
      obtain ⟨k, av, kv, cv, F, hk, rfl, hF, hkv, ho, qh, qr, qg, hB⟩ := hrel
      have HF := Lib.hid hF
      clear hF
      have g1 := blk_cell qg 1 (.slice a n c) rfl
      by_cases hlt : k < n
      · obtain ⟨b1, o1, rfl, c1, c2⟩ := (HX.out.below hB).edge (k := k) (by omega)
        generalize (es[k]'(by omega)) = XY at *
        obtain ⟨X, Y⟩ := XY
        simp only at c1 c2
        have hA := below_alloc wr (.cells #[.int .i64 X, .int .i64 Y] 48)
        have qe := heap_alloc_new wr (.cells #[.int .i64 X, .int .i64 Y] 48)
        have ho := own_below ho hA
        have qh := blk_below qh hA
        have qr := blk_below qr hA
        have qg := blk_below qg hA
        have hB := below_tr' hB hA
        generalize hV : wr.alloc (.cells #[.int .i64 X, .int .i64 Y] 48) = V at *
        have HV := Lib.hid hV
        clear hV hA
        have e0 := blk_cell qe 0 (.int .i64 X) rfl
        have e1 := blk_cell qe 1 (.int .i64 Y) rfl
        have k1 := blk_cell qh 1 (.slice av kv cv) rfl
        have f1 := blk_free qh 1
        cases hc1 : (X != x)
        · cases hc2 : (Y != y)
          · have HO := Lib.hid ho
            clear ho
            go_wp2_with (simp only [HV.out])
            go_roundw
            case rel => exact ⟨k + 1, av, kv, cv, F, by omega, by go_num, HF.out, by omega, HO.out, qh, qr, qg, hB⟩
            case measure => simp [intOf]; omega
          · have no := own_ne ho qh (by decide)
            have HK := Lib.hid (fun (w4 : World) (a' : Option Addr) (c' : Nat) (hg : V.grownBy w4 (Value.slice av kv cv).ownBlock) (h4 : w4.ownsRow w.heap.size 48 2 (.slice a' (kv + 1) c') (kv + 1) (edges F ++ [.int .i64 X, .int .i64 Y])) => drop_keep (X := X) (Y := Y) ho qh qr qg hB hg h4)
            have nQ := own_ne ho qh (by decide)
            have HO := Lib.hid ho
            clear ho
            go_wp2_with (first | simp only [HV.out] | (at_builtin; refine append1g Try.infoE _ _ rfl rfl HO.out (World.grownBy.refl _ _) (by have := hB.size; omega) rfl rfl rfl (by intro u hu; simp at hu; rcases hu with rfl | rfl <;> rfl) (by omega) ?_; intro a' c' w4 oh4 hg4 hf4; have qh4 := blk_grown qh hg4 nQ; have k1 := blk_cell qh4 1 (.slice av kv cv) rfl; have f1 := blk_free qh4 1; have R := Lib.hid (HK.out w4 a' c' hg4 oh4); clear oh4 hg4 hf4 qh4))
            obtain ⟨R1, R2, R3, R4, R5⟩ := R.out
            have R1 := Lib.hid R1
            go_roundw
            case rel => exact ⟨k + 1, a', kv + 1, c', F ++ [(X, Y)], by omega, by go_num, by rw [List.length_append, HF.out]; rfl, by omega, R1.out, R2, R3, R4, R5⟩
            case measure => simp [intOf]; omega
        · have no := own_ne ho qh (by decide)
          have HK := Lib.hid (fun (w4 : World) (a' : Option Addr) (c' : Nat) (hg : V.grownBy w4 (Value.slice av kv cv).ownBlock) (h4 : w4.ownsRow w.heap.size 48 2 (.slice a' (kv + 1) c') (kv + 1) (edges F ++ [.int .i64 X, .int .i64 Y])) => drop_keep (X := X) (Y := Y) ho qh qr qg hB hg h4)
          have nQ := own_ne ho qh (by decide)
          have HO := Lib.hid ho
          clear ho
          go_wp2_with (first | simp only [HV.out] | (at_builtin; refine append1g Try.infoE _ _ rfl rfl HO.out (World.grownBy.refl _ _) (by have := hB.size; omega) rfl rfl rfl (by intro u hu; simp at hu; rcases hu with rfl | rfl <;> rfl) (by omega) ?_; intro a' c' w4 oh4 hg4 hf4; have qh4 := blk_grown qh hg4 nQ; have k1 := blk_cell qh4 1 (.slice av kv cv) rfl; have f1 := blk_free qh4 1; have R := Lib.hid (HK.out w4 a' c' hg4 oh4); clear oh4 hg4 hf4 qh4))
          obtain ⟨R1, R2, R3, R4, R5⟩ := R.out
          have R1 := Lib.hid R1
          go_roundw
          case rel => exact ⟨k + 1, a', kv + 1, c', F ++ [(X, Y)], by omega, by go_num, by rw [List.length_append, HF.out]; rfl, by omega, R1.out, R2, R3, R4, R5⟩
          case measure => simp [intOf]; omega
      · obtain rfl : k = n := by omega
        have z0 := blk_cell qr 0 (.int .i64 0) rfl
        have z1 := blk_cell qr 1 (.slice none 0 0) rfl
        have f0 := blk_free qr 0
        have f1 := blk_free qr 1
        have k0 := blk_cell qh 0 (.int .i64 N) rfl
        have k1 := blk_cell qh 1 (.slice av kv cv) rfl
        have SO := Lib.hid (own_setOther (own_setOther ho (w.heap.size + 1) 0 (.int .i64 N) (own_ne ho qr (by decide))) (w.heap.size + 1) 1 (.slice av kv cv) (own_ne ho qr (by decide)))
        have SB := Lib.hid ((hB.setCell (p := ⟨w.heap.size + 1, 0, none⟩) (by simp) (.int .i64 N)).setCell (p := ⟨w.heap.size + 1, 1, none⟩) (by simp) (.slice av kv cv))
        clear ho hB qr qh
        go_wp2
        refine bodyPost_ret (v := graphV N av kv cv) (by simp [results, Try.results190, go_sem, z0, z1]) rfl ⟨F, av, kv, cv, rfl, hkv, SO.out, SB.out⟩


end Go.Proofs.Ytjghcegacgpehaa
