
/- The reference's order of pairs. (Printed by gen_arc.py.) -/
import Derived.Test.YtjghcegacgpehaaPlainDg
import Derived.Test.YtjghcegacgpehaaAddE
import Derived.Test.YtjghcegacgpehaaAppG
namespace Go.Proofs.Ytjghcegacgpehaa
open Go.RowKit

set_option maxHeartbeats 1000000 in
theorem arcFirst_any (p q x y : Int) (w : World) :
    Calls Try.prog 192 #[.agg #[.int .i64 p, .int .i64 q], .agg #[.int .i64 x, .int .i64 y]] w fun e w' => e = .returned (.bool (firstP (p, q) (x, y))) ∧ Below w.heap.size w w' := by
  have hB := below_alloc2 w (.cells #[.int .i64 p, .int .i64 q] 48) (.cells #[.int .i64 x, .int .i64 y] 48)
  by_cases h1 : x < p
  · have HV := Lib.hid (show firstP (p, q) (x, y) = true by simp [firstP, h1])
    have d1 : decide (x < p) = true := decide_eq_true h1
    go_enter Try.func192, Try.ntmps192
    go_wp2
    go_ret
    exact ⟨by rw [HV.out]; rfl, hB⟩
  · have d1 : decide (x < p) = false := decide_eq_false h1
    by_cases h2 : p = x
    · subst h2
      have HV := Lib.hid (show firstP (p, q) (p, y) = decide (y ≤ q) by simp [firstP])
      have d2 : (p == p) = true := by simp
      clear h1
      go_enter Try.func192, Try.ntmps192
      go_wp2
      all_goals
        go_ret
        refine ⟨?_, hB⟩
        rw [HV.out]
        first | rfl | (simp; omega)
    · have HV := Lib.hid (show firstP (p, q) (x, y) = false by simp [firstP, h1, h2])
      have d2 : (p == x) = false := beq_eq_false_iff_ne.2 h2
      go_enter Try.func192, Try.ntmps192
      go_wp2
      go_ret
      exact ⟨by rw [HV.out]; rfl, hB⟩

set_option maxHeartbeats 8000000 in
theorem arcOrder_any (a b : Option Addr) (ca cb n : Nat) (xs ys : List Int) (w : World) (hn : xs.length = n) (hm : ys.length = n) (hx : Rd w a (ints xs)) (hy : Rd w b (ints ys)) (hl : n ≤ 1000) :
    Calls Try.prog 158 #[.slice a n ca, .slice b n cb] w fun e w' => ∃ a' c', e = .returned (.slice a' n c') ∧ w'.ownsRow w.heap.size 48 2 (.slice a' n c') n (edges (ordP xs ys n)) ∧ Below w.heap.size w w' := by
  have h0 : (w.alloc (.cells #[] 48)).ownsRow w.heap.size 48 2 (.slice (some ⟨w.heap.size, 0, none⟩) 0 0) 0 (edges (ordP xs ys 0)) := World.ownsRow_made w #[] 0 (Nat.le_refl _) (by decide) rfl
  have HB0 := below_alloc w (.cells #[] 48)
  have HN := Lib.hid hn
  have HM := Lib.hid hm
  clear hn hm
  go_enter Try.func158, Try.ntmps158
  go_wp2
  go_loopw [5, 6, 7, 8] (fun v i _ _ wr => ∃ (j : Nat) (g c : Nat), j ≤ n ∧ i = .int .i64 j ∧ v = .slice (some ⟨g, 0, none⟩) j c ∧ wr.ownsRow w.heap.size 48 2 (.slice (some ⟨g, 0, none⟩) j c) j (edges (ordP xs ys j)) ∧ Below w.heap.size w wr) (fun _ i _ _ _ => n - (intOf i).toNat)
  case atStart => exact ⟨0, w.heap.size, 0, by omega, rfl, rfl, h0, HB0⟩
  case round =>
    clear h0 HB0
    obtain ⟨i, g, c, hi, rfl, rfl, ho, hbw⟩ := hrel
    by_cases hlt : i < n
    · obtain ⟨bx, ox, rfl, e1⟩ := (hx.below hbw).int (k := i) (by rw [HN.out]; exact hlt)
      obtain ⟨by', oy, rfl, e2⟩ := (hy.below hbw).int (k := i) (by rw [HM.out]; exact hlt)
      have hX : xs[i]'(by rw [HN.out]; exact hlt) = xs.getD i 0 := by rw [List.getD_eq_getElem?_getD, List.getElem?_eq_getElem (by rw [HN.out]; exact hlt)]; rfl
      have hY : ys[i]'(by rw [HM.out]; exact hlt) = ys.getD i 0 := by rw [List.getD_eq_getElem?_getD, List.getElem?_eq_getElem (by rw [HM.out]; exact hlt)]; rfl
      rw [hX] at e1
      rw [hY] at e2
      have HORD := Lib.hid (ordP_succ xs ys i)
      have hcut := fun (k : Nat) => insP_cut (e := (xs.getD i 0, ys.getD i 0)) (l := ordP xs ys i) (k := k)
      have hes := ordP_length xs ys i
      generalize xs.getD i 0 = X at *
      generalize ys.getD i 0 = Y at *
      generalize ordP xs ys i = es at *
      have HCT := Lib.hid hcut
      have HLE := Lib.hid hes
      have hsh := own_shape ho
      have HO := Lib.hid ho
      have d1 := later_cell e1
      have d2 := later_cell e2
      clear hcut hes ho e1 e2 hX hY
      go_wp2
      refine wp_region_flags [true, true, true, true, true, true, true, true, true, false, false] 10 (C := fun w' => ∃ u : Later wr, w' = u.val) (by kernel_rfl) (by kernel_rfl) ⟨⟨_, bel_drew (Below.refl _ _)⟩, rfl⟩ ?_
      simp only [pickT, pickF]
      repeat (go_big_quiet_step (fail))
      refine wpQuiet_nil ?_
      clear d1 d2
      have hv0 : Below wr.heap.size wr wr.drew := bel_drew (Below.refl _ _)
      generalize hD : wr.drew = wd at *
      clear hD
      refine tail_step fun K hK => ?_
      go_wp2
      refine hK _ _ ⟨⟨_, below_tr' hv0 (below_alloc wd _)⟩, rfl⟩ ?_
      clear hK
      have hs7 := hv0.size
      refine tail_last fun K hK => ?_
      go_wp2
      have q7 := heap_alloc_new wd (.cells #[.int .i64 X, .int .i64 Y] 48)
      have hB7 := below_tr' hv0 (below_alloc wd (.cells #[.int .i64 X, .int .i64 Y] 48))
      obtain ⟨b7, hb7⟩ : ∃ x, x = wd.heap.size := ⟨_, rfl⟩
      simp only [← hb7] at q7 ⊢
      clear hb7
      generalize wd.alloc (.cells #[.int .i64 X, .int .i64 Y] 48) = W7 at *
      have Q7' := Lib.hid q7
      have HO7 := Lib.hid (own_rd (own_below HO.out hB7))
      have hb70 := Below.refl W7.heap.size W7
      clear hv0 hs7 q7
      obtain ⟨wo, rfl⟩ : ∃ wo : World, wo = wr := ⟨_, rfl⟩
      go_loopw [8] (fun q wr => ∃ k : Nat, k ≤ i ∧ q = .int .i64 k ∧ (∀ j (_ : j < k) (h : j < es.length), firstP (es[j]'h) (X, Y) = true) ∧ Below W7.heap.size W7 wr) (fun q _ => i - (intOf q).toNat)
      case atStart => exact ⟨0, by omega, rfl, by intro j hj; omega, hb70⟩
      case round =>
        clear hb70
        obtain ⟨k, hk, rfl, hall, hb8⟩ := hrel
        have hbw7 := below_tr' hbw hB7
        have q7 := blk_below Q7'.out hb8
        have d0 := later_cell (blk_cell q7 0 (.int .i64 X) rfl)
        have d1 := later_cell (blk_cell q7 1 (.int .i64 Y) rfl)
        have Q7 := Lib.hid (fun (v : World) (hb : Below wr.heap.size wr v) => blk_below q7 hb)
        by_cases hlt2 : k < i
        · have hkl : k < es.length := by rw [HLE.out]; exact hlt2
          have hkc : k < c := by omega
          obtain ⟨bg, og, eg, c1, c2⟩ := (HO7.out.below hb8).edge (k := k) hkl
          cases eg
          have HN1 := Lib.hid (fun (h : firstP (es[k]'hkl) (X, Y) = true) => (fun j (hj : j < k + 1) (h2 : j < es.length) => (by
            by_cases e : j = k
            · subst e; exact h
            · exact hall j (by omega) h2 : firstP (es[j]'h2) (X, Y) = true)))
          have HCUT' := Lib.hid (fun (h : firstP (es[k]'hkl) (X, Y) = false) => HCT.out k (by omega) hall (fun _ => h))
          clear hall
          generalize hP : (es[k]'hkl) = PP at *
          obtain ⟨p1, p2⟩ := PP
          simp only [Nat.zero_add] at c1 c2
          have d2 := later_cell c1
          have d3 := later_cell c2
          have HE := Lib.hid (fun u : Later wr => arcFirst_any p1 p2 X Y u.val)
          clear c1 c2 q7 hP
          cases hv : firstP (p1, p2) (X, Y)
          · rw [hv] at HE
            have HCUT := Lib.hid (HCUT'.out hv)
            clear HN1 HCUT' hv
            go_wp2
            refine wp_region_later (by kernel_rfl) (by kernel_rfl) ?_
            repeat (go_big_quiet_step ((go_at_call 192; exact calls_later _ (HE.out _))))
            refine wpQuiet_nil ?_
            intro w6 hw'
            have hb86 := later_below hw'
            have hb6 := below_tr' hB7 (below_tr' hb8 hb86)
            have Q7 := Lib.hid (Q7.out w6 hb86)
            have HES := Lib.hid (fun (v : World) (hb : Below w6.heap.size w6 v) => (HO7.out.below (below_tr' hb8 hb86)).below hb)
            have HLK := Lib.hid (show (es.take k).length = k by rw [List.length_take, HLE.out]; omega)
            clear hw' d0 d1 d2 d3 HE hb8 hb86
            have g1 := later_cell (blk_cell Q7.out 0 (.int .i64 X) rfl)
            have g2 := later_cell (blk_cell Q7.out 1 (.int .i64 Y) rfl)
            go_wp2
            refine wp_region_heads [false, true, true, true, false, true, false, false, true, true, true, false, false] 12 6 (C := fun w' => ∃ u : Later w6, w' = u.val) (by kernel_rfl) (by kernel_rfl) ⟨⟨_, bel_drew (Below.refl _ _)⟩, rfl⟩ ?_
            simp only [pickT]
            repeat (go_big_quiet_step (fail))
            refine wpQuiet_nil ?_
            clear g1 g2
            have hv0 : Below w6.heap.size w6 w6.drew := bel_drew (Below.refl _ _)
            generalize hD : w6.drew = v0 at *
            clear hD
            apply merge5 (F := fun (a3 : Option Addr) (c3 : Nat) (b1 b8 : Nat) (V : World) => V.ownsRow w6.heap.size 48 2 (.slice a3 k c3) k (edges [] ++ edges (es.take k)) ∧ V.heap[b8]? = some (.cells #[.int .i64 X, .int .i64 Y] 48 (0, 0)) ∧ Below w6.heap.size w6 V)
            case main =>
              intro TAIL
              refine any_two (i := 0) (j := 6) (by kernel_rfl) rfl rfl ?_ ?_
              · intro K hK
                go_wp2
                have hbb := below_alloc v0 (.cells #[] 48)
                have hsv1 := hv0.size
                have hE : (v0.alloc (.cells #[] 48)).ownsRow w6.heap.size 48 2 (.slice (some ⟨v0.heap.size, 0, none⟩) 0 0) 0 (edges []) := own_mono (World.ownsRow_made v0 #[] 0 (Nat.le_refl _) (by decide) rfl) hsv1
                have hv1 := below_tr' hv0 hbb
                refine hK _ _ (fun _ => ⟨⟨_, hv1⟩, rfl⟩) ?_
                clear hK hbb
                obtain ⟨b1, hb1⟩ : ∃ x, x = v0.heap.size := ⟨_, rfl⟩
                simp only [← hb1] at hE ⊢
                have Hb1 := Lib.hid (show w6.heap.size ≤ b1 ∧ b1 < (v0.alloc (.cells #[] 48)).heap.size ∧ v0.heap.size ≤ b1 from ⟨by omega, by simp; omega, by omega⟩)
                clear hb1
                generalize v0.alloc (.cells #[] 48) = v1 at *
                refine any_two (i := 4) (j := 6) (by kernel_rfl) rfl rfl ?_ ?_
                · intro K hK
                  have hMv := (HES.out _ hv1).take k
                  have hsv2 := hv1.size
                  refine appendAllg Try.infoE _ _ rfl rfl (m := k) hE hMv (by rw [edges_length, HLK.out]) (edges_one _) (by intro h; cases h) (World.grownBy.refl _ _) hsv2 rfl rfl (by omega) ?_
                  intro a3 c3 v2 hE3 hg3
                  rw [Nat.zero_add] at hE3
                  simp only [Nat.zero_add]
                  have hv2 := hv1.grown hg3 (by have h1 := hsv2; omega) (fun i hi => by have h1 := Hb1.out; simp [Value.ownBlock] at hi; omega)
                  refine wpList_nil ⟨rfl, hK _ _ (fun _ => ⟨⟨_, hv2⟩, rfl⟩) ?_⟩
                  clear hK hMv hE hg3
                  refine any_one (i := 6) (by kernel_rfl) rfl ?_
                  intro K hK
                  go_wp2
                  have hbb := below_alloc v2 (.cells #[.int .i64 X, .int .i64 Y] 48)
                  have hsv3 := hv2.size
                  have q8 := heap_alloc_new v2 (.cells #[.int .i64 X, .int .i64 Y] 48)
                  have hE3 := own_below hE3 hbb
                  have hv3 := below_tr' hv2 hbb
                  refine hK _ _ (fun _ => ⟨⟨_, hv3⟩, rfl⟩) ?_
                  clear hK hbb
                  obtain ⟨b8, hb8⟩ : ∃ x, x = v2.heap.size := ⟨_, rfl⟩
                  simp only [← hb8] at q8 ⊢
                  have Hb8 := Lib.hid (show w6.heap.size ≤ b8 ∧ b8 < (v2.alloc (.cells #[.int .i64 X, .int .i64 Y] 48)).heap.size ∧ v2.heap.size ≤ b8 from ⟨by omega, by simp; omega, by omega⟩)
                  clear hb8
                  generalize v2.alloc (.cells #[.int .i64 X, .int .i64 Y] 48) = v3 at *
                  exact TAIL a3 c3 b1 b8 v3 ⟨hE3, q8, hv3⟩
                · intro K hK
                  go_wp2
                  have hbb := below_alloc v1 (.cells #[.int .i64 X, .int .i64 Y] 48)
                  have hsv2 := hv1.size
                  have q8 := heap_alloc_new v1 (.cells #[.int .i64 X, .int .i64 Y] 48)
                  have hE := own_below hE hbb
                  have hv2 := below_tr' hv1 hbb
                  refine hK _ _ (fun _ => ⟨⟨_, hv2⟩, rfl⟩) ?_
                  clear hK hbb
                  obtain ⟨b8, hb8⟩ : ∃ x, x = v1.heap.size := ⟨_, rfl⟩
                  simp only [← hb8] at q8 ⊢
                  have Hb8 := Lib.hid (show w6.heap.size ≤ b8 ∧ b8 < (v1.alloc (.cells #[.int .i64 X, .int .i64 Y] 48)).heap.size ∧ v1.heap.size ≤ b8 from ⟨by omega, by simp; omega, by omega⟩)
                  clear hb8
                  generalize v1.alloc (.cells #[.int .i64 X, .int .i64 Y] 48) = v2 at *
                  refine any_one (i := 4) (by kernel_rfl) rfl ?_
                  intro K hK
                  have hMv := (HES.out _ hv2).take k
                  have hsv3 := hv2.size
                  refine appendAllg Try.infoE _ _ rfl rfl (m := k) hE hMv (by rw [edges_length, HLK.out]) (edges_one _) (by intro h; cases h) (World.grownBy.refl _ _) hsv3 rfl rfl (by omega) ?_
                  intro a3 c3 v3 hE3 hg3
                  rw [Nat.zero_add] at hE3
                  simp only [Nat.zero_add]
                  have hv3 := hv2.grown hg3 (by have h1 := hsv3; omega) (fun i hi => by have h1 := Hb1.out; simp [Value.ownBlock] at hi; omega)
                  have q8 := blk_grown q8 hg3 (by have h1 := Hb1.out; have h8 := Hb8.out; simp [Value.ownBlock]; omega)
                  refine wpList_nil ⟨rfl, hK _ _ (fun _ => ⟨⟨_, hv3⟩, rfl⟩) ?_⟩
                  clear hK hMv hE hg3
                  exact TAIL a3 c3 b1 b8 v3 ⟨hE3, q8, hv3⟩
              · intro K hK
                go_wp2
                have hbb := below_alloc v0 (.cells #[.int .i64 X, .int .i64 Y] 48)
                have hsv1 := hv0.size
                have q8 := heap_alloc_new v0 (.cells #[.int .i64 X, .int .i64 Y] 48)
                have hv1 := below_tr' hv0 hbb
                refine hK _ _ (fun _ => ⟨⟨_, hv1⟩, rfl⟩) ?_
                clear hK hbb
                obtain ⟨b8, hb8⟩ : ∃ x, x = v0.heap.size := ⟨_, rfl⟩
                simp only [← hb8] at q8 ⊢
                have Hb8 := Lib.hid (show w6.heap.size ≤ b8 ∧ b8 < (v0.alloc (.cells #[.int .i64 X, .int .i64 Y] 48)).heap.size ∧ v0.heap.size ≤ b8 from ⟨by omega, by simp; omega, by omega⟩)
                clear hb8
                generalize v0.alloc (.cells #[.int .i64 X, .int .i64 Y] 48) = v1 at *
                refine any_one (i := 0) (by kernel_rfl) rfl ?_
                intro K hK
                go_wp2
                have hbb := below_alloc v1 (.cells #[] 48)
                have hsv2 := hv1.size
                have hE : (v1.alloc (.cells #[] 48)).ownsRow w6.heap.size 48 2 (.slice (some ⟨v1.heap.size, 0, none⟩) 0 0) 0 (edges []) := own_mono (World.ownsRow_made v1 #[] 0 (Nat.le_refl _) (by decide) rfl) hsv2
                have q8 := blk_below q8 hbb
                have hv2 := below_tr' hv1 hbb
                refine hK _ _ (fun _ => ⟨⟨_, hv2⟩, rfl⟩) ?_
                clear hK hbb
                obtain ⟨b1, hb1⟩ : ∃ x, x = v1.heap.size := ⟨_, rfl⟩
                simp only [← hb1] at hE ⊢
                have Hb1 := Lib.hid (show w6.heap.size ≤ b1 ∧ b1 < (v1.alloc (.cells #[] 48)).heap.size ∧ v1.heap.size ≤ b1 from ⟨by omega, by simp; omega, by omega⟩)
                clear hb1
                generalize v1.alloc (.cells #[] 48) = v2 at *
                refine any_one (i := 4) (by kernel_rfl) rfl ?_
                intro K hK
                have hMv := (HES.out _ hv2).take k
                have hsv3 := hv2.size
                refine appendAllg Try.infoE _ _ rfl rfl (m := k) hE hMv (by rw [edges_length, HLK.out]) (edges_one _) (by intro h; cases h) (World.grownBy.refl _ _) hsv3 rfl rfl (by omega) ?_
                intro a3 c3 v3 hE3 hg3
                rw [Nat.zero_add] at hE3
                simp only [Nat.zero_add]
                have hv3 := hv2.grown hg3 (by have h1 := hsv3; omega) (fun i hi => by have h1 := Hb1.out; simp [Value.ownBlock] at hi; omega)
                have q8 := blk_grown q8 hg3 (by have h1 := Hb1.out; have h8 := Hb8.out; simp [Value.ownBlock]; omega)
                refine wpList_nil ⟨rfl, hK _ _ (fun _ => ⟨⟨_, hv3⟩, rfl⟩) ?_⟩
                clear hK hMv hE hg3
                exact TAIL a3 c3 b1 b8 v3 ⟨hE3, q8, hv3⟩
            case tail =>
              rintro a3 c3 b1 b8 V ⟨hE3, q8, hbV⟩
              have hsV := hbV.size
              refine any_one (i := 7) (by kernel_rfl) rfl ?_
              intro K hK
              have hS1 : Rd V (some ⟨b8, 0, none⟩) [.int .i64 X, .int .i64 Y] := own_rd (show V.ownsRow 0 48 2 (.slice (some ⟨b8, 0, none⟩) 1 1) 1 [.int .i64 X, .int .i64 Y] from ⟨rfl, .inr ⟨b8, 1, _, rfl, Nat.zero_le _, q8, Nat.le_refl _, by decide, rfl, rfl⟩⟩)
              refine appendAllg Try.infoE _ _ rfl rfl (m := 1) hE3 hS1 rfl (by intro u hu; simp at hu; rcases hu with rfl | rfl <;> rfl) (by intro h; cases h) (World.grownBy.refl _ _) hsV rfl rfl (by omega) ?_
              intro a4 c4 V2 hE4 hg4
              have hb4 := hbV.grown hg4 hsV (fun i hi => (hE3.lt i hi).1)
              refine wpList_nil ⟨rfl, hK _ _ (fun _ => ⟨⟨_, hb4⟩, rfl⟩) ?_⟩
              clear hK hS1 q8 hg4 hE3
              have hs4 := hb4.size
              refine any_one (i := 11) (by kernel_rfl) rfl ?_
              intro K hK
              have hdl : (es.drop k).length = (i - k) := by rw [List.length_drop, HLE.out]
              refine appendAllg Try.infoE _ _ rfl rfl (m := (i - k)) (b := (some ⟨g, k * 2, none⟩)) (ys := edges (es.drop k)) hE4 (by have h := ((HES.out V2 hb4).drop k); simpa using h) (by rw [edges_length, hdl]) (edges_one _) (by intro h; first | (cases h; done) | exact ⟨by omega, rfl⟩) (World.grownBy.refl _ _) hs4 rfl rfl (by omega) ?_
              intro a5 c5 V3 hE5 hg5
              have hb5 := hb4.grown hg5 hs4 (fun i hi => (hE4.lt i hi).1)
              refine wpList_nil ⟨rfl, hK _ _ (fun _ => ⟨⟨_, hb5⟩, rfl⟩) ?_⟩
              clear hK hE4 hg5
              have e9 : k + 1 + (i - k) = i + 1 := by omega
              rw [e9] at hE5
              simp only [e9]
              have hIns : edges [] ++ edges (es.take k) ++ [Value.int .i64 X, Value.int .i64 Y] ++ edges (es.drop k) = edges (ordP xs ys (i + 1)) := by
                rw [HORD.out, HCUT.out, edges_append, edges_cons]
                simp [edges]
              rw [hIns] at hE5
              have hHB := below_tr' hbw (below_tr' hb6 hb5)
              have hsw := (below_tr' hbw hb6).size
              have HFIN := Lib.hid (And.intro (own_mono hE5 hsw) hHB)
              obtain ⟨g5, rfl, _, _⟩ := own_head hE5 (by omega)
              clear hE5 hHB hIns
              refine any_one (i := 12) (by kernel_rfl) rfl ?_
              intro K hK
              go_wp2
              refine hK _ _ (fun h => absurd rfl h) ?_
              clear hK
              refine any_end (by kernel_rfl) ?_
              go_wp2
              go_roundw
              case rel => exact ⟨i + 1, g5, c5, by omega, by go_num, rfl, HFIN.out.1, HFIN.out.2⟩
              case measure => simp [intOf]; omega
          · rw [hv] at HE
            have HN2 := Lib.hid (HN1.out hv)
            clear HN1 HCUT' hv
            go_wp2
            refine wp_region_later (by kernel_rfl) (by kernel_rfl) ?_
            repeat (go_big_quiet_step ((go_at_call 192; exact calls_later _ (HE.out _))))
            refine wpQuiet_nil ?_
            intro w6 hw'
            have hb6 := below_tr' hb8 (later_below hw')
            clear hw' d0 d1 d2 d3 HE hb8
            go_wp2
            go_roundw
            case rel => exact ⟨k + 1, by omega, by go_num, HN2.out, hb6⟩
            case measure => simp [intOf]; omega
        · obtain rfl : k = i := by omega
          have HCUT := Lib.hid (HCT.out k (by rw [HLE.out]; exact Nat.le_refl _) hall (fun h => absurd h (by rw [HLE.out]; exact Nat.lt_irrefl _)))
          have HLK := Lib.hid (show (es.take k).length = k by rw [List.length_take, HLE.out]; omega)
          clear hall q7
          by_cases hkc : k < c
          · go_wp2
            refine wp_region_later (by kernel_rfl) (by kernel_rfl) ?_
            repeat (go_big_quiet_step (fail))
            refine wpQuiet_nil ?_
            intro w6 hw'
            have hb86 := later_below hw'
            have hb6 := below_tr' hB7 (below_tr' hb8 hb86)
            have Q7 := Lib.hid (Q7.out w6 hb86)
            have HES := Lib.hid (fun (v : World) (hb : Below w6.heap.size w6 v) => (HO7.out.below (below_tr' hb8 hb86)).below hb)
            clear hw' d0 d1 hb8 hb86
            have g1 := later_cell (blk_cell Q7.out 0 (.int .i64 X) rfl)
            have g2 := later_cell (blk_cell Q7.out 1 (.int .i64 Y) rfl)
            go_wp2
            refine wp_region_heads [false, true, true, true, false, true, false, false, true, true, true, false, false] 12 6 (C := fun w' => ∃ u : Later w6, w' = u.val) (by kernel_rfl) (by kernel_rfl) ⟨⟨_, bel_drew (Below.refl _ _)⟩, rfl⟩ ?_
            simp only [pickT]
            repeat (go_big_quiet_step (fail))
            refine wpQuiet_nil ?_
            clear g1 g2
            have hv0 : Below w6.heap.size w6 w6.drew := bel_drew (Below.refl _ _)
            generalize hD : w6.drew = v0 at *
            clear hD
            apply merge5 (F := fun (a3 : Option Addr) (c3 : Nat) (b1 b8 : Nat) (V : World) => V.ownsRow w6.heap.size 48 2 (.slice a3 k c3) k (edges [] ++ edges (es.take k)) ∧ V.heap[b8]? = some (.cells #[.int .i64 X, .int .i64 Y] 48 (0, 0)) ∧ Below w6.heap.size w6 V)
            case main =>
              intro TAIL
              refine any_two (i := 0) (j := 6) (by kernel_rfl) rfl rfl ?_ ?_
              · intro K hK
                go_wp2
                have hbb := below_alloc v0 (.cells #[] 48)
                have hsv1 := hv0.size
                have hE : (v0.alloc (.cells #[] 48)).ownsRow w6.heap.size 48 2 (.slice (some ⟨v0.heap.size, 0, none⟩) 0 0) 0 (edges []) := own_mono (World.ownsRow_made v0 #[] 0 (Nat.le_refl _) (by decide) rfl) hsv1
                have hv1 := below_tr' hv0 hbb
                refine hK _ _ (fun _ => ⟨⟨_, hv1⟩, rfl⟩) ?_
                clear hK hbb
                obtain ⟨b1, hb1⟩ : ∃ x, x = v0.heap.size := ⟨_, rfl⟩
                simp only [← hb1] at hE ⊢
                have Hb1 := Lib.hid (show w6.heap.size ≤ b1 ∧ b1 < (v0.alloc (.cells #[] 48)).heap.size ∧ v0.heap.size ≤ b1 from ⟨by omega, by simp; omega, by omega⟩)
                clear hb1
                generalize v0.alloc (.cells #[] 48) = v1 at *
                refine any_two (i := 4) (j := 6) (by kernel_rfl) rfl rfl ?_ ?_
                · intro K hK
                  have hMv := (HES.out _ hv1).take k
                  have hsv2 := hv1.size
                  refine appendAllg Try.infoE _ _ rfl rfl (m := k) hE hMv (by rw [edges_length, HLK.out]) (edges_one _) (by intro h; cases h) (World.grownBy.refl _ _) hsv2 rfl rfl (by omega) ?_
                  intro a3 c3 v2 hE3 hg3
                  rw [Nat.zero_add] at hE3
                  simp only [Nat.zero_add]
                  have hv2 := hv1.grown hg3 (by have h1 := hsv2; omega) (fun k hi => by have h1 := Hb1.out; simp [Value.ownBlock] at hi; omega)
                  refine wpList_nil ⟨rfl, hK _ _ (fun _ => ⟨⟨_, hv2⟩, rfl⟩) ?_⟩
                  clear hK hMv hE hg3
                  refine any_one (i := 6) (by kernel_rfl) rfl ?_
                  intro K hK
                  go_wp2
                  have hbb := below_alloc v2 (.cells #[.int .i64 X, .int .i64 Y] 48)
                  have hsv3 := hv2.size
                  have q8 := heap_alloc_new v2 (.cells #[.int .i64 X, .int .i64 Y] 48)
                  have hE3 := own_below hE3 hbb
                  have hv3 := below_tr' hv2 hbb
                  refine hK _ _ (fun _ => ⟨⟨_, hv3⟩, rfl⟩) ?_
                  clear hK hbb
                  obtain ⟨b8, hb8⟩ : ∃ x, x = v2.heap.size := ⟨_, rfl⟩
                  simp only [← hb8] at q8 ⊢
                  have Hb8 := Lib.hid (show w6.heap.size ≤ b8 ∧ b8 < (v2.alloc (.cells #[.int .i64 X, .int .i64 Y] 48)).heap.size ∧ v2.heap.size ≤ b8 from ⟨by omega, by simp; omega, by omega⟩)
                  clear hb8
                  generalize v2.alloc (.cells #[.int .i64 X, .int .i64 Y] 48) = v3 at *
                  exact TAIL a3 c3 b1 b8 v3 ⟨hE3, q8, hv3⟩
                · intro K hK
                  go_wp2
                  have hbb := below_alloc v1 (.cells #[.int .i64 X, .int .i64 Y] 48)
                  have hsv2 := hv1.size
                  have q8 := heap_alloc_new v1 (.cells #[.int .i64 X, .int .i64 Y] 48)
                  have hE := own_below hE hbb
                  have hv2 := below_tr' hv1 hbb
                  refine hK _ _ (fun _ => ⟨⟨_, hv2⟩, rfl⟩) ?_
                  clear hK hbb
                  obtain ⟨b8, hb8⟩ : ∃ x, x = v1.heap.size := ⟨_, rfl⟩
                  simp only [← hb8] at q8 ⊢
                  have Hb8 := Lib.hid (show w6.heap.size ≤ b8 ∧ b8 < (v1.alloc (.cells #[.int .i64 X, .int .i64 Y] 48)).heap.size ∧ v1.heap.size ≤ b8 from ⟨by omega, by simp; omega, by omega⟩)
                  clear hb8
                  generalize v1.alloc (.cells #[.int .i64 X, .int .i64 Y] 48) = v2 at *
                  refine any_one (i := 4) (by kernel_rfl) rfl ?_
                  intro K hK
                  have hMv := (HES.out _ hv2).take k
                  have hsv3 := hv2.size
                  refine appendAllg Try.infoE _ _ rfl rfl (m := k) hE hMv (by rw [edges_length, HLK.out]) (edges_one _) (by intro h; cases h) (World.grownBy.refl _ _) hsv3 rfl rfl (by omega) ?_
                  intro a3 c3 v3 hE3 hg3
                  rw [Nat.zero_add] at hE3
                  simp only [Nat.zero_add]
                  have hv3 := hv2.grown hg3 (by have h1 := hsv3; omega) (fun k hi => by have h1 := Hb1.out; simp [Value.ownBlock] at hi; omega)
                  have q8 := blk_grown q8 hg3 (by have h1 := Hb1.out; have h8 := Hb8.out; simp [Value.ownBlock]; omega)
                  refine wpList_nil ⟨rfl, hK _ _ (fun _ => ⟨⟨_, hv3⟩, rfl⟩) ?_⟩
                  clear hK hMv hE hg3
                  exact TAIL a3 c3 b1 b8 v3 ⟨hE3, q8, hv3⟩
              · intro K hK
                go_wp2
                have hbb := below_alloc v0 (.cells #[.int .i64 X, .int .i64 Y] 48)
                have hsv1 := hv0.size
                have q8 := heap_alloc_new v0 (.cells #[.int .i64 X, .int .i64 Y] 48)
                have hv1 := below_tr' hv0 hbb
                refine hK _ _ (fun _ => ⟨⟨_, hv1⟩, rfl⟩) ?_
                clear hK hbb
                obtain ⟨b8, hb8⟩ : ∃ x, x = v0.heap.size := ⟨_, rfl⟩
                simp only [← hb8] at q8 ⊢
                have Hb8 := Lib.hid (show w6.heap.size ≤ b8 ∧ b8 < (v0.alloc (.cells #[.int .i64 X, .int .i64 Y] 48)).heap.size ∧ v0.heap.size ≤ b8 from ⟨by omega, by simp; omega, by omega⟩)
                clear hb8
                generalize v0.alloc (.cells #[.int .i64 X, .int .i64 Y] 48) = v1 at *
                refine any_one (i := 0) (by kernel_rfl) rfl ?_
                intro K hK
                go_wp2
                have hbb := below_alloc v1 (.cells #[] 48)
                have hsv2 := hv1.size
                have hE : (v1.alloc (.cells #[] 48)).ownsRow w6.heap.size 48 2 (.slice (some ⟨v1.heap.size, 0, none⟩) 0 0) 0 (edges []) := own_mono (World.ownsRow_made v1 #[] 0 (Nat.le_refl _) (by decide) rfl) hsv2
                have q8 := blk_below q8 hbb
                have hv2 := below_tr' hv1 hbb
                refine hK _ _ (fun _ => ⟨⟨_, hv2⟩, rfl⟩) ?_
                clear hK hbb
                obtain ⟨b1, hb1⟩ : ∃ x, x = v1.heap.size := ⟨_, rfl⟩
                simp only [← hb1] at hE ⊢
                have Hb1 := Lib.hid (show w6.heap.size ≤ b1 ∧ b1 < (v1.alloc (.cells #[] 48)).heap.size ∧ v1.heap.size ≤ b1 from ⟨by omega, by simp; omega, by omega⟩)
                clear hb1
                generalize v1.alloc (.cells #[] 48) = v2 at *
                refine any_one (i := 4) (by kernel_rfl) rfl ?_
                intro K hK
                have hMv := (HES.out _ hv2).take k
                have hsv3 := hv2.size
                refine appendAllg Try.infoE _ _ rfl rfl (m := k) hE hMv (by rw [edges_length, HLK.out]) (edges_one _) (by intro h; cases h) (World.grownBy.refl _ _) hsv3 rfl rfl (by omega) ?_
                intro a3 c3 v3 hE3 hg3
                rw [Nat.zero_add] at hE3
                simp only [Nat.zero_add]
                have hv3 := hv2.grown hg3 (by have h1 := hsv3; omega) (fun k hi => by have h1 := Hb1.out; simp [Value.ownBlock] at hi; omega)
                have q8 := blk_grown q8 hg3 (by have h1 := Hb1.out; have h8 := Hb8.out; simp [Value.ownBlock]; omega)
                refine wpList_nil ⟨rfl, hK _ _ (fun _ => ⟨⟨_, hv3⟩, rfl⟩) ?_⟩
                clear hK hMv hE hg3
                exact TAIL a3 c3 b1 b8 v3 ⟨hE3, q8, hv3⟩
            case tail =>
              rintro a3 c3 b1 b8 V ⟨hE3, q8, hbV⟩
              have hsV := hbV.size
              refine any_one (i := 7) (by kernel_rfl) rfl ?_
              intro K hK
              have hS1 : Rd V (some ⟨b8, 0, none⟩) [.int .i64 X, .int .i64 Y] := own_rd (show V.ownsRow 0 48 2 (.slice (some ⟨b8, 0, none⟩) 1 1) 1 [.int .i64 X, .int .i64 Y] from ⟨rfl, .inr ⟨b8, 1, _, rfl, Nat.zero_le _, q8, Nat.le_refl _, by decide, rfl, rfl⟩⟩)
              refine appendAllg Try.infoE _ _ rfl rfl (m := 1) hE3 hS1 rfl (by intro u hu; simp at hu; rcases hu with rfl | rfl <;> rfl) (by intro h; cases h) (World.grownBy.refl _ _) hsV rfl rfl (by omega) ?_
              intro a4 c4 V2 hE4 hg4
              have hb4 := hbV.grown hg4 hsV (fun k hi => (hE3.lt k hi).1)
              refine wpList_nil ⟨rfl, hK _ _ (fun _ => ⟨⟨_, hb4⟩, rfl⟩) ?_⟩
              clear hK hS1 q8 hg4 hE3
              have hs4 := hb4.size
              refine any_one (i := 11) (by kernel_rfl) rfl ?_
              intro K hK
              have hdl : (es.drop k).length = 0 := by rw [List.length_drop, HLE.out]; omega
              refine appendAllg Try.infoE _ _ rfl rfl (m := 0) (b := (some ⟨g, k * 2, none⟩)) (ys := edges (es.drop k)) hE4 (by have h := ((HES.out V2 hb4).drop k); simpa using h) (by rw [edges_length, hdl]) (edges_one _) (by intro h; first | (cases h; done) | exact ⟨by omega, rfl⟩) (World.grownBy.refl _ _) hs4 rfl rfl (by omega) ?_
              intro a5 c5 V3 hE5 hg5
              have hb5 := hb4.grown hg5 hs4 (fun k hi => (hE4.lt k hi).1)
              refine wpList_nil ⟨rfl, hK _ _ (fun _ => ⟨⟨_, hb5⟩, rfl⟩) ?_⟩
              clear hK hE4 hg5
              have e9 : k + 1 + 0 = k + 1 := by omega
              rw [e9] at hE5
              simp only [e9]
              have hIns : edges [] ++ edges (es.take k) ++ [Value.int .i64 X, Value.int .i64 Y] ++ edges (es.drop k) = edges (ordP xs ys (k + 1)) := by
                rw [HORD.out, HCUT.out, edges_append, edges_cons]
                simp [edges]
              rw [hIns] at hE5
              have hHB := below_tr' hbw (below_tr' hb6 hb5)
              have hsw := (below_tr' hbw hb6).size
              have HFIN := Lib.hid (And.intro (own_mono hE5 hsw) hHB)
              obtain ⟨g5, rfl, _, _⟩ := own_head hE5 (by omega)
              clear hE5 hHB hIns
              refine any_one (i := 12) (by kernel_rfl) rfl ?_
              intro K hK
              go_wp2
              refine hK _ _ (fun h => absurd rfl h) ?_
              clear hK
              refine any_end (by kernel_rfl) ?_
              go_wp2
              go_roundw
              case rel => exact ⟨k + 1, g5, c5, by omega, by go_num, rfl, HFIN.out.1, HFIN.out.2⟩
              case measure => simp [intOf]; omega
          · obtain rfl : k = c := by omega
            go_wp2
            refine wp_region_later (by kernel_rfl) (by kernel_rfl) ?_
            repeat (go_big_quiet_step (fail))
            refine wpQuiet_nil ?_
            intro w6 hw'
            have hb86 := later_below hw'
            have hb6 := below_tr' hB7 (below_tr' hb8 hb86)
            have Q7 := Lib.hid (Q7.out w6 hb86)
            have HES := Lib.hid (fun (v : World) (hb : Below w6.heap.size w6 v) => (HO7.out.below (below_tr' hb8 hb86)).below hb)
            clear hw' d0 d1 hb8 hb86
            have g1 := later_cell (blk_cell Q7.out 0 (.int .i64 X) rfl)
            have g2 := later_cell (blk_cell Q7.out 1 (.int .i64 Y) rfl)
            go_wp2
            refine wp_region_heads [false, true, true, true, false, true, false, false, true, true, true, false, false] 12 6 (C := fun w' => ∃ u : Later w6, w' = u.val) (by kernel_rfl) (by kernel_rfl) ⟨⟨_, bel_drew (Below.refl _ _)⟩, rfl⟩ ?_
            simp only [pickT]
            repeat (go_big_quiet_step (fail))
            refine wpQuiet_nil ?_
            clear g1 g2
            have hv0 : Below w6.heap.size w6 w6.drew := bel_drew (Below.refl _ _)
            generalize hD : w6.drew = v0 at *
            clear hD
            apply merge5 (F := fun (a3 : Option Addr) (c3 : Nat) (b1 b8 : Nat) (V : World) => V.ownsRow w6.heap.size 48 2 (.slice a3 k c3) k (edges [] ++ edges (es.take k)) ∧ V.heap[b8]? = some (.cells #[.int .i64 X, .int .i64 Y] 48 (0, 0)) ∧ Below w6.heap.size w6 V)
            case main =>
              intro TAIL
              refine any_two (i := 0) (j := 6) (by kernel_rfl) rfl rfl ?_ ?_
              · intro K hK
                go_wp2
                have hbb := below_alloc v0 (.cells #[] 48)
                have hsv1 := hv0.size
                have hE : (v0.alloc (.cells #[] 48)).ownsRow w6.heap.size 48 2 (.slice (some ⟨v0.heap.size, 0, none⟩) 0 0) 0 (edges []) := own_mono (World.ownsRow_made v0 #[] 0 (Nat.le_refl _) (by decide) rfl) hsv1
                have hv1 := below_tr' hv0 hbb
                refine hK _ _ (fun _ => ⟨⟨_, hv1⟩, rfl⟩) ?_
                clear hK hbb
                obtain ⟨b1, hb1⟩ : ∃ x, x = v0.heap.size := ⟨_, rfl⟩
                simp only [← hb1] at hE ⊢
                have Hb1 := Lib.hid (show w6.heap.size ≤ b1 ∧ b1 < (v0.alloc (.cells #[] 48)).heap.size ∧ v0.heap.size ≤ b1 from ⟨by omega, by simp; omega, by omega⟩)
                clear hb1
                generalize v0.alloc (.cells #[] 48) = v1 at *
                refine any_two (i := 4) (j := 6) (by kernel_rfl) rfl rfl ?_ ?_
                · intro K hK
                  have hMv := (HES.out _ hv1).take k
                  have hsv2 := hv1.size
                  refine appendAllg Try.infoE _ _ rfl rfl (m := k) hE hMv (by rw [edges_length, HLK.out]) (edges_one _) (by intro h; cases h) (World.grownBy.refl _ _) hsv2 rfl rfl (by omega) ?_
                  intro a3 c3 v2 hE3 hg3
                  rw [Nat.zero_add] at hE3
                  simp only [Nat.zero_add]
                  have hv2 := hv1.grown hg3 (by have h1 := hsv2; omega) (fun k hi => by have h1 := Hb1.out; simp [Value.ownBlock] at hi; omega)
                  refine wpList_nil ⟨rfl, hK _ _ (fun _ => ⟨⟨_, hv2⟩, rfl⟩) ?_⟩
                  clear hK hMv hE hg3
                  refine any_one (i := 6) (by kernel_rfl) rfl ?_
                  intro K hK
                  go_wp2
                  have hbb := below_alloc v2 (.cells #[.int .i64 X, .int .i64 Y] 48)
                  have hsv3 := hv2.size
                  have q8 := heap_alloc_new v2 (.cells #[.int .i64 X, .int .i64 Y] 48)
                  have hE3 := own_below hE3 hbb
                  have hv3 := below_tr' hv2 hbb
                  refine hK _ _ (fun _ => ⟨⟨_, hv3⟩, rfl⟩) ?_
                  clear hK hbb
                  obtain ⟨b8, hb8⟩ : ∃ x, x = v2.heap.size := ⟨_, rfl⟩
                  simp only [← hb8] at q8 ⊢
                  have Hb8 := Lib.hid (show w6.heap.size ≤ b8 ∧ b8 < (v2.alloc (.cells #[.int .i64 X, .int .i64 Y] 48)).heap.size ∧ v2.heap.size ≤ b8 from ⟨by omega, by simp; omega, by omega⟩)
                  clear hb8
                  generalize v2.alloc (.cells #[.int .i64 X, .int .i64 Y] 48) = v3 at *
                  exact TAIL a3 c3 b1 b8 v3 ⟨hE3, q8, hv3⟩
                · intro K hK
                  go_wp2
                  have hbb := below_alloc v1 (.cells #[.int .i64 X, .int .i64 Y] 48)
                  have hsv2 := hv1.size
                  have q8 := heap_alloc_new v1 (.cells #[.int .i64 X, .int .i64 Y] 48)
                  have hE := own_below hE hbb
                  have hv2 := below_tr' hv1 hbb
                  refine hK _ _ (fun _ => ⟨⟨_, hv2⟩, rfl⟩) ?_
                  clear hK hbb
                  obtain ⟨b8, hb8⟩ : ∃ x, x = v1.heap.size := ⟨_, rfl⟩
                  simp only [← hb8] at q8 ⊢
                  have Hb8 := Lib.hid (show w6.heap.size ≤ b8 ∧ b8 < (v1.alloc (.cells #[.int .i64 X, .int .i64 Y] 48)).heap.size ∧ v1.heap.size ≤ b8 from ⟨by omega, by simp; omega, by omega⟩)
                  clear hb8
                  generalize v1.alloc (.cells #[.int .i64 X, .int .i64 Y] 48) = v2 at *
                  refine any_one (i := 4) (by kernel_rfl) rfl ?_
                  intro K hK
                  have hMv := (HES.out _ hv2).take k
                  have hsv3 := hv2.size
                  refine appendAllg Try.infoE _ _ rfl rfl (m := k) hE hMv (by rw [edges_length, HLK.out]) (edges_one _) (by intro h; cases h) (World.grownBy.refl _ _) hsv3 rfl rfl (by omega) ?_
                  intro a3 c3 v3 hE3 hg3
                  rw [Nat.zero_add] at hE3
                  simp only [Nat.zero_add]
                  have hv3 := hv2.grown hg3 (by have h1 := hsv3; omega) (fun k hi => by have h1 := Hb1.out; simp [Value.ownBlock] at hi; omega)
                  have q8 := blk_grown q8 hg3 (by have h1 := Hb1.out; have h8 := Hb8.out; simp [Value.ownBlock]; omega)
                  refine wpList_nil ⟨rfl, hK _ _ (fun _ => ⟨⟨_, hv3⟩, rfl⟩) ?_⟩
                  clear hK hMv hE hg3
                  exact TAIL a3 c3 b1 b8 v3 ⟨hE3, q8, hv3⟩
              · intro K hK
                go_wp2
                have hbb := below_alloc v0 (.cells #[.int .i64 X, .int .i64 Y] 48)
                have hsv1 := hv0.size
                have q8 := heap_alloc_new v0 (.cells #[.int .i64 X, .int .i64 Y] 48)
                have hv1 := below_tr' hv0 hbb
                refine hK _ _ (fun _ => ⟨⟨_, hv1⟩, rfl⟩) ?_
                clear hK hbb
                obtain ⟨b8, hb8⟩ : ∃ x, x = v0.heap.size := ⟨_, rfl⟩
                simp only [← hb8] at q8 ⊢
                have Hb8 := Lib.hid (show w6.heap.size ≤ b8 ∧ b8 < (v0.alloc (.cells #[.int .i64 X, .int .i64 Y] 48)).heap.size ∧ v0.heap.size ≤ b8 from ⟨by omega, by simp; omega, by omega⟩)
                clear hb8
                generalize v0.alloc (.cells #[.int .i64 X, .int .i64 Y] 48) = v1 at *
                refine any_one (i := 0) (by kernel_rfl) rfl ?_
                intro K hK
                go_wp2
                have hbb := below_alloc v1 (.cells #[] 48)
                have hsv2 := hv1.size
                have hE : (v1.alloc (.cells #[] 48)).ownsRow w6.heap.size 48 2 (.slice (some ⟨v1.heap.size, 0, none⟩) 0 0) 0 (edges []) := own_mono (World.ownsRow_made v1 #[] 0 (Nat.le_refl _) (by decide) rfl) hsv2
                have q8 := blk_below q8 hbb
                have hv2 := below_tr' hv1 hbb
                refine hK _ _ (fun _ => ⟨⟨_, hv2⟩, rfl⟩) ?_
                clear hK hbb
                obtain ⟨b1, hb1⟩ : ∃ x, x = v1.heap.size := ⟨_, rfl⟩
                simp only [← hb1] at hE ⊢
                have Hb1 := Lib.hid (show w6.heap.size ≤ b1 ∧ b1 < (v1.alloc (.cells #[] 48)).heap.size ∧ v1.heap.size ≤ b1 from ⟨by omega, by simp; omega, by omega⟩)
                clear hb1
                generalize v1.alloc (.cells #[] 48) = v2 at *
                refine any_one (i := 4) (by kernel_rfl) rfl ?_
                intro K hK
                have hMv := (HES.out _ hv2).take k
                have hsv3 := hv2.size
                refine appendAllg Try.infoE _ _ rfl rfl (m := k) hE hMv (by rw [edges_length, HLK.out]) (edges_one _) (by intro h; cases h) (World.grownBy.refl _ _) hsv3 rfl rfl (by omega) ?_
                intro a3 c3 v3 hE3 hg3
                rw [Nat.zero_add] at hE3
                simp only [Nat.zero_add]
                have hv3 := hv2.grown hg3 (by have h1 := hsv3; omega) (fun k hi => by have h1 := Hb1.out; simp [Value.ownBlock] at hi; omega)
                have q8 := blk_grown q8 hg3 (by have h1 := Hb1.out; have h8 := Hb8.out; simp [Value.ownBlock]; omega)
                refine wpList_nil ⟨rfl, hK _ _ (fun _ => ⟨⟨_, hv3⟩, rfl⟩) ?_⟩
                clear hK hMv hE hg3
                exact TAIL a3 c3 b1 b8 v3 ⟨hE3, q8, hv3⟩
            case tail =>
              rintro a3 c3 b1 b8 V ⟨hE3, q8, hbV⟩
              have hsV := hbV.size
              refine any_one (i := 7) (by kernel_rfl) rfl ?_
              intro K hK
              have hS1 : Rd V (some ⟨b8, 0, none⟩) [.int .i64 X, .int .i64 Y] := own_rd (show V.ownsRow 0 48 2 (.slice (some ⟨b8, 0, none⟩) 1 1) 1 [.int .i64 X, .int .i64 Y] from ⟨rfl, .inr ⟨b8, 1, _, rfl, Nat.zero_le _, q8, Nat.le_refl _, by decide, rfl, rfl⟩⟩)
              refine appendAllg Try.infoE _ _ rfl rfl (m := 1) hE3 hS1 rfl (by intro u hu; simp at hu; rcases hu with rfl | rfl <;> rfl) (by intro h; cases h) (World.grownBy.refl _ _) hsV rfl rfl (by omega) ?_
              intro a4 c4 V2 hE4 hg4
              have hb4 := hbV.grown hg4 hsV (fun k hi => (hE3.lt k hi).1)
              refine wpList_nil ⟨rfl, hK _ _ (fun _ => ⟨⟨_, hb4⟩, rfl⟩) ?_⟩
              clear hK hS1 q8 hg4 hE3
              have hs4 := hb4.size
              refine any_one (i := 11) (by kernel_rfl) rfl ?_
              intro K hK
              have hdl : (es.drop k).length = 0 := by rw [List.length_drop, HLE.out]; omega
              refine appendAllg Try.infoE _ _ rfl rfl (m := 0)  (ys := edges (es.drop k)) hE4 (by rw [List.drop_of_length_le (by rw [HLE.out]; exact Nat.le_refl _)]; exact Rd.nil _ _) (by rw [edges_length, hdl]) (edges_one _) (by intro h; first | (cases h; done) | exact ⟨by omega, rfl⟩) (World.grownBy.refl _ _) hs4 rfl rfl (by omega) ?_
              intro a5 c5 V3 hE5 hg5
              have hb5 := hb4.grown hg5 hs4 (fun k hi => (hE4.lt k hi).1)
              refine wpList_nil ⟨rfl, hK _ _ (fun _ => ⟨⟨_, hb5⟩, rfl⟩) ?_⟩
              clear hK hE4 hg5
              have e9 : k + 1 + 0 = k + 1 := by omega
              rw [e9] at hE5
              simp only [e9]
              have hIns : edges [] ++ edges (es.take k) ++ [Value.int .i64 X, Value.int .i64 Y] ++ edges (es.drop k) = edges (ordP xs ys (k + 1)) := by
                rw [HORD.out, HCUT.out, edges_append, edges_cons]
                simp [edges]
              rw [hIns] at hE5
              have hHB := below_tr' hbw (below_tr' hb6 hb5)
              have hsw := (below_tr' hbw hb6).size
              have HFIN := Lib.hid (And.intro (own_mono hE5 hsw) hHB)
              obtain ⟨g5, rfl, _, _⟩ := own_head hE5 (by omega)
              clear hE5 hHB hIns
              refine any_one (i := 12) (by kernel_rfl) rfl ?_
              intro K hK
              go_wp2
              refine hK _ _ (fun h => absurd rfl h) ?_
              clear hK
              refine any_end (by kernel_rfl) ?_
              go_wp2
              go_roundw
              case rel => exact ⟨k + 1, g5, c5, by omega, by go_num, rfl, HFIN.out.1, HFIN.out.2⟩
              case measure => simp [intOf]; omega
    · have e : i = n := by omega
      subst e
      have HO := Lib.hid ho
      clear ho
      go_wp2
      go_ret
      exact ⟨_, c, rfl, HO.out, hbw⟩

end Go.Proofs.Ytjghcegacgpehaa
