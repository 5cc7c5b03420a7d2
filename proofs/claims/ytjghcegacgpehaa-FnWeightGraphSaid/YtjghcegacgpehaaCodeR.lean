
/- The code of a graph: impl.CodeOf, entered. -/
import Derived.Test.YtjghcegacgpehaaCodeN
namespace Go.Proofs.Ytjghcegacgpehaa
open Go.RowKit Go.Shelf

attribute [local go_sem] Oper.semAt_some

set_option maxRecDepth 100000 in
set_option maxHeartbeats 4000000 in
theorem CodeOf_any (N : Nat) (a : Option Addr) (c n : Nat) (es : List E2) (w : World) (hN1 : 1 ≤ N) (hN7 : N ≤ 7) (hn : es.length = n) (hx : Rd w a (edges es)) (hl0 : n ≤ 8796093022208) (hV : validG N es = true) (hP : Peels N es) :
    Calls Try.prog 46 #[graphV N a n c] w fun e w' => ∃ s v, e = .returned (.tuple #[s, v, .bool true]) ∧ Below w.heap.size w w' := by
  refine (callsIn_wide (n := 6)).1 ?_
  refine callsIn_of_wp_marks Try.func46 rfl trivial ?_ rfl
  simp only [Try.ntmps46, List.size_toArray, List.length_cons, List.length_nil, Nat.reduceAdd, Nat.reduceSub, Array.replicate_succ, Array.replicate_zero, List.push_toArray, List.append_toArray, List.nil_append, List.cons_append]
  refine wpIn_wide.2 ?_
  have hB := below_alloc w (.cells #[.int .i64 N, .slice a n c] 25)
  have qg := heap_alloc_new w (.cells #[.int .i64 N, .slice a n c] 25)
  have hx1 := hx.below hB
  generalize hW : w.alloc (.cells #[.int .i64 N, .slice a n c] 25) = W at *
  have HW := Lib.hid hW
  clear hW
  have g0 := blk_cell qg 0 (.int .i64 N) rfl
  have g1 := blk_cell qg 1 (.slice a n c) rfl
  have C1 := implValidGraph_any N a c n es W (by omega) hn hx1 hl0
  rw [hV] at C1
  go_wp2_with (simp only [HW.out])
  refine C1.mono ?_
  rintro e w1 ⟨rfl, hb1⟩
  clear C1 g0 g1 HW
  have qg := blk_below qg hb1
  have hB1 := below_tr' hB hb1
  have g0 := blk_cell qg 0 (.int .i64 N) rfl
  have g1 := blk_cell qg 1 (.slice a n c) rfl
  have C1 := indices_any N w1 (by omega)
  go_wp2_with fail
  refine C1.mono ?_
  rintro e w2 ⟨aI, cI, rfl, ho, hb2⟩
  clear C1 g0 g1
  have hs1 := hB1.size
  have qg := blk_below qg hb2
  have hB2 := below_tr' hB1 hb2
  have hs2 := hB2.size
  have ho := own_mono ho hs1
  have q5 := heap_alloc_new w2 (.cells #[.slice none 0 0] 38)
  have f5 := blk_free q5 0
  have HO := Lib.hid ho
  clear ho
  go_upto_region 4 with (fail)
  have HP := Lib.hid (show PB w (w2.alloc (.cells #[.slice aI N cI] 38)) w.heap.size w2.heap.size N a c n aI cI (upI N) (w2.alloc (.cells #[.slice aI N cI] 38)) from ⟨blk_below qg (below_alloc _ _), heap_alloc_new _ _, own_below HO.out (below_alloc _ _), below_tr' hB2 (below_alloc _ _), Below.refl _ _, (below_tr' hB2 (below_alloc _ _)).size⟩)
  have l5 : w.heap.size ≤ w2.heap.size := hs2
  generalize hW4 : w2.alloc (.cells #[.slice aI N cI] 38) = W4 at *
  clear hW4 q5 f5 hB hb1 hB1 hb2 hB2 hs1 qg HO hx1
  refine region_then (fun A V => ∃ gA gO b6 b7, A = { tmps := #[graphV N a n c, Value.pointer (some ⟨w.heap.size, 0, none⟩), Value.string { data := #[] }, Value.slice none 0 0, Value.bool false, Value.pointer (some ⟨w2.heap.size, 0, none⟩), Value.pointer (some ⟨b6, 0, none⟩), Value.pointer (some ⟨b7, 0, none⟩), undef, undef, undef, undef, undef, Value.agg #[Value.int .i64 N, Value.slice a n c], Value.bool true, Value.bool false, Value.bool false, Value.pointer (some ⟨w.heap.size, 0, none⟩), Value.int .i64 N, Value.bool false, Value.bool false, Value.pointer (some ⟨w.heap.size, 0, none⟩), Value.int .i64 N, Value.slice aI N cI, Value.pointer (some ⟨w.heap.size, 0, none⟩), Value.int .i64 N, Value.slice (some ⟨gA, 0, none⟩) N N, Value.pointer (some ⟨w.heap.size, 0, none⟩), Value.int .i64 N, Value.slice (some ⟨gO, 0, none⟩) N N, undef, undef, undef, undef, undef, undef, undef, undef, undef, undef, undef, undef, undef, undef, undef, undef, undef, undef, undef, undef, undef, undef, undef, undef, undef, undef, undef, undef, undef, undef, undef, undef, undef, undef, undef, undef, undef, undef, undef, undef, undef, undef, undef], defers := [] } ∧ CS w w.heap.size w2.heap.size b6 b7 gA gO N a c n [] N aI cI (upI N) V) ?_ ?_
  · have hp0 := HP.out.below (bel_drew (Below.refl W4.heap.size W4))
    refine wp_region_heads [true, true, false, true, true, false, false, false, false, false] 9 6 (C := fun w' => ∃ u : Later W4, w' = u.val) (by kernel_rfl) (by kernel_rfl) ⟨⟨_, hp0.bw⟩, rfl⟩ ?_
    have d0 := later_cell (blk_cell HP.out.qg 0 (.int .i64 N) rfl)
    simp only [pickT]
    repeat (go_big_quiet_step (fail))
    refine wpQuiet_nil ?_
    refine as_J ?_
    intro J hJ
    have mAOXYS := Lib.hid (show ∀ (gA : Nat) (gO : Nat) (b6 : Nat) (b7 : Nat) (V : World), PB w W4 w.heap.size w2.heap.size N a c n aI cI (upI N) V → MA w gA N V → MO w gO N aI V → MX W4 b6 (Value.slice (some ⟨gA, 0, none⟩) N N) V → MY W4 b7 w2.heap.size (Value.slice none 0 0) V → J 1 #[true, true, true, true, true, true, true, true, true, false] ({ tmps := #[graphV N a n c, Value.pointer (some ⟨w.heap.size, 0, none⟩), Value.string { data := #[] }, Value.slice none 0 0, Value.bool false, Value.pointer (some ⟨w2.heap.size, 0, none⟩), Value.pointer (some ⟨b6, 0, none⟩), Value.pointer (some ⟨b7, 0, none⟩), undef, undef, undef, undef, undef, Value.agg #[Value.int .i64 N, Value.slice a n c], Value.bool true, Value.bool false, Value.bool false, Value.pointer (some ⟨w.heap.size, 0, none⟩), Value.int .i64 N, Value.bool false, Value.bool false, Value.pointer (some ⟨w.heap.size, 0, none⟩), Value.int .i64 N, Value.slice aI N cI, Value.pointer (some ⟨w.heap.size, 0, none⟩), Value.int .i64 N, Value.slice (some ⟨gA, 0, none⟩) N N, Value.pointer (some ⟨w.heap.size, 0, none⟩), Value.int .i64 N, Value.slice (some ⟨gO, 0, none⟩) N N, undef, undef, undef, undef, undef, undef, undef, undef, undef, undef, undef, undef, undef, undef, undef, undef, undef, undef, undef, undef, undef, undef, undef, undef, undef, undef, undef, undef, undef, undef, undef, undef, undef, undef, undef, undef, undef, undef, undef, undef, undef, undef, undef], defers := [] }) V from by
      intro gA gO b6 b7 V hp hA hO hX hY
      rw [hJ]
      refine any_one (i := 9) (by kernel_rfl) rfl ?_ 
      · intro K hK
        have z := blk_cell hY.2.1 0 _ rfl
        have f := blk_free hY.2.1 0
        go_wp2
        refine hK _ _ (fun h => absurd rfl h) ?_
        refine any_end (by kernel_rfl) ?_
        exact ⟨gA, gO, b6, b7, rfl, hp.fin hA hO hX hY l5⟩)
    have mAOXY := Lib.hid (show ∀ (gA : Nat) (gO : Nat) (b6 : Nat) (b7 : Nat) (V : World), PB w W4 w.heap.size w2.heap.size N a c n aI cI (upI N) V → MA w gA N V → MO w gO N aI V → MX W4 b6 (Value.slice none 0 0) V → MY W4 b7 w2.heap.size (Value.slice none 0 0) V → J 2 #[true, true, true, true, true, true, true, true, false, false] ({ tmps := #[graphV N a n c, Value.pointer (some ⟨w.heap.size, 0, none⟩), Value.string { data := #[] }, Value.slice none 0 0, Value.bool false, Value.pointer (some ⟨w2.heap.size, 0, none⟩), Value.pointer (some ⟨b6, 0, none⟩), Value.pointer (some ⟨b7, 0, none⟩), undef, undef, undef, undef, undef, Value.agg #[Value.int .i64 N, Value.slice a n c], Value.bool true, Value.bool false, Value.bool false, Value.pointer (some ⟨w.heap.size, 0, none⟩), Value.int .i64 N, Value.bool false, Value.bool false, Value.pointer (some ⟨w.heap.size, 0, none⟩), Value.int .i64 N, Value.slice aI N cI, Value.pointer (some ⟨w.heap.size, 0, none⟩), Value.int .i64 N, Value.slice (some ⟨gA, 0, none⟩) N N, Value.pointer (some ⟨w.heap.size, 0, none⟩), Value.int .i64 N, Value.slice (some ⟨gO, 0, none⟩) N N, undef, undef, undef, undef, undef, undef, undef, undef, undef, undef, undef, undef, undef, undef, undef, undef, undef, undef, undef, undef, undef, undef, undef, undef, undef, undef, undef, undef, undef, undef, undef, undef, undef, undef, undef, undef, undef, undef, undef, undef, undef, undef, undef], defers := [] }) V from by
      intro gA gO b6 b7 V hp hA hO hX hY
      rw [hJ]
      refine any_one (i := 8) (by kernel_rfl) rfl ?_ 
      · intro K hK
        have z := blk_cell hX.2 0 _ rfl
        have f := blk_free hX.2 0
        go_wp2
        refine hK _ _ (fun _ => ⟨⟨_, (hp.setX hX _).bw⟩, rfl⟩) ?_
        rw [← hJ]
        exact mAOXYS.out _ _ _ _ _ (hp.setX hX _) (hA.setX hX _) (hO.setX hX _) (hX.set _) (hY.setX hX _))
    have mAOX := Lib.hid (show ∀ (gA : Nat) (gO : Nat) (b6 : Nat) (V : World), PB w W4 w.heap.size w2.heap.size N a c n aI cI (upI N) V → MA w gA N V → MO w gO N aI V → MX W4 b6 (Value.slice none 0 0) V → J 3 #[true, true, true, true, true, true, true, false, false, false] ({ tmps := #[graphV N a n c, Value.pointer (some ⟨w.heap.size, 0, none⟩), Value.string { data := #[] }, Value.slice none 0 0, Value.bool false, Value.pointer (some ⟨w2.heap.size, 0, none⟩), Value.pointer (some ⟨b6, 0, none⟩), undef, undef, undef, undef, undef, undef, Value.agg #[Value.int .i64 N, Value.slice a n c], Value.bool true, Value.bool false, Value.bool false, Value.pointer (some ⟨w.heap.size, 0, none⟩), Value.int .i64 N, Value.bool false, Value.bool false, Value.pointer (some ⟨w.heap.size, 0, none⟩), Value.int .i64 N, Value.slice aI N cI, Value.pointer (some ⟨w.heap.size, 0, none⟩), Value.int .i64 N, Value.slice (some ⟨gA, 0, none⟩) N N, Value.pointer (some ⟨w.heap.size, 0, none⟩), Value.int .i64 N, Value.slice (some ⟨gO, 0, none⟩) N N, undef, undef, undef, undef, undef, undef, undef, undef, undef, undef, undef, undef, undef, undef, undef, undef, undef, undef, undef, undef, undef, undef, undef, undef, undef, undef, undef, undef, undef, undef, undef, undef, undef, undef, undef, undef, undef, undef, undef, undef, undef, undef, undef], defers := [] }) V from by
      intro gA gO b6 V hp hA hO hX
      rw [hJ]
      refine any_one (i := 7) (by kernel_rfl) rfl ?_ 
      · intro K hK
        go_wp2
        refine hK _ _ (fun _ => ⟨⟨_, (hp.below (below_alloc _ _)).bw⟩, rfl⟩) ?_
        rw [← hJ]
        exact mAOXY.out _ _ _ V.heap.size _ (hp.below (below_alloc _ _)) (hA.below (below_alloc _ _)) (hO.below (below_alloc _ _)) (hX.below (below_alloc _ _)) hp.mkY)
    have mAOY := Lib.hid (show ∀ (gA : Nat) (gO : Nat) (b7 : Nat) (V : World), PB w W4 w.heap.size w2.heap.size N a c n aI cI (upI N) V → MA w gA N V → MO w gO N aI V → MY W4 b7 w2.heap.size (Value.slice none 0 0) V → J 3 #[true, true, true, true, true, true, false, true, false, false] ({ tmps := #[graphV N a n c, Value.pointer (some ⟨w.heap.size, 0, none⟩), Value.string { data := #[] }, Value.slice none 0 0, Value.bool false, Value.pointer (some ⟨w2.heap.size, 0, none⟩), undef, Value.pointer (some ⟨b7, 0, none⟩), undef, undef, undef, undef, undef, Value.agg #[Value.int .i64 N, Value.slice a n c], Value.bool true, Value.bool false, Value.bool false, Value.pointer (some ⟨w.heap.size, 0, none⟩), Value.int .i64 N, Value.bool false, Value.bool false, Value.pointer (some ⟨w.heap.size, 0, none⟩), Value.int .i64 N, Value.slice aI N cI, Value.pointer (some ⟨w.heap.size, 0, none⟩), Value.int .i64 N, Value.slice (some ⟨gA, 0, none⟩) N N, Value.pointer (some ⟨w.heap.size, 0, none⟩), Value.int .i64 N, Value.slice (some ⟨gO, 0, none⟩) N N, undef, undef, undef, undef, undef, undef, undef, undef, undef, undef, undef, undef, undef, undef, undef, undef, undef, undef, undef, undef, undef, undef, undef, undef, undef, undef, undef, undef, undef, undef, undef, undef, undef, undef, undef, undef, undef, undef, undef, undef, undef, undef, undef], defers := [] }) V from by
      intro gA gO b7 V hp hA hO hY
      rw [hJ]
      refine any_one (i := 6) (by kernel_rfl) rfl ?_ 
      · intro K hK
        go_wp2
        refine hK _ _ (fun _ => ⟨⟨_, (hp.below (below_alloc _ _)).bw⟩, rfl⟩) ?_
        rw [← hJ]
        exact mAOXY.out _ _ V.heap.size _ _ (hp.below (below_alloc _ _)) (hA.below (below_alloc _ _)) (hO.below (below_alloc _ _)) hp.mkX (hY.below (below_alloc _ _)))
    have mAO := Lib.hid (show ∀ (gA : Nat) (gO : Nat) (V : World), PB w W4 w.heap.size w2.heap.size N a c n aI cI (upI N) V → MA w gA N V → MO w gO N aI V → J 4 #[true, true, true, true, true, true, false, false, false, false] ({ tmps := #[graphV N a n c, Value.pointer (some ⟨w.heap.size, 0, none⟩), Value.string { data := #[] }, Value.slice none 0 0, Value.bool false, Value.pointer (some ⟨w2.heap.size, 0, none⟩), undef, undef, undef, undef, undef, undef, undef, Value.agg #[Value.int .i64 N, Value.slice a n c], Value.bool true, Value.bool false, Value.bool false, Value.pointer (some ⟨w.heap.size, 0, none⟩), Value.int .i64 N, Value.bool false, Value.bool false, Value.pointer (some ⟨w.heap.size, 0, none⟩), Value.int .i64 N, Value.slice aI N cI, Value.pointer (some ⟨w.heap.size, 0, none⟩), Value.int .i64 N, Value.slice (some ⟨gA, 0, none⟩) N N, Value.pointer (some ⟨w.heap.size, 0, none⟩), Value.int .i64 N, Value.slice (some ⟨gO, 0, none⟩) N N, undef, undef, undef, undef, undef, undef, undef, undef, undef, undef, undef, undef, undef, undef, undef, undef, undef, undef, undef, undef, undef, undef, undef, undef, undef, undef, undef, undef, undef, undef, undef, undef, undef, undef, undef, undef, undef, undef, undef, undef, undef, undef, undef], defers := [] }) V from by
      intro gA gO V hp hA hO
      rw [hJ]
      refine any_two (i := 6) (j := 7) (by kernel_rfl) rfl rfl ?_ ?_ 
      · intro K hK
        go_wp2
        refine hK _ _ (fun _ => ⟨⟨_, (hp.below (below_alloc _ _)).bw⟩, rfl⟩) ?_
        rw [← hJ]
        exact mAOX.out _ _ V.heap.size _ (hp.below (below_alloc _ _)) (hA.below (below_alloc _ _)) (hO.below (below_alloc _ _)) hp.mkX
      · intro K hK
        go_wp2
        refine hK _ _ (fun _ => ⟨⟨_, (hp.below (below_alloc _ _)).bw⟩, rfl⟩) ?_
        rw [← hJ]
        exact mAOY.out _ _ V.heap.size _ (hp.below (below_alloc _ _)) (hA.below (below_alloc _ _)) (hO.below (below_alloc _ _)) hp.mkY)
    have mAXYS := Lib.hid (show ∀ (gA : Nat) (b6 : Nat) (b7 : Nat) (V : World), PB w W4 w.heap.size w2.heap.size N a c n aI cI (upI N) V → MA w gA N V → MX W4 b6 (Value.slice (some ⟨gA, 0, none⟩) N N) V → MY W4 b7 w2.heap.size (Value.slice none 0 0) V → J 2 #[true, true, true, true, true, false, true, true, true, false] ({ tmps := #[graphV N a n c, Value.pointer (some ⟨w.heap.size, 0, none⟩), Value.string { data := #[] }, Value.slice none 0 0, Value.bool false, Value.pointer (some ⟨w2.heap.size, 0, none⟩), Value.pointer (some ⟨b6, 0, none⟩), Value.pointer (some ⟨b7, 0, none⟩), undef, undef, undef, undef, undef, Value.agg #[Value.int .i64 N, Value.slice a n c], Value.bool true, Value.bool false, Value.bool false, Value.pointer (some ⟨w.heap.size, 0, none⟩), Value.int .i64 N, Value.bool false, Value.bool false, Value.pointer (some ⟨w.heap.size, 0, none⟩), Value.int .i64 N, Value.slice aI N cI, Value.pointer (some ⟨w.heap.size, 0, none⟩), Value.int .i64 N, Value.slice (some ⟨gA, 0, none⟩) N N, Value.pointer (some ⟨w.heap.size, 0, none⟩), Value.int .i64 N, undef, undef, undef, undef, undef, undef, undef, undef, undef, undef, undef, undef, undef, undef, undef, undef, undef, undef, undef, undef, undef, undef, undef, undef, undef, undef, undef, undef, undef, undef, undef, undef, undef, undef, undef, undef, undef, undef, undef, undef, undef, undef, undef, undef], defers := [] }) V from by
      intro gA b6 b7 V hp hA hX hY
      rw [hJ]
      refine any_one (i := 5) (by kernel_rfl) rfl ?_ 
      · intro K hK
        refine makeI Try.infoI (.tmp 28) (.tmp 28) (kl := .i64) (kc := .i64) (L := N) (C := N) (n := N) rfl rfl rfl rfl rfl rfl (by omega) ?_
        intro w1 ho hb
        go_wp2
        refine hK _ _ (fun _ => ⟨⟨_, (hp.below hb).bw⟩, rfl⟩) ?_
        rw [← hJ]
        exact mAOXYS.out _ V.heap.size _ _ _ (hp.below hb) (hA.below hb) (hp.mkO ho) (hX.below hb) (hY.below hb))
    have mAXY := Lib.hid (show ∀ (gA : Nat) (b6 : Nat) (b7 : Nat) (V : World), PB w W4 w.heap.size w2.heap.size N a c n aI cI (upI N) V → MA w gA N V → MX W4 b6 (Value.slice none 0 0) V → MY W4 b7 w2.heap.size (Value.slice none 0 0) V → J 3 #[true, true, true, true, true, false, true, true, false, false] ({ tmps := #[graphV N a n c, Value.pointer (some ⟨w.heap.size, 0, none⟩), Value.string { data := #[] }, Value.slice none 0 0, Value.bool false, Value.pointer (some ⟨w2.heap.size, 0, none⟩), Value.pointer (some ⟨b6, 0, none⟩), Value.pointer (some ⟨b7, 0, none⟩), undef, undef, undef, undef, undef, Value.agg #[Value.int .i64 N, Value.slice a n c], Value.bool true, Value.bool false, Value.bool false, Value.pointer (some ⟨w.heap.size, 0, none⟩), Value.int .i64 N, Value.bool false, Value.bool false, Value.pointer (some ⟨w.heap.size, 0, none⟩), Value.int .i64 N, Value.slice aI N cI, Value.pointer (some ⟨w.heap.size, 0, none⟩), Value.int .i64 N, Value.slice (some ⟨gA, 0, none⟩) N N, Value.pointer (some ⟨w.heap.size, 0, none⟩), Value.int .i64 N, undef, undef, undef, undef, undef, undef, undef, undef, undef, undef, undef, undef, undef, undef, undef, undef, undef, undef, undef, undef, undef, undef, undef, undef, undef, undef, undef, undef, undef, undef, undef, undef, undef, undef, undef, undef, undef, undef, undef, undef, undef, undef, undef, undef], defers := [] }) V from by
      intro gA b6 b7 V hp hA hX hY
      rw [hJ]
      refine any_two (i := 5) (j := 8) (by kernel_rfl) rfl rfl ?_ ?_ 
      · intro K hK
        refine makeI Try.infoI (.tmp 28) (.tmp 28) (kl := .i64) (kc := .i64) (L := N) (C := N) (n := N) rfl rfl rfl rfl rfl rfl (by omega) ?_
        intro w1 ho hb
        go_wp2
        refine hK _ _ (fun _ => ⟨⟨_, (hp.below hb).bw⟩, rfl⟩) ?_
        rw [← hJ]
        exact mAOXY.out _ V.heap.size _ _ _ (hp.below hb) (hA.below hb) (hp.mkO ho) (hX.below hb) (hY.below hb)
      · intro K hK
        have z := blk_cell hX.2 0 _ rfl
        have f := blk_free hX.2 0
        go_wp2
        refine hK _ _ (fun _ => ⟨⟨_, (hp.setX hX _).bw⟩, rfl⟩) ?_
        rw [← hJ]
        exact mAXYS.out _ _ _ _ (hp.setX hX _) (hA.setX hX _) (hX.set _) (hY.setX hX _))
    have mAX := Lib.hid (show ∀ (gA : Nat) (b6 : Nat) (V : World), PB w W4 w.heap.size w2.heap.size N a c n aI cI (upI N) V → MA w gA N V → MX W4 b6 (Value.slice none 0 0) V → J 4 #[true, true, true, true, true, false, true, false, false, false] ({ tmps := #[graphV N a n c, Value.pointer (some ⟨w.heap.size, 0, none⟩), Value.string { data := #[] }, Value.slice none 0 0, Value.bool false, Value.pointer (some ⟨w2.heap.size, 0, none⟩), Value.pointer (some ⟨b6, 0, none⟩), undef, undef, undef, undef, undef, undef, Value.agg #[Value.int .i64 N, Value.slice a n c], Value.bool true, Value.bool false, Value.bool false, Value.pointer (some ⟨w.heap.size, 0, none⟩), Value.int .i64 N, Value.bool false, Value.bool false, Value.pointer (some ⟨w.heap.size, 0, none⟩), Value.int .i64 N, Value.slice aI N cI, Value.pointer (some ⟨w.heap.size, 0, none⟩), Value.int .i64 N, Value.slice (some ⟨gA, 0, none⟩) N N, Value.pointer (some ⟨w.heap.size, 0, none⟩), Value.int .i64 N, undef, undef, undef, undef, undef, undef, undef, undef, undef, undef, undef, undef, undef, undef, undef, undef, undef, undef, undef, undef, undef, undef, undef, undef, undef, undef, undef, undef, undef, undef, undef, undef, undef, undef, undef, undef, undef, undef, undef, undef, undef, undef, undef, undef], defers := [] }) V from by
      intro gA b6 V hp hA hX
      rw [hJ]
      refine any_two (i := 5) (j := 7) (by kernel_rfl) rfl rfl ?_ ?_ 
      · intro K hK
        refine makeI Try.infoI (.tmp 28) (.tmp 28) (kl := .i64) (kc := .i64) (L := N) (C := N) (n := N) rfl rfl rfl rfl rfl rfl (by omega) ?_
        intro w1 ho hb
        go_wp2
        refine hK _ _ (fun _ => ⟨⟨_, (hp.below hb).bw⟩, rfl⟩) ?_
        rw [← hJ]
        exact mAOX.out _ V.heap.size _ _ (hp.below hb) (hA.below hb) (hp.mkO ho) (hX.below hb)
      · intro K hK
        go_wp2
        refine hK _ _ (fun _ => ⟨⟨_, (hp.below (below_alloc _ _)).bw⟩, rfl⟩) ?_
        rw [← hJ]
        exact mAXY.out _ _ V.heap.size _ (hp.below (below_alloc _ _)) (hA.below (below_alloc _ _)) (hX.below (below_alloc _ _)) hp.mkY)
    have mAY := Lib.hid (show ∀ (gA : Nat) (b7 : Nat) (V : World), PB w W4 w.heap.size w2.heap.size N a c n aI cI (upI N) V → MA w gA N V → MY W4 b7 w2.heap.size (Value.slice none 0 0) V → J 4 #[true, true, true, true, true, false, false, true, false, false] ({ tmps := #[graphV N a n c, Value.pointer (some ⟨w.heap.size, 0, none⟩), Value.string { data := #[] }, Value.slice none 0 0, Value.bool false, Value.pointer (some ⟨w2.heap.size, 0, none⟩), undef, Value.pointer (some ⟨b7, 0, none⟩), undef, undef, undef, undef, undef, Value.agg #[Value.int .i64 N, Value.slice a n c], Value.bool true, Value.bool false, Value.bool false, Value.pointer (some ⟨w.heap.size, 0, none⟩), Value.int .i64 N, Value.bool false, Value.bool false, Value.pointer (some ⟨w.heap.size, 0, none⟩), Value.int .i64 N, Value.slice aI N cI, Value.pointer (some ⟨w.heap.size, 0, none⟩), Value.int .i64 N, Value.slice (some ⟨gA, 0, none⟩) N N, Value.pointer (some ⟨w.heap.size, 0, none⟩), Value.int .i64 N, undef, undef, undef, undef, undef, undef, undef, undef, undef, undef, undef, undef, undef, undef, undef, undef, undef, undef, undef, undef, undef, undef, undef, undef, undef, undef, undef, undef, undef, undef, undef, undef, undef, undef, undef, undef, undef, undef, undef, undef, undef, undef, undef, undef], defers := [] }) V from by
      intro gA b7 V hp hA hY
      rw [hJ]
      refine any_two (i := 5) (j := 6) (by kernel_rfl) rfl rfl ?_ ?_ 
      · intro K hK
        refine makeI Try.infoI (.tmp 28) (.tmp 28) (kl := .i64) (kc := .i64) (L := N) (C := N) (n := N) rfl rfl rfl rfl rfl rfl (by omega) ?_
        intro w1 ho hb
        go_wp2
        refine hK _ _ (fun _ => ⟨⟨_, (hp.below hb).bw⟩, rfl⟩) ?_
        rw [← hJ]
        exact mAOY.out _ V.heap.size _ _ (hp.below hb) (hA.below hb) (hp.mkO ho) (hY.below hb)
      · intro K hK
        go_wp2
        refine hK _ _ (fun _ => ⟨⟨_, (hp.below (below_alloc _ _)).bw⟩, rfl⟩) ?_
        rw [← hJ]
        exact mAXY.out _ V.heap.size _ _ (hp.below (below_alloc _ _)) (hA.below (below_alloc _ _)) hp.mkX (hY.below (below_alloc _ _)))
    have mA := Lib.hid (show ∀ (gA : Nat) (V : World), PB w W4 w.heap.size w2.heap.size N a c n aI cI (upI N) V → MA w gA N V → J 5 #[true, true, true, true, true, false, false, false, false, false] ({ tmps := #[graphV N a n c, Value.pointer (some ⟨w.heap.size, 0, none⟩), Value.string { data := #[] }, Value.slice none 0 0, Value.bool false, Value.pointer (some ⟨w2.heap.size, 0, none⟩), undef, undef, undef, undef, undef, undef, undef, Value.agg #[Value.int .i64 N, Value.slice a n c], Value.bool true, Value.bool false, Value.bool false, Value.pointer (some ⟨w.heap.size, 0, none⟩), Value.int .i64 N, Value.bool false, Value.bool false, Value.pointer (some ⟨w.heap.size, 0, none⟩), Value.int .i64 N, Value.slice aI N cI, Value.pointer (some ⟨w.heap.size, 0, none⟩), Value.int .i64 N, Value.slice (some ⟨gA, 0, none⟩) N N, Value.pointer (some ⟨w.heap.size, 0, none⟩), Value.int .i64 N, undef, undef, undef, undef, undef, undef, undef, undef, undef, undef, undef, undef, undef, undef, undef, undef, undef, undef, undef, undef, undef, undef, undef, undef, undef, undef, undef, undef, undef, undef, undef, undef, undef, undef, undef, undef, undef, undef, undef, undef, undef, undef, undef, undef], defers := [] }) V from by
      intro gA V hp hA
      rw [hJ]
      refine any_three (i := 5) (j := 6) (k := 7) (by kernel_rfl) rfl rfl rfl ?_ ?_ ?_ 
      · intro K hK
        refine makeI Try.infoI (.tmp 28) (.tmp 28) (kl := .i64) (kc := .i64) (L := N) (C := N) (n := N) rfl rfl rfl rfl rfl rfl (by omega) ?_
        intro w1 ho hb
        go_wp2
        refine hK _ _ (fun _ => ⟨⟨_, (hp.below hb).bw⟩, rfl⟩) ?_
        rw [← hJ]
        exact mAO.out _ V.heap.size _ (hp.below hb) (hA.below hb) (hp.mkO ho)
      · intro K hK
        go_wp2
        refine hK _ _ (fun _ => ⟨⟨_, (hp.below (below_alloc _ _)).bw⟩, rfl⟩) ?_
        rw [← hJ]
        exact mAX.out _ V.heap.size _ (hp.below (below_alloc _ _)) (hA.below (below_alloc _ _)) hp.mkX
      · intro K hK
        go_wp2
        refine hK _ _ (fun _ => ⟨⟨_, (hp.below (below_alloc _ _)).bw⟩, rfl⟩) ?_
        rw [← hJ]
        exact mAY.out _ V.heap.size _ (hp.below (below_alloc _ _)) (hA.below (below_alloc _ _)) hp.mkY)
    have mOXY := Lib.hid (show ∀ (gO : Nat) (b6 : Nat) (b7 : Nat) (V : World), PB w W4 w.heap.size w2.heap.size N a c n aI cI (upI N) V → MO w gO N aI V → MX W4 b6 (Value.slice none 0 0) V → MY W4 b7 w2.heap.size (Value.slice none 0 0) V → J 3 #[true, true, false, true, true, true, true, true, false, false] ({ tmps := #[graphV N a n c, Value.pointer (some ⟨w.heap.size, 0, none⟩), Value.string { data := #[] }, Value.slice none 0 0, Value.bool false, Value.pointer (some ⟨w2.heap.size, 0, none⟩), Value.pointer (some ⟨b6, 0, none⟩), Value.pointer (some ⟨b7, 0, none⟩), undef, undef, undef, undef, undef, Value.agg #[Value.int .i64 N, Value.slice a n c], Value.bool true, Value.bool false, Value.bool false, Value.pointer (some ⟨w.heap.size, 0, none⟩), Value.int .i64 N, Value.bool false, Value.bool false, Value.pointer (some ⟨w.heap.size, 0, none⟩), Value.int .i64 N, Value.slice aI N cI, Value.pointer (some ⟨w.heap.size, 0, none⟩), Value.int .i64 N, undef, Value.pointer (some ⟨w.heap.size, 0, none⟩), Value.int .i64 N, Value.slice (some ⟨gO, 0, none⟩) N N, undef, undef, undef, undef, undef, undef, undef, undef, undef, undef, undef, undef, undef, undef, undef, undef, undef, undef, undef, undef, undef, undef, undef, undef, undef, undef, undef, undef, undef, undef, undef, undef, undef, undef, undef, undef, undef, undef, undef, undef, undef, undef, undef], defers := [] }) V from by
      intro gO b6 b7 V hp hO hX hY
      rw [hJ]
      refine any_one (i := 2) (by kernel_rfl) rfl ?_ 
      · intro K hK
        refine makeN Try.infoU8L (.tmp 25) (.tmp 25) (kl := .i64) (kc := .i64) (L := N) (C := N) (n := N) rfl rfl rfl rfl rfl rfl (by omega) rfl ?_
        intro w1 ho hb
        go_wp2
        refine hK _ _ (fun _ => ⟨⟨_, (hp.below hb).bw⟩, rfl⟩) ?_
        rw [← hJ]
        exact mAOXY.out V.heap.size _ _ _ _ (hp.below hb) (hp.mkA ho) (hO.below hb) (hX.below hb) (hY.below hb))
    have mOX := Lib.hid (show ∀ (gO : Nat) (b6 : Nat) (V : World), PB w W4 w.heap.size w2.heap.size N a c n aI cI (upI N) V → MO w gO N aI V → MX W4 b6 (Value.slice none 0 0) V → J 4 #[true, true, false, true, true, true, true, false, false, false] ({ tmps := #[graphV N a n c, Value.pointer (some ⟨w.heap.size, 0, none⟩), Value.string { data := #[] }, Value.slice none 0 0, Value.bool false, Value.pointer (some ⟨w2.heap.size, 0, none⟩), Value.pointer (some ⟨b6, 0, none⟩), undef, undef, undef, undef, undef, undef, Value.agg #[Value.int .i64 N, Value.slice a n c], Value.bool true, Value.bool false, Value.bool false, Value.pointer (some ⟨w.heap.size, 0, none⟩), Value.int .i64 N, Value.bool false, Value.bool false, Value.pointer (some ⟨w.heap.size, 0, none⟩), Value.int .i64 N, Value.slice aI N cI, Value.pointer (some ⟨w.heap.size, 0, none⟩), Value.int .i64 N, undef, Value.pointer (some ⟨w.heap.size, 0, none⟩), Value.int .i64 N, Value.slice (some ⟨gO, 0, none⟩) N N, undef, undef, undef, undef, undef, undef, undef, undef, undef, undef, undef, undef, undef, undef, undef, undef, undef, undef, undef, undef, undef, undef, undef, undef, undef, undef, undef, undef, undef, undef, undef, undef, undef, undef, undef, undef, undef, undef, undef, undef, undef, undef, undef], defers := [] }) V from by
      intro gO b6 V hp hO hX
      rw [hJ]
      refine any_two (i := 2) (j := 7) (by kernel_rfl) rfl rfl ?_ ?_ 
      · intro K hK
        refine makeN Try.infoU8L (.tmp 25) (.tmp 25) (kl := .i64) (kc := .i64) (L := N) (C := N) (n := N) rfl rfl rfl rfl rfl rfl (by omega) rfl ?_
        intro w1 ho hb
        go_wp2
        refine hK _ _ (fun _ => ⟨⟨_, (hp.below hb).bw⟩, rfl⟩) ?_
        rw [← hJ]
        exact mAOX.out V.heap.size _ _ _ (hp.below hb) (hp.mkA ho) (hO.below hb) (hX.below hb)
      · intro K hK
        go_wp2
        refine hK _ _ (fun _ => ⟨⟨_, (hp.below (below_alloc _ _)).bw⟩, rfl⟩) ?_
        rw [← hJ]
        exact mOXY.out _ _ V.heap.size _ (hp.below (below_alloc _ _)) (hO.below (below_alloc _ _)) (hX.below (below_alloc _ _)) hp.mkY)
    have mOY := Lib.hid (show ∀ (gO : Nat) (b7 : Nat) (V : World), PB w W4 w.heap.size w2.heap.size N a c n aI cI (upI N) V → MO w gO N aI V → MY W4 b7 w2.heap.size (Value.slice none 0 0) V → J 4 #[true, true, false, true, true, true, false, true, false, false] ({ tmps := #[graphV N a n c, Value.pointer (some ⟨w.heap.size, 0, none⟩), Value.string { data := #[] }, Value.slice none 0 0, Value.bool false, Value.pointer (some ⟨w2.heap.size, 0, none⟩), undef, Value.pointer (some ⟨b7, 0, none⟩), undef, undef, undef, undef, undef, Value.agg #[Value.int .i64 N, Value.slice a n c], Value.bool true, Value.bool false, Value.bool false, Value.pointer (some ⟨w.heap.size, 0, none⟩), Value.int .i64 N, Value.bool false, Value.bool false, Value.pointer (some ⟨w.heap.size, 0, none⟩), Value.int .i64 N, Value.slice aI N cI, Value.pointer (some ⟨w.heap.size, 0, none⟩), Value.int .i64 N, undef, Value.pointer (some ⟨w.heap.size, 0, none⟩), Value.int .i64 N, Value.slice (some ⟨gO, 0, none⟩) N N, undef, undef, undef, undef, undef, undef, undef, undef, undef, undef, undef, undef, undef, undef, undef, undef, undef, undef, undef, undef, undef, undef, undef, undef, undef, undef, undef, undef, undef, undef, undef, undef, undef, undef, undef, undef, undef, undef, undef, undef, undef, undef, undef], defers := [] }) V from by
      intro gO b7 V hp hO hY
      rw [hJ]
      refine any_two (i := 2) (j := 6) (by kernel_rfl) rfl rfl ?_ ?_ 
      · intro K hK
        refine makeN Try.infoU8L (.tmp 25) (.tmp 25) (kl := .i64) (kc := .i64) (L := N) (C := N) (n := N) rfl rfl rfl rfl rfl rfl (by omega) rfl ?_
        intro w1 ho hb
        go_wp2
        refine hK _ _ (fun _ => ⟨⟨_, (hp.below hb).bw⟩, rfl⟩) ?_
        rw [← hJ]
        exact mAOY.out V.heap.size _ _ _ (hp.below hb) (hp.mkA ho) (hO.below hb) (hY.below hb)
      · intro K hK
        go_wp2
        refine hK _ _ (fun _ => ⟨⟨_, (hp.below (below_alloc _ _)).bw⟩, rfl⟩) ?_
        rw [← hJ]
        exact mOXY.out _ V.heap.size _ _ (hp.below (below_alloc _ _)) (hO.below (below_alloc _ _)) hp.mkX (hY.below (below_alloc _ _)))
    have mO := Lib.hid (show ∀ (gO : Nat) (V : World), PB w W4 w.heap.size w2.heap.size N a c n aI cI (upI N) V → MO w gO N aI V → J 5 #[true, true, false, true, true, true, false, false, false, false] ({ tmps := #[graphV N a n c, Value.pointer (some ⟨w.heap.size, 0, none⟩), Value.string { data := #[] }, Value.slice none 0 0, Value.bool false, Value.pointer (some ⟨w2.heap.size, 0, none⟩), undef, undef, undef, undef, undef, undef, undef, Value.agg #[Value.int .i64 N, Value.slice a n c], Value.bool true, Value.bool false, Value.bool false, Value.pointer (some ⟨w.heap.size, 0, none⟩), Value.int .i64 N, Value.bool false, Value.bool false, Value.pointer (some ⟨w.heap.size, 0, none⟩), Value.int .i64 N, Value.slice aI N cI, Value.pointer (some ⟨w.heap.size, 0, none⟩), Value.int .i64 N, undef, Value.pointer (some ⟨w.heap.size, 0, none⟩), Value.int .i64 N, Value.slice (some ⟨gO, 0, none⟩) N N, undef, undef, undef, undef, undef, undef, undef, undef, undef, undef, undef, undef, undef, undef, undef, undef, undef, undef, undef, undef, undef, undef, undef, undef, undef, undef, undef, undef, undef, undef, undef, undef, undef, undef, undef, undef, undef, undef, undef, undef, undef, undef, undef], defers := [] }) V from by
      intro gO V hp hO
      rw [hJ]
      refine any_three (i := 2) (j := 6) (k := 7) (by kernel_rfl) rfl rfl rfl ?_ ?_ ?_ 
      · intro K hK
        refine makeN Try.infoU8L (.tmp 25) (.tmp 25) (kl := .i64) (kc := .i64) (L := N) (C := N) (n := N) rfl rfl rfl rfl rfl rfl (by omega) rfl ?_
        intro w1 ho hb
        go_wp2
        refine hK _ _ (fun _ => ⟨⟨_, (hp.below hb).bw⟩, rfl⟩) ?_
        rw [← hJ]
        exact mAO.out V.heap.size _ _ (hp.below hb) (hp.mkA ho) (hO.below hb)
      · intro K hK
        go_wp2
        refine hK _ _ (fun _ => ⟨⟨_, (hp.below (below_alloc _ _)).bw⟩, rfl⟩) ?_
        rw [← hJ]
        exact mOX.out _ V.heap.size _ (hp.below (below_alloc _ _)) (hO.below (below_alloc _ _)) hp.mkX
      · intro K hK
        go_wp2
        refine hK _ _ (fun _ => ⟨⟨_, (hp.below (below_alloc _ _)).bw⟩, rfl⟩) ?_
        rw [← hJ]
        exact mOY.out _ V.heap.size _ (hp.below (below_alloc _ _)) (hO.below (below_alloc _ _)) hp.mkY)
    have mXY := Lib.hid (show ∀ (b6 : Nat) (b7 : Nat) (V : World), PB w W4 w.heap.size w2.heap.size N a c n aI cI (upI N) V → MX W4 b6 (Value.slice none 0 0) V → MY W4 b7 w2.heap.size (Value.slice none 0 0) V → J 4 #[true, true, false, true, true, false, true, true, false, false] ({ tmps := #[graphV N a n c, Value.pointer (some ⟨w.heap.size, 0, none⟩), Value.string { data := #[] }, Value.slice none 0 0, Value.bool false, Value.pointer (some ⟨w2.heap.size, 0, none⟩), Value.pointer (some ⟨b6, 0, none⟩), Value.pointer (some ⟨b7, 0, none⟩), undef, undef, undef, undef, undef, Value.agg #[Value.int .i64 N, Value.slice a n c], Value.bool true, Value.bool false, Value.bool false, Value.pointer (some ⟨w.heap.size, 0, none⟩), Value.int .i64 N, Value.bool false, Value.bool false, Value.pointer (some ⟨w.heap.size, 0, none⟩), Value.int .i64 N, Value.slice aI N cI, Value.pointer (some ⟨w.heap.size, 0, none⟩), Value.int .i64 N, undef, Value.pointer (some ⟨w.heap.size, 0, none⟩), Value.int .i64 N, undef, undef, undef, undef, undef, undef, undef, undef, undef, undef, undef, undef, undef, undef, undef, undef, undef, undef, undef, undef, undef, undef, undef, undef, undef, undef, undef, undef, undef, undef, undef, undef, undef, undef, undef, undef, undef, undef, undef, undef, undef, undef, undef, undef], defers := [] }) V from by
      intro b6 b7 V hp hX hY
      rw [hJ]
      refine any_two (i := 2) (j := 5) (by kernel_rfl) rfl rfl ?_ ?_ 
      · intro K hK
        refine makeN Try.infoU8L (.tmp 25) (.tmp 25) (kl := .i64) (kc := .i64) (L := N) (C := N) (n := N) rfl rfl rfl rfl rfl rfl (by omega) rfl ?_
        intro w1 ho hb
        go_wp2
        refine hK _ _ (fun _ => ⟨⟨_, (hp.below hb).bw⟩, rfl⟩) ?_
        rw [← hJ]
        exact mAXY.out V.heap.size _ _ _ (hp.below hb) (hp.mkA ho) (hX.below hb) (hY.below hb)
      · intro K hK
        refine makeI Try.infoI (.tmp 28) (.tmp 28) (kl := .i64) (kc := .i64) (L := N) (C := N) (n := N) rfl rfl rfl rfl rfl rfl (by omega) ?_
        intro w1 ho hb
        go_wp2
        refine hK _ _ (fun _ => ⟨⟨_, (hp.below hb).bw⟩, rfl⟩) ?_
        rw [← hJ]
        exact mOXY.out V.heap.size _ _ _ (hp.below hb) (hp.mkO ho) (hX.below hb) (hY.below hb))
    have mX := Lib.hid (show ∀ (b6 : Nat) (V : World), PB w W4 w.heap.size w2.heap.size N a c n aI cI (upI N) V → MX W4 b6 (Value.slice none 0 0) V → J 5 #[true, true, false, true, true, false, true, false, false, false] ({ tmps := #[graphV N a n c, Value.pointer (some ⟨w.heap.size, 0, none⟩), Value.string { data := #[] }, Value.slice none 0 0, Value.bool false, Value.pointer (some ⟨w2.heap.size, 0, none⟩), Value.pointer (some ⟨b6, 0, none⟩), undef, undef, undef, undef, undef, undef, Value.agg #[Value.int .i64 N, Value.slice a n c], Value.bool true, Value.bool false, Value.bool false, Value.pointer (some ⟨w.heap.size, 0, none⟩), Value.int .i64 N, Value.bool false, Value.bool false, Value.pointer (some ⟨w.heap.size, 0, none⟩), Value.int .i64 N, Value.slice aI N cI, Value.pointer (some ⟨w.heap.size, 0, none⟩), Value.int .i64 N, undef, Value.pointer (some ⟨w.heap.size, 0, none⟩), Value.int .i64 N, undef, undef, undef, undef, undef, undef, undef, undef, undef, undef, undef, undef, undef, undef, undef, undef, undef, undef, undef, undef, undef, undef, undef, undef, undef, undef, undef, undef, undef, undef, undef, undef, undef, undef, undef, undef, undef, undef, undef, undef, undef, undef, undef, undef], defers := [] }) V from by
      intro b6 V hp hX
      rw [hJ]
      refine any_three (i := 2) (j := 5) (k := 7) (by kernel_rfl) rfl rfl rfl ?_ ?_ ?_ 
      · intro K hK
        refine makeN Try.infoU8L (.tmp 25) (.tmp 25) (kl := .i64) (kc := .i64) (L := N) (C := N) (n := N) rfl rfl rfl rfl rfl rfl (by omega) rfl ?_
        intro w1 ho hb
        go_wp2
        refine hK _ _ (fun _ => ⟨⟨_, (hp.below hb).bw⟩, rfl⟩) ?_
        rw [← hJ]
        exact mAX.out V.heap.size _ _ (hp.below hb) (hp.mkA ho) (hX.below hb)
      · intro K hK
        refine makeI Try.infoI (.tmp 28) (.tmp 28) (kl := .i64) (kc := .i64) (L := N) (C := N) (n := N) rfl rfl rfl rfl rfl rfl (by omega) ?_
        intro w1 ho hb
        go_wp2
        refine hK _ _ (fun _ => ⟨⟨_, (hp.below hb).bw⟩, rfl⟩) ?_
        rw [← hJ]
        exact mOX.out V.heap.size _ _ (hp.below hb) (hp.mkO ho) (hX.below hb)
      · intro K hK
        go_wp2
        refine hK _ _ (fun _ => ⟨⟨_, (hp.below (below_alloc _ _)).bw⟩, rfl⟩) ?_
        rw [← hJ]
        exact mXY.out _ V.heap.size _ (hp.below (below_alloc _ _)) (hX.below (below_alloc _ _)) hp.mkY)
    have mY := Lib.hid (show ∀ (b7 : Nat) (V : World), PB w W4 w.heap.size w2.heap.size N a c n aI cI (upI N) V → MY W4 b7 w2.heap.size (Value.slice none 0 0) V → J 5 #[true, true, false, true, true, false, false, true, false, false] ({ tmps := #[graphV N a n c, Value.pointer (some ⟨w.heap.size, 0, none⟩), Value.string { data := #[] }, Value.slice none 0 0, Value.bool false, Value.pointer (some ⟨w2.heap.size, 0, none⟩), undef, Value.pointer (some ⟨b7, 0, none⟩), undef, undef, undef, undef, undef, Value.agg #[Value.int .i64 N, Value.slice a n c], Value.bool true, Value.bool false, Value.bool false, Value.pointer (some ⟨w.heap.size, 0, none⟩), Value.int .i64 N, Value.bool false, Value.bool false, Value.pointer (some ⟨w.heap.size, 0, none⟩), Value.int .i64 N, Value.slice aI N cI, Value.pointer (some ⟨w.heap.size, 0, none⟩), Value.int .i64 N, undef, Value.pointer (some ⟨w.heap.size, 0, none⟩), Value.int .i64 N, undef, undef, undef, undef, undef, undef, undef, undef, undef, undef, undef, undef, undef, undef, undef, undef, undef, undef, undef, undef, undef, undef, undef, undef, undef, undef, undef, undef, undef, undef, undef, undef, undef, undef, undef, undef, undef, undef, undef, undef, undef, undef, undef, undef], defers := [] }) V from by
      intro b7 V hp hY
      rw [hJ]
      refine any_three (i := 2) (j := 5) (k := 6) (by kernel_rfl) rfl rfl rfl ?_ ?_ ?_ 
      · intro K hK
        refine makeN Try.infoU8L (.tmp 25) (.tmp 25) (kl := .i64) (kc := .i64) (L := N) (C := N) (n := N) rfl rfl rfl rfl rfl rfl (by omega) rfl ?_
        intro w1 ho hb
        go_wp2
        refine hK _ _ (fun _ => ⟨⟨_, (hp.below hb).bw⟩, rfl⟩) ?_
        rw [← hJ]
        exact mAY.out V.heap.size _ _ (hp.below hb) (hp.mkA ho) (hY.below hb)
      · intro K hK
        refine makeI Try.infoI (.tmp 28) (.tmp 28) (kl := .i64) (kc := .i64) (L := N) (C := N) (n := N) rfl rfl rfl rfl rfl rfl (by omega) ?_
        intro w1 ho hb
        go_wp2
        refine hK _ _ (fun _ => ⟨⟨_, (hp.below hb).bw⟩, rfl⟩) ?_
        rw [← hJ]
        exact mOY.out V.heap.size _ _ (hp.below hb) (hp.mkO ho) (hY.below hb)
      · intro K hK
        go_wp2
        refine hK _ _ (fun _ => ⟨⟨_, (hp.below (below_alloc _ _)).bw⟩, rfl⟩) ?_
        rw [← hJ]
        exact mXY.out V.heap.size _ _ (hp.below (below_alloc _ _)) hp.mkX (hY.below (below_alloc _ _)))
    have m := Lib.hid (show ∀ (V : World), PB w W4 w.heap.size w2.heap.size N a c n aI cI (upI N) V → J 6 #[true, true, false, true, true, false, false, false, false, false] ({ tmps := #[graphV N a n c, Value.pointer (some ⟨w.heap.size, 0, none⟩), Value.string { data := #[] }, Value.slice none 0 0, Value.bool false, Value.pointer (some ⟨w2.heap.size, 0, none⟩), undef, undef, undef, undef, undef, undef, undef, Value.agg #[Value.int .i64 N, Value.slice a n c], Value.bool true, Value.bool false, Value.bool false, Value.pointer (some ⟨w.heap.size, 0, none⟩), Value.int .i64 N, Value.bool false, Value.bool false, Value.pointer (some ⟨w.heap.size, 0, none⟩), Value.int .i64 N, Value.slice aI N cI, Value.pointer (some ⟨w.heap.size, 0, none⟩), Value.int .i64 N, undef, Value.pointer (some ⟨w.heap.size, 0, none⟩), Value.int .i64 N, undef, undef, undef, undef, undef, undef, undef, undef, undef, undef, undef, undef, undef, undef, undef, undef, undef, undef, undef, undef, undef, undef, undef, undef, undef, undef, undef, undef, undef, undef, undef, undef, undef, undef, undef, undef, undef, undef, undef, undef, undef, undef, undef, undef], defers := [] }) V from by
      intro  V hp
      rw [hJ]
      refine any_four (i := 2) (j := 5) (k := 6) (l := 7) (by kernel_rfl) rfl rfl rfl rfl ?_ ?_ ?_ ?_ 
      · intro K hK
        refine makeN Try.infoU8L (.tmp 25) (.tmp 25) (kl := .i64) (kc := .i64) (L := N) (C := N) (n := N) rfl rfl rfl rfl rfl rfl (by omega) rfl ?_
        intro w1 ho hb
        go_wp2
        refine hK _ _ (fun _ => ⟨⟨_, (hp.below hb).bw⟩, rfl⟩) ?_
        rw [← hJ]
        exact mA.out V.heap.size _ (hp.below hb) (hp.mkA ho)
      · intro K hK
        refine makeI Try.infoI (.tmp 28) (.tmp 28) (kl := .i64) (kc := .i64) (L := N) (C := N) (n := N) rfl rfl rfl rfl rfl rfl (by omega) ?_
        intro w1 ho hb
        go_wp2
        refine hK _ _ (fun _ => ⟨⟨_, (hp.below hb).bw⟩, rfl⟩) ?_
        rw [← hJ]
        exact mO.out V.heap.size _ (hp.below hb) (hp.mkO ho)
      · intro K hK
        go_wp2
        refine hK _ _ (fun _ => ⟨⟨_, (hp.below (below_alloc _ _)).bw⟩, rfl⟩) ?_
        rw [← hJ]
        exact mX.out V.heap.size _ (hp.below (below_alloc _ _)) hp.mkX
      · intro K hK
        go_wp2
        refine hK _ _ (fun _ => ⟨⟨_, (hp.below (below_alloc _ _)).bw⟩, rfl⟩) ?_
        rw [← hJ]
        exact mY.out V.heap.size _ (hp.below (below_alloc _ _)) hp.mkY)
    exact m.out _ hp0
  rintro A V ⟨gA, gO, b6, b7, rfl, hcs⟩
  have g0 := blk_cell hcs.qg 0 (.int .i64 N) rfl
  have qk := heap_alloc_new V (.cells #[.int .i64 0] 3)
  have k0 := blk_cell qk 0 (.int .i64 0) rfl
  have f0 := blk_free qk 0
  have HCS := Lib.hid hcs
  clear hcs
  go_wp2
  refine loop_as (N + 1) ?_
  intro J hJ
  have HJ := Lib.hid hJ
  clear hJ g0 qk k0 f0
  suffices step : ∀ (m : Nat) (Ds : List Nat) (aL : Option Addr) (cL : Nat) (L : List Int) (Bk : Nat) (u9 u33 u34 u35 u36 u37 u38 u67 u68 u69 : Value) (V : World), CS w w.heap.size w2.heap.size b6 b7 gA gO N a c n Ds m aL cL L V → KB w gO aL m Bk V → RowOK N L →
      J (m + 1) ({ tmps := #[graphV N a n c, Value.pointer (some ⟨w.heap.size, 0, none⟩), Value.string { data := #[] }, Value.slice none 0 0, Value.bool false, Value.pointer (some ⟨w2.heap.size, 0, none⟩), Value.pointer (some ⟨b6, 0, none⟩), Value.pointer (some ⟨b7, 0, none⟩), Value.pointer (some ⟨Bk, 0, none⟩), u9, undef, undef, undef, Value.agg #[Value.int .i64 N, Value.slice a n c], Value.bool true, Value.bool false, Value.bool false, Value.pointer (some ⟨w.heap.size, 0, none⟩), Value.int .i64 N, Value.bool false, Value.bool false, Value.pointer (some ⟨w.heap.size, 0, none⟩), Value.int .i64 N, Value.slice aI N cI, Value.pointer (some ⟨w.heap.size, 0, none⟩), Value.int .i64 N, Value.slice (some ⟨gA, 0, none⟩) N N, Value.pointer (some ⟨w.heap.size, 0, none⟩), Value.int .i64 N, Value.slice (some ⟨gO, 0, none⟩) N N, Value.pointer (some ⟨w.heap.size, 0, none⟩), Value.int .i64 N, Value.int .i64 ((N : Int) - 1), u33, u34, u35, u36, u37, u38, undef, undef, undef, undef, undef, undef, undef, undef, undef, undef, undef, undef, undef, undef, undef, undef, undef, undef, undef, undef, undef, undef, undef, undef, undef, undef, undef, undef, u67, u68, u69, undef, undef, undef], defers := Ds.map markD }) V by
    exact step N [] aI cI (upI N) V.heap.size _ _ _ _ _ _ _ _ _ _ _ (HCS.out.below (below_alloc _ _)) (HCS.out.kb (heap_alloc_new _ _)) (rowOK_upI N)
  clear HCS HP
  intro m
  induction m with
  | zero =>
    intro Ds aL cL L Bk u9 u33 u34 u35 u36 u37 u38 u67 u68 u69 V hcs hk hrow
    refine HJ.out _ _ _ ?_
    have k0 := blk_cell hk.q 0 (.int .i64 (((0 : Nat) : Int) - 1)) rfl
    rw [show (((0 : Nat) : Int) - 1) = (-1 : Int) from by omega] at k0
    have c6 := later_cell (blk_cell hcs.q6 0 (.slice (some ⟨gA, 0, none⟩) N N) rfl)
    have c7 := later_cell (blk_cell hcs.q7 0 (.slice (some ⟨gO, 0, none⟩) N N) rfl)
    have HC6 := Lib.hid c6
    have HC7 := Lib.hid c7
    obtain ⟨bs, hA1, hA2, hA3⟩ := hcs.qA
    have hconv := Lib.hid (fun u : Later V => run_convert_bytes_arg u.val 22 5 Try.underlyingU8 (by kernel_rfl) gA 0 N N bs hA1 (fun i hi => later_cell (blk_cell hA3 (0 + i) (.int .u8 (bs.getD i 0)) (by
      rw [Nat.zero_add, List.getElem?_toArray, bytesV, List.getElem?_map, List.getElem?_eq_getElem (by omega), List.getD_eq_getElem?_getD, List.getElem?_eq_getElem (by omega)]; rfl)) u) 9 (by kernel_rfl))
    have HCS := Lib.hid hcs
    clear hcs hk c6 c7 hA1 hA2 hA3
    go_wp2
    have c6 := HC6.out
    have c7 := HC7.out
    have hconv := hconv.out
    clear HC6 HC7
    refine wp_region_later (by kernel_rfl) (by kernel_rfl) ?_
    repeat (go_big_quiet_step (fail))
    refine wpQuiet_nil ?_
    intro w9 hw9
    have hb9 := later_below hw9
    clear hw9 c6 c7 hconv
    have hc9 := Lib.hid (HCS.out.below hb9)
    clear HCS
    go_wp2
    exact leaves_marks (w := w) (v := .tuple #[.string (strOfNums bs), .slice (some ⟨gO, 0, none⟩) N N, .bool true]) (fun W => by simp [results, Try.results46, go_sem]) (fun W hW => ⟨_, _, rfl, hW⟩) Ds w9 hc9.out.nd hc9.out.mks hc9.out.be
  | succ p ih =>
    intro Ds aL cL L Bk u9 u33 u34 u35 u36 u37 u38 u67 u68 u69 V hcs hk hrow
    refine HJ.out _ _ _ ?_
    have IH := Lib.hid ih
    clear ih
    obtain ⟨b, rfl, hbB, hbV⟩ := own_head hcs.hL (by omega)
    have k0 := blk_cell hk.q 0 (.int .i64 (((p + 1 : Nat) : Int) - 1)) rfl
    rw [show (((p + 1 : Nat) : Int) - 1) = (p : Int) from by omega] at k0
    have q9 := heap_alloc_new V (.cells #[.bool false] 4)
    have HCS := Lib.hid hcs
    have hc1 := hcs.below (below_alloc V (.cells #[.bool false] 4))
    have hk1 := hk.below (below_alloc V (.cells #[.bool false] 4))
    have HS1 := Lib.hid (show V.heap.size < (V.alloc (.cells #[.bool false] 4)).heap.size by simp)
    have l0 := blk_cell hc1.q5 0 _ rfl
    have c9 := blk_cell q9 0 _ rfl
    have f9 := blk_free q9 0
    have HC1 := Lib.hid hc1
    have HK1 := Lib.hid hk1
    have HR := Lib.hid hrow
    have Q9 := Lib.hid q9
    clear hrow hc1 hk1 q9 hcs hk
    have C1 := backward_any (some ⟨b, 0, none⟩) (p + 1) cL (V.alloc (.cells #[.bool false] 4))
    go_wp2_with fail
    refine C1.mono ?_
    rintro e W0 ⟨rfl, rfl⟩
    have hB0 := below_alloc (V.alloc (.cells #[.bool false] 4)) (.cells #[.slice (some ⟨b, 0, none⟩) (p + 1) cL] 38)
    have hc0 := HC1.out.below hB0
    have hk0 := HK1.out.below hB0
    have q9 := blk_below Q9.out hB0
    have qS := heap_alloc_new (V.alloc (.cells #[.bool false] 4)) (.cells #[.slice (some ⟨b, 0, none⟩) (p + 1) cL] 38)
    rw [show (V.alloc (.cells #[.bool false] 4)).heap.size = V.heap.size + 1 from by simp] at qS ⊢
    clear C1 hB0 HC1 HK1 Q9 k0 l0 c9 f9 HS1
    generalize (V.alloc (.cells #[.bool false] 4)).alloc (.cells #[.slice (some ⟨b, 0, none⟩) (p + 1) cL] 38) = W0 at *
    have HC0 := Lib.hid hc0
    have HK0 := Lib.hid hk0
    have Q9 := Lib.hid q9
    have QS := Lib.hid qS
    clear hc0 hk0 q9 qS
    go_wp2
    have hlen : L.length = p + 1 := by have := HC0.out.hL.1; rw [ints_length] at this; omega
    have hpN : p < N := by have := HR.out.2.2; omega
    have hs0 := HC0.out.be.size
    have hbW0 : b < W0.heap.size := (own_lt HC0.out.hL ⟨b, 0, none⟩ rfl).2
    have hS0 := blk_lt QS.out
    refine (wpIn_wide (n := 6)).1 ?_
    refine wpIn_rangeFunc_ownH (F := Fence.wide) (n := 6) rfl (by decide) (gf := 171) (lb := #[.pointer (some ⟨V.heap.size + 1, 0, none⟩)]) rfl trivial enters_back
      (backward_stops 5 (by decide) (V.heap.size + 1) W0.heap.size b (p + 1) cL L hlen (by omega) W0 hS0 (Nat.le_refl _) (blk_cell QS.out 0 _ rfl) hbW0 (fun j hj => by
        obtain ⟨b1, o1, e1, c1⟩ := (own_rd HC0.out.hL).int (k := j) (by omega)
        cases e1
        rw [Nat.zero_add] at c1
        rw [c1, List.getD_eq_getElem?_getD, List.getElem?_eq_getElem (by omega)]; rfl))
      belowK_t (belowK_b (Nat.le_refl _)) (Below.refl _ _) (fun _ => rfl)
      (fun pre W => (∀ q ∈ pre, Bad es L q.2) ∧ Below W0.heap.size W0 W)
      (Took w w.heap.size w2.heap.size b6 b7 gA gO N a c n Ds L p Bk V.heap.size W0.heap.size)
      (OwnFrom.and (ownFrom_pure _ _) (ownFrom_below (Nat.le_refl _) (Nat.le_refl _)))
      (took_own hs0 (fun D hD => blk_lt (HC0.out.mks D hD).2))
      ⟨by simp, Below.refl _ _⟩
      (fun x a' W => ∃ Bv, W0.heap.size ≤ Bv ∧ W.heap[Bv]? = some (.cells #[.int .i64 x.2] 3 (0, 0)) ∧ a' = { tmps := #[graphV N a n c, Value.pointer (some ⟨w.heap.size, 0, none⟩), Value.string { data := #[] }, Value.slice none 0 0, Value.bool false, Value.pointer (some ⟨w2.heap.size, 0, none⟩), Value.pointer (some ⟨b6, 0, none⟩), Value.pointer (some ⟨b7, 0, none⟩), Value.pointer (some ⟨Bk, 0, none⟩), Value.pointer (some ⟨V.heap.size, 0, none⟩), undef, Value.pointer (some ⟨Bv, 0, none⟩), undef, Value.agg #[Value.int .i64 N, Value.slice a n c], Value.bool true, Value.bool false, Value.bool false, Value.pointer (some ⟨w.heap.size, 0, none⟩), Value.int .i64 N, Value.bool false, Value.bool false, Value.pointer (some ⟨w.heap.size, 0, none⟩), Value.int .i64 N, Value.slice aI N cI, Value.pointer (some ⟨w.heap.size, 0, none⟩), Value.int .i64 N, Value.slice (some ⟨gA, 0, none⟩) N N, Value.pointer (some ⟨w.heap.size, 0, none⟩), Value.int .i64 N, Value.slice (some ⟨gO, 0, none⟩) N N, Value.pointer (some ⟨w.heap.size, 0, none⟩), Value.int .i64 N, Value.int .i64 ((N : Int) - 1), Value.int .i64 p, Value.bool true, u35, u36, Value.slice (some ⟨b, 0, none⟩) (p + 1) cL, Value.func (.func 171) #[] #[.pointer (some ⟨V.heap.size + 1, 0, none⟩)], Value.int .i64 (x.1 : Int), Value.int .i64 x.2, undef, undef, undef, undef, undef, undef, undef, undef, undef, undef, undef, undef, undef, undef, undef, undef, undef, undef, undef, undef, undef, undef, undef, undef, undef, undef, u67, u68, u69, undef, undef, undef], defers := [] })
      (fun x a' => boxed_ownFrom (q := fun Bv a' => a' = { tmps := #[graphV N a n c, Value.pointer (some ⟨w.heap.size, 0, none⟩), Value.string { data := #[] }, Value.slice none 0 0, Value.bool false, Value.pointer (some ⟨w2.heap.size, 0, none⟩), Value.pointer (some ⟨b6, 0, none⟩), Value.pointer (some ⟨b7, 0, none⟩), Value.pointer (some ⟨Bk, 0, none⟩), Value.pointer (some ⟨V.heap.size, 0, none⟩), undef, Value.pointer (some ⟨Bv, 0, none⟩), undef, Value.agg #[Value.int .i64 N, Value.slice a n c], Value.bool true, Value.bool false, Value.bool false, Value.pointer (some ⟨w.heap.size, 0, none⟩), Value.int .i64 N, Value.bool false, Value.bool false, Value.pointer (some ⟨w.heap.size, 0, none⟩), Value.int .i64 N, Value.slice aI N cI, Value.pointer (some ⟨w.heap.size, 0, none⟩), Value.int .i64 N, Value.slice (some ⟨gA, 0, none⟩) N N, Value.pointer (some ⟨w.heap.size, 0, none⟩), Value.int .i64 N, Value.slice (some ⟨gO, 0, none⟩) N N, Value.pointer (some ⟨w.heap.size, 0, none⟩), Value.int .i64 N, Value.int .i64 ((N : Int) - 1), Value.int .i64 p, Value.bool true, u35, u36, Value.slice (some ⟨b, 0, none⟩) (p + 1) cL, Value.func (.func 171) #[] #[.pointer (some ⟨V.heap.size + 1, 0, none⟩)], Value.int .i64 (x.1 : Int), Value.int .i64 x.2, undef, undef, undef, undef, undef, undef, undef, undef, undef, undef, undef, undef, undef, undef, undef, undef, undef, undef, undef, undef, undef, undef, undef, undef, undef, undef, u67, u68, u69, undef, undef, undef], defers := [] }) _)
      ?assign ?body ?done ?stop
    case assign =>
      rintro l pre x W K ⟨hbad, hbW⟩ hK
      gi_wp2
      exact hK _ _ ((KeepsOthers.alloc _ _).from _) ((Below.refl _ W).alloc hbW.size _) ⟨hbad, hbW.alloc hbW.size _⟩ ⟨W.heap.size, hbW.size, heap_alloc_new _ _, rfl⟩
    case done =>
      rintro D ys W hD rfl ⟨hbad, _⟩ _
      rw [← hlen] at hbad
      exact (peels_not hP (by rintro rfl; simp at hlen) HR.out hbad).elim
    case stop =>
      rintro D cd pre W hD ⟨kk, hkk, rfl⟩ ⟨rfl, pre', j, v, aL', cL', hpre, hc2, hk2, q92, hsz⟩ hKD
      have hv : v ∈ L := fromEnd_sub (zs := L) (k := kk) (p := (j, v)) (by omega) (by rw [hpre]; simp)
      have hdl : (dropL v L).length = p := by have := dropL_length HR.out.1 hv; omega
      have hc3 := hc2.mark (Nat.le_trans hs0 hD) (fun hm => by have := blk_lt (HC0.out.mks D hm).2; omega) hKD
      rw [hdl] at hc3
      have b9 := blk_cell q92 0 (.bool true) rfl
      have k2 := blk_cell hk2.q 0 (.int .i64 (((p + 1 : Nat) : Int) - 1)) rfl
      rw [show (((p + 1 : Nat) : Int) - 1) = (p : Int) from by omega] at k2
      have y0 := blk_cell (heap_alloc_new W (.cells #[.int .i64 0] 3)) 0 (.int .i64 0) rfl
      have y1 := blk_free (heap_alloc_new W (.cells #[.int .i64 0] 3)) 0
      have y2 := blk_cell (heap_alloc_new W (.cells #[.int .i64 p] 3)) 0 (.int .i64 p) rfl
      have y3 := blk_free (heap_alloc_new W (.cells #[.int .i64 p] 3)) 0
      have HC3 := Lib.hid hc3
      have HQ92 := Lib.hid q92
      clear hc3 hc2 hk2 q92 hKD hpre hdl hD hsz hv
      refine wpIn_wide.2 ?_
      go_wp2
      exact IH.out (D :: Ds) aL' cL' (dropL v L) W.heap.size _ _ _ _ _ _ _ _ _ _ _ (HC3.out.below (below_alloc _ _)) (HC3.out.kb (heap_alloc_new _ _)) (rowOK_drop HR.out v)
    case body =>
      rintro l pre x a' W hl ⟨r, hr⟩ ⟨hbad, hbW⟩ ⟨Bv, hBv, qv, rfl⟩ hlt
      have hcW := HC0.out.below hbW
      have hkW := HK0.out.below hbW
      have q9W := blk_below Q9.out hbW
      have hxW := hx.below hcW.be
      have hA : Answers W 112 #[.pointer (some ⟨Bv, 0, none⟩), .pointer (some ⟨w.heap.size, 0, none⟩)] L (joinB es x.2) := ⟨enters_codeOf1, fun w' u hb _ => codeOf1_any N a c n es u x.2 Bv w.heap.size w' (blk_below qv hb) (blk_below hcW.qg hb) hn (hxW.below hb) hl0⟩
      have C1 := count_any (some ⟨b, 0, none⟩) cL (p + 1) L _ _ (joinB es x.2) W hlen (own_rd hcW.hL) (by omega) hA
      rw [joinedL_eq] at C1
      have l0 := blk_cell hcW.q5 0 _ rfl
      have HCW := Lib.hid hcW
      have HKW := Lib.hid hkW
      have Q9W := Lib.hid q9W
      have QV := Lib.hid qv
      clear hcW hkW q9W qv hA hxW
      gi_wp2_with fail
      refine ⟨trivial, (calls_inRound C1).mono ?_⟩
      rintro e w1 ⟨rfl, hb1⟩
      clear C1 l0
      have hW1 := hbW.trans (hb1.mono hbW.size)
      have hsW1 := hW1.size
      have KF := Lib.hid (keepsFrom_below (B := W0.heap.size) hb1)
      have KP := Lib.hid (hb1.mono hbW.size)
      have HCW := Lib.hid (HCW.out.below hb1)
      have HKW := Lib.hid (HKW.out.below hb1)
      have Q9W := Lib.hid (blk_below Q9W.out hb1)
      have QV := Lib.hid (blk_below QV.out hb1)
      have k0 := blk_cell HKW.out.q 0 (.int .i64 (((p + 1 : Nat) : Int) - 1)) rfl
      rw [show (((p + 1 : Nat) : Int) - 1) = (p : Int) from by omega] at k0
      obtain ⟨q, hq⟩ : ∃ q, q = joinedL es L x.2 := ⟨_, rfl⟩
      rw [← hq]
      have HQ := Lib.hid hq
      clear hq hb1
      by_cases hbadq : q ≠ 0 ∧ q ≠ p
      · have e1 : ((q : Int) != 0) = true := by simp; omega
        have e2 : ((q : Int) != (p : Int)) = true := by simp; omega
        gi_wp2
        refine ⟨KF.out, KP.out, fun y hy => ?_, hW1⟩
        rcases List.mem_append.1 hy with h1 | h1
        · exact hbad y h1
        · rw [List.mem_singleton.1 h1]
          refine ⟨by rw [← HQ.out]; exact hbadq.1, ?_⟩
          rw [← HQ.out, hlen]; omega
      · -- a vertex is taken
        obtain ⟨bs, hA1, hA2, hA3⟩ := HCW.out.qA
        obtain ⟨os, hO1, hO2⟩ := HCW.out.qO
        have hgO := blk_lt hO2
        have hgOW : gO < W0.heap.size := by obtain ⟨_, _, h⟩ := HC0.out.qO; exact blk_lt h
        have c6 := blk_cell HCW.out.q6 0 _ rfl
        have c7 := blk_cell HCW.out.q7 0 _ rfl
        have cv := blk_cell QV.out 0 _ rfl
        have nOk := HKW.out.nO
        have nAk := blk_ne HKW.out.q hA3 (by decide)
        have nAv := blk_ne QV.out hA3 (by decide)
        have nA6 := blk_ne HCW.out.q6 hA3 (by decide)
        have nA7 := blk_ne HCW.out.q7 hA3 (by decide)
        have nO6 := blk_ne HCW.out.q6 hO2 (by decide)
        have nO7 := blk_ne HCW.out.q7 hO2 (by decide)
        have d6 := growl_cell (l := [gA, gO]) c6 (by simp; omega)
        have d7 := growl_cell (l := [gA, gO]) c7 (by simp; omega)
        have dk := growl_cell (l := [gA, gO]) k0 (by simp; omega)
        have dv := growl_cell (l := [gA, gO]) cv (by simp; omega)
        have D6 := Lib.hid d6
        have D7 := Lib.hid d7
        have DK := Lib.hid dk
        have DV := Lib.hid dv
        clear d6 d7 dk dv c6 c7 cv hA3 hO2 hO1 hA2 hA1 nOk nAk nAv nA6 nA7 nO6 nO7
        by_cases h0 : q = 0
        · subst h0
          gi_wp2
          refine wpIn_region_flags [true, true, true, true, true, false, false, false, false] 8 (C := fun w' => ∃ u : GrowL w1 [gA, gO], w' = u.val) (by kernel_rfl) (by kernel_rfl) (by kernel_rfl) ⟨⟨_, (InL.refl w1 [gA, gO]).below (bel_drew (Below.refl _ w1))⟩, rfl⟩ ?_
          have d6 := D6.out
          have d7 := D7.out
          have dk := DK.out
          have dv := DV.out
          simp only [pickT, pickF]
          repeat (go_big_quiet_step (fail))
          refine wpQuiet_nil ?_
          clear d6 d7 dk dv D6 D7 DK DV
          have hbD := bel_drew (Below.refl w1.heap.size w1)
          have IL0 := Lib.hid ((InL.refl w1 [gA, gO]).below hbD)
          have HCW := Lib.hid (HCW.out.below hbD)
          have HKW := Lib.hid (HKW.out.below hbD)
          have Q9W := Lib.hid (blk_below Q9W.out hbD)
          have QV := Lib.hid (blk_below QV.out hbD)
          have KF := Lib.hid (KF.out.trans (keepsFrom_below hbD))
          have hgS := hbD.size
          generalize w1.drew = wD at *
          obtain ⟨bs, hA1, hA2, hA3⟩ := HCW.out.qA
          obtain ⟨os, hO1, hO2⟩ := HCW.out.qO
          obtain ⟨zA, cA⟩ : ∃ z, wD.cell? ⟨gA, p, none⟩ = some z := ⟨_, blk_cell hA3 p _ (by simp only [List.getElem?_toArray, bytesV, List.getElem?_map]; rw [List.getElem?_eq_getElem (by omega)]; rfl)⟩
          have fA := blk_free hA3 p
          have IL1 := Lib.hid (IL0.out.set gA p (.int .u8 105) (.inl (by simp)))
          have HC2 := Lib.hid (HCW.out.setA p 105 (by decide))
          have HK2 := Lib.hid (HKW.out.setTo gA p (.int .u8 105) (blk_ne HKW.out.q hA3 (by decide)))
          have Q92 := Lib.hid (blk_set_other Q9W.out p (.int .u8 105) (blk_ne Q9W.out hA3 (by decide)))
          have QV2 := Lib.hid (blk_set_other QV.out p (.int .u8 105) (blk_ne QV.out hA3 (by decide)))
          have KF2 := Lib.hid (KF.out.trans (keepsFrom_set _ wD ⟨gA, p, none⟩ (.int .u8 105)))
          have hO3 := blk_set_other hO2 p (.int .u8 105) (blk_ne hO2 hA3 (by decide))
          obtain ⟨zO, cO⟩ : ∃ z, (wD.setCell ⟨gA, p, none⟩ (.int .u8 105)).cell? ⟨gO, p, none⟩ = some z := ⟨_, blk_cell hO3 p _ (by simp only [List.getElem?_toArray, ints, List.getElem?_map]; rw [List.getElem?_eq_getElem (by omega)]; rfl)⟩
          have fO := blk_free hO3 p
          have hbig : 105 < 256 := by decide
          clear HCW HKW Q9W QV KF hbD hO2 hO3 hO1 hA1 hA2 hA3
          refine tail_step fun K hK => ?_
          go_wp2
          refine hK _ _ ⟨⟨_, IL0.out⟩, rfl⟩ ?_
          clear hK
          refine tail_step fun K hK => ?_
          go_wp2
          refine hK _ _ ⟨⟨_, IL1.out⟩, rfl⟩ ?_
          clear hK
          refine tail_step fun K hK => ?_
          go_wp2
          refine hK _ _ ⟨⟨_, IL1.out⟩, rfl⟩ ?_
          clear hK
          refine tail_last fun K hK => ?_
          go_wp2
          obtain ⟨os2, hO4, hO5⟩ := HC2.out.qO
          have HC3 := Lib.hid (HC2.out.setO p x.2)
          have HK3 := Lib.hid (HK2.out.setTo gO p (.int .i64 x.2) HK2.out.nO)
          have Q93 := Lib.hid (blk_set_other Q92.out p (.int .i64 x.2) (blk_ne Q92.out hO5 (by decide)))
          have QV3 := Lib.hid (blk_set_other QV2.out p (.int .i64 x.2) (show Bv ≠ gO by omega))
          have KF3 := Lib.hid (KF2.out.trans (keepsFrom_set _ _ ⟨gO, p, none⟩ (.int .i64 x.2)))
          clear HC2 HK2 Q92 QV2 KF2 hO4 hO5 fO fA cA cO IL0 IL1
          have hgS3 : W0.heap.size ≤ ((wD.setCell ⟨gA, p, none⟩ (.int .u8 105)).setCell ⟨gO, p, none⟩ (.int .i64 x.2)).heap.size := by simp; omega
          generalize (wD.setCell ⟨gA, p, none⟩ (.int .u8 105)).setCell ⟨gO, p, none⟩ (.int .i64 x.2) = w3 at *
          have HCX := HC3
          have HKX := HK3
          have Q9X := Q93
          have QVX := QV3
          have KFX := KF3
          have hgSX := hgS3
          clear HC3 HK3 Q93 QV3 KF3 hgS3
          have l0 := blk_cell HCX.out.q5 0 _ rfl
          have hsX := HCX.out.be.size
          have hkX := blk_lt HKX.out.q
          have hvX := blk_lt QVX.out
          have h9X := blk_lt Q9X.out
          obtain ⟨os2, hO4, hO5⟩ := HCX.out.qO
          have hOX := blk_lt hO5
          have n9O := blk_ne Q9X.out hO5 (by decide)
          clear hO4 hO5
          have C1 := CloneI_any (some ⟨b, 0, none⟩) cL (p + 1) L w3 hlen (own_rd HCX.out.hL) (by omega) (by intro h; cases h)
          gi_wp2_with fail
          refine ⟨trivial, (calls_inRound C1).mono ?_⟩
          rintro e w5 ⟨aC, cC, rfl, hoC, hb5⟩
          have qv5 := blk_below QVX.out hb5
          have hAns : AnswersH w5 115 #[.pointer (some ⟨Bv, 0, none⟩)] L (fun u => u == x.2) (Value.slice aC (p + 1) cC).ownBlock := ⟨enters_codeOf2, fun w' u hg _ => codeOf2_any u x.2 Bv w' (blk_cell (blk_grown qv5 hg (own_ne_lo hoC hvX)) 0 _ rfl)⟩
          have C2 := DeleteFuncI_any w3.heap.size aC cC (p + 1) L _ _ (fun u => u == x.2) w5 hoC hlen (by omega) hAns
          rw [show keepI (fun u => u == x.2) L = dropL x.2 L from rfl] at C2
          have HOC := Lib.hid (And.intro hoC hb5)
          clear C1 l0 qv5 hAns hoC hb5
          gi_wp2_with fail
          refine ⟨trivial, (calls_inRound C2).mono ?_⟩
          rintro e w6 ⟨m', rfl, hm', hoD, hg6⟩
          clear C2
          have hb6 := below_row HOC.out.2 (Nat.le_refl _) HOC.out.1 hg6
          have haC : ∀ y, aC = some y → w3.heap.size ≤ y.block := fun y hy => (own_lt HOC.out.1 y hy).1
          have hc6 := HCX.out.below hb6
          have q96 := blk_below Q9X.out hb6
          have HK6 := Lib.hid (show KB w gO aC (p + 1) Bk w6 from ⟨blk_below HKX.out.q hb6, HKX.out.lo, HKX.out.nO, fun y hy => by have := haC y hy; omega⟩)
          have KF6 := Lib.hid (KFX.out.trans (keepsFrom_below hb6))
          have hs6 := hb6.size
          have c5 := blk_cell hc6.q5 0 (.slice (some ⟨b, 0, none⟩) (p + 1) cL) rfl
          have f5 := blk_free hc6.q5 0
          have HC7 := Lib.hid (hc6.setL (own_mono hoD hsX) (fun y hy => by have := haC y hy; omega))
          have HK7 := Lib.hid (HK6.out.setTo w2.heap.size 0 (.slice aC m' cC) (blk_ne HK6.out.q hc6.q5 (by decide)))
          have q97 := blk_set_other q96 0 (.slice aC m' cC) (blk_ne q96 hc6.q5 (by decide))
          have KF7 := Lib.hid (KF6.out.trans (keepsFrom_set _ _ ⟨w2.heap.size, 0, none⟩ (.slice aC m' cC)))
          have c9 := blk_cell q97 0 (.bool false) rfl
          have f9 := blk_free q97 0
          have HC8 := Lib.hid (HC7.out.setX V.heap.size 0 (.bool true) (by omega) n9O (fun y hy => by have := haC y hy; omega) q97 (.inr rfl))
          have HK8 := Lib.hid (HK7.out.setTo V.heap.size 0 (.bool true) (blk_ne HK7.out.q q97 (by decide)))
          have Q98 := Lib.hid (blk_set q97 0 (.bool true))
          have KF8 := Lib.hid (KF7.out.trans (keepsFrom_set _ _ ⟨V.heap.size, 0, none⟩ (.bool true)))
          clear hc6 q96 HK6 KF6 HC7 HK7 q97 KF7 HCX HKX Q9X QVX KFX hoD hg6 hb6 HOC
          have hs8 : W0.heap.size ≤ ((w6.setCell ⟨w2.heap.size, 0, none⟩ (.slice aC m' cC)).setCell ⟨V.heap.size, 0, none⟩ (.bool true)).heap.size := by simp; omega
          generalize hw7 : w6.setCell ⟨w2.heap.size, 0, none⟩ (.slice aC m' cC) = w7 at *
          have HW7 := Lib.hid hw7
          clear hw7
          have HM := Lib.hid hm'
          clear hm'
          gi_wp2_with (simp only [HW7.out])
          obtain rfl := HM.out
          exact ⟨KF8.out, rfl, pre, x.1, x.2, aC, cC, rfl, HC8.out, HK8.out, Q98.out, hs8⟩
        · have hpq : p = q := by omega
          subst hpq
          have hq1 : ((p : Int) != 0) = true := by simp; omega
          gi_wp2
          refine wpIn_region_flags [true, true, true, true, true, false, false, false, false] 8 (C := fun w' => ∃ u : GrowL w1 [gA, gO], w' = u.val) (by kernel_rfl) (by kernel_rfl) (by kernel_rfl) ⟨⟨_, (InL.refl w1 [gA, gO]).below (bel_drew (Below.refl _ w1))⟩, rfl⟩ ?_
          have d6 := D6.out
          have d7 := D7.out
          have dk := DK.out
          have dv := DV.out
          simp only [pickT, pickF]
          repeat (go_big_quiet_step (fail))
          refine wpQuiet_nil ?_
          clear d6 d7 dk dv D6 D7 DK DV
          have hbD := bel_drew (Below.refl w1.heap.size w1)
          have IL0 := Lib.hid ((InL.refl w1 [gA, gO]).below hbD)
          have HCW := Lib.hid (HCW.out.below hbD)
          have HKW := Lib.hid (HKW.out.below hbD)
          have Q9W := Lib.hid (blk_below Q9W.out hbD)
          have QV := Lib.hid (blk_below QV.out hbD)
          have KF := Lib.hid (KF.out.trans (keepsFrom_below hbD))
          have hgS := hbD.size
          generalize w1.drew = wD at *
          obtain ⟨bs, hA1, hA2, hA3⟩ := HCW.out.qA
          obtain ⟨os, hO1, hO2⟩ := HCW.out.qO
          obtain ⟨zA, cA⟩ : ∃ z, wD.cell? ⟨gA, p, none⟩ = some z := ⟨_, blk_cell hA3 p _ (by simp only [List.getElem?_toArray, bytesV, List.getElem?_map]; rw [List.getElem?_eq_getElem (by omega)]; rfl)⟩
          have fA := blk_free hA3 p
          have IL1 := Lib.hid (IL0.out.set gA p (.int .u8 105) (.inl (by simp)))
          have HC2 := Lib.hid (HCW.out.setA p 105 (by decide))
          have HK2 := Lib.hid (HKW.out.setTo gA p (.int .u8 105) (blk_ne HKW.out.q hA3 (by decide)))
          have Q92 := Lib.hid (blk_set_other Q9W.out p (.int .u8 105) (blk_ne Q9W.out hA3 (by decide)))
          have QV2 := Lib.hid (blk_set_other QV.out p (.int .u8 105) (blk_ne QV.out hA3 (by decide)))
          have KF2 := Lib.hid (KF.out.trans (keepsFrom_set _ wD ⟨gA, p, none⟩ (.int .u8 105)))
          have hO3 := blk_set_other hO2 p (.int .u8 105) (blk_ne hO2 hA3 (by decide))
          obtain ⟨zO, cO⟩ : ∃ z, (wD.setCell ⟨gA, p, none⟩ (.int .u8 105)).cell? ⟨gO, p, none⟩ = some z := ⟨_, blk_cell hO3 p _ (by simp only [List.getElem?_toArray, ints, List.getElem?_map]; rw [List.getElem?_eq_getElem (by omega)]; rfl)⟩
          have fO := blk_free hO3 p
          have hbig : 105 < 256 := by decide
          clear HCW HKW Q9W QV KF hbD hO2 hO3 hO1 hA1 hA2 hA3
          refine tail_step fun K hK => ?_
          go_wp2
          refine hK _ _ ⟨⟨_, IL0.out⟩, rfl⟩ ?_
          clear hK
          refine tail_step fun K hK => ?_
          go_wp2
          refine hK _ _ ⟨⟨_, IL1.out⟩, rfl⟩ ?_
          clear hK
          refine tail_step fun K hK => ?_
          go_wp2
          refine hK _ _ ⟨⟨_, IL1.out⟩, rfl⟩ ?_
          clear hK
          refine tail_last fun K hK => ?_
          go_wp2
          obtain ⟨os2, hO4, hO5⟩ := HC2.out.qO
          have HC3 := Lib.hid (HC2.out.setO p x.2)
          have HK3 := Lib.hid (HK2.out.setTo gO p (.int .i64 x.2) HK2.out.nO)
          have Q93 := Lib.hid (blk_set_other Q92.out p (.int .i64 x.2) (blk_ne Q92.out hO5 (by decide)))
          have QV3 := Lib.hid (blk_set_other QV2.out p (.int .i64 x.2) (show Bv ≠ gO by omega))
          have KF3 := Lib.hid (KF2.out.trans (keepsFrom_set _ _ ⟨gO, p, none⟩ (.int .i64 x.2)))
          clear HC2 HK2 Q92 QV2 KF2 hO4 hO5 fO fA cA cO IL0 IL1
          have hgS3 : W0.heap.size ≤ ((wD.setCell ⟨gA, p, none⟩ (.int .u8 105)).setCell ⟨gO, p, none⟩ (.int .i64 x.2)).heap.size := by simp; omega
          generalize (wD.setCell ⟨gA, p, none⟩ (.int .u8 105)).setCell ⟨gO, p, none⟩ (.int .i64 x.2) = w3 at *
          obtain ⟨bs2, hA4, hA5, hA6⟩ := HC3.out.qA
          have c6 := blk_cell HC3.out.q6 0 _ rfl
          have k3 := blk_cell HK3.out.q 0 (.int .i64 (((p + 1 : Nat) : Int) - 1)) rfl
          rw [show (((p + 1 : Nat) : Int) - 1) = (p : Int) from by omega] at k3
          obtain ⟨zA, cA⟩ : ∃ z, w3.cell? ⟨gA, p, none⟩ = some z := ⟨_, blk_cell hA6 p _ (by simp only [List.getElem?_toArray, bytesV, List.getElem?_map]; rw [List.getElem?_eq_getElem (by omega)]; rfl)⟩
          have fA := blk_free hA6 p
          have HCX := Lib.hid (HC3.out.setA p 100 (by decide))
          have HKX := Lib.hid (HK3.out.setTo gA p (.int .u8 100) (blk_ne HK3.out.q hA6 (by decide)))
          have Q9X := Lib.hid (blk_set_other Q93.out p (.int .u8 100) (blk_ne Q93.out hA6 (by decide)))
          have QVX := Lib.hid (blk_set_other QV3.out p (.int .u8 100) (blk_ne QV3.out hA6 (by decide)))
          have KFX := Lib.hid (KF3.out.trans (keepsFrom_set _ _ ⟨gA, p, none⟩ (.int .u8 100)))
          have hgSX : W0.heap.size ≤ (w3.setCell ⟨gA, p, none⟩ (.int .u8 100)).heap.size := by simp; omega
          clear HC3 HK3 Q93 QV3 KF3 hgS3 hA4 hA5 hA6
          generalize hwX : w3.setCell ⟨gA, p, none⟩ (.int .u8 100) = wX at *
          have HWX := Lib.hid hwX
          clear hwX
          have l0 := blk_cell HCX.out.q5 0 _ rfl
          have hsX := HCX.out.be.size
          have hkX := blk_lt HKX.out.q
          have hvX := blk_lt QVX.out
          have h9X := blk_lt Q9X.out
          obtain ⟨os2, hO4, hO5⟩ := HCX.out.qO
          have hOX := blk_lt hO5
          have n9O := blk_ne Q9X.out hO5 (by decide)
          clear hO4 hO5
          have C1 := CloneI_any (some ⟨b, 0, none⟩) cL (p + 1) L wX hlen (own_rd HCX.out.hL) (by omega) (by intro h; cases h)
          gi_wp2_with (simp only [HWX.out])
          refine ⟨trivial, (calls_inRound C1).mono ?_⟩
          rintro e w5 ⟨aC, cC, rfl, hoC, hb5⟩
          have qv5 := blk_below QVX.out hb5
          have hAns : AnswersH w5 115 #[.pointer (some ⟨Bv, 0, none⟩)] L (fun u => u == x.2) (Value.slice aC (p + 1) cC).ownBlock := ⟨enters_codeOf2, fun w' u hg _ => codeOf2_any u x.2 Bv w' (blk_cell (blk_grown qv5 hg (own_ne_lo hoC hvX)) 0 _ rfl)⟩
          have C2 := DeleteFuncI_any wX.heap.size aC cC (p + 1) L _ _ (fun u => u == x.2) w5 hoC hlen (by omega) hAns
          rw [show keepI (fun u => u == x.2) L = dropL x.2 L from rfl] at C2
          have HOC := Lib.hid (And.intro hoC hb5)
          clear C1 l0 qv5 hAns hoC hb5
          gi_wp2_with fail
          refine ⟨trivial, (calls_inRound C2).mono ?_⟩
          rintro e w6 ⟨m', rfl, hm', hoD, hg6⟩
          clear C2
          have hb6 := below_row HOC.out.2 (Nat.le_refl _) HOC.out.1 hg6
          have haC : ∀ y, aC = some y → wX.heap.size ≤ y.block := fun y hy => (own_lt HOC.out.1 y hy).1
          have hc6 := HCX.out.below hb6
          have q96 := blk_below Q9X.out hb6
          have HK6 := Lib.hid (show KB w gO aC (p + 1) Bk w6 from ⟨blk_below HKX.out.q hb6, HKX.out.lo, HKX.out.nO, fun y hy => by have := haC y hy; omega⟩)
          have KF6 := Lib.hid (KFX.out.trans (keepsFrom_below hb6))
          have hs6 := hb6.size
          have c5 := blk_cell hc6.q5 0 (.slice (some ⟨b, 0, none⟩) (p + 1) cL) rfl
          have f5 := blk_free hc6.q5 0
          have HC7 := Lib.hid (hc6.setL (own_mono hoD hsX) (fun y hy => by have := haC y hy; omega))
          have HK7 := Lib.hid (HK6.out.setTo w2.heap.size 0 (.slice aC m' cC) (blk_ne HK6.out.q hc6.q5 (by decide)))
          have q97 := blk_set_other q96 0 (.slice aC m' cC) (blk_ne q96 hc6.q5 (by decide))
          have KF7 := Lib.hid (KF6.out.trans (keepsFrom_set _ _ ⟨w2.heap.size, 0, none⟩ (.slice aC m' cC)))
          have c9 := blk_cell q97 0 (.bool false) rfl
          have f9 := blk_free q97 0
          have HC8 := Lib.hid (HC7.out.setX V.heap.size 0 (.bool true) (by omega) n9O (fun y hy => by have := haC y hy; omega) q97 (.inr rfl))
          have HK8 := Lib.hid (HK7.out.setTo V.heap.size 0 (.bool true) (blk_ne HK7.out.q q97 (by decide)))
          have Q98 := Lib.hid (blk_set q97 0 (.bool true))
          have KF8 := Lib.hid (KF7.out.trans (keepsFrom_set _ _ ⟨V.heap.size, 0, none⟩ (.bool true)))
          clear hc6 q96 HK6 KF6 HC7 HK7 q97 KF7 HCX HKX Q9X QVX KFX hoD hg6 hb6 HOC
          have hs8 : W0.heap.size ≤ ((w6.setCell ⟨w2.heap.size, 0, none⟩ (.slice aC m' cC)).setCell ⟨V.heap.size, 0, none⟩ (.bool true)).heap.size := by simp; omega
          generalize hw7 : w6.setCell ⟨w2.heap.size, 0, none⟩ (.slice aC m' cC) = w7 at *
          have HW7 := Lib.hid hw7
          clear hw7
          have HM := Lib.hid hm'
          clear hm'
          gi_wp2_with (simp only [HW7.out])
          obtain rfl := HM.out
          exact ⟨KF8.out, rfl, pre, x.1, x.2, aC, cC, rfl, HC8.out, HK8.out, Q98.out, hs8⟩

end Go.Proofs.Ytjghcegacgpehaa
