/- The walk of the law FnExactUnionOf. -/
import Derived.Test.YtchefkggnncalaaUnionS
namespace Go.Proofs.Ytchefkggnncalaa
open Go.RowKit

set_option maxHeartbeats 4000000 in
set_option linter.unusedVariables false in
theorem walk_FnExactUnionOf (N_g : Int) (a_g : Option Addr) (c_g n_g : Nat) (g : List E2) (N_h : Int) (a_h : Option Addr) (c_h n_h : Nat) (h : List E2) (w : World) (hN_g : -9223372036854775808 ≤ N_g ∧ N_g ≤ 9223372036854775807) (hn_g : g.length = n_g) (hx_g : Rd w a_g (edges g)) (hl_g : n_g ≤ 9223372036854775807) (hN_h : -9223372036854775808 ≤ N_h ∧ N_h ≤ 9223372036854775807) (hn_h : h.length = n_h) (hx_h : Rd w a_h (edges h)) (hl_h : n_h ≤ 9223372036854775807) :
    Calls Try.prog 11 #[graphV N_g a_g n_g c_g, graphV N_h a_h n_h c_h] w fun e w' => e = .returned (.bool true) ∧ Below w.heap.size w w' := by
  have hW7 := uniE_len N_g g N_h h
  have HB0 := Below.refl w.heap.size w
  have HA := below_alloc w (.cells #[.int .i64 N_g, .slice a_g n_g c_g] 24)
  have q_b_g := heap_alloc_new w (.cells #[.int .i64 N_g, .slice a_g n_g c_g] 24)
  have HB0 := below_tr' HB0 HA
  clear HA
  have HA := below_alloc (w.alloc (.cells #[.int .i64 N_g, .slice a_g n_g c_g] 24)) (.cells #[.int .i64 N_h, .slice a_h n_h c_h] 24)
  have q_b_h := heap_alloc_new (w.alloc (.cells #[.int .i64 N_g, .slice a_g n_g c_g] 24)) (.cells #[.int .i64 N_h, .slice a_h n_h c_h] 24)
  rw [show (w.alloc (.cells #[.int .i64 N_g, .slice a_g n_g c_g] 24)).heap.size = w.heap.size + 1 from by simp] at q_b_h
  have q_b_g := blk_below q_b_g HA
  have HB0 := below_tr' HB0 HA
  clear HA
  generalize hV0 : ((w.alloc (.cells #[.int .i64 N_g, .slice a_g n_g c_g] 24)).alloc (.cells #[.int .i64 N_h, .slice a_h n_h c_h] 24)) = v0 at *
  have HV0 := Lib.hid hV0
  clear hV0
  go_enter Try.func11, Try.ntmps11
  have g_b_g_0 := blk_cell q_b_g 0 (.int .i64 N_g) rfl
  have g_b_g_1 := blk_cell q_b_g 1 (.slice a_g n_g c_g) rfl
  have C1 := szGraph_any N_g a_g c_g n_g (1048576) v0 (by omega) (by omega) (by omega)
  go_wp2_with (simp only [HV0.out])
  refine C1.mono ?_
  rintro e w1 ⟨rfl, hb1⟩
  clear C1
  have HB1 := below_tr' HB0 hb1
  have q_b_g := blk_below q_b_g hb1
  have q_b_h := blk_below q_b_h hb1
  clear g_b_g_0 g_b_g_1
  by_cases hs_g : 1048576 < (n_g : Int)
  · rw [if_pos hs_g]
    go_wp2
    go_ret
    exact ⟨rfl, HB1⟩
  rw [if_neg hs_g]
  have g_b_h_0 := blk_cell q_b_h 0 (.int .i64 N_h) rfl
  have g_b_h_1 := blk_cell q_b_h 1 (.slice a_h n_h c_h) rfl
  have C2 := szGraph_any N_h a_h c_h n_h (1048576 - (n_g : Int)) w1 (by omega) (by omega) (by omega)
  go_wp2_with fail
  refine C2.mono ?_
  rintro e w2 ⟨rfl, hb2⟩
  clear C2
  have HB2 := below_tr' HB1 hb2
  have q_b_g := blk_below q_b_g hb2
  have q_b_h := blk_below q_b_h hb2
  clear g_b_h_0 g_b_h_1
  by_cases hs_h : 1048576 - (n_g : Int) < (n_h : Int)
  · rw [if_pos hs_h]
    go_wp2
    go_ret
    exact ⟨rfl, HB2⟩
  rw [if_neg hs_h]
  have d_b_g_0 := later_cell (blk_cell q_b_g 0 (.int .i64 N_g) rfl)
  have d_b_g_1 := later_cell (blk_cell q_b_g 1 (.slice a_g n_g c_g) rfl)
  have d_b_h_0 := later_cell (blk_cell q_b_h 0 (.int .i64 N_h) rfl)
  have d_b_h_1 := later_cell (blk_cell q_b_h 1 (.slice a_h n_h c_h) rfl)
  have bd1 := bel_drew (Below.refl w2.heap.size w2)
  go_wp2
  refine wp_region_heads [true, false, true, false, false, false, false, false, false, false, false] 10 9 (C := fun w' => ∃ u : Later w2, w' = u.val) (by kernel_rfl) (by kernel_rfl) ⟨⟨_, bd1⟩, rfl⟩ ?_
  simp only [pickT]
  repeat (go_big_quiet_step (fail))
  refine wpQuiet_nil ?_
  clear d_b_g_0 d_b_g_1 d_b_h_0 d_b_h_1
  generalize hD1 : w2.drew = D1 at *
  clear hD1
  apply merge7 (F := fun (_aT1_0 : Option Addr) (_aT1_1 : Option Addr) (aR3 : Option Addr) (A3 cR3 dR3 : Nat) (w3 : World) => w3.heap[A3]? = some (.cells #[.int .i64 (uniN N_g g N_h h), .slice aR3 (uniE N_g g N_h h).length dR3] 29 (0, 0)) ∧ w3.ownsRow w2.heap.size 59 2 (.slice aR3 (uniE N_g g N_h h).length cR3) (uniE N_g g N_h h).length (edges (uniE N_g g N_h h)) ∧ Below w2.heap.size w2 w3)
  case main =>
    intro TAIL
    refine any_two (i := 1) (j := 8) (by kernel_rfl) rfl rfl ?_ ?_
    · intro K hK
      have CC := toGraph_any N_g a_g c_g n_g g D1 hn_g (hx_g.below (below_tr' HB2 bd1)) (by omega)
      go_wp2_with fail
      refine CC.mono ?_
      rintro e v1_1 ⟨aT0, rfl, hoT0, hbC⟩
      clear CC
      have hb1_1 := below_tr' bd1 hbC
      go_wp2
      refine hK _ _ (fun _ => ⟨⟨_, hb1_1⟩, rfl⟩) ?_
      clear hK
      refine any_two (i := 3) (j := 8) (by kernel_rfl) rfl rfl ?_ ?_
      · intro K hK
        have CC := toGraph_any N_h a_h c_h n_h h v1_1 hn_h (hx_h.below (below_tr' HB2 hb1_1)) (by omega)
        go_wp2_with fail
        refine CC.mono ?_
        rintro e v1_2 ⟨aT1, rfl, hoT1, hbC⟩
        clear CC
        have hoT0 := own_below hoT0 hbC
        have hb1_2 := below_tr' hb1_1 hbC
        go_wp2
        refine hK _ _ (fun _ => ⟨⟨_, hb1_2⟩, rfl⟩) ?_
        clear hK
        refine any_two (i := 4) (j := 8) (by kernel_rfl) rfl rfl ?_ ?_
        · intro K hK
          have CC := specUnionOf_any N_g aT0 n_g n_g g N_h aT1 n_h n_h h v1_2 hn_g (own_rd hoT0) (by omega) hn_h (own_rd hoT1) (by omega) (by omega) (own_form hoT0).2.2.1
          go_wp2_with fail
          refine CC.mono ?_
          rintro e v1_3 ⟨aR, cR, dR, rfl, hoR, hbC⟩
          clear CC
          clear hoT0 hoT1
          have hoR := own_mono hoR hb1_2.size
          have hb1_3 := below_tr' hb1_2 hbC
          go_wp2
          refine hK _ _ (fun _ => ⟨⟨_, hb1_3⟩, rfl⟩) ?_
          clear hK
          refine any_heads (id := 3) (n := 3) [false, false, false, false, false, true, true, true, false, false, false] #[true, true, true, true, true, true, true, true, false, false, false] (by kernel_rfl) ⟨⟨_, hb1_3⟩, rfl⟩ ?_
          simp only [pickT]
          repeat (go_big_quiet_step (fail))
          refine wpQuiet_nil ?_
          refine any_one (i := 8) (by kernel_rfl) rfl ?_
          intro K hK
          go_wp2
          have hb1_7 := below_tr' hb1_3 (below_alloc v1_3 (.cells #[.int .i64 0, .slice none 0 0] 29))
          refine hK _ _ (fun _ => ⟨⟨_, hb1_7⟩, rfl⟩) ?_
          clear hK
          have qA := heap_alloc_new v1_3 (.cells #[.int .i64 0, .slice none 0 0] 29)
          have hA7 : w2.heap.size ≤ v1_3.heap.size := hb1_3.size
          have hoR := own_below hoR (below_alloc v1_3 (.cells #[.int .i64 0, .slice none 0 0] 29))
          generalize hV : v1_3.alloc (.cells #[.int .i64 0, .slice none 0 0] 29) = v1_7 at *
          clear hV
          obtain ⟨A, hA⟩ : ∃ A, A = v1_3.heap.size := ⟨_, rfl⟩
          simp only [← hA] at *
          clear hA
          refine any_one (i := 9) (by kernel_rfl) rfl ?_
          intro K hK
          have z0 := blk_cell qA 0 (.int .i64 0) rfl
          have z1 := blk_cell qA 1 (.slice none 0 0) rfl
          have f0 := blk_free qA 0
          have f1 := blk_free qA 1
          have SQ := Lib.hid (blk_set (blk_set qA 0 (.int .i64 (uniN N_g g N_h h))) 1 (.slice aR (uniE N_g g N_h h).length dR))
          have SO := Lib.hid (own_setOther (own_setOther hoR A 0 (.int .i64 (uniN N_g g N_h h)) (own_ne hoR qA (by decide))) A 1 (.slice aR (uniE N_g g N_h h).length dR) (own_ne hoR qA (by decide)))
          have SB := Lib.hid ((hb1_7.setCell (p := ⟨A, 0, none⟩) hA7 (.int .i64 (uniN N_g g N_h h))).setCell (p := ⟨A, 1, none⟩) hA7 (.slice aR (uniE N_g g N_h h).length dR))
          go_wp2
          refine hK _ _ (fun _ => ⟨⟨_, SB.out⟩, rfl⟩) ?_
          clear hK z0 z1 f0 f1
          have qA := SQ.out
          have hoR := SO.out
          have hb1_8 := SB.out
          generalize hV : (v1_7.setCell ⟨A, 0, none⟩ (.int .i64 (uniN N_g g N_h h))).setCell ⟨A, 1, none⟩ (.slice aR (uniE N_g g N_h h).length dR) = v1_8 at *
          clear hV SQ SO SB
          refine any_one (i := 10) (by kernel_rfl) rfl ?_
          intro K hK
          go_wp2
          refine hK _ _ (fun h => absurd rfl h) ?_
          clear hK
          refine any_end (by kernel_rfl) ?_
          exact TAIL aT0 aT1  aR A cR dR v1_8 ⟨qA, hoR, hb1_8⟩
        · intro K hK
          go_wp2
          have hb1_3 := below_tr' hb1_2 (below_alloc v1_2 (.cells #[.int .i64 0, .slice none 0 0] 29))
          refine hK _ _ (fun _ => ⟨⟨_, hb1_3⟩, rfl⟩) ?_
          clear hK
          have qA := heap_alloc_new v1_2 (.cells #[.int .i64 0, .slice none 0 0] 29)
          have hA7 : w2.heap.size ≤ v1_2.heap.size := hb1_2.size
          have hoT0 := own_below hoT0 (below_alloc v1_2 (.cells #[.int .i64 0, .slice none 0 0] 29))
          have hoT1 := own_below hoT1 (below_alloc v1_2 (.cells #[.int .i64 0, .slice none 0 0] 29))
          generalize hV : v1_2.alloc (.cells #[.int .i64 0, .slice none 0 0] 29) = v1_3 at *
          clear hV
          obtain ⟨A, hA⟩ : ∃ A, A = v1_2.heap.size := ⟨_, rfl⟩
          simp only [← hA] at *
          clear hA
          refine any_one (i := 4) (by kernel_rfl) rfl ?_
          intro K hK
          have CC := specUnionOf_any N_g aT0 n_g n_g g N_h aT1 n_h n_h h v1_3 hn_g (own_rd hoT0) (by omega) hn_h (own_rd hoT1) (by omega) (by omega) (own_form hoT0).2.2.1
          go_wp2_with fail
          refine CC.mono ?_
          rintro e v1_4 ⟨aR, cR, dR, rfl, hoR, hbC⟩
          clear CC
          clear hoT0 hoT1
          have qA := blk_below qA hbC
          have hoR := own_mono hoR hb1_3.size
          have hb1_4 := below_tr' hb1_3 hbC
          go_wp2
          refine hK _ _ (fun _ => ⟨⟨_, hb1_4⟩, rfl⟩) ?_
          clear hK
          refine any_heads (id := 3) (n := 2) [false, false, false, false, false, true, true, true, false, false, false] #[true, true, true, true, true, true, true, true, true, false, false] (by kernel_rfl) ⟨⟨_, hb1_4⟩, rfl⟩ ?_
          simp only [pickT]
          repeat (go_big_quiet_step (fail))
          refine wpQuiet_nil ?_
          refine any_one (i := 9) (by kernel_rfl) rfl ?_
          intro K hK
          have z0 := blk_cell qA 0 (.int .i64 0) rfl
          have z1 := blk_cell qA 1 (.slice none 0 0) rfl
          have f0 := blk_free qA 0
          have f1 := blk_free qA 1
          have SQ := Lib.hid (blk_set (blk_set qA 0 (.int .i64 (uniN N_g g N_h h))) 1 (.slice aR (uniE N_g g N_h h).length dR))
          have SO := Lib.hid (own_setOther (own_setOther hoR A 0 (.int .i64 (uniN N_g g N_h h)) (own_ne hoR qA (by decide))) A 1 (.slice aR (uniE N_g g N_h h).length dR) (own_ne hoR qA (by decide)))
          have SB := Lib.hid ((hb1_4.setCell (p := ⟨A, 0, none⟩) hA7 (.int .i64 (uniN N_g g N_h h))).setCell (p := ⟨A, 1, none⟩) hA7 (.slice aR (uniE N_g g N_h h).length dR))
          go_wp2
          refine hK _ _ (fun _ => ⟨⟨_, SB.out⟩, rfl⟩) ?_
          clear hK z0 z1 f0 f1
          have qA := SQ.out
          have hoR := SO.out
          have hb1_8 := SB.out
          generalize hV : (v1_4.setCell ⟨A, 0, none⟩ (.int .i64 (uniN N_g g N_h h))).setCell ⟨A, 1, none⟩ (.slice aR (uniE N_g g N_h h).length dR) = v1_8 at *
          clear hV SQ SO SB
          refine any_one (i := 10) (by kernel_rfl) rfl ?_
          intro K hK
          go_wp2
          refine hK _ _ (fun h => absurd rfl h) ?_
          clear hK
          refine any_end (by kernel_rfl) ?_
          exact TAIL aT0 aT1  aR A cR dR v1_8 ⟨qA, hoR, hb1_8⟩
      · intro K hK
        go_wp2
        have hb1_2 := below_tr' hb1_1 (below_alloc v1_1 (.cells #[.int .i64 0, .slice none 0 0] 29))
        refine hK _ _ (fun _ => ⟨⟨_, hb1_2⟩, rfl⟩) ?_
        clear hK
        have qA := heap_alloc_new v1_1 (.cells #[.int .i64 0, .slice none 0 0] 29)
        have hA7 : w2.heap.size ≤ v1_1.heap.size := hb1_1.size
        have hoT0 := own_below hoT0 (below_alloc v1_1 (.cells #[.int .i64 0, .slice none 0 0] 29))
        generalize hV : v1_1.alloc (.cells #[.int .i64 0, .slice none 0 0] 29) = v1_2 at *
        clear hV
        obtain ⟨A, hA⟩ : ∃ A, A = v1_1.heap.size := ⟨_, rfl⟩
        simp only [← hA] at *
        clear hA
        refine any_one (i := 3) (by kernel_rfl) rfl ?_
        intro K hK
        have CC := toGraph_any N_h a_h c_h n_h h v1_2 hn_h (hx_h.below (below_tr' HB2 hb1_2)) (by omega)
        go_wp2_with fail
        refine CC.mono ?_
        rintro e v1_3 ⟨aT1, rfl, hoT1, hbC⟩
        clear CC
        have hoT0 := own_below hoT0 hbC
        have qA := blk_below qA hbC
        have hb1_3 := below_tr' hb1_2 hbC
        go_wp2
        refine hK _ _ (fun _ => ⟨⟨_, hb1_3⟩, rfl⟩) ?_
        clear hK
        refine any_one (i := 4) (by kernel_rfl) rfl ?_
        intro K hK
        have CC := specUnionOf_any N_g aT0 n_g n_g g N_h aT1 n_h n_h h v1_3 hn_g (own_rd hoT0) (by omega) hn_h (own_rd hoT1) (by omega) (by omega) (own_form hoT0).2.2.1
        go_wp2_with fail
        refine CC.mono ?_
        rintro e v1_4 ⟨aR, cR, dR, rfl, hoR, hbC⟩
        clear CC
        clear hoT0 hoT1
        have qA := blk_below qA hbC
        have hoR := own_mono hoR hb1_3.size
        have hb1_4 := below_tr' hb1_3 hbC
        go_wp2
        refine hK _ _ (fun _ => ⟨⟨_, hb1_4⟩, rfl⟩) ?_
        clear hK
        refine any_heads (id := 3) (n := 2) [false, false, false, false, false, true, true, true, false, false, false] #[true, true, true, true, true, true, true, true, true, false, false] (by kernel_rfl) ⟨⟨_, hb1_4⟩, rfl⟩ ?_
        simp only [pickT]
        repeat (go_big_quiet_step (fail))
        refine wpQuiet_nil ?_
        refine any_one (i := 9) (by kernel_rfl) rfl ?_
        intro K hK
        have z0 := blk_cell qA 0 (.int .i64 0) rfl
        have z1 := blk_cell qA 1 (.slice none 0 0) rfl
        have f0 := blk_free qA 0
        have f1 := blk_free qA 1
        have SQ := Lib.hid (blk_set (blk_set qA 0 (.int .i64 (uniN N_g g N_h h))) 1 (.slice aR (uniE N_g g N_h h).length dR))
        have SO := Lib.hid (own_setOther (own_setOther hoR A 0 (.int .i64 (uniN N_g g N_h h)) (own_ne hoR qA (by decide))) A 1 (.slice aR (uniE N_g g N_h h).length dR) (own_ne hoR qA (by decide)))
        have SB := Lib.hid ((hb1_4.setCell (p := ⟨A, 0, none⟩) hA7 (.int .i64 (uniN N_g g N_h h))).setCell (p := ⟨A, 1, none⟩) hA7 (.slice aR (uniE N_g g N_h h).length dR))
        go_wp2
        refine hK _ _ (fun _ => ⟨⟨_, SB.out⟩, rfl⟩) ?_
        clear hK z0 z1 f0 f1
        have qA := SQ.out
        have hoR := SO.out
        have hb1_8 := SB.out
        generalize hV : (v1_4.setCell ⟨A, 0, none⟩ (.int .i64 (uniN N_g g N_h h))).setCell ⟨A, 1, none⟩ (.slice aR (uniE N_g g N_h h).length dR) = v1_8 at *
        clear hV SQ SO SB
        refine any_one (i := 10) (by kernel_rfl) rfl ?_
        intro K hK
        go_wp2
        refine hK _ _ (fun h => absurd rfl h) ?_
        clear hK
        refine any_end (by kernel_rfl) ?_
        exact TAIL aT0 aT1  aR A cR dR v1_8 ⟨qA, hoR, hb1_8⟩
    · intro K hK
      go_wp2
      have hb1_1 := below_tr' bd1 (below_alloc D1 (.cells #[.int .i64 0, .slice none 0 0] 29))
      refine hK _ _ (fun _ => ⟨⟨_, hb1_1⟩, rfl⟩) ?_
      clear hK
      have qA := heap_alloc_new D1 (.cells #[.int .i64 0, .slice none 0 0] 29)
      have hA7 : w2.heap.size ≤ D1.heap.size := bd1.size
      generalize hV : D1.alloc (.cells #[.int .i64 0, .slice none 0 0] 29) = v1_1 at *
      clear hV
      obtain ⟨A, hA⟩ : ∃ A, A = D1.heap.size := ⟨_, rfl⟩
      simp only [← hA] at *
      clear hA
      refine any_one (i := 1) (by kernel_rfl) rfl ?_
      intro K hK
      have CC := toGraph_any N_g a_g c_g n_g g v1_1 hn_g (hx_g.below (below_tr' HB2 hb1_1)) (by omega)
      go_wp2_with fail
      refine CC.mono ?_
      rintro e v1_2 ⟨aT0, rfl, hoT0, hbC⟩
      clear CC
      have qA := blk_below qA hbC
      have hb1_2 := below_tr' hb1_1 hbC
      go_wp2
      refine hK _ _ (fun _ => ⟨⟨_, hb1_2⟩, rfl⟩) ?_
      clear hK
      refine any_one (i := 3) (by kernel_rfl) rfl ?_
      intro K hK
      have CC := toGraph_any N_h a_h c_h n_h h v1_2 hn_h (hx_h.below (below_tr' HB2 hb1_2)) (by omega)
      go_wp2_with fail
      refine CC.mono ?_
      rintro e v1_3 ⟨aT1, rfl, hoT1, hbC⟩
      clear CC
      have qA := blk_below qA hbC
      have hoT0 := own_below hoT0 hbC
      have hb1_3 := below_tr' hb1_2 hbC
      go_wp2
      refine hK _ _ (fun _ => ⟨⟨_, hb1_3⟩, rfl⟩) ?_
      clear hK
      refine any_one (i := 4) (by kernel_rfl) rfl ?_
      intro K hK
      have CC := specUnionOf_any N_g aT0 n_g n_g g N_h aT1 n_h n_h h v1_3 hn_g (own_rd hoT0) (by omega) hn_h (own_rd hoT1) (by omega) (by omega) (own_form hoT0).2.2.1
      go_wp2_with fail
      refine CC.mono ?_
      rintro e v1_4 ⟨aR, cR, dR, rfl, hoR, hbC⟩
      clear CC
      clear hoT0 hoT1
      have qA := blk_below qA hbC
      have hoR := own_mono hoR hb1_3.size
      have hb1_4 := below_tr' hb1_3 hbC
      go_wp2
      refine hK _ _ (fun _ => ⟨⟨_, hb1_4⟩, rfl⟩) ?_
      clear hK
      refine any_heads (id := 3) (n := 2) [false, false, false, false, false, true, true, true, false, false, false] #[true, true, true, true, true, true, true, true, true, false, false] (by kernel_rfl) ⟨⟨_, hb1_4⟩, rfl⟩ ?_
      simp only [pickT]
      repeat (go_big_quiet_step (fail))
      refine wpQuiet_nil ?_
      refine any_one (i := 9) (by kernel_rfl) rfl ?_
      intro K hK
      have z0 := blk_cell qA 0 (.int .i64 0) rfl
      have z1 := blk_cell qA 1 (.slice none 0 0) rfl
      have f0 := blk_free qA 0
      have f1 := blk_free qA 1
      have SQ := Lib.hid (blk_set (blk_set qA 0 (.int .i64 (uniN N_g g N_h h))) 1 (.slice aR (uniE N_g g N_h h).length dR))
      have SO := Lib.hid (own_setOther (own_setOther hoR A 0 (.int .i64 (uniN N_g g N_h h)) (own_ne hoR qA (by decide))) A 1 (.slice aR (uniE N_g g N_h h).length dR) (own_ne hoR qA (by decide)))
      have SB := Lib.hid ((hb1_4.setCell (p := ⟨A, 0, none⟩) hA7 (.int .i64 (uniN N_g g N_h h))).setCell (p := ⟨A, 1, none⟩) hA7 (.slice aR (uniE N_g g N_h h).length dR))
      go_wp2
      refine hK _ _ (fun _ => ⟨⟨_, SB.out⟩, rfl⟩) ?_
      clear hK z0 z1 f0 f1
      have qA := SQ.out
      have hoR := SO.out
      have hb1_8 := SB.out
      generalize hV : (v1_4.setCell ⟨A, 0, none⟩ (.int .i64 (uniN N_g g N_h h))).setCell ⟨A, 1, none⟩ (.slice aR (uniE N_g g N_h h).length dR) = v1_8 at *
      clear hV SQ SO SB
      refine any_one (i := 10) (by kernel_rfl) rfl ?_
      intro K hK
      go_wp2
      refine hK _ _ (fun h => absurd rfl h) ?_
      clear hK
      refine any_end (by kernel_rfl) ?_
      exact TAIL aT0 aT1  aR A cR dR v1_8 ⟨qA, hoR, hb1_8⟩
  case tail =>
  rintro aT1_0 aT1_1 aR3 A3 cR3 dR3 w3 ⟨q_c_w, ho_w, hb3⟩
  have HB3 := below_tr' HB2 hb3
  have q_b_g := blk_below q_b_g hb3
  have q_b_h := blk_below q_b_h hb3
  have g_b_g_0 := blk_cell q_b_g 0 (.int .i64 N_g) rfl
  have g_b_g_1 := blk_cell q_b_g 1 (.slice a_g n_g c_g) rfl
  have C4 := toGraph_any N_g a_g c_g n_g g w3 hn_g (hx_g.below HB3) (by omega)
  go_wp2_with fail
  refine C4.mono ?_
  rintro e w4 ⟨a4, rfl, ho_x_g, hb4⟩
  clear C4
  have ap1 := apart_of ho_w ho_x_g
  have HB4 := below_tr' HB3 hb4
  have ho_w := own_below ho_w hb4
  have q_b_g := blk_below q_b_g hb4
  have q_b_h := blk_below q_b_h hb4
  have q_c_w := blk_below q_c_w hb4
  clear g_b_g_0 g_b_g_1
  have HA1 := below_alloc w4 (.cells #[.int .i64 N_g, .slice a4 n_g n_g] 29)
  have q_x_g := heap_alloc_new w4 (.cells #[.int .i64 N_g, .slice a4 n_g n_g] 29)
  have ho_w := own_below ho_w HA1
  have ho_x_g := own_below ho_x_g HA1
  have q_b_g := blk_below q_b_g HA1
  have q_b_h := blk_below q_b_h HA1
  have q_c_w := blk_below q_c_w HA1
  have HBc1 := below_tr' HB4 HA1
  generalize hV1 : w4.alloc (.cells #[.int .i64 N_g, .slice a4 n_g n_g] 29) = v1 at *
  have HV1 := Lib.hid hV1
  clear hV1 HA1
  have g_b_h_0 := blk_cell q_b_h 0 (.int .i64 N_h) rfl
  have g_b_h_1 := blk_cell q_b_h 1 (.slice a_h n_h c_h) rfl
  have C5 := toGraph_any N_h a_h c_h n_h h v1 hn_h (hx_h.below HBc1) (by omega)
  go_wp2_with (simp only [HV1.out])
  refine C5.mono ?_
  rintro e w5 ⟨a5, rfl, ho_x_h, hb5⟩
  clear C5
  have ap2 := apart_of ho_w ho_x_h
  have ap3 := apart_of ho_x_g ho_x_h
  have HB5 := below_tr' HBc1 hb5
  have ho_w := own_below ho_w hb5
  have ho_x_g := own_below ho_x_g hb5
  have q_b_g := blk_below q_b_g hb5
  have q_b_h := blk_below q_b_h hb5
  have q_c_w := blk_below q_c_w hb5
  have q_x_g := blk_below q_x_g hb5
  clear g_b_h_0 g_b_h_1
  have HA2 := below_alloc w5 (.cells #[.int .i64 N_h, .slice a5 n_h n_h] 29)
  have q_x_h := heap_alloc_new w5 (.cells #[.int .i64 N_h, .slice a5 n_h n_h] 29)
  have ho_w := own_below ho_w HA2
  have ho_x_g := own_below ho_x_g HA2
  have ho_x_h := own_below ho_x_h HA2
  have q_b_g := blk_below q_b_g HA2
  have q_b_h := blk_below q_b_h HA2
  have q_c_w := blk_below q_c_w HA2
  have q_x_g := blk_below q_x_g HA2
  have HBc2 := below_tr' HB5 HA2
  generalize hV2 : w5.alloc (.cells #[.int .i64 N_h, .slice a5 n_h n_h] 29) = v2 at *
  have HV2 := Lib.hid hV2
  clear hV2 HA2
  have g_x_g_0 := blk_cell q_x_g 0 (.int .i64 N_g) rfl
  have g_x_g_1 := blk_cell q_x_g 1 (.slice a4 n_g n_g) rfl
  have g_x_h_0 := blk_cell q_x_h 0 (.int .i64 N_h) rfl
  have g_x_h_1 := blk_cell q_x_h 1 (.slice a5 n_h n_h) rfl
  have C6 := implUnionOf_any N_g a4 n_g n_g g N_h a5 n_h n_h h v2 (by omega) (by omega) hn_g (own_rd ho_x_g) (by omega) hn_h (own_rd ho_x_h) (by omega)
  go_wp2_with (simp only [HV2.out])
  refine C6.mono ?_
  rintro e w6 ⟨a6, c6, d6, rfl, ho_g, hb6⟩
  clear C6
  have ap4 := apart_of ho_w ho_g
  have ap5 := apart_of ho_x_g ho_g
  have ap6 := apart_of ho_x_h ho_g
  have HB6 := below_tr' HBc2 hb6
  have ho_w := own_below ho_w hb6
  have ho_x_g := own_below ho_x_g hb6
  have ho_x_h := own_below ho_x_h hb6
  have q_b_g := blk_below q_b_g hb6
  have q_b_h := blk_below q_b_h hb6
  have q_c_w := blk_below q_c_w hb6
  have q_x_g := blk_below q_x_g hb6
  have q_x_h := blk_below q_x_h hb6
  clear g_x_g_0 g_x_g_1 g_x_h_0 g_x_h_1
  have HA3 := below_alloc w6 (.cells #[.int .i64 (uniN N_g g N_h h), .slice a6 (uniE N_g g N_h h).length d6] 29)
  have q_c_g := heap_alloc_new w6 (.cells #[.int .i64 (uniN N_g g N_h h), .slice a6 (uniE N_g g N_h h).length d6] 29)
  have ho_w := own_below ho_w HA3
  have ho_x_g := own_below ho_x_g HA3
  have ho_x_h := own_below ho_x_h HA3
  have ho_g := own_below ho_g HA3
  have q_b_g := blk_below q_b_g HA3
  have q_b_h := blk_below q_b_h HA3
  have q_c_w := blk_below q_c_w HA3
  have q_x_g := blk_below q_x_g HA3
  have q_x_h := blk_below q_x_h HA3
  have HBc3 := below_tr' HB6 HA3
  generalize hV3 : w6.alloc (.cells #[.int .i64 (uniN N_g g N_h h), .slice a6 (uniE N_g g N_h h).length d6] 29) = v3 at *
  have HV3 := Lib.hid hV3
  clear hV3 HA3
  have g_c_g_0 := blk_cell q_c_g 0 (.int .i64 (uniN N_g g N_h h)) rfl
  have g_c_g_1 := blk_cell q_c_g 1 (.slice a6 (uniE N_g g N_h h).length d6) rfl
  have g_c_w_0 := blk_cell q_c_w 0 (.int .i64 (uniN N_g g N_h h)) rfl
  have g_c_w_1 := blk_cell q_c_w 1 (.slice aR3 (uniE N_g g N_h h).length dR3) rfl
  have C7 := eqGraph_any (uniN N_g g N_h h) a6 aR3 d6 dR3 ((uniE N_g g N_h h).length) ((uniE N_g g N_h h)) v3 rfl (own_rd ho_g) (own_rd ho_w) (by omega)
  go_wp2_with (simp only [HV3.out])
  refine C7.mono ?_
  rintro e w7 ⟨rfl, hb7⟩
  clear C7
  have HB7 := below_tr' HBc3 hb7
  have ho_w := own_below ho_w hb7
  have ho_x_g := own_below ho_x_g hb7
  have ho_x_h := own_below ho_x_h hb7
  have ho_g := own_below ho_g hb7
  have q_b_g := blk_below q_b_g hb7
  have q_b_h := blk_below q_b_h hb7
  have q_c_w := blk_below q_c_w hb7
  have q_x_g := blk_below q_x_g hb7
  have q_x_h := blk_below q_x_h hb7
  have q_c_g := blk_below q_c_g hb7
  clear g_c_g_0 g_c_g_1 g_c_w_0 g_c_w_1
  have HT8 := Lib.hid (toGraph_any N_g a_g c_g n_g g w7.drew hn_g (hx_g.below (bel_drew HB7)) (by omega))
  have HQ8 := Lib.hid (fun (u : World) (a' : Option Addr) (h1 : Rd u a4 (edges g)) (h2 : Rd u a' (edges g)) => eqGraph_any N_g a4 a' n_g n_g n_g g u hn_g h1 h2 (by omega))
  have bd8 := bel_drew (Below.refl w7.heap.size w7)
  have d_x_g_0 := later_cell (blk_cell q_x_g 0 (.int .i64 N_g) rfl)
  have d_x_g_1 := later_cell (blk_cell q_x_g 1 (.slice a4 n_g n_g) rfl)
  have d_b_g_0 := later_cell (blk_cell q_b_g 0 (.int .i64 N_g) rfl)
  have d_b_g_1 := later_cell (blk_cell q_b_g 1 (.slice a_g n_g c_g) rfl)
  go_wp2
  refine wp_region_flags [true, true, false, false, false] 4 (C := fun w' => ∃ u : Later w7, w' = u.val) (by kernel_rfl) (by kernel_rfl) ⟨⟨_, bd8⟩, rfl⟩ ?_
  simp only [pickT, pickF]
  repeat (go_big_quiet_step (fail))
  refine wpQuiet_nil ?_
  clear d_x_g_0 d_x_g_1 d_b_g_0 d_b_g_1
  refine tail_step fun K hK => ?_
  go_wp2_with fail
  refine HT8.out.mono ?_
  rintro e w8 ⟨aT8, rfl, hoT8, hbT8⟩
  go_wp2
  refine hK _ _ ⟨⟨_, bd8.trans hbT8⟩, rfl⟩ ?_
  clear hK HT8
  have hb8 : Below w7.heap.size w7 w8 := bd8.trans hbT8
  have HC8 := HQ8.out w8 aT8 (own_rd (own_below ho_x_g hb8)) (own_rd hoT8)
  clear HQ8 hoT8 hbT8
  refine tail_step fun K2 hK2 => ?_
  go_wp2_with fail
  refine HC8.mono ?_
  rintro e w9 ⟨rfl, hbQ9⟩
  have hb9 := below_tr' hb8 hbQ9
  go_wp2
  refine hK2 _ _ ⟨⟨_, hb9⟩, rfl⟩ ?_
  clear hK2 HC8 hbQ9 hb8 bd8
  refine tail_last fun K3 hK3 => ?_
  have HB9 := below_tr' HB7 hb9
  have ho_w := own_below ho_w hb9
  have ho_x_g := own_below ho_x_g hb9
  have ho_x_h := own_below ho_x_h hb9
  have ho_g := own_below ho_g hb9
  have q_b_g := blk_below q_b_g hb9
  have q_b_h := blk_below q_b_h hb9
  have q_c_w := blk_below q_c_w hb9
  have q_x_g := blk_below q_x_g hb9
  have q_x_h := blk_below q_x_h hb9
  have q_c_g := blk_below q_c_g hb9
  have HT10 := Lib.hid (toGraph_any N_h a_h c_h n_h h w9.drew hn_h (hx_h.below (bel_drew HB9)) (by omega))
  have HQ10 := Lib.hid (fun (u : World) (a' : Option Addr) (h1 : Rd u a5 (edges h)) (h2 : Rd u a' (edges h)) => eqGraph_any N_h a5 a' n_h n_h n_h h u hn_h h1 h2 (by omega))
  have bd10 := bel_drew (Below.refl w9.heap.size w9)
  have d_x_h_0 := later_cell (blk_cell q_x_h 0 (.int .i64 N_h) rfl)
  have d_x_h_1 := later_cell (blk_cell q_x_h 1 (.slice a5 n_h n_h) rfl)
  have d_b_h_0 := later_cell (blk_cell q_b_h 0 (.int .i64 N_h) rfl)
  have d_b_h_1 := later_cell (blk_cell q_b_h 1 (.slice a_h n_h c_h) rfl)
  go_wp2
  refine wp_region_flags [true, true, false, false, false] 4 (C := fun w' => ∃ u : Later w9, w' = u.val) (by kernel_rfl) (by kernel_rfl) ⟨⟨_, bd10⟩, rfl⟩ ?_
  simp only [pickT, pickF]
  repeat (go_big_quiet_step (fail))
  refine wpQuiet_nil ?_
  clear d_x_h_0 d_x_h_1 d_b_h_0 d_b_h_1
  refine tail_step fun K hK => ?_
  go_wp2_with fail
  refine HT10.out.mono ?_
  rintro e w10 ⟨aT10, rfl, hoT10, hbT10⟩
  go_wp2
  refine hK _ _ ⟨⟨_, bd10.trans hbT10⟩, rfl⟩ ?_
  clear hK HT10
  have hb10 : Below w9.heap.size w9 w10 := bd10.trans hbT10
  have HC10 := HQ10.out w10 aT10 (own_rd (own_below ho_x_h hb10)) (own_rd hoT10)
  clear HQ10 hoT10 hbT10
  refine tail_step fun K2 hK2 => ?_
  go_wp2_with fail
  refine HC10.mono ?_
  rintro e w11 ⟨rfl, hbQ11⟩
  have hb11 := below_tr' hb10 hbQ11
  go_wp2
  refine hK2 _ _ ⟨⟨_, hb11⟩, rfl⟩ ?_
  clear hK2 HC10 hbQ11 hb10 bd10
  refine tail_last fun K3 hK3 => ?_
  have HB11 := below_tr' HB9 hb11
  have ho_w := own_below ho_w hb11
  have ho_x_g := own_below ho_x_g hb11
  have ho_x_h := own_below ho_x_h hb11
  have ho_g := own_below ho_g hb11
  have q_b_g := blk_below q_b_g hb11
  have q_b_h := blk_below q_b_h hb11
  have q_c_w := blk_below q_c_w hb11
  have q_x_g := blk_below q_x_g hb11
  have q_x_h := blk_below q_x_h hb11
  have q_c_g := blk_below q_c_g hb11
  have g_x_g_0 := blk_cell q_x_g 0 (.int .i64 N_g) rfl
  have g_x_g_1 := blk_cell q_x_g 1 (.slice a4 n_g n_g) rfl
  have C12 := markGraph_any N_g _ a4 _ n_g n_g _ 1 w11 ho_x_g (by omega) (by omega) (by omega)
  go_wp2_with fail
  refine C12.mono ?_
  rintro e w12 ⟨rfl, hm12, hg12⟩
  clear C12
  have HB12 := below_mark HB11 ho_x_g (Nat.le_refl _) HB3.size hg12
  have q_b_g := blk_grown q_b_g hg12 (own_ne ho_x_g q_b_g (by decide))
  have q_b_h := blk_grown q_b_h hg12 (own_ne ho_x_g q_b_h (by decide))
  have q_c_w := blk_grown q_c_w hg12 (own_ne ho_x_g q_c_w (by decide))
  have q_x_g := blk_grown q_x_g hg12 (own_ne ho_x_g q_x_g (by decide))
  have q_x_h := blk_grown q_x_h hg12 (own_ne ho_x_g q_x_h (by decide))
  have q_c_g := blk_grown q_c_g hg12 (own_ne ho_x_g q_c_g (by decide))
  have ho_w := own_kept ho_w hg12 ap1
  have ho_x_h := own_kept ho_x_h hg12 ap3.symm
  have ho_g := own_kept ho_g hg12 ap5.symm
  have ho_x_g := hm12
  clear hm12
  clear g_x_g_0 g_x_g_1
  have g_x_h_0 := blk_cell q_x_h 0 (.int .i64 N_h) rfl
  have g_x_h_1 := blk_cell q_x_h 1 (.slice a5 n_h n_h) rfl
  have C13 := markGraph_any N_h _ a5 _ n_h n_h _ (1 + 2 * (n_g : Int)) w12 ho_x_h (by omega) (by omega) (by omega)
  go_wp2_with fail
  refine C13.mono ?_
  rintro e w13 ⟨rfl, hm13, hg13⟩
  clear C13
  have HB13 := below_mark HB12 ho_x_h (Nat.le_refl _) HBc1.size hg13
  have q_b_g := blk_grown q_b_g hg13 (own_ne ho_x_h q_b_g (by decide))
  have q_b_h := blk_grown q_b_h hg13 (own_ne ho_x_h q_b_h (by decide))
  have q_c_w := blk_grown q_c_w hg13 (own_ne ho_x_h q_c_w (by decide))
  have q_x_g := blk_grown q_x_g hg13 (own_ne ho_x_h q_x_g (by decide))
  have q_x_h := blk_grown q_x_h hg13 (own_ne ho_x_h q_x_h (by decide))
  have q_c_g := blk_grown q_c_g hg13 (own_ne ho_x_h q_c_g (by decide))
  have ho_w := own_kept ho_w hg13 ap2
  have ho_x_g := own_kept ho_x_g hg13 ap3
  have ho_g := own_kept ho_g hg13 ap6.symm
  have ho_x_h := hm13
  clear hm13
  clear g_x_h_0 g_x_h_1
  have g_c_g_0 := blk_cell q_c_g 0 (.int .i64 (uniN N_g g N_h h)) rfl
  have g_c_g_1 := blk_cell q_c_g 1 (.slice a6 (uniE N_g g N_h h).length d6) rfl
  have g_c_w_0 := blk_cell q_c_w 0 (.int .i64 (uniN N_g g N_h h)) rfl
  have g_c_w_1 := blk_cell q_c_w 1 (.slice aR3 (uniE N_g g N_h h).length dR3) rfl
  have C14 := eqGraph_any (uniN N_g g N_h h) a6 aR3 d6 dR3 ((uniE N_g g N_h h).length) ((uniE N_g g N_h h)) w13 rfl (own_rd ho_g) (own_rd ho_w) (by omega)
  go_wp2_with fail
  refine C14.mono ?_
  rintro e w14 ⟨rfl, hb14⟩
  clear C14
  have HB14 := below_tr' HB13 hb14
  have ho_w := own_below ho_w hb14
  have ho_x_g := own_below ho_x_g hb14
  have ho_x_h := own_below ho_x_h hb14
  have ho_g := own_below ho_g hb14
  have q_b_g := blk_below q_b_g hb14
  have q_b_h := blk_below q_b_h hb14
  have q_c_w := blk_below q_c_w hb14
  have q_x_g := blk_below q_x_g hb14
  have q_x_h := blk_below q_x_h hb14
  have q_c_g := blk_below q_c_g hb14
  clear g_c_g_0 g_c_g_1 g_c_w_0 g_c_w_1
  clear ho_x_g ho_x_h
  have g_c_g_0 := blk_cell q_c_g 0 (.int .i64 (uniN N_g g N_h h)) rfl
  have g_c_g_1 := blk_cell q_c_g 1 (.slice a6 (uniE N_g g N_h h).length d6) rfl
  have C15 := markGraph_any (uniN N_g g N_h h) _ a6 _ d6 (uniE N_g g N_h h).length _ 1 w14 ho_g (by omega) (by omega) (by omega)
  go_wp2_with fail
  refine C15.mono ?_
  rintro e w15 ⟨rfl, hm15, hg15⟩
  clear C15
  have HB15 := below_mark HB14 ho_g (Nat.le_refl _) HBc2.size hg15
  have q_b_g := blk_grown q_b_g hg15 (own_ne ho_g q_b_g (by decide))
  have q_b_h := blk_grown q_b_h hg15 (own_ne ho_g q_b_h (by decide))
  have q_c_w := blk_grown q_c_w hg15 (own_ne ho_g q_c_w (by decide))
  have q_x_g := blk_grown q_x_g hg15 (own_ne ho_g q_x_g (by decide))
  have q_x_h := blk_grown q_x_h hg15 (own_ne ho_g q_x_h (by decide))
  have q_c_g := blk_grown q_c_g hg15 (own_ne ho_g q_c_g (by decide))
  have ho_w := own_kept ho_w hg15 ap4
  have ho_g := hm15
  clear hm15
  clear g_c_g_0 g_c_g_1
  have g_c_g_0 := blk_cell q_c_g 0 (.int .i64 (uniN N_g g N_h h)) rfl
  have g_c_g_1 := blk_cell q_c_g 1 (.slice a6 (uniE N_g g N_h h).length d6) rfl
  have C16 := heldGraph_any (uniN N_g g N_h h) a6 d6 (uniE N_g g N_h h).length 1 w15 (own_rd ho_g) (by omega) (by omega) (by omega)
  go_wp2_with fail
  refine C16.mono ?_
  rintro e w16 ⟨rfl, hb16⟩
  clear C16
  have HB16 := below_tr' HB15 hb16
  have ho_w := own_below ho_w hb16
  have ho_g := own_below ho_g hb16
  have q_b_g := blk_below q_b_g hb16
  have q_b_h := blk_below q_b_h hb16
  have q_c_w := blk_below q_c_w hb16
  have q_x_g := blk_below q_x_g hb16
  have q_x_h := blk_below q_x_h hb16
  have q_c_g := blk_below q_c_g hb16
  clear g_c_g_0 g_c_g_1
  have d_b_g_0 := later_cell (blk_cell q_b_g 0 (.int .i64 N_g) rfl)
  have d_b_g_1 := later_cell (blk_cell q_b_g 1 (.slice a_g n_g c_g) rfl)
  have d_b_h_0 := later_cell (blk_cell q_b_h 0 (.int .i64 N_h) rfl)
  have d_b_h_1 := later_cell (blk_cell q_b_h 1 (.slice a_h n_h c_h) rfl)
  have bd2 := bel_drew (Below.refl w16.heap.size w16)
  go_wp2
  refine wp_region_heads [true, false, true, false, false, false, false, false, false, false, false] 10 9 (C := fun w' => ∃ u : Later w16, w' = u.val) (by kernel_rfl) (by kernel_rfl) ⟨⟨_, bd2⟩, rfl⟩ ?_
  simp only [pickT]
  repeat (go_big_quiet_step (fail))
  refine wpQuiet_nil ?_
  clear d_b_g_0 d_b_g_1 d_b_h_0 d_b_h_1
  generalize hD2 : w16.drew = D2 at *
  clear hD2
  apply merge7 (F := fun (_aT2_0 : Option Addr) (_aT2_1 : Option Addr) (aR17 : Option Addr) (A17 cR17 dR17 : Nat) (w17 : World) => w17.heap[A17]? = some (.cells #[.int .i64 (uniN N_g g N_h h), .slice aR17 (uniE N_g g N_h h).length dR17] 29 (0, 0)) ∧ w17.ownsRow w16.heap.size 59 2 (.slice aR17 (uniE N_g g N_h h).length cR17) (uniE N_g g N_h h).length (edges (uniE N_g g N_h h)) ∧ Below w16.heap.size w16 w17)
  case main =>
    intro TAIL
    refine any_two (i := 1) (j := 8) (by kernel_rfl) rfl rfl ?_ ?_
    · intro K hK
      have CC := toGraph_any N_g a_g c_g n_g g D2 hn_g (hx_g.below (below_tr' HB16 bd2)) (by omega)
      go_wp2_with fail
      refine CC.mono ?_
      rintro e v2_1 ⟨aT0, rfl, hoT0, hbC⟩
      clear CC
      have hb2_1 := below_tr' bd2 hbC
      go_wp2
      refine hK _ _ (fun _ => ⟨⟨_, hb2_1⟩, rfl⟩) ?_
      clear hK
      refine any_two (i := 3) (j := 8) (by kernel_rfl) rfl rfl ?_ ?_
      · intro K hK
        have CC := toGraph_any N_h a_h c_h n_h h v2_1 hn_h (hx_h.below (below_tr' HB16 hb2_1)) (by omega)
        go_wp2_with fail
        refine CC.mono ?_
        rintro e v2_2 ⟨aT1, rfl, hoT1, hbC⟩
        clear CC
        have hoT0 := own_below hoT0 hbC
        have hb2_2 := below_tr' hb2_1 hbC
        go_wp2
        refine hK _ _ (fun _ => ⟨⟨_, hb2_2⟩, rfl⟩) ?_
        clear hK
        refine any_two (i := 4) (j := 8) (by kernel_rfl) rfl rfl ?_ ?_
        · intro K hK
          have CC := implUnionOf_any N_g aT0 n_g n_g g N_h aT1 n_h n_h h v2_2 (by omega) (by omega) hn_g (own_rd hoT0) (by omega) hn_h (own_rd hoT1) (by omega)
          go_wp2_with fail
          refine CC.mono ?_
          rintro e v2_3 ⟨aR, cR, dR, rfl, hoR, hbC⟩
          clear CC
          clear hoT0 hoT1
          have hoR := own_mono hoR hb2_2.size
          have hb2_3 := below_tr' hb2_2 hbC
          go_wp2
          refine hK _ _ (fun _ => ⟨⟨_, hb2_3⟩, rfl⟩) ?_
          clear hK
          refine any_heads (id := 3) (n := 3) [false, false, false, false, false, true, true, true, false, false, false] #[true, true, true, true, true, true, true, true, false, false, false] (by kernel_rfl) ⟨⟨_, hb2_3⟩, rfl⟩ ?_
          simp only [pickT]
          repeat (go_big_quiet_step (fail))
          refine wpQuiet_nil ?_
          refine any_one (i := 8) (by kernel_rfl) rfl ?_
          intro K hK
          go_wp2
          have hb2_7 := below_tr' hb2_3 (below_alloc v2_3 (.cells #[.int .i64 0, .slice none 0 0] 29))
          refine hK _ _ (fun _ => ⟨⟨_, hb2_7⟩, rfl⟩) ?_
          clear hK
          have qA := heap_alloc_new v2_3 (.cells #[.int .i64 0, .slice none 0 0] 29)
          have hA7 : w16.heap.size ≤ v2_3.heap.size := hb2_3.size
          have hoR := own_below hoR (below_alloc v2_3 (.cells #[.int .i64 0, .slice none 0 0] 29))
          generalize hV : v2_3.alloc (.cells #[.int .i64 0, .slice none 0 0] 29) = v2_7 at *
          clear hV
          obtain ⟨A, hA⟩ : ∃ A, A = v2_3.heap.size := ⟨_, rfl⟩
          simp only [← hA] at *
          clear hA
          refine any_one (i := 9) (by kernel_rfl) rfl ?_
          intro K hK
          have z0 := blk_cell qA 0 (.int .i64 0) rfl
          have z1 := blk_cell qA 1 (.slice none 0 0) rfl
          have f0 := blk_free qA 0
          have f1 := blk_free qA 1
          have SQ := Lib.hid (blk_set (blk_set qA 0 (.int .i64 (uniN N_g g N_h h))) 1 (.slice aR (uniE N_g g N_h h).length dR))
          have SO := Lib.hid (own_setOther (own_setOther hoR A 0 (.int .i64 (uniN N_g g N_h h)) (own_ne hoR qA (by decide))) A 1 (.slice aR (uniE N_g g N_h h).length dR) (own_ne hoR qA (by decide)))
          have SB := Lib.hid ((hb2_7.setCell (p := ⟨A, 0, none⟩) hA7 (.int .i64 (uniN N_g g N_h h))).setCell (p := ⟨A, 1, none⟩) hA7 (.slice aR (uniE N_g g N_h h).length dR))
          go_wp2
          refine hK _ _ (fun _ => ⟨⟨_, SB.out⟩, rfl⟩) ?_
          clear hK z0 z1 f0 f1
          have qA := SQ.out
          have hoR := SO.out
          have hb2_8 := SB.out
          generalize hV : (v2_7.setCell ⟨A, 0, none⟩ (.int .i64 (uniN N_g g N_h h))).setCell ⟨A, 1, none⟩ (.slice aR (uniE N_g g N_h h).length dR) = v2_8 at *
          clear hV SQ SO SB
          refine any_one (i := 10) (by kernel_rfl) rfl ?_
          intro K hK
          go_wp2
          refine hK _ _ (fun h => absurd rfl h) ?_
          clear hK
          refine any_end (by kernel_rfl) ?_
          exact TAIL aT0 aT1  aR A cR dR v2_8 ⟨qA, hoR, hb2_8⟩
        · intro K hK
          go_wp2
          have hb2_3 := below_tr' hb2_2 (below_alloc v2_2 (.cells #[.int .i64 0, .slice none 0 0] 29))
          refine hK _ _ (fun _ => ⟨⟨_, hb2_3⟩, rfl⟩) ?_
          clear hK
          have qA := heap_alloc_new v2_2 (.cells #[.int .i64 0, .slice none 0 0] 29)
          have hA7 : w16.heap.size ≤ v2_2.heap.size := hb2_2.size
          have hoT0 := own_below hoT0 (below_alloc v2_2 (.cells #[.int .i64 0, .slice none 0 0] 29))
          have hoT1 := own_below hoT1 (below_alloc v2_2 (.cells #[.int .i64 0, .slice none 0 0] 29))
          generalize hV : v2_2.alloc (.cells #[.int .i64 0, .slice none 0 0] 29) = v2_3 at *
          clear hV
          obtain ⟨A, hA⟩ : ∃ A, A = v2_2.heap.size := ⟨_, rfl⟩
          simp only [← hA] at *
          clear hA
          refine any_one (i := 4) (by kernel_rfl) rfl ?_
          intro K hK
          have CC := implUnionOf_any N_g aT0 n_g n_g g N_h aT1 n_h n_h h v2_3 (by omega) (by omega) hn_g (own_rd hoT0) (by omega) hn_h (own_rd hoT1) (by omega)
          go_wp2_with fail
          refine CC.mono ?_
          rintro e v2_4 ⟨aR, cR, dR, rfl, hoR, hbC⟩
          clear CC
          clear hoT0 hoT1
          have qA := blk_below qA hbC
          have hoR := own_mono hoR hb2_3.size
          have hb2_4 := below_tr' hb2_3 hbC
          go_wp2
          refine hK _ _ (fun _ => ⟨⟨_, hb2_4⟩, rfl⟩) ?_
          clear hK
          refine any_heads (id := 3) (n := 2) [false, false, false, false, false, true, true, true, false, false, false] #[true, true, true, true, true, true, true, true, true, false, false] (by kernel_rfl) ⟨⟨_, hb2_4⟩, rfl⟩ ?_
          simp only [pickT]
          repeat (go_big_quiet_step (fail))
          refine wpQuiet_nil ?_
          refine any_one (i := 9) (by kernel_rfl) rfl ?_
          intro K hK
          have z0 := blk_cell qA 0 (.int .i64 0) rfl
          have z1 := blk_cell qA 1 (.slice none 0 0) rfl
          have f0 := blk_free qA 0
          have f1 := blk_free qA 1
          have SQ := Lib.hid (blk_set (blk_set qA 0 (.int .i64 (uniN N_g g N_h h))) 1 (.slice aR (uniE N_g g N_h h).length dR))
          have SO := Lib.hid (own_setOther (own_setOther hoR A 0 (.int .i64 (uniN N_g g N_h h)) (own_ne hoR qA (by decide))) A 1 (.slice aR (uniE N_g g N_h h).length dR) (own_ne hoR qA (by decide)))
          have SB := Lib.hid ((hb2_4.setCell (p := ⟨A, 0, none⟩) hA7 (.int .i64 (uniN N_g g N_h h))).setCell (p := ⟨A, 1, none⟩) hA7 (.slice aR (uniE N_g g N_h h).length dR))
          go_wp2
          refine hK _ _ (fun _ => ⟨⟨_, SB.out⟩, rfl⟩) ?_
          clear hK z0 z1 f0 f1
          have qA := SQ.out
          have hoR := SO.out
          have hb2_8 := SB.out
          generalize hV : (v2_4.setCell ⟨A, 0, none⟩ (.int .i64 (uniN N_g g N_h h))).setCell ⟨A, 1, none⟩ (.slice aR (uniE N_g g N_h h).length dR) = v2_8 at *
          clear hV SQ SO SB
          refine any_one (i := 10) (by kernel_rfl) rfl ?_
          intro K hK
          go_wp2
          refine hK _ _ (fun h => absurd rfl h) ?_
          clear hK
          refine any_end (by kernel_rfl) ?_
          exact TAIL aT0 aT1  aR A cR dR v2_8 ⟨qA, hoR, hb2_8⟩
      · intro K hK
        go_wp2
        have hb2_2 := below_tr' hb2_1 (below_alloc v2_1 (.cells #[.int .i64 0, .slice none 0 0] 29))
        refine hK _ _ (fun _ => ⟨⟨_, hb2_2⟩, rfl⟩) ?_
        clear hK
        have qA := heap_alloc_new v2_1 (.cells #[.int .i64 0, .slice none 0 0] 29)
        have hA7 : w16.heap.size ≤ v2_1.heap.size := hb2_1.size
        have hoT0 := own_below hoT0 (below_alloc v2_1 (.cells #[.int .i64 0, .slice none 0 0] 29))
        generalize hV : v2_1.alloc (.cells #[.int .i64 0, .slice none 0 0] 29) = v2_2 at *
        clear hV
        obtain ⟨A, hA⟩ : ∃ A, A = v2_1.heap.size := ⟨_, rfl⟩
        simp only [← hA] at *
        clear hA
        refine any_one (i := 3) (by kernel_rfl) rfl ?_
        intro K hK
        have CC := toGraph_any N_h a_h c_h n_h h v2_2 hn_h (hx_h.below (below_tr' HB16 hb2_2)) (by omega)
        go_wp2_with fail
        refine CC.mono ?_
        rintro e v2_3 ⟨aT1, rfl, hoT1, hbC⟩
        clear CC
        have hoT0 := own_below hoT0 hbC
        have qA := blk_below qA hbC
        have hb2_3 := below_tr' hb2_2 hbC
        go_wp2
        refine hK _ _ (fun _ => ⟨⟨_, hb2_3⟩, rfl⟩) ?_
        clear hK
        refine any_one (i := 4) (by kernel_rfl) rfl ?_
        intro K hK
        have CC := implUnionOf_any N_g aT0 n_g n_g g N_h aT1 n_h n_h h v2_3 (by omega) (by omega) hn_g (own_rd hoT0) (by omega) hn_h (own_rd hoT1) (by omega)
        go_wp2_with fail
        refine CC.mono ?_
        rintro e v2_4 ⟨aR, cR, dR, rfl, hoR, hbC⟩
        clear CC
        clear hoT0 hoT1
        have qA := blk_below qA hbC
        have hoR := own_mono hoR hb2_3.size
        have hb2_4 := below_tr' hb2_3 hbC
        go_wp2
        refine hK _ _ (fun _ => ⟨⟨_, hb2_4⟩, rfl⟩) ?_
        clear hK
        refine any_heads (id := 3) (n := 2) [false, false, false, false, false, true, true, true, false, false, false] #[true, true, true, true, true, true, true, true, true, false, false] (by kernel_rfl) ⟨⟨_, hb2_4⟩, rfl⟩ ?_
        simp only [pickT]
        repeat (go_big_quiet_step (fail))
        refine wpQuiet_nil ?_
        refine any_one (i := 9) (by kernel_rfl) rfl ?_
        intro K hK
        have z0 := blk_cell qA 0 (.int .i64 0) rfl
        have z1 := blk_cell qA 1 (.slice none 0 0) rfl
        have f0 := blk_free qA 0
        have f1 := blk_free qA 1
        have SQ := Lib.hid (blk_set (blk_set qA 0 (.int .i64 (uniN N_g g N_h h))) 1 (.slice aR (uniE N_g g N_h h).length dR))
        have SO := Lib.hid (own_setOther (own_setOther hoR A 0 (.int .i64 (uniN N_g g N_h h)) (own_ne hoR qA (by decide))) A 1 (.slice aR (uniE N_g g N_h h).length dR) (own_ne hoR qA (by decide)))
        have SB := Lib.hid ((hb2_4.setCell (p := ⟨A, 0, none⟩) hA7 (.int .i64 (uniN N_g g N_h h))).setCell (p := ⟨A, 1, none⟩) hA7 (.slice aR (uniE N_g g N_h h).length dR))
        go_wp2
        refine hK _ _ (fun _ => ⟨⟨_, SB.out⟩, rfl⟩) ?_
        clear hK z0 z1 f0 f1
        have qA := SQ.out
        have hoR := SO.out
        have hb2_8 := SB.out
        generalize hV : (v2_4.setCell ⟨A, 0, none⟩ (.int .i64 (uniN N_g g N_h h))).setCell ⟨A, 1, none⟩ (.slice aR (uniE N_g g N_h h).length dR) = v2_8 at *
        clear hV SQ SO SB
        refine any_one (i := 10) (by kernel_rfl) rfl ?_
        intro K hK
        go_wp2
        refine hK _ _ (fun h => absurd rfl h) ?_
        clear hK
        refine any_end (by kernel_rfl) ?_
        exact TAIL aT0 aT1  aR A cR dR v2_8 ⟨qA, hoR, hb2_8⟩
    · intro K hK
      go_wp2
      have hb2_1 := below_tr' bd2 (below_alloc D2 (.cells #[.int .i64 0, .slice none 0 0] 29))
      refine hK _ _ (fun _ => ⟨⟨_, hb2_1⟩, rfl⟩) ?_
      clear hK
      have qA := heap_alloc_new D2 (.cells #[.int .i64 0, .slice none 0 0] 29)
      have hA7 : w16.heap.size ≤ D2.heap.size := bd2.size
      generalize hV : D2.alloc (.cells #[.int .i64 0, .slice none 0 0] 29) = v2_1 at *
      clear hV
      obtain ⟨A, hA⟩ : ∃ A, A = D2.heap.size := ⟨_, rfl⟩
      simp only [← hA] at *
      clear hA
      refine any_one (i := 1) (by kernel_rfl) rfl ?_
      intro K hK
      have CC := toGraph_any N_g a_g c_g n_g g v2_1 hn_g (hx_g.below (below_tr' HB16 hb2_1)) (by omega)
      go_wp2_with fail
      refine CC.mono ?_
      rintro e v2_2 ⟨aT0, rfl, hoT0, hbC⟩
      clear CC
      have qA := blk_below qA hbC
      have hb2_2 := below_tr' hb2_1 hbC
      go_wp2
      refine hK _ _ (fun _ => ⟨⟨_, hb2_2⟩, rfl⟩) ?_
      clear hK
      refine any_one (i := 3) (by kernel_rfl) rfl ?_
      intro K hK
      have CC := toGraph_any N_h a_h c_h n_h h v2_2 hn_h (hx_h.below (below_tr' HB16 hb2_2)) (by omega)
      go_wp2_with fail
      refine CC.mono ?_
      rintro e v2_3 ⟨aT1, rfl, hoT1, hbC⟩
      clear CC
      have qA := blk_below qA hbC
      have hoT0 := own_below hoT0 hbC
      have hb2_3 := below_tr' hb2_2 hbC
      go_wp2
      refine hK _ _ (fun _ => ⟨⟨_, hb2_3⟩, rfl⟩) ?_
      clear hK
      refine any_one (i := 4) (by kernel_rfl) rfl ?_
      intro K hK
      have CC := implUnionOf_any N_g aT0 n_g n_g g N_h aT1 n_h n_h h v2_3 (by omega) (by omega) hn_g (own_rd hoT0) (by omega) hn_h (own_rd hoT1) (by omega)
      go_wp2_with fail
      refine CC.mono ?_
      rintro e v2_4 ⟨aR, cR, dR, rfl, hoR, hbC⟩
      clear CC
      clear hoT0 hoT1
      have qA := blk_below qA hbC
      have hoR := own_mono hoR hb2_3.size
      have hb2_4 := below_tr' hb2_3 hbC
      go_wp2
      refine hK _ _ (fun _ => ⟨⟨_, hb2_4⟩, rfl⟩) ?_
      clear hK
      refine any_heads (id := 3) (n := 2) [false, false, false, false, false, true, true, true, false, false, false] #[true, true, true, true, true, true, true, true, true, false, false] (by kernel_rfl) ⟨⟨_, hb2_4⟩, rfl⟩ ?_
      simp only [pickT]
      repeat (go_big_quiet_step (fail))
      refine wpQuiet_nil ?_
      refine any_one (i := 9) (by kernel_rfl) rfl ?_
      intro K hK
      have z0 := blk_cell qA 0 (.int .i64 0) rfl
      have z1 := blk_cell qA 1 (.slice none 0 0) rfl
      have f0 := blk_free qA 0
      have f1 := blk_free qA 1
      have SQ := Lib.hid (blk_set (blk_set qA 0 (.int .i64 (uniN N_g g N_h h))) 1 (.slice aR (uniE N_g g N_h h).length dR))
      have SO := Lib.hid (own_setOther (own_setOther hoR A 0 (.int .i64 (uniN N_g g N_h h)) (own_ne hoR qA (by decide))) A 1 (.slice aR (uniE N_g g N_h h).length dR) (own_ne hoR qA (by decide)))
      have SB := Lib.hid ((hb2_4.setCell (p := ⟨A, 0, none⟩) hA7 (.int .i64 (uniN N_g g N_h h))).setCell (p := ⟨A, 1, none⟩) hA7 (.slice aR (uniE N_g g N_h h).length dR))
      go_wp2
      refine hK _ _ (fun _ => ⟨⟨_, SB.out⟩, rfl⟩) ?_
      clear hK z0 z1 f0 f1
      have qA := SQ.out
      have hoR := SO.out
      have hb2_8 := SB.out
      generalize hV : (v2_4.setCell ⟨A, 0, none⟩ (.int .i64 (uniN N_g g N_h h))).setCell ⟨A, 1, none⟩ (.slice aR (uniE N_g g N_h h).length dR) = v2_8 at *
      clear hV SQ SO SB
      refine any_one (i := 10) (by kernel_rfl) rfl ?_
      intro K hK
      go_wp2
      refine hK _ _ (fun h => absurd rfl h) ?_
      clear hK
      refine any_end (by kernel_rfl) ?_
      exact TAIL aT0 aT1  aR A cR dR v2_8 ⟨qA, hoR, hb2_8⟩
  case tail =>
  rintro aT2_0 aT2_1 aR17 A17 cR17 dR17 w17 ⟨q_c_h, ho_h, hb17⟩
  have ap7 := apart_of ho_w ho_h
  have ap8 := apart_of ho_g ho_h
  have HB17 := below_tr' HB16 hb17
  have ho_w := own_below ho_w hb17
  have ho_g := own_below ho_g hb17
  have q_b_g := blk_below q_b_g hb17
  have q_b_h := blk_below q_b_h hb17
  have q_c_w := blk_below q_c_w hb17
  have q_x_g := blk_below q_x_g hb17
  have q_x_h := blk_below q_x_h hb17
  have q_c_g := blk_below q_c_g hb17
  have g_c_h_0 := blk_cell q_c_h 0 (.int .i64 (uniN N_g g N_h h)) rfl
  have g_c_h_1 := blk_cell q_c_h 1 (.slice aR17 (uniE N_g g N_h h).length dR17) rfl
  have g_c_w_0 := blk_cell q_c_w 0 (.int .i64 (uniN N_g g N_h h)) rfl
  have g_c_w_1 := blk_cell q_c_w 1 (.slice aR3 (uniE N_g g N_h h).length dR3) rfl
  have C18 := eqGraph_any (uniN N_g g N_h h) aR17 aR3 dR17 dR3 ((uniE N_g g N_h h).length) ((uniE N_g g N_h h)) w17 rfl (own_rd ho_h) (own_rd ho_w) (by omega)
  go_wp2_with fail
  refine C18.mono ?_
  rintro e w18 ⟨rfl, hb18⟩
  clear C18
  have HB18 := below_tr' HB17 hb18
  have ho_w := own_below ho_w hb18
  have ho_g := own_below ho_g hb18
  have ho_h := own_below ho_h hb18
  have q_b_g := blk_below q_b_g hb18
  have q_b_h := blk_below q_b_h hb18
  have q_c_w := blk_below q_c_w hb18
  have q_x_g := blk_below q_x_g hb18
  have q_x_h := blk_below q_x_h hb18
  have q_c_g := blk_below q_c_g hb18
  have q_c_h := blk_below q_c_h hb18
  clear g_c_h_0 g_c_h_1 g_c_w_0 g_c_w_1
  have g_c_g_0 := blk_cell q_c_g 0 (.int .i64 (uniN N_g g N_h h)) rfl
  have g_c_g_1 := blk_cell q_c_g 1 (.slice a6 (uniE N_g g N_h h).length d6) rfl
  have C19 := heldGraph_any (uniN N_g g N_h h) a6 d6 (uniE N_g g N_h h).length 1 w18 (own_rd ho_g) (by omega) (by omega) (by omega)
  go_wp2_with fail
  refine C19.mono ?_
  rintro e w19 ⟨rfl, hb19⟩
  clear C19
  have HB19 := below_tr' HB18 hb19
  have ho_w := own_below ho_w hb19
  have ho_g := own_below ho_g hb19
  have ho_h := own_below ho_h hb19
  have q_b_g := blk_below q_b_g hb19
  have q_b_h := blk_below q_b_h hb19
  have q_c_w := blk_below q_c_w hb19
  have q_x_g := blk_below q_x_g hb19
  have q_x_h := blk_below q_x_h hb19
  have q_c_g := blk_below q_c_g hb19
  have q_c_h := blk_below q_c_h hb19
  clear g_c_g_0 g_c_g_1
  go_wp2
  go_ret
  exact ⟨rfl, HB19⟩

end Go.Proofs.Ytchefkggnncalaa
