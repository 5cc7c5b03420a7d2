
/- The drawn input of HasEdge. (Printed by gen_draw2.py.) -/
import Derived.Test.YtbiekdhikanhcaaDraw1
import Derived.Test.YtbiekdhikanhcaaGrowL
namespace Go.Proofs.Ytbiekdhikanhcaa
open Go.RowKit

set_option maxHeartbeats 4000000 in
theorem DrawHasEdge_any (a0 : Option Addr) (c0 n0 : Nat) (bs : List Int) (w : World) (hc : CodeOK w a0 c0 n0 bs) (hl : n0 ≤ 1048576) :
    Calls Try.prog 31 #[.slice a0 n0 c0] w fun e w' => ∃ (N : Int) (es : List E2) (a : Option Addr) (c : Nat) (x y : Int), e = .returned (.tuple #[graphV N a es.length c, .int .i64 x, .int .i64 y]) ∧ (-1 ≤ N ∧ N ≤ 8) ∧ es.length ≤ 50 ∧
      w'.ownsRow w.heap.size 52 2 (.slice a es.length c) es.length (edges es) ∧ Below w.heap.size w w' := by
  have hB := below_alloc w (.cells #[.int .i64 0, .slice none 0 0] 25)
  have r0 := heap_alloc_new w (.cells #[.int .i64 0, .slice none 0 0] 25)
  have hs1 : (w.alloc (.cells #[.int .i64 0, .slice none 0 0] 25)).heap.size = w.heap.size + 1 := by simp
  generalize hW : w.alloc (.cells #[.int .i64 0, .slice none 0 0] 25) = W at *
  have HW := Lib.hid hW
  clear hW
  have hc := hc.below hB
  have C1 := newReader_any a0 c0 n0 bs W hc.1 hl hc.2.1 hc.2.2.1 hc.2.2.2.1 hc.2.2.2.2
  go_enter Try.func31, Try.ntmps31
  go_wp2_with (simp only [HW.out])
  refine C1.mono ?_
  rintro e w1 ⟨rfl, hr, hb1⟩
  have r0 := blk_below r0 hb1
  have hB := below_tr' hB hb1
  rw [hs1] at hr
  rw [hs1]
  have C2 := someGraph_any (w.heap.size + 1) 0 w1 hr (by omega)
  clear C1 hc hs1 hb1
  go_wp2_with fail
  refine C2.mono ?_
  rintro e w2 ⟨N, es, a, c, p0, rfl, hN, hes, ho, hr, hp0, hg⟩
  have r0 := blk_grown r0 hg (by simp)
  have ho := own_mono ho hB.size
  have hB := hB.grown hg hB.size (fun k hk => by simp only [Option.some.injEq] at hk; omega)
  have hAA := blk_lt r0
  have hAR := hr.lt
  clear C2 hg
  obtain ⟨n, hn⟩ : ∃ n, n = es.length := ⟨_, rfl⟩
  rw [← hn] at ho hes
  have CN : (graphV N a es.length c) = graphV N a n c := by rw [hn]
  rw [CN]
  have HN := Lib.hid hn
  clear hn CN
  have C3 := below_alloc w2 (.cells #[.int .i64 N, .slice a n c] 25)
  have ho := own_below ho C3
  have r0 := blk_below r0 C3
  have rA := heap_alloc_new w2 (.cells #[.int .i64 N, .slice a n c] 25)
  have hr := hr.below C3
  have hB := below_tr' hB C3
  clear C3
  generalize hV : w2.alloc (.cells #[.int .i64 N, .slice a n c] 25) = V at *
  have HV := Lib.hid hV
  clear hV
  have y0 := blk_cell rA 0 (.int .i64 N) rfl
  have y1 := blk_cell rA 1 (.slice a n c) rfl
  by_cases hz : n = 0
  · have hz0 : ((n : Int) > 0) = False := by simp [hz]
    have hz1 : n < 1 := by omega
    clear hz hz0
    have y0 := blk_cell rA 0 (.int .i64 N) rfl
    have y1 := blk_cell rA 1 (.slice a n c) rfl
    have d1 := growl_cell y0 (l := [(w.heap.size + 1), w.heap.size]) (by simp; omega)
    have d2 := growl_cell y1 (l := [(w.heap.size + 1), w.heap.size]) (by simp; omega)
    have bd := bel_drew (Below.refl V.heap.size V)
    have il := (InL.refl V [(w.heap.size + 1), w.heap.size]).below bd
    go_wp2_with (simp only [HV.out])
    refine wp_region_heads [true, true, false, true, true, false, false, false, false, false, false] 10 7 (C := fun w' => ∃ u : GrowL V [(w.heap.size + 1), w.heap.size], w' = u.val) (by kernel_rfl) (by kernel_rfl) ⟨⟨_, il⟩, rfl⟩ ?_
    simp only [pickT]
    repeat (go_big_quiet_step (fail))
    refine wpQuiet_nil ?_
    clear d1 d2 y0 y1
    have bd : Below V.heap.size V V.drew := bd
    generalize hD : V.drew = D at *
    clear hD
    have ho := own_below ho bd
    have rA := blk_below rA bd
    have r0 := blk_below r0 bd
    have hr := hr.below bd
    have hB := below_tr' hB bd
    clear bd
    refine any_one (i := 2) (by kernel_rfl) rfl ?_
    intro K hK
    have CP := pick_any (w.heap.size + 1) (p0) 7 D hr (by omega) (by omega)
    go_wp2_with fail
    refine CP.mono ?_
    rintro e s1 ⟨u1, rfl, hu1, hr', hg'⟩
    have no := hr.ne ho (by decide)
    have ho := own_grown ho hg' no
    have rA := blk_grown rA hg' (by simp; omega)
    have r0 := blk_grown r0 hg' (by simp <;> omega)
    have hB := hB.grown hg' hB.size (fun k hk => by simp only [Option.some.injEq] at hk; omega)
    clear no
    have hr := hr'
    have il := il.grown hg' (.inl (by simp))
    clear hr' hg' CP
    go_wp2
    refine hK _ _ (fun _ => ⟨⟨_, il⟩, rfl⟩) ?_
    clear hK
    refine any_one (i := 5) (by kernel_rfl) rfl ?_
    intro K hK
    have CP := pick_any (w.heap.size + 1) (p0 + 1) 7 s1 hr (by omega) (by omega)
    go_wp2_with fail
    refine CP.mono ?_
    rintro e s2 ⟨u2, rfl, hu2, hr', hg'⟩
    have no := hr.ne ho (by decide)
    have ho := own_grown ho hg' no
    have rA := blk_grown rA hg' (by simp; omega)
    have r0 := blk_grown r0 hg' (by simp <;> omega)
    have hB := hB.grown hg' hB.size (fun k hk => by simp only [Option.some.injEq] at hk; omega)
    clear no
    have hr := hr'
    have il := il.grown hg' (.inl (by simp))
    clear hr' hg' CP
    go_wp2
    refine hK _ _ (fun _ => ⟨⟨_, il⟩, rfl⟩) ?_
    clear hK
    refine any_one (i := 6) (by kernel_rfl) rfl ?_
    intro K hK
    go_wp2
    have il := il.below (below_alloc s2 (.cells #[.int .i64 u2, .int .i64 (-1), .int .i64 7] 3))
    refine hK _ _ (fun _ => ⟨⟨_, il⟩, rfl⟩) ?_
    clear hK
    have bS := below_alloc s2 (.cells #[.int .i64 u2, .int .i64 (-1), .int .i64 7] 3)
    have rS := rd_blk (heap_alloc_new s2 (.cells #[.int .i64 u2, .int .i64 (-1), .int .i64 7] 3)) (cs := ints [(u2 : Int), -1, 7]) rfl
    have hSR := hr.lt
    have ho := own_below ho bS
    have rA := blk_below rA bS
    have r0 := blk_below r0 bS
    have hr := hr.below bS
    have hB := below_tr' hB bS
    generalize hS : s2.alloc (.cells #[.int .i64 u2, .int .i64 (-1), .int .i64 7] 3) = S at *
    clear hS bS
    refine any_one (i := 7) (by kernel_rfl) rfl ?_
    intro K hK
    have CP := one_any (w.heap.size + 1) (p0 + 1 + 1) (some ⟨s2.heap.size, 0, none⟩) 3 3 [(u2 : Int), -1, 7] S hr (by omega) rfl (by omega) (by omega) rS (by intro x h; cases h; simp; omega)
    go_wp2_with fail
    refine CP.mono ?_
    rintro e s4 ⟨u4, hu4, rfl, hr', hg'⟩
    have no := hr.ne ho (by decide)
    have ho := own_grown ho hg' no
    have rA := blk_grown rA hg' (by simp; omega)
    have r0 := blk_grown r0 hg' (by simp <;> omega)
    have hB := hB.grown hg' hB.size (fun k hk => by simp only [Option.some.injEq] at hk; omega)
    clear no
    have hr := hr'
    have il := il.grown hg' (.inl (by simp))
    clear hr' hg' CP
    go_wp2
    refine hK _ _ (fun _ => ⟨⟨_, il⟩, rfl⟩) ?_
    clear hK
    clear rS hu4
    refine any_one (i := 8) (by kernel_rfl) rfl ?_
    intro K hK
    have z0 := blk_cell r0 0 (.int .i64 0) rfl
    have z1 := blk_cell r0 1 (.slice none 0 0) rfl
    have f0 := blk_free r0 0
    have f1 := blk_free r0 1
    have SQ := Lib.hid (blk_set (blk_set r0 0 (.int .i64 N)) 1 (.slice a n c))
    have SO := Lib.hid (own_setOther (own_setOther ho (w.heap.size) 0 (.int .i64 N) (own_ne ho r0 (by decide))) (w.heap.size) 1 (.slice a n c) (own_ne ho r0 (by decide)))
    have SB := Lib.hid ((hB.setCell (p := ⟨w.heap.size, 0, none⟩) (Nat.le_refl _) (.int .i64 N)).setCell (p := ⟨w.heap.size, 1, none⟩) (Nat.le_refl _) (.slice a n c))
    have SG := Lib.hid ((il.set (w.heap.size) 0 (.int .i64 N) (.inl (by simp))).set (w.heap.size) 1 (.slice a n c) (.inl (by simp)))
    clear ho hB r0 il hr rA
    go_wp2
    refine hK _ _ (fun _ => ⟨⟨_, SG.out⟩, rfl⟩) ?_
    clear hK z0 z1 f0 f1
    have z0 := blk_cell SQ.out 0 (.int .i64 N) rfl
    have z1 := blk_cell SQ.out 1 (.slice a n c) rfl
    refine any_one (i := 9) (by kernel_rfl) rfl ?_
    intro K hK
    go_wp2
    refine hK _ _ (fun _ => ⟨⟨_, SG.out⟩, rfl⟩) ?_
    clear hK
    refine any_one (i := 10) (by kernel_rfl) rfl ?_
    intro K hK
    go_wp2
    refine hK _ _ (fun h => absurd rfl h) ?_
    clear hK
    refine any_end (by kernel_rfl) ?_
    go_wp2
    refine bodyPost_ret (v := .tuple #[graphV N a n c, .int .i64 (u1 : Int), .int .i64 u4]) (by simp [results, Try.results31, go_sem, z0, z1]) rfl ⟨N, es, a, c, (u1 : Int), u4, by rw [HN.out], hN, by rw [← HN.out]; exact hes, by rw [← HN.out]; exact SO.out, SB.out⟩
  · have hz0 : 0 < n := by omega
    have CP := pick_any (w.heap.size + 1) (p0) 2 V hr (by omega) (by omega)
    go_wp2_with (simp only [HV.out])
    refine CP.mono ?_
    rintro e x1 ⟨v1, rfl, hv1, hr', hg'⟩
    have no := hr.ne ho (by decide)
    have ho := own_grown ho hg' no
    have rA := blk_grown rA hg' (by simp; omega)
    have r0 := blk_grown r0 hg' (by simp <;> omega)
    have hB := hB.grown hg' hB.size (fun k hk => by simp only [Option.some.injEq] at hk; omega)
    clear no
    have hr := hr'
    clear hr' hg' CP
    by_cases hv0 : v1 = 0
    · subst hv0
      obtain ⟨g, rfl, hgB, hgs⟩ := own_head ho (by omega)
      have hXr := own_rd ho
      have edg : ∀ v, v < n → ∃ P Q : Int, x1.cell? ⟨g, v * 2, none⟩ = some (.int .i64 P) ∧ x1.cell? ⟨g, v * 2 + 1, none⟩ = some (.int .i64 Q) := by
        intro v hv
        obtain ⟨b1, o1, e1, c1, c2⟩ := hXr.edge (k := v) (by rw [← HN.out]; exact hv)
        cases e1
        simp only [Nat.zero_add] at c1 c2
        exact ⟨_, _, c1, c2⟩
      clear hXr
      have ngR : g ∉ [(w.heap.size + 1), w.heap.size] := by
        have h1 := hr.ne ho (by decide)
        have h2 := own_ne ho r0 (by decide)
        simp only [Value.ownBlock, ne_eq, Option.some.injEq] at h1 h2
        simp only [List.mem_cons, List.not_mem_nil, or_false]
        omega
      have y0 := blk_cell rA 0 (.int .i64 N) rfl
      have y1 := blk_cell rA 1 (.slice (some ⟨g, 0, none⟩) n c) rfl
      have d1 := growl_cell y0 (l := [(w.heap.size + 1), w.heap.size]) (by simp; omega)
      have d2 := growl_cell y1 (l := [(w.heap.size + 1), w.heap.size]) (by simp; omega)
      have bd := bel_drew (Below.refl x1.heap.size x1)
      have il := (InL.refl x1 [(w.heap.size + 1), w.heap.size]).below bd
      go_wp2
      refine wp_region_heads [true, true, true, true, true, true, false, false, false, false, false] 10 5 (C := fun w' => ∃ u : GrowL x1 [(w.heap.size + 1), w.heap.size], w' = u.val) (by kernel_rfl) (by kernel_rfl) ⟨⟨_, il⟩, rfl⟩ ?_
      simp only [pickT]
      repeat (go_big_quiet_step (fail))
      refine wpQuiet_nil ?_
      clear d1 d2 y0 y1
      generalize hD : x1.drew = D at *
      clear hD
      have ho := own_below ho bd
      have rA := blk_below rA bd
      have r0 := blk_below r0 bd
      have hr := hr.below bd
      have hB := below_tr' hB bd
      clear bd
      apply merge5 (F := fun (B _v : Nat) (X Y : Int) (V : World) => V.heap[B]? = some (.cells #[.int .i64 X, .int .i64 Y] 52 (0, 0)) ∧ w.heap.size < B ∧ V.ownsRow w.heap.size 52 2 (.slice (some ⟨g, 0, none⟩) n c) n (edges es) ∧ V.heap[w2.heap.size]? = some (.cells #[.int .i64 N, .slice (some ⟨g, 0, none⟩) n c] 25 (0, 0)) ∧ V.heap[w.heap.size]? = some (.cells #[.int .i64 0, .slice none 0 0] 25 (0, 0)) ∧ RdrAt V (w.heap.size + 1) (p0 + 1 + 1) ∧ Below w.heap.size w V)
      case main =>
        intro TAIL
        refine any_two (i := 6) (j := 9) (by kernel_rfl) rfl rfl ?_ ?_
        · intro K hK
          have CP := pick_any (w.heap.size + 1) (p0 + 1) n D hr (by omega) (by omega)
          go_wp2_with fail
          refine CP.mono ?_
          rintro e s1 ⟨v, rfl, hv, hr', hg'⟩
          have no := hr.ne ho (by decide)
          have ho := own_grown ho hg' no
          have rA := blk_grown rA hg' (by simp; omega)
          have r0 := blk_grown r0 hg' (by simp <;> omega)
          have hB := hB.grown hg' hB.size (fun k hk => by simp only [Option.some.injEq] at hk; omega)
          clear no
          have hr := hr'
          have il := il.grown hg' (.inl (by simp))
          clear hr' hg' CP
          go_wp2
          refine hK _ _ (fun _ => ⟨⟨_, il⟩, rfl⟩) ?_
          clear hK
          obtain ⟨X, Y, c1, c2⟩ := edg v (by omega)
          have d1 := growl_cell c1 ngR
          have d2 := growl_cell c2 ngR
          refine any_heads (id := 2) (n := 2) [false, false, false, false, false, false, false, true, true, false, false] #[true, true, true, true, true, true, true, true, true, false, false] (by kernel_rfl) ⟨⟨_, il⟩, rfl⟩ ?_
          simp only [pickT]
          repeat (go_big_quiet_step (fail))
          refine wpQuiet_nil ?_
          clear d1 d2 c1 c2
          have gB : g < s1.heap.size := by have h := own_lt ho _ rfl; exact h.2
          refine any_one (i := 9) (by kernel_rfl) rfl ?_
          intro K hK
          go_wp2
          have bE := below_alloc s1 (.cells #[.int .i64 0, .int .i64 0] 52)
          have il := il.below bE
          refine hK _ _ (fun _ => ⟨⟨_, il⟩, rfl⟩) ?_
          clear hK
          have rE := heap_alloc_new s1 (.cells #[.int .i64 0, .int .i64 0] 52)
          have hBB : w.heap.size < s1.heap.size := blk_lt r0
          have hRE := hr.lt
          have ho := own_below ho bE
          have rA := blk_below rA bE
          have r0 := blk_below r0 bE
          have hr := hr.below bE
          have hB := below_tr' hB bE
          generalize hS : s1.alloc (.cells #[.int .i64 0, .int .i64 0] 52) = s2 at *
          clear hS bE
          obtain ⟨B, hBe⟩ : ∃ B, B = s1.heap.size := ⟨_, rfl⟩
          simp only [← hBe] at *
          clear hBe
          refine any_one (i := 10) (by kernel_rfl) rfl ?_
          intro K hK
          have z0 := blk_cell rE 0 (.int .i64 0) rfl
          have z1 := blk_cell rE 1 (.int .i64 0) rfl
          have f0 := blk_free rE 0
          have f1 := blk_free rE 1
          have hAB : w2.heap.size ≠ B := by
            rintro rfl
            rw [rA] at rE
            simp at rE
          have hgB2 : some B ≠ (Value.slice (some ⟨g, 0, none⟩) n c).ownBlock := by
            intro e
            simp only [Value.ownBlock, Option.some.injEq] at e
            exact absurd e (by have := gB; omega)
          have rE := Lib.hid (blk_set (blk_set rE 0 (.int .i64 X)) 1 (.int .i64 Y))
          have SO := Lib.hid (own_setOther (own_setOther ho B 0 (.int .i64 X) hgB2) B 1 (.int .i64 Y) hgB2)
          have SA := Lib.hid (blk_set_other (blk_set_other rA 0 (.int .i64 X) hAB) 1 (.int .i64 Y) hAB)
          have S0 := Lib.hid (blk_set_other (blk_set_other r0 0 (.int .i64 X) (show w.heap.size ≠ B by omega)) 1 (.int .i64 Y) (show w.heap.size ≠ B by omega))
          have SR := Lib.hid ((hr.setOther B 0 (.int .i64 X) (by omega)).setOther B 1 (.int .i64 Y) (by omega))
          have SB := Lib.hid ((hB.setCell (p := ⟨B, 0, none⟩) (by simp; omega) (.int .i64 X)).setCell (p := ⟨B, 1, none⟩) (by simp; omega) (.int .i64 Y))
          clear ho rA r0 hr hB hgB2 hAB
          go_wp2
          refine hK _ _ (fun h => absurd rfl h) ?_
          refine any_end (by kernel_rfl) ?_
          exact TAIL B v X Y _ ⟨rE.out, hBB, SO.out, SA.out, S0.out, SR.out, SB.out⟩
        · intro K hK
          have gB : g < D.heap.size := by have h := own_lt ho _ rfl; exact h.2
          go_wp2
          have bE := below_alloc D (.cells #[.int .i64 0, .int .i64 0] 52)
          have il := il.below bE
          refine hK _ _ (fun _ => ⟨⟨_, il⟩, rfl⟩) ?_
          clear hK
          have rE := heap_alloc_new D (.cells #[.int .i64 0, .int .i64 0] 52)
          have hBB : w.heap.size < D.heap.size := blk_lt r0
          have hRE := hr.lt
          have ho := own_below ho bE
          have rA := blk_below rA bE
          have r0 := blk_below r0 bE
          have hr := hr.below bE
          have hB := below_tr' hB bE
          generalize hS : D.alloc (.cells #[.int .i64 0, .int .i64 0] 52) = s0 at *
          clear hS bE
          obtain ⟨B, hBe⟩ : ∃ B, B = D.heap.size := ⟨_, rfl⟩
          simp only [← hBe] at *
          clear hBe
          refine any_one (i := 6) (by kernel_rfl) rfl ?_
          intro K hK
          have CP := pick_any (w.heap.size + 1) (p0 + 1) n s0 hr (by omega) (by omega)
          go_wp2_with fail
          refine CP.mono ?_
          rintro e s1 ⟨v, rfl, hv, hr', hg'⟩
          have no := hr.ne ho (by decide)
          have ho := own_grown ho hg' no
          have rA := blk_grown rA hg' (by simp; omega)
          have r0 := blk_grown r0 hg' (by simp <;> omega)
          have hB := hB.grown hg' hB.size (fun k hk => by simp only [Option.some.injEq] at hk; omega)
          clear no
          have rE := blk_grown rE hg' (by simp; omega)
          have hr := hr'
          have il := il.grown hg' (.inl (by simp))
          clear hr' hg' CP
          go_wp2
          refine hK _ _ (fun _ => ⟨⟨_, il⟩, rfl⟩) ?_
          clear hK
          obtain ⟨X, Y, c1, c2⟩ := edg v (by omega)
          have d1 := growl_cell c1 ngR
          have d2 := growl_cell c2 ngR
          refine any_heads (id := 2) (n := 1) [false, false, false, false, false, false, false, true, true, false, false] #[true, true, true, true, true, true, true, true, true, true, false] (by kernel_rfl) ⟨⟨_, il⟩, rfl⟩ ?_
          simp only [pickT]
          repeat (go_big_quiet_step (fail))
          refine wpQuiet_nil ?_
          clear d1 d2 c1 c2
          refine any_one (i := 10) (by kernel_rfl) rfl ?_
          intro K hK
          have z0 := blk_cell rE 0 (.int .i64 0) rfl
          have z1 := blk_cell rE 1 (.int .i64 0) rfl
          have f0 := blk_free rE 0
          have f1 := blk_free rE 1
          have hAB : w2.heap.size ≠ B := by
            rintro rfl
            rw [rA] at rE
            simp at rE
          have hgB2 : some B ≠ (Value.slice (some ⟨g, 0, none⟩) n c).ownBlock := by
            intro e
            simp only [Value.ownBlock, Option.some.injEq] at e
            exact absurd e (by have := gB; omega)
          have rE := Lib.hid (blk_set (blk_set rE 0 (.int .i64 X)) 1 (.int .i64 Y))
          have SO := Lib.hid (own_setOther (own_setOther ho B 0 (.int .i64 X) hgB2) B 1 (.int .i64 Y) hgB2)
          have SA := Lib.hid (blk_set_other (blk_set_other rA 0 (.int .i64 X) hAB) 1 (.int .i64 Y) hAB)
          have S0 := Lib.hid (blk_set_other (blk_set_other r0 0 (.int .i64 X) (show w.heap.size ≠ B by omega)) 1 (.int .i64 Y) (show w.heap.size ≠ B by omega))
          have SR := Lib.hid ((hr.setOther B 0 (.int .i64 X) (by omega)).setOther B 1 (.int .i64 Y) (by omega))
          have SB := Lib.hid ((hB.setCell (p := ⟨B, 0, none⟩) (by simp; omega) (.int .i64 X)).setCell (p := ⟨B, 1, none⟩) (by simp; omega) (.int .i64 Y))
          clear ho rA r0 hr hB hgB2 hAB
          go_wp2
          refine hK _ _ (fun h => absurd rfl h) ?_
          refine any_end (by kernel_rfl) ?_
          exact TAIL B v X Y _ ⟨rE.out, hBB, SO.out, SA.out, S0.out, SR.out, SB.out⟩
      case tail =>
        rintro B v X Y V4 ⟨rE, hBB, ho, rA, r0, hr, hB⟩
        have hRB : (w.heap.size + 1) < B ∨ (w.heap.size + 1) ≠ B := .inr (by rintro rfl; obtain ⟨_, h⟩ := hr.blk; rw [h] at rE; simp at rE)
        have hRB : (w.heap.size + 1) ≠ B := by omega
        have CP := pick_any (w.heap.size + 1) (p0 + 1 + 1) 2 V4 hr (by omega) (by omega)
        go_wp2_with fail
        refine CP.mono ?_
        rintro e x2 ⟨v2, rfl, hv2, hr', hg'⟩
        have no := hr.ne ho (by decide)
        have ho := own_grown ho hg' no
        have rA := blk_grown rA hg' (by simp; omega)
        have r0 := blk_grown r0 hg' (by simp <;> omega)
        have hB := hB.grown hg' hB.size (fun k hk => by simp only [Option.some.injEq] at hk; omega)
        clear no
        have rE := blk_grown rE hg' (by simp; omega)
        have hr := hr'
        clear hr' hg' CP
        by_cases hv0 : v2 = 0
        · subst hv0
          have y0 := blk_cell rA 0 (.int .i64 N) rfl
          have y1 := blk_cell rA 1 (.slice (some ⟨g, 0, none⟩) n c) rfl
          have d1 := growl_cell y0 (l := [(w.heap.size + 1), w.heap.size]) (by simp; omega)
          have d2 := growl_cell y1 (l := [(w.heap.size + 1), w.heap.size]) (by simp; omega)
          have d3 := growl_cell (blk_cell rE 0 (.int .i64 X) rfl) (l := [(w.heap.size + 1), w.heap.size]) (by simp; omega)
          have d4 := growl_cell (blk_cell rE 1 (.int .i64 Y) rfl) (l := [(w.heap.size + 1), w.heap.size]) (by simp; omega)
          have bd := bel_drew (Below.refl x2.heap.size x2)
          have il := (InL.refl x2 [(w.heap.size + 1), w.heap.size]).below bd
          go_wp2
          refine wp_region_heads [true, true, true, true, true, false, false, false] 7 3 (C := fun w' => ∃ u : GrowL x2 [(w.heap.size + 1), w.heap.size], w' = u.val) (by kernel_rfl) (by kernel_rfl) ⟨⟨_, il⟩, rfl⟩ ?_
          simp only [pickT]
          repeat (go_big_quiet_step (fail))
          refine wpQuiet_nil ?_
          clear d1 d2 y0 y1 d3 d4
          have bd : Below x2.heap.size x2 x2.drew := bd
          generalize hD : x2.drew = D at *
          clear hD
          have ho := own_below ho bd
          have rA := blk_below rA bd
          have r0 := blk_below r0 bd
          have hr := hr.below bd
          have hB := below_tr' hB bd
          have rE := blk_below rE bd
          clear bd
          refine any_one (i := 5) (by kernel_rfl) rfl ?_
          intro K hK
          have z0 := blk_cell r0 0 (.int .i64 0) rfl
          have z1 := blk_cell r0 1 (.slice none 0 0) rfl
          have f0 := blk_free r0 0
          have f1 := blk_free r0 1
          have SQ := Lib.hid (blk_set (blk_set r0 0 (.int .i64 N)) 1 (.slice (some ⟨g, 0, none⟩) n c))
          have SO := Lib.hid (own_setOther (own_setOther ho (w.heap.size) 0 (.int .i64 N) (own_ne ho r0 (by decide))) (w.heap.size) 1 (.slice (some ⟨g, 0, none⟩) n c) (own_ne ho r0 (by decide)))
          have SB := Lib.hid ((hB.setCell (p := ⟨w.heap.size, 0, none⟩) (Nat.le_refl _) (.int .i64 N)).setCell (p := ⟨w.heap.size, 1, none⟩) (Nat.le_refl _) (.slice (some ⟨g, 0, none⟩) n c))
          have SG := Lib.hid ((il.set (w.heap.size) 0 (.int .i64 N) (.inl (by simp))).set (w.heap.size) 1 (.slice (some ⟨g, 0, none⟩) n c) (.inl (by simp)))
          clear ho hB r0 il hr rA rE
          go_wp2
          refine hK _ _ (fun _ => ⟨⟨_, SG.out⟩, rfl⟩) ?_
          clear hK z0 z1 f0 f1
          have z0 := blk_cell SQ.out 0 (.int .i64 N) rfl
          have z1 := blk_cell SQ.out 1 (.slice (some ⟨g, 0, none⟩) n c) rfl
          refine any_one (i := 6) (by kernel_rfl) rfl ?_
          intro K hK
          go_wp2
          refine hK _ _ (fun _ => ⟨⟨_, SG.out⟩, rfl⟩) ?_
          clear hK
          refine any_one (i := 7) (by kernel_rfl) rfl ?_
          intro K hK
          go_wp2
          refine hK _ _ (fun h => absurd rfl h) ?_
          clear hK
          refine any_end (by kernel_rfl) ?_
          go_wp2
          refine bodyPost_ret (v := .tuple #[graphV N (some ⟨g, 0, none⟩) n c, .int .i64 Y, .int .i64 X]) (by simp [results, Try.results31, go_sem, z0, z1]) rfl ⟨N, es, (some ⟨g, 0, none⟩), c, Y, X, by rw [HN.out], hN, by rw [← HN.out]; exact hes, by rw [← HN.out]; exact SO.out, SB.out⟩
        · have hv0' : ((v2 : Int) == 0) = false := by simp [hv0]
          have y0 := blk_cell rA 0 (.int .i64 N) rfl
          have y1 := blk_cell rA 1 (.slice (some ⟨g, 0, none⟩) n c) rfl
          have d1 := growl_cell y0 (l := [(w.heap.size + 1), w.heap.size]) (by simp; omega)
          have d2 := growl_cell y1 (l := [(w.heap.size + 1), w.heap.size]) (by simp; omega)
          have d3 := growl_cell (blk_cell rE 0 (.int .i64 X) rfl) (l := [(w.heap.size + 1), w.heap.size]) (by simp; omega)
          have d4 := growl_cell (blk_cell rE 1 (.int .i64 Y) rfl) (l := [(w.heap.size + 1), w.heap.size]) (by simp; omega)
          have bd := bel_drew (Below.refl x2.heap.size x2)
          have il := (InL.refl x2 [(w.heap.size + 1), w.heap.size]).below bd
          go_wp2
          refine wp_region_heads [true, true, true, true, true, false, false, false] 7 3 (C := fun w' => ∃ u : GrowL x2 [(w.heap.size + 1), w.heap.size], w' = u.val) (by kernel_rfl) (by kernel_rfl) ⟨⟨_, il⟩, rfl⟩ ?_
          simp only [pickT]
          repeat (go_big_quiet_step (fail))
          refine wpQuiet_nil ?_
          clear d1 d2 y0 y1 d3 d4
          have bd : Below x2.heap.size x2 x2.drew := bd
          generalize hD : x2.drew = D at *
          clear hD
          have ho := own_below ho bd
          have rA := blk_below rA bd
          have r0 := blk_below r0 bd
          have hr := hr.below bd
          have hB := below_tr' hB bd
          have rE := blk_below rE bd
          clear bd
          refine any_one (i := 5) (by kernel_rfl) rfl ?_
          intro K hK
          have z0 := blk_cell r0 0 (.int .i64 0) rfl
          have z1 := blk_cell r0 1 (.slice none 0 0) rfl
          have f0 := blk_free r0 0
          have f1 := blk_free r0 1
          have SQ := Lib.hid (blk_set (blk_set r0 0 (.int .i64 N)) 1 (.slice (some ⟨g, 0, none⟩) n c))
          have SO := Lib.hid (own_setOther (own_setOther ho (w.heap.size) 0 (.int .i64 N) (own_ne ho r0 (by decide))) (w.heap.size) 1 (.slice (some ⟨g, 0, none⟩) n c) (own_ne ho r0 (by decide)))
          have SB := Lib.hid ((hB.setCell (p := ⟨w.heap.size, 0, none⟩) (Nat.le_refl _) (.int .i64 N)).setCell (p := ⟨w.heap.size, 1, none⟩) (Nat.le_refl _) (.slice (some ⟨g, 0, none⟩) n c))
          have SG := Lib.hid ((il.set (w.heap.size) 0 (.int .i64 N) (.inl (by simp))).set (w.heap.size) 1 (.slice (some ⟨g, 0, none⟩) n c) (.inl (by simp)))
          clear ho hB r0 il hr rA rE
          go_wp2
          refine hK _ _ (fun _ => ⟨⟨_, SG.out⟩, rfl⟩) ?_
          clear hK z0 z1 f0 f1
          have z0 := blk_cell SQ.out 0 (.int .i64 N) rfl
          have z1 := blk_cell SQ.out 1 (.slice (some ⟨g, 0, none⟩) n c) rfl
          refine any_one (i := 6) (by kernel_rfl) rfl ?_
          intro K hK
          go_wp2
          refine hK _ _ (fun _ => ⟨⟨_, SG.out⟩, rfl⟩) ?_
          clear hK
          refine any_one (i := 7) (by kernel_rfl) rfl ?_
          intro K hK
          go_wp2
          refine hK _ _ (fun h => absurd rfl h) ?_
          clear hK
          refine any_end (by kernel_rfl) ?_
          go_wp2
          refine bodyPost_ret (v := .tuple #[graphV N (some ⟨g, 0, none⟩) n c, .int .i64 X, .int .i64 Y]) (by simp [results, Try.results31, go_sem, z0, z1]) rfl ⟨N, es, (some ⟨g, 0, none⟩), c, X, Y, by rw [HN.out], hN, by rw [← HN.out]; exact hes, by rw [← HN.out]; exact SO.out, SB.out⟩
    · have hv0' : ((v1 : Int) == 0) = false := by simp [hv0]
      have y0 := blk_cell rA 0 (.int .i64 N) rfl
      have y1 := blk_cell rA 1 (.slice a n c) rfl
      have d1 := growl_cell y0 (l := [(w.heap.size + 1), w.heap.size]) (by simp; omega)
      have d2 := growl_cell y1 (l := [(w.heap.size + 1), w.heap.size]) (by simp; omega)
      have bd := bel_drew (Below.refl x1.heap.size x1)
      have il := (InL.refl x1 [(w.heap.size + 1), w.heap.size]).below bd
      go_wp2
      refine wp_region_heads [true, true, false, true, true, false, false, false, false, false, false] 10 7 (C := fun w' => ∃ u : GrowL x1 [(w.heap.size + 1), w.heap.size], w' = u.val) (by kernel_rfl) (by kernel_rfl) ⟨⟨_, il⟩, rfl⟩ ?_
      simp only [pickT]
      repeat (go_big_quiet_step (fail))
      refine wpQuiet_nil ?_
      clear d1 d2 y0 y1
      have bd : Below x1.heap.size x1 x1.drew := bd
      generalize hD : x1.drew = D at *
      clear hD
      have ho := own_below ho bd
      have rA := blk_below rA bd
      have r0 := blk_below r0 bd
      have hr := hr.below bd
      have hB := below_tr' hB bd
      clear bd
      refine any_one (i := 2) (by kernel_rfl) rfl ?_
      intro K hK
      have CP := pick_any (w.heap.size + 1) (p0 + 1) 7 D hr (by omega) (by omega)
      go_wp2_with fail
      refine CP.mono ?_
      rintro e s1 ⟨u1, rfl, hu1, hr', hg'⟩
      have no := hr.ne ho (by decide)
      have ho := own_grown ho hg' no
      have rA := blk_grown rA hg' (by simp; omega)
      have r0 := blk_grown r0 hg' (by simp <;> omega)
      have hB := hB.grown hg' hB.size (fun k hk => by simp only [Option.some.injEq] at hk; omega)
      clear no
      have hr := hr'
      have il := il.grown hg' (.inl (by simp))
      clear hr' hg' CP
      go_wp2
      refine hK _ _ (fun _ => ⟨⟨_, il⟩, rfl⟩) ?_
      clear hK
      refine any_one (i := 5) (by kernel_rfl) rfl ?_
      intro K hK
      have CP := pick_any (w.heap.size + 1) (p0 + 1 + 1) 7 s1 hr (by omega) (by omega)
      go_wp2_with fail
      refine CP.mono ?_
      rintro e s2 ⟨u2, rfl, hu2, hr', hg'⟩
      have no := hr.ne ho (by decide)
      have ho := own_grown ho hg' no
      have rA := blk_grown rA hg' (by simp; omega)
      have r0 := blk_grown r0 hg' (by simp <;> omega)
      have hB := hB.grown hg' hB.size (fun k hk => by simp only [Option.some.injEq] at hk; omega)
      clear no
      have hr := hr'
      have il := il.grown hg' (.inl (by simp))
      clear hr' hg' CP
      go_wp2
      refine hK _ _ (fun _ => ⟨⟨_, il⟩, rfl⟩) ?_
      clear hK
      refine any_one (i := 6) (by kernel_rfl) rfl ?_
      intro K hK
      go_wp2
      have il := il.below (below_alloc s2 (.cells #[.int .i64 u2, .int .i64 (-1), .int .i64 7] 3))
      refine hK _ _ (fun _ => ⟨⟨_, il⟩, rfl⟩) ?_
      clear hK
      have bS := below_alloc s2 (.cells #[.int .i64 u2, .int .i64 (-1), .int .i64 7] 3)
      have rS := rd_blk (heap_alloc_new s2 (.cells #[.int .i64 u2, .int .i64 (-1), .int .i64 7] 3)) (cs := ints [(u2 : Int), -1, 7]) rfl
      have hSR := hr.lt
      have ho := own_below ho bS
      have rA := blk_below rA bS
      have r0 := blk_below r0 bS
      have hr := hr.below bS
      have hB := below_tr' hB bS
      generalize hS : s2.alloc (.cells #[.int .i64 u2, .int .i64 (-1), .int .i64 7] 3) = S at *
      clear hS bS
      refine any_one (i := 7) (by kernel_rfl) rfl ?_
      intro K hK
      have CP := one_any (w.heap.size + 1) (p0 + 1 + 1 + 1) (some ⟨s2.heap.size, 0, none⟩) 3 3 [(u2 : Int), -1, 7] S hr (by omega) rfl (by omega) (by omega) rS (by intro x h; cases h; simp; omega)
      go_wp2_with fail
      refine CP.mono ?_
      rintro e s4 ⟨u4, hu4, rfl, hr', hg'⟩
      have no := hr.ne ho (by decide)
      have ho := own_grown ho hg' no
      have rA := blk_grown rA hg' (by simp; omega)
      have r0 := blk_grown r0 hg' (by simp <;> omega)
      have hB := hB.grown hg' hB.size (fun k hk => by simp only [Option.some.injEq] at hk; omega)
      clear no
      have hr := hr'
      have il := il.grown hg' (.inl (by simp))
      clear hr' hg' CP
      go_wp2
      refine hK _ _ (fun _ => ⟨⟨_, il⟩, rfl⟩) ?_
      clear hK
      clear rS hu4
      refine any_one (i := 8) (by kernel_rfl) rfl ?_
      intro K hK
      have z0 := blk_cell r0 0 (.int .i64 0) rfl
      have z1 := blk_cell r0 1 (.slice none 0 0) rfl
      have f0 := blk_free r0 0
      have f1 := blk_free r0 1
      have SQ := Lib.hid (blk_set (blk_set r0 0 (.int .i64 N)) 1 (.slice a n c))
      have SO := Lib.hid (own_setOther (own_setOther ho (w.heap.size) 0 (.int .i64 N) (own_ne ho r0 (by decide))) (w.heap.size) 1 (.slice a n c) (own_ne ho r0 (by decide)))
      have SB := Lib.hid ((hB.setCell (p := ⟨w.heap.size, 0, none⟩) (Nat.le_refl _) (.int .i64 N)).setCell (p := ⟨w.heap.size, 1, none⟩) (Nat.le_refl _) (.slice a n c))
      have SG := Lib.hid ((il.set (w.heap.size) 0 (.int .i64 N) (.inl (by simp))).set (w.heap.size) 1 (.slice a n c) (.inl (by simp)))
      clear ho hB r0 il hr rA
      go_wp2
      refine hK _ _ (fun _ => ⟨⟨_, SG.out⟩, rfl⟩) ?_
      clear hK z0 z1 f0 f1
      have z0 := blk_cell SQ.out 0 (.int .i64 N) rfl
      have z1 := blk_cell SQ.out 1 (.slice a n c) rfl
      refine any_one (i := 9) (by kernel_rfl) rfl ?_
      intro K hK
      go_wp2
      refine hK _ _ (fun _ => ⟨⟨_, SG.out⟩, rfl⟩) ?_
      clear hK
      refine any_one (i := 10) (by kernel_rfl) rfl ?_
      intro K hK
      go_wp2
      refine hK _ _ (fun h => absurd rfl h) ?_
      clear hK
      refine any_end (by kernel_rfl) ?_
      go_wp2
      refine bodyPost_ret (v := .tuple #[graphV N a n c, .int .i64 (u1 : Int), .int .i64 u4]) (by simp [results, Try.results31, go_sem, z0, z1]) rfl ⟨N, es, a, c, (u1 : Int), u4, by rw [HN.out], hN, by rw [← HN.out]; exact hes, by rw [← HN.out]; exact SO.out, SB.out⟩

end Go.Proofs.Ytbiekdhikanhcaa
