
/- The drawn input of IsPart. (Printed by gen_draw3.py.) -/
import Derived.Test.YtbiekdhikanhcaaDraw1
import Derived.Test.YtbiekdhikanhcaaGrowL
namespace Go.Proofs.Ytbiekdhikanhcaa
open Go.RowKit

set_option maxHeartbeats 4000000 in
theorem DrawIsPart_any (a0 : Option Addr) (c0 n0 : Nat) (bs : List Int) (w : World) (hc : CodeOK w a0 c0 n0 bs) (hl : n0 ≤ 1048576) :
    Calls Try.prog 36 #[.slice a0 n0 c0] w fun e w' => ∃ (N1 : Int) (es1 : List E2) (a1 : Option Addr) (c1 : Nat) (N2 : Int) (es2 : List E2) (a2 : Option Addr) (c2 : Nat), e = .returned (.tuple #[graphV N1 a1 es1.length c1, graphV N2 a2 es2.length c2]) ∧
      (-1 ≤ N1 ∧ N1 ≤ 8) ∧ (-1 ≤ N2 ∧ N2 ≤ 8) ∧ es1.length ≤ 50 ∧ es2.length ≤ 50 ∧ w'.ownsRow w.heap.size 52 2 (.slice a1 es1.length c1) es1.length (edges es1) ∧ w'.ownsRow w.heap.size 52 2 (.slice a2 es2.length c2) es2.length (edges es2) ∧ Below w.heap.size w w' := by
  have hB := below_alloc2 w (.cells #[.int .i64 0, .slice none 0 0] 25) (.cells #[.int .i64 0, .slice none 0 0] 25)
  have rP := blk_below (heap_alloc_new w (.cells #[.int .i64 0, .slice none 0 0] 25)) (below_alloc _ (.cells #[.int .i64 0, .slice none 0 0] 25))
  have rQ := heap_alloc_new (w.alloc (.cells #[.int .i64 0, .slice none 0 0] 25)) (.cells #[.int .i64 0, .slice none 0 0] 25)
  rw [show (w.alloc (.cells #[.int .i64 0, .slice none 0 0] 25)).heap.size = w.heap.size + 1 from by simp] at rQ
  have hs1 : ((w.alloc (.cells #[.int .i64 0, .slice none 0 0] 25)).alloc (.cells #[.int .i64 0, .slice none 0 0] 25)).heap.size = w.heap.size + 2 := by simp
  generalize hW : ((w.alloc (.cells #[.int .i64 0, .slice none 0 0] 25)).alloc (.cells #[.int .i64 0, .slice none 0 0] 25)) = W at *
  have HW := Lib.hid hW
  clear hW
  have hc := hc.below hB
  have C1 := newReader_any a0 c0 n0 bs W hc.1 hl hc.2.1 hc.2.2.1 hc.2.2.2.1 hc.2.2.2.2
  go_enter Try.func36, Try.ntmps36
  go_wp2_with (simp only [HW.out])
  refine C1.mono ?_
  rintro e w1 ⟨rfl, hr, hb1⟩
  have rP := blk_below rP hb1
  have rQ := blk_below rQ hb1
  have hB := below_tr' hB hb1
  rw [hs1] at hr
  rw [hs1]
  have C2 := someGraph_any (w.heap.size + 2) 0 w1 hr (by omega)
  clear C1 hc hs1 hb1
  go_wp2_with fail
  refine C2.mono ?_
  rintro e w2 ⟨N, es, a, c, p0, rfl, hN, hes, ho, hr, hp0, hg⟩
  have rP := blk_grown rP hg (by simp)
  have rQ := blk_grown rQ hg (by simp)
  have ho := own_mono ho hB.size
  have hB := hB.grown hg hB.size (fun k hk => by simp only [Option.some.injEq] at hk; omega)
  have hAA := blk_lt rQ
  have hAR := hr.lt
  clear C2 hg
  obtain ⟨n, hn⟩ : ∃ n, n = es.length := ⟨_, rfl⟩
  rw [← hn] at ho hes
  have CN : (graphV N a es.length c) = graphV N a n c := by rw [hn]
  rw [CN]
  have HN := Lib.hid hn
  clear hn CN
  have C3 := below_alloc w2 (.cells #[.int .i64 N, .slice a n c] 25)
  have rA := heap_alloc_new w2 (.cells #[.int .i64 N, .slice a n c] 25)
  have hs3 : (w2.alloc (.cells #[.int .i64 N, .slice a n c] 25)).heap.size = w2.heap.size + 1 := by simp
  have ho := own_below ho C3
  have rP := blk_below rP C3
  have rQ := blk_below rQ C3
  have hr := hr.below C3
  have hB := below_tr' hB C3
  clear C3
  generalize hV : w2.alloc (.cells #[.int .i64 N, .slice a n c] 25) = V at *
  have HV := Lib.hid hV
  clear hV
  have C3 := below_alloc2 V (.cells #[] 52) (.cells #[.int .i64 N, .slice (some ⟨w2.heap.size + 1, 0, none⟩) 0 0] 25)
  have rH := heap_alloc_new (V.alloc (.cells #[] 52)) (.cells #[.int .i64 N, .slice (some ⟨w2.heap.size + 1, 0, none⟩) 0 0] 25)
  have oh := World.ownsRow_made (base := w2.heap.size) (e := 52) (size := 2) V #[] 0 (by omega) (by decide) rfl
  have oh := own_below oh (below_alloc _ (.cells #[.int .i64 N, .slice (some ⟨w2.heap.size + 1, 0, none⟩) 0 0] 25))
  rw [show (V.alloc (.cells #[] 52)).heap.size = w2.heap.size + 1 + 1 from by simp [hs3]] at rH
  rw [hs3] at oh
  have hap : Apart a (some ⟨w2.heap.size + 1, 0, none⟩) := by
    intro x y hx hy
    cases hy
    have := own_lt ho x hx
    show x.block ≠ w2.heap.size + 1
    omega
  have y0 := blk_cell rA 0 (.int .i64 N) rfl
  have y1 := blk_cell rA 1 (.slice a n c) rfl
  have ho := own_below ho C3
  have rP := blk_below rP C3
  have rQ := blk_below rQ C3
  have rA := blk_below rA C3
  have hr := hr.below C3
  have hB := below_tr' hB C3
  clear C3
  generalize hU : (V.alloc (.cells #[] 52)).alloc (.cells #[.int .i64 N, .slice (some ⟨w2.heap.size + 1, 0, none⟩) 0 0] 25) = U at *
  have HU := Lib.hid hU
  clear hU
  go_wp2_with (first | simp only [HV.out] | simp only [hs3] | simp only [HU.out])
  
  go_loopw [7] (fun i wr => ∃ (k : Nat) (av : Option Addr) (kv cv : Nat) (F : List E2) (p : Nat), k ≤ n ∧ i = .int .i64 k ∧ F.length = kv ∧ kv ≤ k ∧ wr.ownsRow w2.heap.size 52 2 (.slice av kv cv) kv (edges F) ∧ Apart a av ∧ wr.heap[(w2.heap.size + 1 + 1)]? = some (.cells #[.int .i64 N, .slice av kv cv] 25 (0, 0)) ∧ wr.ownsRow w.heap.size 52 2 (.slice a n c) n (edges es) ∧
        wr.heap[w2.heap.size]? = some (.cells #[.int .i64 N, .slice a n c] 25 (0, 0)) ∧ wr.heap[w.heap.size]? = some (.cells #[.int .i64 0, .slice none 0 0] 25 (0, 0)) ∧ wr.heap[(w.heap.size + 1)]? = some (.cells #[.int .i64 0, .slice none 0 0] 25 (0, 0)) ∧ RdrAt wr (w.heap.size + 2) p ∧ p ≤ p0 + k ∧ Below w.heap.size w wr) (fun i _ => n - (intOf i).toNat)
  case atStart => exact ⟨0, _, 0, 0, [], p0, by omega, rfl, rfl, by omega, oh, hap, rH, ho, rA, rP, rQ, hr, by omega, hB⟩
  case round =>
    clear oh hap rH ho rA rP rQ hr hB
    obtain ⟨k, av, kv, cv, F, p, hk, rfl, hF, hkv, oh, hap, rH, ho, rA, rP, rQ, hr, hp, hB⟩ := hrel
    have HF := Lib.hid hF
    clear hF
    have y1 := blk_cell rA 1 (.slice a n c) rfl
    by_cases hlt : k < n
    · skip
      have CP := pick_any (w.heap.size + 2) (p) 2 wr hr (by omega) (by omega)
      go_wp2_with fail
      refine CP.mono ?_
      rintro e w3 ⟨v, rfl, hv, hr', hg'⟩
      clear CP
      have ho := own_grown ho hg' (hr.ne ho (by decide))
      have oh := own_grown oh hg' (hr.ne oh (by decide))
      have rP := blk_grown rP hg' (by simp <;> omega)
      have rQ := blk_grown rQ hg' (by simp <;> omega)
      have rA := blk_grown rA hg' (by simp <;> omega)
      have rH := blk_grown rH hg' (by simp <;> omega)
      have hB := hB.grown hg' hB.size (fun k hk => by simp only [Option.some.injEq] at hk; omega)
      have hr := hr'
      clear hr' hg'
      by_cases hv0 : v = 0
      · subst hv0
        have hap3 := hap
        obtain ⟨b1, o1, e1, c1, c2⟩ := (own_rd ho).edge (k := k) (by rw [← HN.out]; exact hlt)
        have y1 := blk_cell rA 1 (.slice a n c) rfl
        rw [e1] at y1
        have hrow : some b1 ≠ (Value.slice av kv cv).ownBlock := by
          intro e
          cases av with
          | none => simp [Value.ownBlock] at e
          | some y =>
            simp only [Value.ownBlock, Option.some.injEq] at e
            exact hap _ y e1 rfl e
        have E1 := Lib.hid e1
        clear e1
        generalize (es[k]'(by rw [← HN.out]; exact hlt)) = XY at *
        obtain ⟨X, Y⟩ := XY
        simp only at c1 c2
        have hsz : w2.heap.size ≤ w3.heap.size := by have := blk_lt rH; omega
        have hww : w.heap.size ≤ w2.heap.size := by omega
        have nP := own_ne oh rP (by decide)
        have nQ := own_ne oh rQ (by decide)
        have nA := own_ne oh rA (by decide)
        have nH := own_ne oh rH (by decide)
        have d1 := grow_cell c1 hrow
        have d2 := grow_cell c2 hrow
        have d3 := grow_cell (blk_cell rH 1 (.slice av kv cv) rfl) nH
        have d4 := grow_cell y1 nA
        clear c1 c2 y1
        go_wp2
        refine wp_region_flags [true, true, true, true, true, true, true, false, false, false, false] 10 (C := fun w' => ∃ u : Grow w3 (Value.slice av kv cv).ownBlock, w' = u.val) (by kernel_rfl) (by kernel_rfl) ⟨⟨_, grown_drew (World.grownBy.refl _ _)⟩, rfl⟩ ?_
        simp only [pickT, pickF]
        repeat (go_big_quiet_step (fail))
        refine wpQuiet_nil ?_
        refine tail_step fun K hK => ?_
        go_wp2
        refine hK _ _ ⟨⟨_, grown_drew (World.grownBy_alloc w3 _ _)⟩, rfl⟩ ?_
        clear hK d1 d2 d3 d4
        refine tail_step fun K2 hK2 => ?_
        change wpList _ _ _ _ _ (w3.drew.alloc (.cells #[.int .i64 X, .int .i64 Y] 52))
        refine append1g Try.infoE _ _ rfl rfl oh.drew (grown_drew (World.grownBy.refl w3 _)) hsz rfl rfl rfl (by intro u hu; simp at hu; rcases hu with rfl | rfl <;> rfl) (by omega) ?_
        intro a' c' w4 oh4 hg4 hf4
        refine wpList_nil ⟨rfl, hK2 _ _ ⟨⟨_, hg4⟩, rfl⟩ ?_⟩
        clear hK2
        refine tail_step fun K3 hK3 => ?_
        go_wp2
        refine hK3 _ _ ⟨⟨_, hg4⟩, rfl⟩ ?_
        clear hK3
        refine tail_last fun K4 hK4 => ?_
        have rH := blk_grown rH hg4 nH
        have rA := blk_grown rA hg4 nA
        have rP := blk_grown rP hg4 nP
        have rQ := blk_grown rQ hg4 nQ
        have ho4 := own_kept ho hg4 hap
        have hr4 := rdr_row hr oh hg4 hAR
        have hB4 := below_row hB (Nat.le_refl _) (own_mono oh hww) hg4
        have hap2 := Lib.hid (apart_append hap (fun x hx => (own_lt ho x hx).2) hf4)
        have k3 := blk_cell rH 1 (.slice av kv cv) rfl
        have f3 := blk_free rH 1
        have oh5 : w4.ownsRow w2.heap.size 52 2 (.slice a' (kv + 1) c') (kv + 1) (edges (F ++ [(X, Y)])) := by rw [edges_append]; exact oh4
        have hGA := (own_ne ho4 rH (by decide))
        have SH := Lib.hid (blk_set rH 1 (.slice a' (kv + 1) c'))
        have SA := Lib.hid (blk_set_other rA 1 (.slice a' (kv + 1) c') (g := (w2.heap.size + 1 + 1)) (by omega))
        have SP := Lib.hid (blk_set_other rP 1 (.slice a' (kv + 1) c') (g := (w2.heap.size + 1 + 1)) (by omega))
        have SQ := Lib.hid (blk_set_other rQ 1 (.slice a' (kv + 1) c') (g := (w2.heap.size + 1 + 1)) (by omega))
        have SO := Lib.hid (own_setOther ho4 ((w2.heap.size + 1 + 1)) 1 (.slice a' (kv + 1) c') hGA)
        have SI := Lib.hid (own_setOther oh5 ((w2.heap.size + 1 + 1)) 1 (.slice a' (kv + 1) c') (own_ne oh5 rH (by decide)))
        have SR := Lib.hid (hr4.setOther ((w2.heap.size + 1 + 1)) 1 (.slice a' (kv + 1) c') (by omega))
        have SB := Lib.hid (hB4.setCell (p := ⟨(w2.heap.size + 1 + 1), 1, none⟩) (by simp; omega) (.slice a' (kv + 1) c'))
        clear rH rA rP rQ ho4 hr4 hB4 oh4 oh5 hGA hg4 hf4 ho hr hB oh hap hap3 nP nQ nA nH hrow
        go_wp2
        go_roundw
        case rel => exact ⟨k + 1, a', kv + 1, c', F ++ [(X, Y)], p + 1, by omega, by go_num, by rw [List.length_append, HF.out]; rfl, by omega, SI.out, hap2.out, SH.out, SO.out, SA.out, SP.out, SQ.out, SR.out, by omega, SB.out⟩
        case measure => simp [intOf]; omega
      · have hv0' : ((v : Int) == 0) = false := by simp [hv0]
        have y1 := blk_cell rA 1 (.slice a n c) rfl
        have HO := Lib.hid ho
        have HI := Lib.hid oh
        clear ho oh
        go_wp2
        go_roundw
        case rel => exact ⟨k + 1, av, kv, cv, F, p + 1, by omega, by go_num, HF.out, by omega, HI.out, hap, rH, HO.out, rA, rP, rQ, hr, by omega, hB⟩
        case measure => simp [intOf]; omega
    · skip
      obtain rfl : k = n := by omega
      have CP := pick_any (w.heap.size + 2) (p) 4 wr hr (by omega) (by omega)
      go_wp2_with fail
      refine CP.mono ?_
      rintro e w3 ⟨v, rfl, hv, hr', hg'⟩
      clear CP
      have ho := own_grown ho hg' (hr.ne ho (by decide))
      have oh := own_grown oh hg' (hr.ne oh (by decide))
      have rP := blk_grown rP hg' (by simp <;> omega)
      have rQ := blk_grown rQ hg' (by simp <;> omega)
      have rA := blk_grown rA hg' (by simp <;> omega)
      have rH := blk_grown rH hg' (by simp <;> omega)
      have hB := hB.grown hg' hB.size (fun k hk => by simp only [Option.some.injEq] at hk; omega)
      have hr := hr'
      clear hr' hg'
      have HN := Lib.hid (show es.length = k from HN.out.symm)
      by_cases hv0 : v = 0
      · subst hv0
        clear oh hap
        have bd := bel_drew (Below.refl w3.heap.size w3)
        have il := (InL.refl w3 [(w.heap.size + 2), w.heap.size, (w.heap.size + 1)]).below bd
        have d0 := growl_cell (blk_cell rA 0 (.int .i64 N) rfl) (l := [(w.heap.size + 2), w.heap.size, (w.heap.size + 1)]) (by simp; omega)
        have d1 := growl_cell (blk_cell rA 1 (.slice a k c) rfl) (l := [(w.heap.size + 2), w.heap.size, (w.heap.size + 1)]) (by simp; omega)
        go_wp2
        refine wp_region_heads [true, false, true, false, false] 4 3 (C := fun w' => ∃ u : GrowL w3 [(w.heap.size + 2), w.heap.size, (w.heap.size + 1)], w' = u.val) (by kernel_rfl) (by kernel_rfl) ⟨⟨_, il⟩, rfl⟩ ?_
        simp only [pickT]
        repeat (go_big_quiet_step (fail))
        refine wpQuiet_nil ?_
        clear d0 d1
        have bd : Below w3.heap.size w3 w3.drew := bd
        generalize hD : w3.drew = D at *
        clear hD
        have ho := own_below ho bd
        have rP := blk_below rP bd
        have rQ := blk_below rQ bd
        have rA := blk_below rA bd
        have rH := blk_below rH bd
        have hr := hr.below bd
        have hB := below_tr' hB bd
        clear bd
        refine any_one (i := 1) (by kernel_rfl) rfl ?_
        intro K hK
        have CP := someGraph_any (w.heap.size + 2) (p + 1) D hr (by omega)
        have hBs := hB.size
        go_wp2_with fail
        refine CP.mono ?_
        rintro e w4 ⟨N3, gs, a3, c3, p3, rfl, hN3, hgs, o3, hr', hp3, hg'⟩
        clear CP
        have ho := own_grown ho hg' (hr.ne ho (by decide))
        have rP := blk_grown rP hg' (by simp <;> omega)
        have rQ := blk_grown rQ hg' (by simp <;> omega)
        have rA := blk_grown rA hg' (by simp <;> omega)
        have rH := blk_grown rH hg' (by simp <;> omega)
        have hB := hB.grown hg' hB.size (fun k hk => by simp only [Option.some.injEq] at hk; omega)
        have il := il.grown hg' (.inl (by simp))
        have hr := hr'
        clear hr' hg'
        have o3 := own_mono o3 hBs
        obtain ⟨n3, hn3⟩ : ∃ n, gs.length = n := ⟨_, rfl⟩
        have CN3 : (graphV N3 a3 gs.length c3) = graphV N3 a3 n3 c3 := by rw [hn3]
        rw [CN3]
        rw [hn3] at o3 hgs
        have HN3 := Lib.hid hn3
        clear hn3 CN3
        go_wp2
        refine hK _ _ (fun _ => ⟨⟨_, il⟩, rfl⟩) ?_
        clear hK
        refine any_one (i := 3) (by kernel_rfl) rfl ?_
        intro K hK
        have z0 := blk_cell rP 0 (.int .i64 0) rfl
        have z1 := blk_cell rP 1 (.slice none 0 0) rfl
        have f0 := blk_free rP 0
        have f1 := blk_free rP 1
        have S_ho := Lib.hid (own_setOther (own_setOther ho (w.heap.size) 0 (.int .i64 N3) (own_ne ho rP (by decide))) (w.heap.size) 1 (.slice a3 n3 c3) (own_ne ho rP (by decide)))
        have S_o3 := Lib.hid (own_setOther (own_setOther o3 (w.heap.size) 0 (.int .i64 N3) (own_ne o3 rP (by decide))) (w.heap.size) 1 (.slice a3 n3 c3) (own_ne o3 rP (by decide)))
        have S_rP := Lib.hid (blk_set (blk_set rP 0 (.int .i64 N3)) 1 (.slice a3 n3 c3))
        have S_rQ := Lib.hid (blk_set_other (blk_set_other rQ 0 (.int .i64 N3) (g := w.heap.size) (by omega)) 1 (.slice a3 n3 c3) (g := w.heap.size) (by omega))
        have S_rA := Lib.hid (blk_set_other (blk_set_other rA 0 (.int .i64 N3) (g := w.heap.size) (by omega)) 1 (.slice a3 n3 c3) (g := w.heap.size) (by omega))
        have S_rH := Lib.hid (blk_set_other (blk_set_other rH 0 (.int .i64 N3) (g := w.heap.size) (by omega)) 1 (.slice a3 n3 c3) (g := w.heap.size) (by omega))
        have SB := Lib.hid ((hB.setCell (p := ⟨w.heap.size, 0, none⟩) (by simp) (.int .i64 N3)).setCell (p := ⟨w.heap.size, 1, none⟩) (by simp) (.slice a3 n3 c3))
        have SI := Lib.hid ((il.set (w.heap.size) 0 (.int .i64 N3) (.inl (by simp))).set (w.heap.size) 1 (.slice a3 n3 c3) (.inl (by simp)))
        clear ho o3 rP rQ rA rH hB il
        go_wp2
        refine hK _ _ (fun _ => ⟨⟨_, SI.out⟩, rfl⟩) ?_
        clear hK z0 z1 f0 f1
        have ho := S_ho.out
        clear S_ho
        have o3 := S_o3.out
        clear S_o3
        have rP := S_rP.out
        clear S_rP
        have rQ := S_rQ.out
        clear S_rQ
        have rA := S_rA.out
        clear S_rA
        have rH := S_rH.out
        clear S_rH
        have hB := SB.out
        have il := SI.out
        clear SB SI
        generalize hV : (w4.setCell ⟨w.heap.size, 0, none⟩ (.int .i64 N3)).setCell ⟨w.heap.size, 1, none⟩ (.slice a3 n3 c3) = w5 at *
        clear hV
        refine any_one (i := 4) (by kernel_rfl) rfl ?_
        intro K hK
        have z0 := blk_cell rQ 0 (.int .i64 0) rfl
        have z1 := blk_cell rQ 1 (.slice none 0 0) rfl
        have f0 := blk_free rQ 0
        have f1 := blk_free rQ 1
        have S_ho := Lib.hid (own_setOther (own_setOther ho ((w.heap.size + 1)) 0 (.int .i64 N) (own_ne ho rQ (by decide))) ((w.heap.size + 1)) 1 (.slice a k c) (own_ne ho rQ (by decide)))
        have S_o3 := Lib.hid (own_setOther (own_setOther o3 ((w.heap.size + 1)) 0 (.int .i64 N) (own_ne o3 rQ (by decide))) ((w.heap.size + 1)) 1 (.slice a k c) (own_ne o3 rQ (by decide)))
        have S_rP := Lib.hid (blk_set_other (blk_set_other rP 0 (.int .i64 N) (g := (w.heap.size + 1)) (by omega)) 1 (.slice a k c) (g := (w.heap.size + 1)) (by omega))
        have S_rQ := Lib.hid (blk_set (blk_set rQ 0 (.int .i64 N)) 1 (.slice a k c))
        have S_rA := Lib.hid (blk_set_other (blk_set_other rA 0 (.int .i64 N) (g := (w.heap.size + 1)) (by omega)) 1 (.slice a k c) (g := (w.heap.size + 1)) (by omega))
        have S_rH := Lib.hid (blk_set_other (blk_set_other rH 0 (.int .i64 N) (g := (w.heap.size + 1)) (by omega)) 1 (.slice a k c) (g := (w.heap.size + 1)) (by omega))
        have SB := Lib.hid ((hB.setCell (p := ⟨(w.heap.size + 1), 0, none⟩) (by simp) (.int .i64 N)).setCell (p := ⟨(w.heap.size + 1), 1, none⟩) (by simp) (.slice a k c))
        have SI := Lib.hid ((il.set ((w.heap.size + 1)) 0 (.int .i64 N) (.inl (by simp))).set ((w.heap.size + 1)) 1 (.slice a k c) (.inl (by simp)))
        clear ho o3 rP rQ rA rH hB il
        go_wp2
        refine hK _ _ (fun h => absurd rfl h) ?_
        clear hK z0 z1 f0 f1
        have ho := S_ho.out
        clear S_ho
        have o3 := S_o3.out
        clear S_o3
        have rP := S_rP.out
        clear S_rP
        have rQ := S_rQ.out
        clear S_rQ
        have rA := S_rA.out
        clear S_rA
        have rH := S_rH.out
        clear S_rH
        have hB := SB.out
        have il := SI.out
        clear SB SI
        generalize hV : (w5.setCell ⟨(w.heap.size + 1), 0, none⟩ (.int .i64 N)).setCell ⟨(w.heap.size + 1), 1, none⟩ (.slice a k c) = w6 at *
        clear hV
        have z0 := blk_cell rP 0 (.int .i64 N3) rfl
        have z1 := blk_cell rP 1 (.slice a3 n3 c3) rfl
        have z2 := blk_cell rQ 0 (.int .i64 N) rfl
        have z3 := blk_cell rQ 1 (.slice a k c) rfl
        refine any_end (by kernel_rfl) ?_
        have O1 := Lib.hid o3
        have O2 := Lib.hid ho
        have HB := Lib.hid hB
        clear o3 ho hB
        go_wp2
        refine bodyPost_ret (v := .tuple #[graphV N3 a3 n3 c3, graphV N a k c]) (by simp [results, Try.results36, go_sem, z0, z1, z2, z3]) rfl ⟨N3, gs, a3, c3, N, es, a, c, by rw [HN3.out, HN.out], hN3, hN, by rw [HN3.out]; omega, by rw [HN.out]; exact hes, by rw [HN3.out]; exact O1.out, by rw [HN.out]; exact O2.out, HB.out⟩
      · have hv0' : ((v : Int) == 0) = false := by simp [hv0]
        have oh := own_mono oh (show w.heap.size ≤ w2.heap.size by omega)
        have bd := bel_drew (Below.refl w3.heap.size w3)
        have il := (InL.refl w3 [(w.heap.size + 2), w.heap.size, (w.heap.size + 1)]).below bd
        have d0 := growl_cell (blk_cell rA 0 (.int .i64 N) rfl) (l := [(w.heap.size + 2), w.heap.size, (w.heap.size + 1)]) (by simp; omega)
        have d1 := growl_cell (blk_cell rA 1 (.slice a k c) rfl) (l := [(w.heap.size + 2), w.heap.size, (w.heap.size + 1)]) (by simp; omega)
        have d2 := growl_cell (blk_cell rH 0 (.int .i64 N) rfl) (l := [(w.heap.size + 2), w.heap.size, (w.heap.size + 1)]) (by simp; omega)
        have d3 := growl_cell (blk_cell rH 1 (.slice av kv cv) rfl) (l := [(w.heap.size + 2), w.heap.size, (w.heap.size + 1)]) (by simp; omega)
        go_wp2
        refine wp_region_heads [true, true, false, false] 3 2 (C := fun w' => ∃ u : GrowL w3 [(w.heap.size + 2), w.heap.size, (w.heap.size + 1)], w' = u.val) (by kernel_rfl) (by kernel_rfl) ⟨⟨_, il⟩, rfl⟩ ?_
        simp only [pickT]
        repeat (go_big_quiet_step (fail))
        refine wpQuiet_nil ?_
        clear d0 d1 d2 d3
        have bd : Below w3.heap.size w3 w3.drew := bd
        generalize hD : w3.drew = D at *
        clear hD
        have ho := own_below ho bd
        have oh := own_below oh bd
        have rP := blk_below rP bd
        have rQ := blk_below rQ bd
        have rA := blk_below rA bd
        have rH := blk_below rH bd
        have hr := hr.below bd
        have hB := below_tr' hB bd
        clear bd
        refine any_one (i := 2) (by kernel_rfl) rfl ?_
        intro K hK
        have z0 := blk_cell rP 0 (.int .i64 0) rfl
        have z1 := blk_cell rP 1 (.slice none 0 0) rfl
        have f0 := blk_free rP 0
        have f1 := blk_free rP 1
        have S_ho := Lib.hid (own_setOther (own_setOther ho (w.heap.size) 0 (.int .i64 N) (own_ne ho rP (by decide))) (w.heap.size) 1 (.slice av kv cv) (own_ne ho rP (by decide)))
        have S_oh := Lib.hid (own_setOther (own_setOther oh (w.heap.size) 0 (.int .i64 N) (own_ne oh rP (by decide))) (w.heap.size) 1 (.slice av kv cv) (own_ne oh rP (by decide)))
        have S_rP := Lib.hid (blk_set (blk_set rP 0 (.int .i64 N)) 1 (.slice av kv cv))
        have S_rQ := Lib.hid (blk_set_other (blk_set_other rQ 0 (.int .i64 N) (g := w.heap.size) (by omega)) 1 (.slice av kv cv) (g := w.heap.size) (by omega))
        have S_rA := Lib.hid (blk_set_other (blk_set_other rA 0 (.int .i64 N) (g := w.heap.size) (by omega)) 1 (.slice av kv cv) (g := w.heap.size) (by omega))
        have S_rH := Lib.hid (blk_set_other (blk_set_other rH 0 (.int .i64 N) (g := w.heap.size) (by omega)) 1 (.slice av kv cv) (g := w.heap.size) (by omega))
        have SB := Lib.hid ((hB.setCell (p := ⟨w.heap.size, 0, none⟩) (by simp) (.int .i64 N)).setCell (p := ⟨w.heap.size, 1, none⟩) (by simp) (.slice av kv cv))
        have SI := Lib.hid ((il.set (w.heap.size) 0 (.int .i64 N) (.inl (by simp))).set (w.heap.size) 1 (.slice av kv cv) (.inl (by simp)))
        clear ho oh rP rQ rA rH hB il
        go_wp2
        refine hK _ _ (fun _ => ⟨⟨_, SI.out⟩, rfl⟩) ?_
        clear hK z0 z1 f0 f1
        have ho := S_ho.out
        clear S_ho
        have oh := S_oh.out
        clear S_oh
        have rP := S_rP.out
        clear S_rP
        have rQ := S_rQ.out
        clear S_rQ
        have rA := S_rA.out
        clear S_rA
        have rH := S_rH.out
        clear S_rH
        have hB := SB.out
        have il := SI.out
        clear SB SI
        generalize hV : (D.setCell ⟨w.heap.size, 0, none⟩ (.int .i64 N)).setCell ⟨w.heap.size, 1, none⟩ (.slice av kv cv) = w5 at *
        clear hV
        refine any_one (i := 3) (by kernel_rfl) rfl ?_
        intro K hK
        have z0 := blk_cell rQ 0 (.int .i64 0) rfl
        have z1 := blk_cell rQ 1 (.slice none 0 0) rfl
        have f0 := blk_free rQ 0
        have f1 := blk_free rQ 1
        have S_ho := Lib.hid (own_setOther (own_setOther ho ((w.heap.size + 1)) 0 (.int .i64 N) (own_ne ho rQ (by decide))) ((w.heap.size + 1)) 1 (.slice a k c) (own_ne ho rQ (by decide)))
        have S_oh := Lib.hid (own_setOther (own_setOther oh ((w.heap.size + 1)) 0 (.int .i64 N) (own_ne oh rQ (by decide))) ((w.heap.size + 1)) 1 (.slice a k c) (own_ne oh rQ (by decide)))
        have S_rP := Lib.hid (blk_set_other (blk_set_other rP 0 (.int .i64 N) (g := (w.heap.size + 1)) (by omega)) 1 (.slice a k c) (g := (w.heap.size + 1)) (by omega))
        have S_rQ := Lib.hid (blk_set (blk_set rQ 0 (.int .i64 N)) 1 (.slice a k c))
        have S_rA := Lib.hid (blk_set_other (blk_set_other rA 0 (.int .i64 N) (g := (w.heap.size + 1)) (by omega)) 1 (.slice a k c) (g := (w.heap.size + 1)) (by omega))
        have S_rH := Lib.hid (blk_set_other (blk_set_other rH 0 (.int .i64 N) (g := (w.heap.size + 1)) (by omega)) 1 (.slice a k c) (g := (w.heap.size + 1)) (by omega))
        have SB := Lib.hid ((hB.setCell (p := ⟨(w.heap.size + 1), 0, none⟩) (by simp) (.int .i64 N)).setCell (p := ⟨(w.heap.size + 1), 1, none⟩) (by simp) (.slice a k c))
        have SI := Lib.hid ((il.set ((w.heap.size + 1)) 0 (.int .i64 N) (.inl (by simp))).set ((w.heap.size + 1)) 1 (.slice a k c) (.inl (by simp)))
        clear ho oh rP rQ rA rH hB il
        go_wp2
        refine hK _ _ (fun h => absurd rfl h) ?_
        clear hK z0 z1 f0 f1
        have ho := S_ho.out
        clear S_ho
        have oh := S_oh.out
        clear S_oh
        have rP := S_rP.out
        clear S_rP
        have rQ := S_rQ.out
        clear S_rQ
        have rA := S_rA.out
        clear S_rA
        have rH := S_rH.out
        clear S_rH
        have hB := SB.out
        have il := SI.out
        clear SB SI
        generalize hV : (w5.setCell ⟨(w.heap.size + 1), 0, none⟩ (.int .i64 N)).setCell ⟨(w.heap.size + 1), 1, none⟩ (.slice a k c) = w6 at *
        clear hV
        have z0 := blk_cell rP 0 (.int .i64 N) rfl
        have z1 := blk_cell rP 1 (.slice av kv cv) rfl
        have z2 := blk_cell rQ 0 (.int .i64 N) rfl
        have z3 := blk_cell rQ 1 (.slice a k c) rfl
        refine any_end (by kernel_rfl) ?_
        have O1 := Lib.hid oh
        have O2 := Lib.hid ho
        have HB := Lib.hid hB
        clear oh ho hB
        go_wp2
        refine bodyPost_ret (v := .tuple #[graphV N av kv cv, graphV N a k c]) (by simp [results, Try.results36, go_sem, z0, z1, z2, z3]) rfl ⟨N, F, av, cv, N, es, a, c, by rw [HF.out, HN.out], hN, hN, by rw [HF.out]; omega, by rw [HN.out]; exact hes, by rw [HF.out]; exact O1.out, by rw [HN.out]; exact O2.out, HB.out⟩

end Go.Proofs.Ytbiekdhikanhcaa
