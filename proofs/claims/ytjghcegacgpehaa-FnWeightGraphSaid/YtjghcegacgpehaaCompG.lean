
/- The complement of a graph: the reference's complement. -/
import Derived.Test.YtjghcegacgpehaaHasEdge
import Derived.Test.YtjghcegacgpehaaBlk
namespace Go.Proofs.Ytjghcegacgpehaa
open Go.RowKit

def filtUpto (L : List E2) (p : E2 → Bool) (k : Nat) : List E2 := (L.take k).filter p
theorem filt_yes {L : List E2} {p : E2 → Bool} {k : Nat} (h : k < L.length) (hp : p (L[k]'h) = true) : filtUpto L p (k + 1) = filtUpto L p k ++ [L[k]'h] := by
  rw [filtUpto, List.take_succ_eq_append_getElem h, List.filter_append]; simp [filtUpto, hp]
theorem filt_no {L : List E2} {p : E2 → Bool} {k : Nat} (h : k < L.length) (hp : p (L[k]'h) = false) : filtUpto L p (k + 1) = filtUpto L p k := by
  rw [filtUpto, List.take_succ_eq_append_getElem h, List.filter_append]; simp [filtUpto, hp]
theorem filt_all (L : List E2) (p : E2 → Bool) : filtUpto L p L.length = L.filter p := by rw [filtUpto, List.take_length]
theorem filt_len (L : List E2) (p : E2 → Bool) (k : Nat) : (filtUpto L p k).length ≤ k := Nat.le_trans (List.length_filter_le _ _) (List.length_take_le _ _)
def complG (N : Nat) (es : List E2) : List E2 := (pairsL N).filter fun e => !hasB es e.1 e.2

theorem pairsL_len {N : Nat} (hN : N ≤ 1000) : (pairsL N).length ≤ 1000000 := by
  have h1 := pairsUpto_length N N
  have h2 : N * N ≤ 1000 * 1000 := Nat.mul_le_mul hN hN
  unfold pairsL
  omega

set_option maxHeartbeats 4000000 in
theorem specComplement_any (N : Nat) (a : Option Addr) (c n : Nat) (es : List E2) (w : World) (hN : N ≤ 1000) (hn : es.length = n) (hx : Rd w a (edges es)) (hl : n ≤ 8796093022208) :
    Calls Try.prog 191 #[graphV N a n c] w fun e w' => ∃ a' c', e = .returned (graphV N a' (complG N es).length c') ∧
      w'.ownsRow w.heap.size 48 2 (.slice a' (complG N es).length c') (complG N es).length (edges (complG N es)) ∧ Below w.heap.size w w' := by
  obtain ⟨W4, hW4⟩ : ∃ W, W = ((((w.alloc (.cells #[.int .i64 N, .slice a n c] 25)).alloc (.cells #[.int .i64 0, .slice none 0 0] 25)).alloc (.cells #[] 48)).alloc (.cells #[.int .i64 N, .slice (some ⟨w.heap.size + 1 + 1, 0, none⟩) 0 0] 25)) := ⟨_, rfl⟩
  have hs4 : W4.heap.size = w.heap.size + 1 + 1 + 1 + 1 := by rw [hW4]; simp
  have hB4 : Below w.heap.size w W4 := by rw [hW4]; exact below_tr' (below_alloc2 w _ _) (below_alloc2 _ _ _)
  have q0 : W4.heap[w.heap.size]? = some (.cells #[.int .i64 N, .slice a n c] 25 (0, 0)) := by
    rw [hW4, heap_alloc_old _ _ (by simp; omega), heap_alloc_old _ _ (by simp; omega), heap_alloc_old _ _ (by simp), heap_alloc_new]
  have q1 : W4.heap[w.heap.size + 1]? = some (.cells #[.int .i64 0, .slice none 0 0] 25 (0, 0)) := by
    rw [hW4, heap_alloc_old _ _ (by simp), heap_alloc_old _ _ (by simp), show w.heap.size + 1 = (w.alloc (.cells #[.int .i64 N, .slice a n c] 25)).heap.size from by simp, heap_alloc_new]
  have q2 : W4.heap[w.heap.size + 1 + 1]? = some (.cells #[] 48 (0, 0)) := by
    rw [hW4, heap_alloc_old _ _ (by simp), show w.heap.size + 1 + 1 = ((w.alloc (.cells #[.int .i64 N, .slice a n c] 25)).alloc (.cells #[.int .i64 0, .slice none 0 0] 25)).heap.size from by simp, heap_alloc_new]
  have q3 : W4.heap[w.heap.size + 1 + 1 + 1]? = some (.cells #[.int .i64 N, .slice (some ⟨w.heap.size + 1 + 1, 0, none⟩) 0 0] 25 (0, 0)) := by
    rw [hW4, show w.heap.size + 1 + 1 + 1 = (((w.alloc (.cells #[.int .i64 N, .slice a n c] 25)).alloc (.cells #[.int .i64 0, .slice none 0 0] 25)).alloc (.cells #[] 48)).heap.size from by simp, heap_alloc_new]
  have hown0 : W4.ownsRow w.heap.size 48 2 (.slice (some ⟨w.heap.size + 1 + 1, 0, none⟩) 0 0) 0 (edges []) :=
    ⟨rfl, .inr ⟨w.heap.size + 1 + 1, 0, #[], rfl, by omega, q2, Nat.le_refl _, by decide, rfl, rfl⟩⟩
  have HP := Lib.hid (specPairs_any N W4 hN)
  have hpl := pairsL_len hN
  have HW4 := Lib.hid hW4
  have HN := Lib.hid hn
  clear hW4 q2
  go_enter Try.func191, Try.ntmps191
  go_wp2_with fail
  rw [← HW4.out]
  refine HP.out.mono ?_
  rintro e w5 ⟨aL, cL, rfl, hoL, hb5⟩
  have hap : Apart aL (some ⟨w.heap.size + 1 + 1, 0, none⟩) := (apart_of hown0 hoL).symm
  have hown5 := own_below hown0 hb5
  have q0 := blk_below q0 hb5
  have q1 := blk_below q1 hb5
  have q3 := blk_below q3 hb5
  have hoL := own_mono hoL hB4.size
  have hB5 := below_tr' hB4 hb5
  clear hown0 hb5 hB4
  have HL := Lib.hid (rfl : pairsL N = pairsL N)
  obtain ⟨m, hm⟩ : ∃ m, m = (pairsL N).length := ⟨_, rfl⟩
  rw [← hm] at hoL hpl
  go_wp2_with fail
  rw [← hm]
  have HM := Lib.hid hm
  clear hm
  go_loopw [5] (fun i wr => ∃ (k : Nat) (av : Option Addr) (kv cv : Nat), k ≤ m ∧ i = .int .i64 k ∧ kv = (filtUpto (pairsL N) (fun e => !hasB es e.1 e.2) k).length ∧
      wr.ownsRow w.heap.size 48 2 (.slice av kv cv) kv (edges (filtUpto (pairsL N) (fun e => !hasB es e.1 e.2) k)) ∧
      wr.heap[w.heap.size + 1 + 1 + 1]? = some (.cells #[.int .i64 N, .slice av kv cv] 25 (0, 0)) ∧
      wr.heap[w.heap.size + 1]? = some (.cells #[.int .i64 0, .slice none 0 0] 25 (0, 0)) ∧
      wr.heap[w.heap.size]? = some (.cells #[.int .i64 N, .slice a n c] 25 (0, 0)) ∧
      wr.ownsRow w.heap.size 48 2 (.slice aL m cL) m (edges (pairsL N)) ∧ Apart aL av ∧ Below w.heap.size w wr) (fun i _ => m - (intOf i).toNat)
  case atStart => exact ⟨0, _, 0, 0, by omega, rfl, by simp [filtUpto], hown5, q3, q1, q0, hoL, hap, hB5⟩
  case round =>
    obtain ⟨k, av, kv, cv, hk, rfl, hkv, ho, r3, r1, r0, hL, hapr, hb⟩ := hrel
    by_cases hlt : k < m
    · have hLk : k < (pairsL N).length := by rw [← HM.out]; exact hlt
      obtain ⟨b1, o1, rfl, c1, c2⟩ := (own_rd hL).edge (k := k) hLk
      have HE := Lib.hid (fun u : Later wr => specHasEdge_any N a c n es ((pairsL N)[k]'hLk).1 ((pairsL N)[k]'hLk).2 u.val HN.out (hx.below (below_tr' hb u.ok)) hl)
      have HY := Lib.hid (filt_yes (p := fun e => !hasB es e.1 e.2) hLk)
      have HNo := Lib.hid (filt_no (p := fun e => !hasB es e.1 e.2) hLk)
      have hkl := filt_len (pairsL N) (fun e => !hasB es e.1 e.2) k
      rw [← hkv] at hkl
      generalize hF : filtUpto (pairsL N) (fun e => !hasB es e.1 e.2) k = F at *
      have HF := Lib.hid hF
      generalize hXY : ((pairsL N)[k]'hLk) = XY at *
      obtain ⟨X, Y⟩ := XY
      have d1 := later_cell c1
      have d2 := later_cell c2
      have g0 := later_cell (blk_cell r0 0 (.int .i64 N) rfl)
      have g1 := later_cell (blk_cell r0 1 (.slice a n c) rfl)
      have HKV := Lib.hid hkv
      have HO := Lib.hid ho
      have HLL := Lib.hid hL
      have R3 := Lib.hid r3
      have R1 := Lib.hid r1
      have R0 := Lib.hid r0
      have C1 := Lib.hid c1
      have C2 := Lib.hid c2
      clear hF hXY hkv ho hL r3 r1 r0 c1 c2
      go_wp2
      refine wp_region_later (by kernel_rfl) (by kernel_rfl) ?_
      repeat (go_big_quiet_step ((go_at_call 81; exact calls_later _ (HE.out _))))
      refine wpQuiet_nil ?_
      intro w1 hw'
      have hb1 := later_below hw'
      clear hw' d1 d2 g0 g1
      have R3 := Lib.hid (blk_below R3.out hb1)
      have R1 := Lib.hid (blk_below R1.out hb1)
      have R0 := Lib.hid (blk_below R0.out hb1)
      have ho := own_below HO.out hb1
      have hL := own_below HLL.out hb1
      have hB1 := below_tr' hb hb1
      cases hV : hasB es X Y
      · have HY := Lib.hid (HY.out (by simp [hV]))
        have c1 := (hb1.cell (p := ⟨b1, o1 + k * 2, none⟩) (Rd.lt C1.out)).trans C1.out
        have c2 := (hb1.cell (p := ⟨b1, o1 + k * 2 + 1, none⟩) (Rd.lt C2.out)).trans C2.out
        have hsz := hB1.size
        have hrow : some b1 ≠ (Value.slice av kv cv).ownBlock := by
          intro e
          cases av with
          | none => simp [Value.ownBlock] at e
          | some y =>
            simp only [Value.ownBlock, Option.some.injEq] at e
            exact hapr _ y rfl rfl e
        have h3 := own_ne ho R3.out (by decide)
        have h1 := own_ne ho R1.out (by decide)
        have h0 := own_ne ho R0.out (by decide)
        have d1 := grow_cell c1 hrow
        have d2 := grow_cell c2 hrow
        have d3 := grow_cell (blk_cell R3.out 1 (.slice av kv cv) rfl) h3
        have HO := Lib.hid ho
        have HLL := Lib.hid hL
        have H3 := Lib.hid h3
        have H1 := Lib.hid h1
        have H0 := Lib.hid h0
        have HR := Lib.hid hrow
        clear ho hL h3 h1 h0 hrow c1 c2
        go_wp2
        refine wp_region_flags [true, true, true, true, true, true, false, false, false, false] 9 (C := fun w' => ∃ u : Grow w1 (Value.slice av kv cv).ownBlock, w' = u.val) (by kernel_rfl) (by kernel_rfl) ⟨⟨_, grown_drew (World.grownBy.refl _ _)⟩, rfl⟩ ?_
        simp only [pickT, pickF]
        repeat (go_big_quiet_step (fail))
        refine wpQuiet_nil ?_
        refine tail_step fun K hK => ?_
        go_wp2
        refine hK _ _ ⟨⟨_, grown_drew (World.grownBy_alloc w1 _ _)⟩, rfl⟩ ?_
        clear hK d1 d2 d3
        refine tail_step fun K2 hK2 => ?_
        change wpList _ _ _ _ _ (w1.drew.alloc (.cells #[.int .i64 X, .int .i64 Y] 48))
        refine append1g Try.infoE _ _ rfl rfl HO.out.drew (grown_drew (World.grownBy.refl w1 _)) hsz rfl rfl rfl (by intro u hu; simp at hu; rcases hu with rfl | rfl <;> rfl) (by omega) ?_
        intro a' c' w2 ho2 hg2 hf2
        refine wpList_nil ⟨rfl, hK2 _ _ ⟨⟨_, hg2⟩, rfl⟩ ?_⟩
        clear hK2
        refine tail_step fun K3 hK3 => ?_
        go_wp2
        refine hK3 _ _ ⟨⟨_, hg2⟩, rfl⟩ ?_
        clear hK3
        refine tail_last fun K4 hK4 => ?_
        have r3 := blk_grown R3.out hg2 H3.out
        have r1 := blk_grown R1.out hg2 H1.out
        have r0 := blk_grown R0.out hg2 H0.out
        have hL2 := own_kept HLL.out hg2 hapr
        have hb2 := below_row hB1 (Nat.le_refl _) HO.out hg2
        have hap2 := apart_append hapr (fun x hx => by cases hx; exact (own_lt HLL.out _ rfl).2) hf2
        have k3 := blk_cell r3 1 (.slice av kv cv) rfl
        have f3 := blk_free r3 1
        have s3 := blk_set r3 1 (.slice a' (kv + 1) c')
        have s1 := blk_set_other r1 1 (.slice a' (kv + 1) c') (g := w.heap.size + 1 + 1 + 1) (by omega)
        have s0 := blk_set_other r0 1 (.slice a' (kv + 1) c') (g := w.heap.size + 1 + 1 + 1) (by omega)
        have so := own_setOther ho2 (w.heap.size + 1 + 1 + 1) 1 (.slice a' (kv + 1) c') (own_ne ho2 r3 (by decide))
        have sL := own_setOther hL2 (w.heap.size + 1 + 1 + 1) 1 (.slice a' (kv + 1) c') (own_ne hL2 r3 (by decide))
        have sB := hb2.setCell (p := ⟨w.heap.size + 1 + 1 + 1, 1, none⟩) (by simp; omega) (.slice a' (kv + 1) c')
        have S3 := Lib.hid s3
        have S1 := Lib.hid s1
        have S0 := Lib.hid s0
        have SO := Lib.hid so
        have SL := Lib.hid sL
        have SB := Lib.hid sB
        have AP := Lib.hid hap2
        clear s3 s1 s0 so sL sB r3 r1 r0 ho2 hL2 hb2 hap2 hg2 hf2 hapr hb1 hB1 hb
        go_wp2
        go_roundw
        case rel => exact ⟨k + 1, a', kv + 1, c', by omega, by go_num, by rw [HY.out, List.length_append, ← HKV.out]; rfl, by rw [HY.out, edges_append]; exact SO.out, S3.out, S1.out, S0.out, SL.out, AP.out, SB.out⟩
        case measure => simp [intOf]; omega
      · have HNo := Lib.hid (HNo.out (by simp [hV]))
        go_wp2
        go_roundw
        case rel => exact ⟨k + 1, av, kv, cv, by omega, by go_num, by rw [HNo.out]; exact HKV.out, by rw [HNo.out]; exact ho, R3.out, R1.out, R0.out, hL, hapr, hB1⟩
        case measure => simp [intOf]; omega
    · have e : k = m := by omega
      subst e
      have hE : filtUpto (pairsL N) (fun e => !hasB es e.1 e.2) k = complG N es := by rw [HM.out]; exact filt_all _ _
      rw [hE] at ho hkv
      have HO := Lib.hid ho
      have HKV := Lib.hid hkv
      have R1 := Lib.hid r1
      have k0 := blk_cell r3 0 (.int .i64 N) rfl
      have k1 := blk_cell r3 1 (.slice av kv cv) rfl
      have z0 := blk_cell r1 0 (.int .i64 0) rfl
      have z1 := blk_cell r1 1 (.slice none 0 0) rfl
      have f0 := blk_free r1 0
      have f1 := blk_free r1 1
      clear ho hkv hL hE r3 r1 r0
      have sO := own_setOther (own_setOther HO.out (w.heap.size + 1) 0 (.int .i64 N) (own_ne HO.out R1.out (by decide))) (w.heap.size + 1) 1 (.slice av kv cv) (own_ne HO.out R1.out (by decide))
      have sB := (hb.setCell (p := ⟨w.heap.size + 1, 0, none⟩) (by simp) (.int .i64 N)).setCell (p := ⟨w.heap.size + 1, 1, none⟩) (by simp) (.slice av kv cv)
      have SO := Lib.hid sO
      have SB := Lib.hid sB
      clear sO sB
      go_wp2
      refine bodyPost_ret (v := graphV N av kv cv) (by simp [results, Try.results191, go_sem, z0, z1]) rfl ⟨av, cv, ?_, ?_, SB.out⟩
      · rw [HKV.out]
      · rw [← HKV.out]; exact SO.out

end Go.Proofs.Ytjghcegacgpehaa
