
/- A drawn graph: the reference's aGraph. -/
import Derived.Test.YtjghcegacgpehaaRead
import Derived.Test.YtjghcegacgpehaaCompG
namespace Go.Proofs.Ytjghcegacgpehaa
open Go.RowKit

theorem sub_snoc {L F : List E2} {k : Nat} (h : F.Sublist (L.take k)) (hk : k < L.length) : (F ++ [L[k]'hk]).Sublist (L.take (k + 1)) := by
  rw [List.take_succ_eq_append_getElem hk]
  exact h.append (List.Sublist.refl _)
theorem sub_step {L F : List E2} {k : Nat} (h : F.Sublist (L.take k)) (hk : k < L.length) : F.Sublist (L.take (k + 1)) := by
  rw [List.take_succ_eq_append_getElem hk]
  exact h.trans (List.sublist_append_left _ _)

set_option maxHeartbeats 4000000 in
theorem aGraph_any (R p N : Nat) (w : World) (h : RdrAt w R p) (hp : p ≤ 1000000000) (hN : N ≤ 1000) :
    Calls Try.prog 148 #[.pointer (some ⟨R, 0, none⟩), .int .i64 N] w fun e w' => ∃ (es : List E2) (a : Option Addr) (c p' : Nat), e = .returned (graphV N a es.length c) ∧ es.Sublist (pairsL N) ∧
      w'.ownsRow w.heap.size 48 2 (.slice a es.length c) es.length (edges es) ∧ RdrAt w' R p' ∧ p' ≤ p + 2 + (pairsL N).length ∧ w.grownBy w' (some R) := by
  have hB := below_tr' (below_alloc2 w (.cells #[.int .i64 0, .slice none 0 0] 25) (.cells #[] 48)) (below_alloc _ (.cells #[.int .i64 N, .slice (some ⟨w.heap.size + 1, 0, none⟩) 0 0] 25))
  have q1 := blk_below (blk_below (heap_alloc_new w (.cells #[.int .i64 0, .slice none 0 0] 25)) (below_alloc _ (.cells #[] 48))) (below_alloc _ (.cells #[.int .i64 N, .slice (some ⟨w.heap.size + 1, 0, none⟩) 0 0] 25))
  have q3 := heap_alloc_new ((w.alloc (.cells #[.int .i64 0, .slice none 0 0] 25)).alloc (.cells #[] 48)) (.cells #[.int .i64 N, .slice (some ⟨w.heap.size + 1, 0, none⟩) 0 0] 25)
  rw [show ((w.alloc (.cells #[.int .i64 0, .slice none 0 0] 25)).alloc (.cells #[] 48)).heap.size = w.heap.size + 1 + 1 from by simp] at q3
  have hown0 : (((w.alloc (.cells #[.int .i64 0, .slice none 0 0] 25)).alloc (.cells #[] 48)).alloc (.cells #[.int .i64 N, .slice (some ⟨w.heap.size + 1, 0, none⟩) 0 0] 25)).ownsRow w.heap.size 48 2 (.slice (some ⟨w.heap.size + 1, 0, none⟩) 0 0) 0 (edges []) := by
    have h0 := World.ownsRow_made (e := 48) (size := 2) (w.alloc (.cells #[.int .i64 0, .slice none 0 0] 25)) #[] 0 (Nat.le_refl _) (by decide) rfl
    rw [show (w.alloc (.cells #[.int .i64 0, .slice none 0 0] 25)).heap.size = w.heap.size + 1 from by simp] at h0
    exact own_mono (own_below h0 (below_alloc _ (.cells #[.int .i64 N, .slice (some ⟨w.heap.size + 1, 0, none⟩) 0 0] 25))) (by simp)
  have hWs : (((w.alloc (.cells #[.int .i64 0, .slice none 0 0] 25)).alloc (.cells #[] 48)).alloc (.cells #[.int .i64 N, .slice (some ⟨w.heap.size + 1, 0, none⟩) 0 0] 25)).heap.size = w.heap.size + 1 + 1 + 1 := by simp
  generalize hW : (((w.alloc (.cells #[.int .i64 0, .slice none 0 0] 25)).alloc (.cells #[] 48)).alloc (.cells #[.int .i64 N, .slice (some ⟨w.heap.size + 1, 0, none⟩) 0 0] 25)) = W at *
  have HW := Lib.hid hW
  clear hW
  have hr0 := h.below hB
  have hRw := h.lt
  have HG0 := below_grownby hB (some R)
  clear h
  have HP := specPairs_any N W hN
  have hpl := pairsL_len hN
  go_enter Try.func148, Try.ntmps148
  go_wp2_with (simp only [HW.out])
  refine HP.mono ?_
  rintro e w5 ⟨aL, cL, rfl, hoL, hb5⟩
  have hap : Apart aL (some ⟨w.heap.size + 1, 0, none⟩) := (apart_of hown0 hoL).symm
  have hown5 := own_below hown0 hb5
  have q1 := blk_below q1 hb5
  have q3 := blk_below q3 hb5
  have hoL := own_mono hoL hB.size
  have HG5 := grown_below HG0 hb5
  have hr5 := hr0.below hb5
  clear hown0 hb5 hB HG0 hr0 HP
  obtain ⟨m, hm⟩ : ∃ m, m = (pairsL N).length := ⟨_, rfl⟩
  rw [← hm] at hoL hpl ⊢
  have HM := Lib.hid hm
  clear hm
  have C6 := pick_any R p 3 w5 hr5 (by omega) (by omega)
  go_wp2_with fail
  refine C6.mono ?_
  rintro e w6 ⟨v6, rfl, hv6, hr6, hg6⟩
  have hv6 : v6 ≤ 2 := by omega
  have n5 := hr5.ne hown5 (by decide)
  have n5L := hr5.ne hoL (by decide)
  have hown6 := own_grown hown5 hg6 n5
  have hoL := own_grown hoL hg6 n5L
  have q1 := blk_grown q1 hg6 (by simp; omega)
  have q3 := blk_grown q3 hg6 (by simp; omega)
  have HG6 := grown_trans HG5 hg6
  clear n5 n5L hown5 HG5 hr5 hg6 C6
  go_wp2_with fail
  go_loopw [8] (fun i wr => ∃ (k : Nat) (av : Option Addr) (kv cv : Nat) (F : List E2) (p' : Nat), k ≤ m ∧ i = .int .i64 k ∧ kv = F.length ∧ F.Sublist ((pairsL N).take k) ∧
      wr.ownsRow w.heap.size 48 2 (.slice av kv cv) kv (edges F) ∧
      wr.heap[w.heap.size + 1 + 1]? = some (.cells #[.int .i64 N, .slice av kv cv] 25 (0, 0)) ∧
      wr.heap[w.heap.size]? = some (.cells #[.int .i64 0, .slice none 0 0] 25 (0, 0)) ∧
      wr.ownsRow w.heap.size 48 2 (.slice aL m cL) m (edges (pairsL N)) ∧ Apart aL av ∧ RdrAt wr R p' ∧ p' ≤ p + 1 + k ∧ w.grownBy wr (some R)) (fun i _ => m - (intOf i).toNat)
  case atStart => exact ⟨0, _, 0, 0, [], p + 1, by omega, rfl, rfl, by simp, hown6, q3, q1, hoL, hap, hr6, by omega, HG6⟩
  case round =>
    clear hown6 q3 q1 hoL hap hr6 HG6
    obtain ⟨k, av, kv, cv, F, p', hk, rfl, hkv, hF, ho, r3, r1, hL, hapr, hr, hp', hg⟩ := hrel
    by_cases hlt : k < m
    · have hLk : k < (pairsL N).length := by rw [← HM.out]; exact hlt
      have CP := pick_any R p' (2 + (v6 : Int)) wr hr (by omega) (by omega)
      have hkl : kv ≤ k := by
        have := hF.length_le
        rw [List.length_take] at this; omega
      have HS1 := Lib.hid (sub_snoc hF hLk)
      have HS2 := Lib.hid (sub_step hF hLk)
      have HKV := Lib.hid hkv
      clear hF hkv
      go_wp2_with fail
      refine CP.mono ?_
      rintro e w1 ⟨v1, rfl, hv1, hr1, hg1⟩
      have no := hr.ne ho (by decide)
      have nL := hr.ne hL (by decide)
      have ho := own_grown ho hg1 no
      have hL := own_grown hL hg1 nL
      have r1 := blk_grown r1 hg1 (by simp; omega)
      have r3 := blk_grown r3 hg1 (by simp; omega)
      have hg := grown_trans hg hg1
      clear no nL hg1 CP hr
      obtain ⟨b1, o1, rfl, c1, c2⟩ := (own_rd hL).edge (k := k) hLk
      generalize hXY : ((pairsL N)[k]'hLk) = XY at *
      obtain ⟨X, Y⟩ := XY
      clear hXY
      by_cases hz : v1 = 0
      · subst hz
        have hsz := hg.size
        have hrow : some b1 ≠ (Value.slice av kv cv).ownBlock := by
          intro e
          cases av with
          | none => simp [Value.ownBlock] at e
          | some y =>
            simp only [Value.ownBlock, Option.some.injEq] at e
            exact hapr _ y rfl rfl e
        have h3 := own_ne ho r3 (by decide)
        have h1 := own_ne ho r1 (by decide)
        have d1 := grow_cell c1 hrow
        have d2 := grow_cell c2 hrow
        have d3 := grow_cell (blk_cell r3 1 (.slice av kv cv) rfl) h3
        have HO := Lib.hid ho
        have HLL := Lib.hid hL
        have H3 := Lib.hid h3
        have H1 := Lib.hid h1
        have R3 := Lib.hid r3
        have R1 := Lib.hid r1
        clear ho hL h3 h1 hrow c1 c2 r3 r1
        go_wp2
        refine wp_region_flags [true, true, true, true, true, true, false, false, false, false] 9 (C := fun w' => ∃ u : Grow w1 (Value.slice av kv cv).ownBlock, w' = u.val) (by kernel_rfl) (by kernel_rfl) ⟨⟨_, grown_drew (World.grownBy.refl _ _)⟩, rfl⟩ ?_
        simp only [pickT, pickF]
        repeat (go_big_quiet_step (fail))
        refine wpQuiet_nil ?_
        refine tail_step fun K hK => ?_
        go_wp2
        refine hK _ _ ⟨⟨_, grown_drew (World.grownBy_alloc w1 _ _)⟩, rfl⟩ ?_
        clear hK d1 d2 d3
        refine tail_step fun K2 hK2 => ?_
        change wpList _ _ _ _ _ (w1.drew.alloc (.cells #[.int .i64 X, .int .i64 Y] 48))
        refine append1g Try.infoE _ _ rfl rfl HO.out.drew (grown_drew (World.grownBy.refl w1 _)) hsz rfl rfl rfl (by intro u hu; simp at hu; rcases hu with rfl | rfl <;> rfl) (by omega) ?_
        intro a' c' w2 ho2 hg2 hf2
        refine wpList_nil ⟨rfl, hK2 _ _ ⟨⟨_, hg2⟩, rfl⟩ ?_⟩
        clear hK2
        refine tail_step fun K3 hK3 => ?_
        go_wp2
        refine hK3 _ _ ⟨⟨_, hg2⟩, rfl⟩ ?_
        clear hK3
        refine tail_last fun K4 hK4 => ?_
        have r3 := blk_grown R3.out hg2 H3.out
        have r1 := blk_grown R1.out hg2 H1.out
        have hL2 := own_kept HLL.out hg2 hapr
        have hgr := grown_row hg HO.out hg2
        have hr2 := rdr_row hr1 HO.out hg2 hRw
        have hap2 := apart_append hapr (fun x hx => by cases hx; exact (own_lt HLL.out _ rfl).2) hf2
        have k3 := blk_cell r3 1 (.slice av kv cv) rfl
        have f3 := blk_free r3 1
        have s3 := blk_set r3 1 (.slice a' (kv + 1) c')
        have s1 := blk_set_other r1 1 (.slice a' (kv + 1) c') (g := w.heap.size + 1 + 1) (by omega)
        have so := own_setOther ho2 (w.heap.size + 1 + 1) 1 (.slice a' (kv + 1) c') (own_ne ho2 r3 (by decide))
        have sL := own_setOther hL2 (w.heap.size + 1 + 1) 1 (.slice a' (kv + 1) c') (own_ne hL2 r3 (by decide))
        have sR := hr2.setOther (w.heap.size + 1 + 1) 1 (.slice a' (kv + 1) c') (by omega)
        have sB := grown_setNew hgr (w.heap.size + 1 + 1) 1 (.slice a' (kv + 1) c') (by omega)
        have S3 := Lib.hid s3
        have S1 := Lib.hid s1
        have SO := Lib.hid so
        have SL := Lib.hid sL
        have SR := Lib.hid sR
        have SB := Lib.hid sB
        have AP := Lib.hid hap2
        clear s3 s1 so sL sB sR r3 r1 ho2 hL2 hap2 hg2 hf2 hapr hg hgr hr2 hr1
        go_wp2
        go_roundw
        case rel => exact ⟨k + 1, a', kv + 1, c', F ++ [(X, Y)], p' + 1, by omega, by go_num, by rw [List.length_append, ← HKV.out]; rfl, HS1.out, by rw [edges_append]; exact SO.out, S3.out, S1.out, SL.out, AP.out, SR.out, by omega, SB.out⟩
        case measure => simp [intOf]; omega
      · have HO := Lib.hid ho
        have HLL := Lib.hid hL
        clear ho hL
        go_wp2
        go_roundw
        case rel => exact ⟨k + 1, av, kv, cv, F, p' + 1, by omega, by go_num, HKV.out, HS2.out, HO.out, r3, r1, HLL.out, hapr, hr1, by omega, hg⟩
        case measure => simp [intOf]; omega
    · have e : k = m := by omega
      subst e
      rw [HM.out, List.take_length] at hF
      have C7 := pick_any R p' 4 wr hr (by omega) (by omega)
      have hFl := hF.length_le
      rw [← HM.out] at hFl
      have hkl : kv ≤ k := by rw [hkv]; exact hFl
      have HKV := Lib.hid hkv
      have HF := Lib.hid hF
      have no := hr.ne ho (by decide)
      clear hkv hF hL
      go_wp2_with fail
      refine C7.mono ?_
      rintro e w7 ⟨v7, rfl, hv7, hr7, hg7⟩
      have ho := own_grown ho hg7 no
      have r1 := blk_grown r1 hg7 (by simp; omega)
      have r3 := blk_grown r3 hg7 (by simp; omega)
      have hg := grown_trans hg hg7
      clear no hg7 C7 hr
      have k0 := blk_cell r3 0 (.int .i64 N) rfl
      have k1 := blk_cell r3 1 (.slice av kv cv) rfl
      by_cases hz : v7 = 0
      · subst hz
        have C8 := specComplement_any N av cv kv F w7 hN HKV.out.symm (own_rd ho) (by omega)
        have HR1 := Lib.hid r1
        clear r1 r3 ho
        go_wp2_with fail
        refine C8.mono ?_
        rintro e w8 ⟨a8, c8, rfl, ho8, hb8⟩
        have ho8 := own_mono ho8 hg.size
        have r1 := blk_below HR1.out hb8
        have hr8 := hr7.below hb8
        have hg8 := grown_below hg hb8
        have hsub : (complG N F).Sublist (pairsL N) := List.filter_sublist
        generalize complG N F = H at *
        have z0 := blk_cell r1 0 (.int .i64 0) rfl
        have z1 := blk_cell r1 1 (.slice none 0 0) rfl
        have f0 := blk_free r1 0
        have f1 := blk_free r1 1
        have SO := Lib.hid (own_setOther (own_setOther ho8 (w.heap.size) 0 (.int .i64 N) (own_ne ho8 r1 (by decide))) (w.heap.size) 1 (.slice a8 H.length c8) (own_ne ho8 r1 (by decide)))
        have SB := Lib.hid (grown_setNew (grown_setNew hg8 (w.heap.size) 0 (.int .i64 N) (Nat.le_refl _)) (w.heap.size) 1 (.slice a8 H.length c8) (Nat.le_refl _))
        have SR := Lib.hid ((hr8.setOther (w.heap.size) 0 (.int .i64 N) hRw).setOther (w.heap.size) 1 (.slice a8 H.length c8) hRw)
        have HS := Lib.hid hsub
        clear ho8 hg8 hr8 r1 hsub C8 hb8 hg hr7
        go_wp2
        refine bodyPost_ret (v := graphV N a8 H.length c8) (by simp [results, Try.results148, go_sem, z0, z1]) rfl ⟨H, a8, c8, p' + 1, rfl, HS.out, SO.out, SR.out, by have := HM.out; omega, SB.out⟩
      · have z0 := blk_cell r1 0 (.int .i64 0) rfl
        have z1 := blk_cell r1 1 (.slice none 0 0) rfl
        have f0 := blk_free r1 0
        have f1 := blk_free r1 1
        have SO := Lib.hid (own_setOther (own_setOther ho (w.heap.size) 0 (.int .i64 N) (own_ne ho r1 (by decide))) (w.heap.size) 1 (.slice av kv cv) (own_ne ho r1 (by decide)))
        have SB := Lib.hid (grown_setNew (grown_setNew hg (w.heap.size) 0 (.int .i64 N) (Nat.le_refl _)) (w.heap.size) 1 (.slice av kv cv) (Nat.le_refl _))
        have SR := Lib.hid ((hr7.setOther (w.heap.size) 0 (.int .i64 N) hRw).setOther (w.heap.size) 1 (.slice av kv cv) hRw)
        clear ho hg hr7 r1 r3
        go_wp2
        refine bodyPost_ret (v := graphV N av kv cv) (by simp [results, Try.results148, go_sem, z0, z1]) rfl ⟨F, av, cv, p' + 1, by rw [HKV.out], HF.out, by rw [← HKV.out]; exact SO.out, SR.out, by have := HM.out; omega, SB.out⟩

end Go.Proofs.Ytjghcegacgpehaa
