
/- The reference's switches: a row of switches. (Printed by gen_swm.py.) -/
import Derived.Test.YtjghcegacgpehaaSwM
namespace Go.Proofs.Ytjghcegacgpehaa
open Go.RowKit

set_option maxHeartbeats 8000000 in
theorem switches_some (N : Int) (a : Option Addr) (c n : Nat) (es : List E2) (w : World) (hn : es.length = n) (hx : Rd w a (edges es)) (hl : n ≤ 100) :
    Calls Try.prog 146 #[graphV N a n c] w fun e w' => ∃ l a' m c', e = .returned (.slice a' m c') ∧ m ≤ 100000 ∧ GoodSw l ∧ w'.ownsRow w.heap.size 60 4 (.slice a' m c') m (sws l) ∧ Below w.heap.size w w' := by
  have hB := below_alloc2 w (.cells #[.int .i64 N, .slice a n c] 25) (.cells #[] 60)
  have qg := blk_below (heap_alloc_new w (.cells #[.int .i64 N, .slice a n c] 25)) (below_alloc _ (.cells #[] 60))
  have ho0 : ((w.alloc (.cells #[.int .i64 N, .slice a n c] 25)).alloc (.cells #[] 60)).ownsRow w.heap.size 60 4 (.slice (some ⟨w.heap.size + 1, 0, none⟩) 0 0) 0 (sws []) := by
    have h := World.ownsRow_made (base := w.heap.size) (e := 60) (size := 4) (w.alloc (.cells #[.int .i64 N, .slice a n c] 25)) #[] 0 (by simp) (by decide) rfl
    rw [show (w.alloc (.cells #[.int .i64 N, .slice a n c] 25)).heap.size = w.heap.size + 1 from by simp] at h
    exact h
  generalize hW : ((w.alloc (.cells #[.int .i64 N, .slice a n c] 25)).alloc (.cells #[] 60)) = W at *
  have HW := Lib.hid hW
  have HX := Lib.hid (fun (v : World) (hb : Below w.heap.size w v) => hx.below hb)
  have HN := Lib.hid hn
  clear hW hx hn
  go_enter Try.func146, Try.ntmps146
  go_wp2_with (simp only [HW.out])
  go_loopw [3, 4, 5, 6, 7, 8, 9] (fun v i _ _ _ _ _ wr => ∃ (k m : Nat) (av : Option Addr) (cv : Nat) (l : List S4), k ≤ n ∧ i = .int .i64 k ∧ v = .slice av m cv ∧ m ≤ 200 * k ∧ GoodSw l ∧ wr.ownsRow w.heap.size 60 4 (.slice av m cv) m (sws l) ∧ wr.heap[w.heap.size]? = some (.cells #[.int .i64 N, .slice a n c] 25 (0, 0)) ∧ Below w.heap.size w wr) (fun _ i _ _ _ _ _ _ => n - (intOf i).toNat)
  case atStart => exact ⟨0, 0, _, 0, [], by omega, rfl, rfl, by omega, goodSw_nil, ho0, qg, hB⟩
  case round =>
    clear ho0 qg hB
    obtain ⟨i, m, av, cv, l, hi, rfl, rfl, hm, hgs, ho, qg, hB⟩ := hrel
    have g1 := blk_cell qg 1 (.slice a n c) rfl
    by_cases hlt : i < n
    · have HO := Lib.hid ho
      clear ho
      go_wp2
      have ho := HO.out
      clear HO
      go_loopw [3, 5, 6, 7, 8, 9] (fun v j _ _ _ _ wr => ∃ (k m : Nat) (av : Option Addr) (cv : Nat) (l : List S4), k ≤ n ∧ i < k ∧ j = .int .i64 k ∧ v = .slice av m cv ∧ m ≤ 200 * i + 2 * k ∧ GoodSw l ∧ wr.ownsRow w.heap.size 60 4 (.slice av m cv) m (sws l) ∧ wr.heap[w.heap.size]? = some (.cells #[.int .i64 N, .slice a n c] 25 (0, 0)) ∧ Below w.heap.size w wr) (fun _ j _ _ _ _ _ => n - (intOf j).toNat)
      case atStart => exact ⟨i + 1, m, av, cv, l, by omega, by omega, by go_num, rfl, by omega, hgs, ho, qg, hB⟩
      case round =>
        clear ho qg hB hm g1 hgs
        obtain ⟨j, m, av, cv, l, hj, hij, rfl, rfl, hm, hgs, ho, qg, hB⟩ := hrel
        have g1 := blk_cell qg 1 (.slice a n c) rfl
        by_cases hlt2 : j < n
        · obtain ⟨b1, o1, ea, c1, c2⟩ := (HX.out wr hB).edge (k := i) (by rw [HN.out]; exact hlt)
          obtain ⟨b2, o2, eb, c3, c4⟩ := (HX.out wr hB).edge (k := j) (by rw [HN.out]; exact hlt2)
          rw [ea] at eb
          cases eb
          have EA := Lib.hid ea
          rw [ea] at g1
          clear ea
          generalize (es[i]'(by rw [HN.out]; exact hlt)) = XY at *
          generalize (es[j]'(by rw [HN.out]; exact hlt2)) = PQ at *
          obtain ⟨X, Y⟩ := XY
          obtain ⟨P, Q⟩ := PQ
          simp only at c1 c2 c3 c4
          have NB : ∀ b, wr.heap.size ≤ b → some b ≠ (Value.slice av m cv).ownBlock := fun b hb e => by have := (ho.lt b e.symm).2; omega
          have A1 := below_alloc wr (.cells #[.int .i64 X, .int .i64 Y] 48)
          have r1 := heap_alloc_new wr (.cells #[.int .i64 X, .int .i64 Y] 48)
          have p3 := (A1.cell (p := ⟨b1, o1 + j * 2, none⟩) (Rd.lt c3)).trans c3
          have p4 := (A1.cell (p := ⟨b1, o1 + j * 2 + 1, none⟩) (Rd.lt c4)).trans c4
          have pg := blk_cell (blk_below qg A1) 1 (.slice a n c) rfl
          rw [EA.out] at pg
          generalize hV1 : wr.alloc (.cells #[.int .i64 X, .int .i64 Y] 48) = V1 at *
          have A2 := below_alloc V1 (.cells #[.int .i64 P, .int .i64 Q] 48)
          have r2 := heap_alloc_new V1 (.cells #[.int .i64 P, .int .i64 Q] 48)
          have r1 := blk_below r1 A2
          have A12 := below_tr' A1 A2
          generalize hV2 : V1.alloc (.cells #[.int .i64 P, .int .i64 Q] 48) = V2 at *
          have u0 := blk_cell r1 0 (.int .i64 X) rfl
          have u1 := blk_cell r1 1 (.int .i64 Y) rfl
          have v0 := blk_cell r2 0 (.int .i64 P) rfl
          have v1 := blk_cell r2 1 (.int .i64 Q) rfl
          have A3 := below_alloc V2 (.cells #[.int .i64 X, .int .i64 Y, .int .i64 P, .int .i64 Q] 60)
          have r3 := heap_alloc_new V2 (.cells #[.int .i64 X, .int .i64 Y, .int .i64 P, .int .i64 Q] 60)
          have r1 := blk_below r1 A3
          have r2 := blk_below r2 A3
          have A13 := below_tr' A12 A3
          generalize hV3 : V2.alloc (.cells #[.int .i64 X, .int .i64 Y, .int .i64 P, .int .i64 Q] 60) = V3 at *
          have x0 := blk_cell r1 0 (.int .i64 X) rfl
          have x1 := blk_cell r1 1 (.int .i64 Y) rfl
          have y0 := blk_cell r2 0 (.int .i64 P) rfl
          have y1 := blk_cell r2 1 (.int .i64 Q) rfl
          have A4 := below_alloc V3 (.cells #[.int .i64 X, .int .i64 Y, .int .i64 Q, .int .i64 P] 60)
          have r4 := heap_alloc_new V3 (.cells #[.int .i64 X, .int .i64 Y, .int .i64 Q, .int .i64 P] 60)
          have r3 := blk_below r3 A4
          have A14 := below_tr' A13 A4
          generalize hV4 : V3.alloc (.cells #[.int .i64 X, .int .i64 Y, .int .i64 Q, .int .i64 P] 60) = V4 at *
          have N3 := Lib.hid (NB V2.heap.size A12.size)
          have N4 := Lib.hid (NB V3.heap.size A13.size)
          clear NB
          have H1 := Lib.hid hV1
          have H2 := Lib.hid hV2
          have H3 := Lib.hid hV3
          have H4 := Lib.hid hV4
          have qg := blk_below qg A14
          have ho := own_below ho A14
          have hB := below_tr' hB A14
          clear hV1 hV2 hV3 hV4 A1 A2 A3 A4 A12 A13 A14 r1 r2
          have g0 := blk_cell qg 0 (.int .i64 N) rfl
          have g9 := blk_cell qg 1 (.slice a n c) rfl
          have s0 := blk_cell r3 0 (.int .i64 X) rfl
          have s1 := blk_cell r3 1 (.int .i64 Y) rfl
          have s2 := blk_cell r3 2 (.int .i64 P) rfl
          have s3 := blk_cell r3 3 (.int .i64 Q) rfl
          have t0 := blk_cell r4 0 (.int .i64 X) rfl
          have t1 := blk_cell r4 1 (.int .i64 Y) rfl
          have t2 := blk_cell r4 2 (.int .i64 Q) rfl
          have t3 := blk_cell r4 3 (.int .i64 P) rfl
          have C1 := maySwitch_some N a c n es X Y P Q V4 HN.out (HX.out V4 hB) (by omega)
          have HO := Lib.hid ho
          clear ho
          go_wp2_with (first | simp only [H1.out] | simp only [H2.out] | simp only [H3.out] | simp only [H4.out])
          refine C1.mono ?_
          rintro e w5 ⟨b5, rfl, hp5, hb5⟩
          clear C1 c1 c2 c3 c4 p3 p4 pg u0 u1 v0 v1 x0 x1 y0 y1 g1
          clear g0 g9 s0 s1 s2 s3 t0 t1 t2 t3
          have qg := blk_below qg hb5
          have r3 := blk_below r3 hb5
          have r4 := blk_below r4 hb5
          have hB := below_tr' hB hb5
          have ho := own_below HO.out hb5
          clear HO hb5
          have g0 := blk_cell qg 0 (.int .i64 N) rfl
          have g9 := blk_cell qg 1 (.slice a n c) rfl
          have s0 := blk_cell r3 0 (.int .i64 X) rfl
          have s1 := blk_cell r3 1 (.int .i64 Y) rfl
          have s2 := blk_cell r3 2 (.int .i64 P) rfl
          have s3 := blk_cell r3 3 (.int .i64 Q) rfl
          have t0 := blk_cell r4 0 (.int .i64 X) rfl
          have t1 := blk_cell r4 1 (.int .i64 Y) rfl
          have t2 := blk_cell r4 2 (.int .i64 Q) rfl
          have t3 := blk_cell r4 3 (.int .i64 P) rfl
          cases b5
          · have C2 := maySwitch_some N a c n es X Y Q P w5 HN.out (HX.out w5 hB) (by omega)
            have HO := Lib.hid ho
            clear ho
            go_wp2_with fail
            refine C2.mono ?_
            rintro e w7 ⟨b7, rfl, hp7, hb7⟩
            clear C2
            clear g0 g9 s0 s1 s2 s3 t0 t1 t2 t3
            have qg := blk_below qg hb7
            have r3 := blk_below r3 hb7
            have r4 := blk_below r4 hb7
            have hB := below_tr' hB hb7
            have ho := own_below HO.out hb7
            clear HO hb7
            have g0 := blk_cell qg 0 (.int .i64 N) rfl
            have g9 := blk_cell qg 1 (.slice a n c) rfl
            have s0 := blk_cell r3 0 (.int .i64 X) rfl
            have s1 := blk_cell r3 1 (.int .i64 Y) rfl
            have s2 := blk_cell r3 2 (.int .i64 P) rfl
            have s3 := blk_cell r3 3 (.int .i64 Q) rfl
            have t0 := blk_cell r4 0 (.int .i64 X) rfl
            have t1 := blk_cell r4 1 (.int .i64 Y) rfl
            have t2 := blk_cell r4 2 (.int .i64 Q) rfl
            have t3 := blk_cell r4 3 (.int .i64 P) rfl
            cases b7
            · have HO := Lib.hid ho
              clear ho
              go_wp2
              go_roundw
              case rel => exact ⟨j + 1, m, av, cv, l, by omega, by omega, by go_num, rfl, by omega, hgs, HO.out, qg, hB⟩
              case measure => simp [intOf]; omega
            · have hs := hB.size
              go_wp2_with (at_builtin; refine append1g Try.infoS _ _ rfl rfl ho (World.grownBy.refl _ _) hs rfl rfl rfl (by intro u hu; simp at hu; rcases hu with rfl | rfl | rfl | rfl <;> rfl) (by omega) ?_; intro a8 c8 w8 ho8 hg8 hf8; have HO8 := Lib.hid ho8; have HQ8 := Lib.hid (blk_grown qg hg8 (own_ne ho qg (by decide))); have HB8 := Lib.hid (below_row hB (Nat.le_refl _) ho hg8))
              clear ho ho8 hg8 hf8
              go_roundw
              case rel => exact ⟨j + 1, m + 1, a8, c8, l ++ [(X, Y, Q, P)], by omega, by omega, by go_num, rfl, by omega, hgs.snoc (hp7 (by trivial)), by rw [sws_append]; exact HO8.out, HQ8.out, HB8.out⟩
              case measure => simp [intOf]; omega
          · have hs := hB.size
            have nr3 : some V2.heap.size ≠ (Value.slice av m cv).ownBlock := N3.out
            have nr4 : some V3.heap.size ≠ (Value.slice av m cv).ownBlock := N4.out
            go_wp2_with (at_builtin; refine append1g Try.infoS _ _ rfl rfl ho (World.grownBy.refl _ _) hs rfl rfl rfl (by intro u hu; simp at hu; rcases hu with rfl | rfl | rfl | rfl <;> rfl) (by omega) ?_; intro a6 c6 w6 ho6 hg6 hf6; have qg6 := blk_grown qg hg6 (own_ne ho qg (by decide)); have r36 := blk_grown r3 hg6 nr3; have r46 := blk_grown r4 hg6 nr4; have hB6 := below_row hB (Nat.le_refl _) ho hg6; have g0 := blk_cell qg6 0 (.int .i64 N) rfl; have g9 := blk_cell qg6 1 (.slice a n c) rfl; have s0 := blk_cell r36 0 (.int .i64 X) rfl; have t0 := blk_cell r46 0 (.int .i64 X) rfl; have t1 := blk_cell r46 1 (.int .i64 Y) rfl; have t2 := blk_cell r46 2 (.int .i64 Q) rfl; have t3 := blk_cell r46 3 (.int .i64 P) rfl; have HO6 := Lib.hid ho6; clear ho ho6 hg6 hf6)
            have ho : w6.ownsRow w.heap.size 60 4 (.slice a6 (m + 1) c6) (m + 1) (sws (l ++ [(X, Y, P, Q)])) := by rw [sws_append]; exact HO6.out
            have hgs := hgs.snoc (hp5 (by trivial))
            have qg := qg6
            have r3 := r36
            have r4 := r46
            have hB := hB6
            clear HO6 qg6 r36 r46 hB6
            have C2 := maySwitch_some N a c n es X Y Q P w6 HN.out (HX.out w6 hB) (by omega)
            have HO := Lib.hid ho
            clear ho
            go_wp2_with fail
            refine C2.mono ?_
            rintro e w7 ⟨b7, rfl, hp7, hb7⟩
            clear C2
            clear g0 g9 s0 s1 s2 s3 t0 t1 t2 t3
            have qg := blk_below qg hb7
            have r3 := blk_below r3 hb7
            have r4 := blk_below r4 hb7
            have hB := below_tr' hB hb7
            have ho := own_below HO.out hb7
            clear HO hb7
            have g0 := blk_cell qg 0 (.int .i64 N) rfl
            have g9 := blk_cell qg 1 (.slice a n c) rfl
            have s0 := blk_cell r3 0 (.int .i64 X) rfl
            have s1 := blk_cell r3 1 (.int .i64 Y) rfl
            have s2 := blk_cell r3 2 (.int .i64 P) rfl
            have s3 := blk_cell r3 3 (.int .i64 Q) rfl
            have t0 := blk_cell r4 0 (.int .i64 X) rfl
            have t1 := blk_cell r4 1 (.int .i64 Y) rfl
            have t2 := blk_cell r4 2 (.int .i64 Q) rfl
            have t3 := blk_cell r4 3 (.int .i64 P) rfl
            cases b7
            · have HO := Lib.hid ho
              clear ho
              go_wp2
              go_roundw
              case rel => exact ⟨j + 1, (m + 1), a6, c6, (l ++ [(X, Y, P, Q)]), by omega, by omega, by go_num, rfl, by omega, hgs, HO.out, qg, hB⟩
              case measure => simp [intOf]; omega
            · have hs := hB.size
              go_wp2_with (at_builtin; refine append1g Try.infoS _ _ rfl rfl ho (World.grownBy.refl _ _) hs rfl rfl rfl (by intro u hu; simp at hu; rcases hu with rfl | rfl | rfl | rfl <;> rfl) (by omega) ?_; intro a8 c8 w8 ho8 hg8 hf8; have HO8 := Lib.hid ho8; have HQ8 := Lib.hid (blk_grown qg hg8 (own_ne ho qg (by decide))); have HB8 := Lib.hid (below_row hB (Nat.le_refl _) ho hg8))
              clear ho ho8 hg8 hf8
              go_roundw
              case rel => exact ⟨j + 1, (m + 1) + 1, a8, c8, (l ++ [(X, Y, P, Q)]) ++ [(X, Y, Q, P)], by omega, by omega, by go_num, rfl, by omega, hgs.snoc (hp7 (by trivial)), by rw [sws_append]; exact HO8.out, HQ8.out, HB8.out⟩
              case measure => simp [intOf]; omega
        · have HO := Lib.hid ho
          clear ho
          go_wp2
          go_roundw
          case rel => exact ⟨i + 1, m, av, cv, l, by omega, by go_num, rfl, by omega, hgs, HO.out, qg, hB⟩
          case measure => simp [intOf]; omega
    · have HO := Lib.hid ho
      clear ho
      go_wp2
      go_ret
      exact ⟨l, av, m, cv, rfl, by omega, hgs, HO.out, hB⟩

end Go.Proofs.Ytjghcegacgpehaa
