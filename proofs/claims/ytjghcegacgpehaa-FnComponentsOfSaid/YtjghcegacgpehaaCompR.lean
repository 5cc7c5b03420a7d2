
/- The program's roots and components. -/
import Derived.Test.YtjghcegacgpehaaCompS
import Derived.Test.YtjghcegacgpehaaIdx
import Derived.Test.YtjghcegacgpehaaGrowL
import Derived.Test.YtjghcegacgpehaaBlk
namespace Go.Proofs.Ytjghcegacgpehaa
open Go.RowKit

theorem upI_intsN (N : Nat) : upI N = intsN (List.range N) := rfl
theorem intsN_set (s : List Nat) (k v : Nat) : (ints (intsN s)).set k (.int .i64 (v : Int)) = ints (intsN (s.set k v)) := by simp [intsN, ints, List.map_set]
theorem own_natSet {w : World} {B n c g : Nat} {s : List Nat} (ho : w.ownsRow B 3 1 (.slice (some ⟨g, 0, none⟩) n c) n (ints (intsN s))) (k v : Nat) :
    (w.setCell ⟨g, k, none⟩ (.int .i64 (v : Int))).ownsRow B 3 1 (.slice (some ⟨g, 0, none⟩) n c) n (ints (intsN (s.set k v))) := by
  rw [← intsN_set]; exact (ho.stored k _).1
theorem own_natAt {w : World} {B n c g : Nat} {s : List Nat} (ho : w.ownsRow B 3 1 (.slice (some ⟨g, 0, none⟩) n c) n (ints (intsN s))) (k : Nat) (hk : k < n) : w.cell? ⟨g, k, none⟩ = some (.int .i64 ((s.getD k 0 : Nat) : Int)) := by
  have hl := ho.1
  rw [ints_length, intsN_length, Nat.mul_one] at hl
  rw [ho.cellAt k (by omega)]
  rw [ints, intsN, List.getElem?_map, List.getElem?_map, List.getElem?_eq_getElem (by omega), List.getD_eq_getElem?_getD, List.getElem?_eq_getElem (by omega)]; rfl
theorem sweepL_take {es : List N2} {s : List Nat} {k : Nat} (h : k < es.length) : sweepL (es.take (k + 1)) s = stepL (sweepL (es.take k) s) (es[k]'h) := by
  rw [List.take_succ_eq_append_getElem h, sweepL, List.foldl_append]; rfl
theorem stepL_of {s : List Nat} {x y p q m : Nat} (hx : s.getD x 0 = p) (hy : s.getD y 0 = q) (h : (m : Int) = if (p : Int) ≤ q then (p : Int) else q) : stepL s (x, y) = (s.set x m).set y m := by
  have : min (s.getD x 0) (s.getD y 0) = m := by
    rw [hx, hy]
    split at h <;> omega
  rw [stepL, this]

set_option maxHeartbeats 8000000 in
theorem roots_any (N : Nat) (a : Option Addr) (c n : Nat) (es : List E2) (w : World) (hN : N ≤ 7) (hE : ∀ k (h : k < es.length), 0 ≤ (es[k]'h).1 ∧ (es[k]'h).1 < (es[k]'h).2 ∧ (es[k]'h).2 < N) (hn : es.length = n) (hx : Rd w a (edges es)) (hl : n ≤ 1048576) :
    Calls Try.prog 166 #[graphV N a n c] w fun e w' => ∃ a' c', e = .returned (.slice a' N c') ∧ w'.ownsRow w.heap.size 3 1 (.slice a' N c') N (ints (intsN (labels (ne2 es) N))) ∧ Below w.heap.size w w' := by
  have hB := below_alloc w (.cells #[.int .i64 N, .slice a n c] 25)
  have q0 := heap_alloc_new w (.cells #[.int .i64 N, .slice a n c] 25)
  have hx1 := hx.below hB
  have hWs : w.heap.size < (w.alloc (.cells #[.int .i64 N, .slice a n c] 25)).heap.size := by simp
  generalize hW : w.alloc (.cells #[.int .i64 N, .slice a n c] 25) = W at *
  have HW := Lib.hid hW
  clear hW hx
  have g0 := blk_cell q0 0 (.int .i64 N) rfl
  have g1 := blk_cell q0 1 (.slice a n c) rfl
  have hok := ne2_okay hE
  have C1 := indices_any N W (by omega)
  go_enter Try.func166, Try.ntmps166
  go_wp2_with (simp only [HW.out])
  refine C1.mono ?_
  rintro e w1 ⟨aR, cR, rfl, ho, hb⟩
  rw [upI_intsN] at ho
  clear C1 g0 g1
  have HC := Lib.hid (fun (wr : World) (hb : Below W.heap.size W wr) => And.intro (blk_cell (blk_below q0 hb) 0 (.int .i64 N) rfl) (blk_cell (blk_below q0 hb) 1 (.slice a n c) rfl))
  have HX := Lib.hid (fun (wr : World) (hb : Below W.heap.size W wr) => hx1.below hb)
  have HSL := Lib.hid (fun k => roundsL_succ (ne2 es) k (List.range N))
  have HLAB := Lib.hid (show labels (ne2 es) N = roundsL (ne2 es) N (List.range N) from rfl)
  have HL := Lib.hid (fun k => roundsL_length (ne2 es) k (List.range N))
  have HO0 := Lib.hid ho
  have HB0 := Lib.hid hb
  obtain ⟨g0, g1⟩ := HC.out _ hb
  clear ho hb q0 hx1
  go_wp2
  go_loopw [5, 6, 12, 17] (fun _ _ i _ wr => ∃ k : Nat, k ≤ N ∧ i = .int .i64 k ∧ wr.ownsRow W.heap.size 3 1 (.slice aR N cR) N (ints (intsN (roundsL (ne2 es) k (List.range N)))) ∧ Below W.heap.size W wr) (fun _ _ i _ _ => N - (intOf i).toNat)
  case atStart => exact ⟨0, by omega, rfl, HO0.out, HB0.out⟩
  case round =>
    clear HO0 HB0 g0 g1
    obtain ⟨k, hk, rfl, ho, hb⟩ := hrel
    obtain ⟨g0, g1⟩ := HC.out _ hb
    by_cases hlt : k < N
    · obtain ⟨g, ea, hgB, _⟩ := own_head ho (by omega)
      subst ea
      have hR := HL.out k
      rw [List.length_range] at hR
      have HN := Lib.hid (HSL.out k)
      generalize hS : roundsL (ne2 es) k (List.range N) = S0 at *
      clear hS
      have hg0B : w.heap.size < g := by omega
      go_wp2
      go_loopw [5, 6, 17] (fun _ _ i wr => ∃ j : Nat, j ≤ n ∧ i = .int .i64 j ∧ wr.ownsRow W.heap.size 3 1 (.slice (some ⟨g, 0, none⟩) N cR) N (ints (intsN (sweepL ((ne2 es).take j) S0))) ∧ Below W.heap.size W wr) (fun _ _ i _ => n - (intOf i).toNat)
      case atStart => exact ⟨0, by omega, rfl, by simpa [sweepL] using ho, hb⟩
      case round =>
        clear ho hb g0 g1
        obtain ⟨j, hj, rfl, ho, hb⟩ := hrel
        obtain ⟨g0, g1⟩ := HC.out _ hb
        by_cases hlt2 : j < n
        · have hjl : j < es.length := by omega
          have hEj := hE j hjl
          obtain ⟨b1, o1, ea, c1, c2⟩ := (HX.out _ hb).edge hjl
          subst ea
          obtain ⟨x, hx⟩ : ∃ x : Nat, (es[j]'hjl).1 = x := ⟨(es[j]'hjl).1.toNat, by omega⟩
          obtain ⟨y, hy⟩ : ∃ y : Nat, (es[j]'hjl).2 = y := ⟨(es[j]'hjl).2.toNat, by omega⟩
          have hne := ne2_get hjl (x := x) (y := y) (by rw [← hx, ← hy])
          have hst := sweepL_take (s := S0) (k := j) (by rw [ne2_length]; exact hjl)
          rw [hne] at hst
          have HST := Lib.hid hst
          rw [hx] at c1 hEj
          rw [hy] at c2 hEj
          have hxN : x < N := by omega
          have hyN : y < N := by omega
          have hsl := sweepL_length ((ne2 es).take j) S0
          clear hx hy hne hst hEj
          generalize hS : sweepL ((ne2 es).take j) S0 = S1 at *
          clear hS
          have hA1 := below_alloc wr (.cells #[.int .i64 (x : Int), .int .i64 (y : Int)] 48)
          have qe := heap_alloc_new wr (.cells #[.int .i64 (x : Int), .int .i64 (y : Int)] 48)
          have hlt9 := (own_lt ho _ rfl).2
          have hne : wr.heap.size ≠ g := by simp at hlt9; omega
          have ho := own_below ho hA1
          have hb := hb.trans (hA1.mono hb.size)
          have e0 := blk_cell qe 0 (.int .i64 (x : Int)) rfl
          have e1 := blk_cell qe 1 (.int .i64 (y : Int)) rfl
          have a1 := own_natAt ho x hxN
          have a2 := own_natAt ho y hyN
          obtain ⟨p, hp⟩ : ∃ p, p = S1.getD x 0 := ⟨_, rfl⟩
          obtain ⟨q, hq⟩ : ∃ q, q = S1.getD y 0 := ⟨_, rfl⟩
          rw [← hp] at a1
          rw [← hq] at a2
          have HSO := Lib.hid (fun (m : Nat) (h : (m : Int) = if (p : Int) ≤ q then (p : Int) else q) => HST.out.trans (stepL_of hp.symm hq.symm h))
          clear hp hq HST hA1
          have d0 := later_cell e0
          have d1 := later_cell e1
          have d2 := later_cell a1
          have d3 := later_cell a2
          go_wp2
          generalize hV : wr.alloc (.cells #[.int .i64 (x : Int), .int .i64 (y : Int)] 48) = wa at *
          clear hV
          refine wp_region_flags [true, true, true, true, true, true, true, true, true, true, false, false] 11 (C := fun w' => ∃ u : Later wa, w' = u.val) (by kernel_rfl) (by kernel_rfl) ⟨⟨_, bel_drew (Below.refl _ _)⟩, rfl⟩ ?_
          simp only [pickT, pickF]
          repeat (go_big_quiet_step (fail))
          refine wpQuiet_nil ?_
          clear d0 d1 d2 d3
          refine tail_step fun K hK => ?_
          go_wp2
          all_goals
            refine hK _ _ ⟨⟨_, bel_drew (Below.refl _ _)⟩, rfl⟩ ?_
            clear hK
            obtain ⟨m, hm, hHR⟩ : ∃ m : Nat, (m : Int) = (if (p : Int) ≤ q then (p : Int) else q) ∧ sweepL ((ne2 es).take (j + 1)) S0 = (S1.set x m).set y m := by
              by_cases h9 : p ≤ q
              · exact ⟨p, by rw [if_pos (by omega)], HSO.out p (by rw [if_pos (by omega)])⟩
              · exact ⟨q, by rw [if_neg (by omega)], HSO.out q (by rw [if_neg (by omega)])⟩
            have HR := Lib.hid hHR
            clear hHR
            have hm2 : (q < p ∧ m = q) ∨ (¬ q < p ∧ m = p) := by split at hm <;> omega
            clear hm HSO
            rcases hm2 with ⟨h8, rfl⟩ | ⟨h8, rfl⟩
            all_goals first | (exfalso; omega) | skip
            have ho := own_below ho (bel_drew (Below.refl wa.heap.size wa))
            have hb := bel_drew hb
            have qe := blk_below qe (bel_drew (Below.refl wa.heap.size wa))
            clear e0 e1 a1 a2
            refine tail_last fun K hK => ?_
            go_wp2
            generalize wa.drew = wb at *
            have d0 := growl_cell (l := [g]) (blk_cell qe 0 (.int .i64 (x : Int)) rfl) (by simp; omega)
            have d1 := growl_cell (l := [g]) (blk_cell qe 1 (.int .i64 (y : Int)) rfl) (by simp; omega)
            have cz1 := own_natAt ho x hxN
            have f1 := ho.frozenAt x
            have HO1 := Lib.hid (own_natSet ho x m)
            have HB1 := Lib.hid (hb.setCell (p := ⟨g, x, none⟩) hgB (.int .i64 (m : Int)))
            have hI0 : InL wb [g] wb.drew := ⟨Nat.le_refl _, fun _ _ _ => rfl⟩
            have I1 := Lib.hid (hI0.set g x (.int .i64 (m : Int)) (.inl (by simp)))
            clear ho hb qe
            refine wp_region_flags [true, true, true, true, true, true, true, true, true, false, false, false] 11 (C := fun w' => ∃ u : GrowL wb [g], w' = u.val) (by kernel_rfl) (by kernel_rfl) ⟨⟨_, hI0⟩, rfl⟩ ?_
            simp only [pickT, pickF]
            repeat (go_big_quiet_step (fail))
            refine wpQuiet_nil ?_
            clear d0 d1
            refine tail_step fun K hK => ?_
            go_wp2
            refine hK _ _ ⟨⟨_, I1.out⟩, rfl⟩ ?_
            clear hK
            refine tail_step fun K hK => ?_
            go_wp2
            refine hK _ _ ⟨⟨_, I1.out⟩, rfl⟩ ?_
            clear hK
            have ho := own_below HO1.out (bel_drew (Below.refl _ _))
            have hb := bel_drew HB1.out
            change wpTail _ _ _ _ _ _ ((wb.setCell ⟨g, x, none⟩ (.int .i64 (m : Int))).drew)
            generalize (wb.setCell ⟨g, x, none⟩ (.int .i64 (m : Int))).drew = wc at *
            have cz2 := own_natAt ho y hyN
            have f2 := ho.frozenAt y
            have HO2 := Lib.hid (own_natSet ho y m)
            have HB2 := Lib.hid (hb.setCell (p := ⟨g, y, none⟩) hgB (.int .i64 (m : Int)))
            clear ho hb I1 hI0 HO1 HB1 cz1 f1
            refine tail_last fun K hK => ?_
            go_wp2
            go_roundw
            case rel => exact ⟨j + 1, by omega, by go_num, by rw [HR.out]; exact HO2.out, HB2.out⟩
            case measure => simp [intOf]; omega
        · obtain rfl : j = n := by omega
          have e : (ne2 es).take j = ne2 es := List.take_of_length_le (by rw [ne2_length]; omega)
          rw [e] at ho
          rw [← HN.out] at ho
          have HO := Lib.hid ho
          clear ho
          go_wp2
          go_roundw
          case rel => exact ⟨k + 1, by omega, by go_num, HO.out, hb⟩
          case measure => simp [intOf]; omega
    · obtain rfl : k = N := by omega
      rw [← HLAB.out] at ho
      have HO := Lib.hid (own_mono ho (Nat.le_of_lt hWs))
      have HBF := below_tr' hB hb
      clear ho
      go_wp2
      go_ret
      exact ⟨aR, cR, rfl, HO.out, HBF⟩

theorem ClipII_any (a : Option Addr) (c n : Nat) (w : World) (_h : n ≤ c) (_hl : n ≤ 1048576) :
    Calls Try.prog 168 #[.slice a n c] w fun e w' => e = .returned (.slice a n n) ∧ w' = w := by
  go_enter Try.func168, Try.ntmps168
  go_wp2
  go_ret
  exact ⟨rfl, rfl⟩

end Go.Proofs.Ytjghcegacgpehaa
