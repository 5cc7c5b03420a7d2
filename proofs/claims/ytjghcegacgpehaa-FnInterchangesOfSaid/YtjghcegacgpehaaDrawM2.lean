
/- Drawn matrices: the reference's someMatrix, and the drawn inputs that are one matrix. -/
import Derived.Test.YtjghcegacgpehaaDrawM
import Derived.Test.YtjghcegacgpehaaMatC
namespace Go.Proofs.Ytjghcegacgpehaa
open Go.RowKit

theorem rd_blkM {w : World} {b : Nat} {arr : Array Value} {T : TypeId} {f : Nat × Nat} {cs : List Value} (h : w.heap[b]? = some (.cells arr T f)) (hc : arr.toList = cs) : Rd w (some ⟨b, 0, none⟩) cs := by
  intro j u hu
  refine ⟨b, 0, rfl, ?_⟩
  rw [Nat.zero_add]
  refine blk_cell h j u ?_
  rw [← hc] at hu
  simpa using hu
theorem set2_small {m : List (List Int)} {n cl : Nat} (h : BitsM n cl m) (hn : n ≤ 5) (hc : cl ≤ 5) (i k : Nat) {v : Int} (hv : -1 ≤ v ∧ v ≤ 2) : SmallM (set2 m i k v) := by
  have hs := h.small hn hc
  refine ⟨by simp only [set2, List.length_set]; exact hs.1, ?_⟩
  intro X hX
  simp only [set2] at hX
  rcases List.mem_or_eq_of_mem_set hX with h1 | h1
  · exact hs.2 X h1
  · subst h1
    have hrow : (m.getD i []).length ≤ 5 ∧ ∀ v ∈ m.getD i [], -1 ≤ v ∧ v ≤ 2 := by
      rw [List.getD_eq_getElem?_getD]
      cases hg : m[i]? with
      | none => simp
      | some Y => exact hs.2 Y (List.mem_of_getElem? hg)
    refine ⟨by rw [List.length_set]; exact hrow.1, ?_⟩
    intro u hu
    rcases List.mem_or_eq_of_mem_set hu with h2 | h2
    · exact hrow.2 u h2
    · rw [h2]; exact hv

set_option maxHeartbeats 8000000 in
theorem someMatrix_any (R p : Nat) (w : World) (h : RdrAt w R p) (hp : p ≤ 100000) :
    Calls Try.prog 120 #[.pointer (some ⟨R, 0, none⟩)] w fun e w' => ∃ (m : List (List Int)) (a : Option Addr) (c p' : Nat), e = .returned (.slice a m.length c) ∧ SmallM m ∧ HoldsM w.heap.size w'.heap.size a m.length m w' ∧ RdrAt w' R p' ∧ p' ≤ p + 40 ∧ w.grownBy w' (some R) := by
  have hRw := h.lt
  have C1 := pick_any R p 5 w h (by omega) (by omega)
  clear h
  go_enter Try.func120, Try.ntmps120
  go_wp2_with fail
  refine C1.mono ?_
  rintro e w1 ⟨v1, rfl, hv1, hr1, hg1⟩
  clear C1
  have C2 := pick_any R (p + 1) 5 w1 hr1 (by omega) (by omega)
  go_wp2_with fail
  refine C2.mono ?_
  rintro e w2 ⟨v2, rfl, hv2, hr2, hg2⟩
  have hg2 := grown_trans hg1 hg2
  clear C2 hr1 hg1
  have C3 := aMatrix_any R (p + 2) (1 + v1) (1 + v2) w2 hr2 (by omega) (by omega) (by omega)
  rw [show ((1 + v1 : Nat) : Int) = 1 + (v1 : Int) from by omega, show ((1 + v2 : Nat) : Int) = 1 + (v2 : Int) from by omega] at C3
  have hs2 := hg2.size
  go_wp2_with fail
  refine C3.mono ?_
  rintro e w3 ⟨m, am, cm, rs, p3, rfl, hbm, hM, hr3, hp3, hg3⟩
  have hg3 := grown_trans hg2 hg3
  obtain ⟨g, rfl, hgB, _⟩ := own_head hM.2.2.1 (by omega)
  have hn5 : 1 + v1 ≤ 5 := by omega
  have hc5 : 1 + v2 ≤ 5 := by omega
  have hM := hM.mono hs2
  obtain ⟨n, hn⟩ : ∃ n, n = 1 + v1 := ⟨_, rfl⟩
  obtain ⟨cl, hcl⟩ : ∃ cl, cl = 1 + v2 := ⟨_, rfl⟩
  rw [← hn] at hbm hM hn5 ⊢
  rw [← hcl] at hbm hc5
  have hn1 : 1 ≤ n := by omega
  have hc1 : 1 ≤ cl := by omega
  clear C3 hr2 hg2 hv1 hv2 hn hcl
  have C4 := pick_any R p3 30 w3 hr3 (by omega) (by omega)
  go_wp2_with fail
  refine C4.mono ?_
  rintro e w4 ⟨v3, rfl, hv3, hr4, hg4⟩
  have hM := hM.grownR hg4 hRw
  have hg4 := grown_trans hg3 hg4
  clear C4 hr3 hg3
  have hgR : some g ≠ some R := by simp; omega
  have hbs := hbm.small hn5 hc5
  have hs4 := hg4.size
  by_cases hz0 : v3 = 0
  · subst hz0
    have d1 := grow_cell (hM.cellRow hbm.rect (by omega) (i := 0) (by omega)) (row := some R) hgR
    have cn := hM.cellNum hbm.rect (i := 0) (k := 0) (by omega) (by omega)
    have bd := bel_drew (Below.refl w4.heap.size w4)
    have gd := below_grownby bd (some R)
    have CV := one_any R (p3 + 1) (some ⟨w4.drew.heap.size, 0, none⟩) 2 2 [2, -1] (w4.drew.alloc (.cells #[.int .i64 2, .int .i64 (-1)] 3)) ((hr4.below bd).below (below_alloc _ _)) (by omega) rfl (by omega) (by omega) (rd_blkM (heap_alloc_new _ _) rfl) (by intro x h; cases h; have := hr4.lt; simp; omega)
    have ga := grown_below gd (below_alloc w4.drew (.cells #[.int .i64 2, .int .i64 (-1)] 3))
    have hM4 := Lib.hid hM
    clear hM
    go_wp2
    refine wp_region_flags [true, true, true, true, false, false, false, false] 7 (C := fun w' => ∃ u : Grow w4 (some R), w' = u.val) (by kernel_rfl) (by kernel_rfl) ⟨⟨_, grown_drew (World.grownBy.refl _ _)⟩, rfl⟩ ?_
    simp only [pickT, pickF]
    repeat (go_big_quiet_step (fail))
    refine wpQuiet_nil ?_
    clear d1
    refine tail_step fun K hK => ?_
    go_wp2
    refine hK _ _ ⟨⟨_, ga⟩, rfl⟩ ?_
    clear hK
    refine tail_step fun K hK => ?_
    go_wp2_with fail
    refine CV.mono ?_
    rintro e w5 ⟨v5, hv5, rfl, hr5, hg5⟩
    have hg5 := grown_trans ga hg5
    go_wp2
    refine hK _ _ ⟨⟨_, hg5⟩, rfl⟩ ?_
    clear hK CV ga gd bd
    refine tail_step fun K hK => ?_
    go_wp2
    refine hK _ _ ⟨⟨_, hg5⟩, rfl⟩ ?_
    clear hK
    have hM := hM4.out.grownR hg5 hRw
    have hgA := grown_trans hg4 hg5
    have hv5 : -1 ≤ v5 ∧ v5 ≤ 2 := by
      simp only [List.mem_cons, List.not_mem_nil, or_false] at hv5
      omega
    have cn := hM.cellNum hbm.rect (i := 0) (k := 0) (by omega) (by omega)
    have hRB : R < rowB rs 0 := by have := cn.2.2.1; omega
    have M1 := Lib.hid (hM.put hbm.rect (i := 0) (k := 0) (by omega) (by omega) v5)
    have R1 := Lib.hid (hr5.setOther (rowB rs 0) 0 (.int .i64 v5) hRB)
    have G1 := Lib.hid (grown_setNew hgA (rowB rs 0) 0 (.int .i64 v5) cn.2.2.1)
    have S1 := Lib.hid (set2_small hbm hn5 hc5 0 0 hv5)
    have L1 := Lib.hid (show (set2 m 0 0 v5).length = n by simp only [set2, List.length_set]; exact hbm.1)
    have x1 := cn.1
    have f1 := cn.2.1
    clear cn hM hgA hr5 hg5 hM4
    refine tail_last fun K hK => ?_
    go_wp2
    go_ret
    exact ⟨_, _, cm, p3 + 1 + 1, by rw [L1.out]; rfl, S1.out, by rw [L1.out]; exact HoldsM.of (ownC_of M1.out) (Nat.le_refl _), R1.out, by omega, G1.out⟩
  · by_cases hz1 : v3 = 1
    · subst hz1
      have hA := below_alloc w4 (.cells #[.int .i64 1] 3)
      have ho0 : (w4.alloc (.cells #[.int .i64 1] 3)).ownsRow w.heap.size 3 1 (.slice (some ⟨w4.heap.size, 0, none⟩) 1 1) 1 (ints [1]) :=
        ⟨rfl, .inr ⟨w4.heap.size, 1, #[.int .i64 1], rfl, hs4, heap_alloc_new _ _, Nat.le_refl _, by decide, rfl, rfl⟩⟩
      have hap : ApartA rs (some ⟨w4.heap.size, 0, none⟩) := ApartA.fresh hM.2.2.2.1 (by rw [hM.1, hM.2.1]) (fun x hx => by cases hx; exact Nat.le_refl _)
      have hM := hM.below hA
      have hr := hr4.below hA
      have hg := grown_below hg4 hA
      have hs := hg.size
      obtain ⟨A1, hA1⟩ : ∃ A1, A1 = w4.heap.size := ⟨_, rfl⟩
      rw [← hA1] at ho0 hap
      generalize hV : w4.alloc (.cells #[.int .i64 1] 3) = W5 at *
      have HV := Lib.hid hV
      have HA1 := Lib.hid hA1.symm
      have hb0 := (Below.refl W5.heap.size W5).mono hs
      clear hV hA1
      go_wp2_with (first | simp only [HV.out, HA1.out] | at_builtin; refine pushRow _ _ rfl rfl hM hap (X := [1]) rfl ho0 hb0 (Nat.le_refl _) hs rfl rfl (by omega) ?_; intro a' c' w5 hM5 hb5)
      have HM := Lib.hid hM5
      have HR := Lib.hid (hr.low hb5 hRw)
      have HG := Lib.hid (grown_low hg hb5)
      have HL := Lib.hid (show (m ++ [[1]]).length = n + 1 by rw [List.length_append, hbm.1]; rfl)
      have HS := Lib.hid (show SmallM (m ++ [[1]]) from ⟨by rw [HL.out]; omega, fun X hX => by
        rcases List.mem_append.1 hX with h1 | h1
        · exact hbs.2 X h1
        · rw [List.mem_singleton.1 h1]; simp⟩)
      clear hM5 hb5 hM hr hg hs hb0 ho0 hap hA
      go_wp2
      go_ret
      exact ⟨_, _, c', p3 + 1, by rw [HL.out]; rfl, HS.out, by rw [HL.out]; exact HoldsM.of (ownC_of HM.out) (Nat.le_refl _), HR.out, by omega, HG.out⟩
    · by_cases hz2 : v3 = 2
      · subst hz2
        have hA := below_alloc w4 (.cells #[] 38)
        have HR := Lib.hid (hr4.below hA)
        have HG := Lib.hid (grown_below hg4 hA)
        have HM := Lib.hid (HoldsM.of (ownC_of (ownM_nil w4)) hs4)
        clear hA hM
        go_wp2
        go_ret
        exact ⟨[], _, 0, p3 + 1, rfl, ⟨by simp, by simp⟩, HM.out, HR.out, by omega, HG.out⟩
      · have HM := Lib.hid hM
        have HL := Lib.hid hbm.1
        clear hM
        go_wp2
        go_ret
        exact ⟨m, _, cm, p3 + 1, by rw [HL.out]; rfl, hbs, by rw [HL.out]; exact HoldsM.of (ownC_of HM.out) (Nat.le_refl _), hr4, by omega, hg4⟩

end Go.Proofs.Ytjghcegacgpehaa
