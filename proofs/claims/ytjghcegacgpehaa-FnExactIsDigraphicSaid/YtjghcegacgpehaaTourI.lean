
/- Tournaments: the program's ValidTournament. -/
import Derived.Test.YtjghcegacgpehaaTourP
import Derived.Test.YtjghcegacgpehaaBase
namespace Go.Proofs.Ytjghcegacgpehaa
open Go.RowKit

theorem RdM.at {w : World} {a : Option Addr} {m : List (List Int)} (h : RdM w a m) {i k : Nat} (hi : i < m.length) (hk : k < (m[i]'hi).length) :
    ∃ b off bi oi ci, a = some ⟨b, off, none⟩ ∧ w.cell? ⟨b, off + i, none⟩ = some (.slice (some ⟨bi, oi, none⟩) (m[i]'hi).length ci) ∧ w.cell? ⟨bi, oi + k, none⟩ = some (.int .i64 (at2 m i k)) := by
  obtain ⟨b, off, ai, ci, ha, hc, hrd, _⟩ := h i hi
  obtain ⟨bi, oi, e, hk'⟩ := hrd.int (k := k) hk
  subst e
  exact ⟨b, off, bi, oi, ci, ha, hc, by rw [at2_get hi hk]; exact hk'⟩

set_option maxHeartbeats 2000000 in
theorem implValidTournament_any (a : Option Addr) (c n : Nat) (m : List (List Int)) (w : World) (hn : m.length = n) (hx : RdM w a m) (hl : n + sumLen m ≤ 1048576) :
    Calls Try.prog 24 #[.slice a n c] w fun e w' => e = .returned (.bool (tourB m)) ∧ Below w.heap.size w w' := by
  have C1 := implValidMatrix_any a c n m w hn hx hl
  cases hv : validM m
  · rw [hv] at C1
    have HR := Lib.hid (tour_noM hv)
    go_enter Try.func24, Try.ntmps24
    go_wp2_with fail
    refine C1.mono ?_
    rintro e w1 ⟨rfl, hb⟩
    go_wp2
    go_ret
    exact ⟨ret_bool HR.out.symm, hb⟩
  · rw [hv] at C1
    have hs := validM_size hv
    have h0m : 0 < m.length := by omega
    go_enter Try.func24, Try.ntmps24
    go_wp2_with fail
    refine C1.mono ?_
    rintro e w1 ⟨rfl, hb⟩
    clear C1
    have hx1 := hx.below hb
    clear hx
    have hrow := fun i (hi : i < m.length) => (validM_row hv hi).1
    obtain ⟨b, off, a0, c0, rfl, hc0, _⟩ := hx1 0 h0m
    rw [Nat.add_zero] at hc0
    have hg0 : (m[0]'h0m).length = (m.getD 0 []).length := hrow 0 h0m
    rw [hg0] at hc0
    by_cases hL : m.length = (m.getD 0 []).length
    · have hlen := fun i (hi : i < m.length) => (hrow i hi).trans hL.symm
      rw [← hL, hn] at hc0
      have HNo := Lib.hid (fun (i k : Nat) (h1 : i < m.length) (h2 : k < m.length) (h : okT m i k = false) => tour_no h1 h2 h)
      have hbd : ∀ i k, i < m.length → k < m.length → 0 ≤ at2 m i k ∧ at2 m i k ≤ 1 := fun i k h1 h2 => by
        have h3 : k < (m[i]'h1).length := by rw [hlen i h1]; exact h2
        rw [at2_get h1 h3]; exact (validM_row hv h1).2.2 _ (List.getElem_mem h3)
      have HYes := Lib.hid (tour_yes hv hL)
      clear hrow hL hg0 hs
      go_wp2
      go_loopw [3, 4, 19, 24] (fun _ _ i _ wr => ∃ k : Nat, k ≤ n ∧ i = .int .i64 k ∧ (∀ x, x < k → ∀ y, y < m.length → okT m x y = true) ∧ Below w1.heap.size w1 wr) (fun _ _ i _ _ => n - (intOf i).toNat)
      case atStart => exact ⟨0, by omega, rfl, by intro x hx; omega, Below.refl _ _⟩
      case round =>
        obtain ⟨i, hi, rfl, hall, hb1⟩ := hrel
        by_cases hlt : i < n
        · go_wp2
          go_loopw [4, 24] (fun _ j wr => ∃ k : Nat, k ≤ n ∧ j = .int .i64 k ∧ (∀ y, y < k → okT m i y = true) ∧ Below w1.heap.size w1 wr) (fun _ j _ => n - (intOf j).toNat)
          case atStart => exact ⟨0, by omega, rfl, by intro x hx; omega, hb1⟩
          case round =>
            obtain ⟨k, hk, rfl, hin, hb2⟩ := hrel
            by_cases hlt2 : k < n
            · have hkl : k < (m[i]'(by omega)).length := by rw [hlen i (by omega), hn]; exact hlt2
              have hil : i < (m[k]'(by omega)).length := by rw [hlen k (by omega), hn]; exact hlt
              obtain ⟨b', off', bi, oi, ci, e1, c1, c2⟩ := (hx1.below hb2).at (i := i) (k := k) (by omega) hkl
              cases e1
              obtain ⟨b', off', bk, ok, ck, e1, c3, c4⟩ := (hx1.below hb2).at (i := k) (k := i) (by omega) hil
              cases e1
              rw [hlen i (by omega), hn] at c1
              rw [hlen k (by omega), hn] at c3
              have hX := hbd i k (by omega) (by omega)
              have hY := hbd k i (by omega) (by omega)
              have HNx := Lib.hid (show okT m i k = true → ∀ y, y < k + 1 → okT m i y = true from fun h y hy => by
                by_cases e : y = k
                · subst e; exact h
                · exact hin y (by omega))
              have HF := Lib.hid (HNo.out i k (by omega) (by omega))
              have hok : okT m i k = if i = k then decide (at2 m i k = 0) else decide (at2 m i k + at2 m k i = 1) := by
                by_cases e : i = k
                · subst e; rfl
                · rw [okT, if_neg e, if_neg e]
              have HOK := Lib.hid hok
              have d1 := later_cell c1
              have d2 := later_cell c2
              have d3 := later_cell c3
              have d4 := later_cell c4
              clear hin hok hkl hil c1 c2 c3 c4
              generalize okT m i k = B at *
              by_cases hik : i = k
              · rw [if_pos hik] at HOK
                subst hik
                generalize at2 m i i = X at *
                have hb0 : ((i : Int) == (i : Int)) = true := by simp
                by_cases h0 : X = 0
                · have HR := Lib.hid (HNx.out (by rw [HOK.out]; simp [h0]))
                  have hX0 : (X != 0) = false := by simp [h0]
                  clear h0 HNx HF
                  go_wp2
                  refine wp_region_later (by kernel_rfl) (by kernel_rfl) ?_
                  repeat (go_big_quiet_step (fail))
                  refine wpQuiet_nil ?_
                  intro w5 hw'
                  have hb5 := below_tr' hb2 (later_below hw')
                  clear hw' d1 d2 d3 d4
                  go_wp2
                  go_roundw
                  case rel => exact ⟨i + 1, by omega, by go_num, HR.out, hb5⟩
                  case measure => simp [intOf]; omega
                · have HR := Lib.hid (HF.out (by rw [HOK.out]; simp [h0]))
                  have hX0 : (X != 0) = true := by simp [h0]
                  clear HNx HF
                  go_wp2
                  refine wp_region_later (by kernel_rfl) (by kernel_rfl) ?_
                  repeat (go_big_quiet_step (fail))
                  refine wpQuiet_nil ?_
                  intro w5 hw'
                  have hb5 := below_tr' hb2 (later_below hw')
                  clear hw' d1 d2 d3 d4
                  go_wp2
                  go_ret
                  exact ⟨ret_bool HR.out.symm, below_tr' hb hb5⟩
              · rw [if_neg hik] at HOK
                generalize at2 m i k = X at *
                generalize at2 m k i = Y at *
                have hb0 : ((i : Int) == (k : Int)) = false := by simp; omega
                have hb1' : ((i : Int) != (k : Int)) = true := by simp; omega
                by_cases h0 : X + Y = 1
                · have HR := Lib.hid (HNx.out (by rw [HOK.out]; simp [h0]))
                  have hX0 : (X + Y != 1) = false := by simp [h0]
                  clear h0 HNx HF
                  go_wp2
                  refine wp_region_later (by kernel_rfl) (by kernel_rfl) ?_
                  repeat (go_big_quiet_step (fail))
                  refine wpQuiet_nil ?_
                  intro w5 hw'
                  have hb5 := below_tr' hb2 (later_below hw')
                  clear hw' d1 d2 d3 d4
                  go_wp2
                  go_roundw
                  case rel => exact ⟨k + 1, by omega, by go_num, HR.out, hb5⟩
                  case measure => simp [intOf]; omega
                · have HR := Lib.hid (HF.out (by rw [HOK.out]; simp [h0]))
                  have hX0 : (X + Y != 1) = true := by simp [h0]
                  clear HNx HF
                  go_wp2
                  refine wp_region_later (by kernel_rfl) (by kernel_rfl) ?_
                  repeat (go_big_quiet_step (fail))
                  refine wpQuiet_nil ?_
                  intro w5 hw'
                  have hb5 := below_tr' hb2 (later_below hw')
                  clear hw' d1 d2 d3 d4
                  go_wp2
                  go_ret
                  exact ⟨ret_bool HR.out.symm, below_tr' hb hb5⟩
            · obtain rfl : k = n := by omega
              have HR := Lib.hid (show ∀ x, x < i + 1 → ∀ y, y < m.length → okT m x y = true from fun x hx y hy => by
                by_cases e : x = i
                · subst e; exact hin y (by omega)
                · exact hall x (by omega) y hy)
              clear hin
              go_wp2
              go_roundw
              case rel => exact ⟨i + 1, by omega, by go_num, HR.out, hb2⟩
              case measure => simp [intOf]; omega
        · obtain rfl : i = n := by omega
          have HR := Lib.hid (HYes.out (fun x hx y hy => hall x (by omega) y hy))
          clear hall
          go_wp2
          go_ret
          exact ⟨ret_bool HR.out.symm, below_tr' hb hb1⟩
    · have HR := Lib.hid (tour_noL hL)
      obtain ⟨len0, hl0⟩ : ∃ z, z = (m.getD 0 []).length := ⟨_, rfl⟩
      rw [← hl0] at hc0
      have hLb : ((n : Int) != (len0 : Int)) = true := bne_iff_ne.2 (by omega)
      have hLn : ¬ n = len0 := by omega
      clear hl0 hL hg0 hrow
      go_wp2
      go_ret
      exact ⟨ret_bool HR.out.symm, hb⟩

end Go.Proofs.Ytjghcegacgpehaa
