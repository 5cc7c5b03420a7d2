
/- Tournaments: the reference's ValidTournament. -/
import Derived.Test.YtjghcegacgpehaaTourI
namespace Go.Proofs.Ytjghcegacgpehaa
open Go.RowKit

theorem wrap_one {X Y : Int} (h1 : 0 ≤ X) (h2 : X ≤ 1) (h3 : -9223372036854775808 ≤ Y) (h4 : Y ≤ 9223372036854775807) : ∃ S, IntKind.i64.wrap (X + Y) = S ∧ decide (S = 1) = decide (X + Y = 1) := by
  by_cases h : X + Y ≤ 9223372036854775807
  · exact ⟨X + Y, IntWalk.i64_in _ ⟨by omega, by omega⟩, rfl⟩
  · refine ⟨IntKind.i64.wrap (X + Y), rfl, ?_⟩
    have e : X + Y = 9223372036854775808 := by omega
    rw [e]
    decide

theorem ok_or {m : List (List Int)} {i k : Nat} : okT m i k = if i = k then decide (at2 m i k = 0) else decide (at2 m i k + at2 m k i = 1) := by
  by_cases e : i = k
  · subst e; rfl
  · rw [okT, if_neg e, if_neg e]

set_option maxHeartbeats 4000000 in
theorem specValidTournament_any (a : Option Addr) (c n : Nat) (m : List (List Int)) (w : World) (hn : m.length = n) (hx : RdM w a m) (hl : n + sumLen m ≤ 1048576) (hwf : WfM m) :
    Calls Try.prog 87 #[.slice a n c] w fun e w' => e = .returned (.bool (tourB m)) ∧ Below w.heap.size w w' := by
  have HWF := Lib.hid hwf
  clear hwf
  go_enter Try.func87, Try.ntmps87
  go_wp2
  go_loopw [3] (fun i wr => ∃ k : Nat, k ≤ n ∧ i = .int .i64 k ∧ (∀ x (h : x < m.length), x < k → (m[x]'h).length = m.length) ∧ Below w.heap.size w wr) (fun i _ => n - (intOf i).toNat)
  case atStart => exact ⟨0, by omega, rfl, by intro x h hx; omega, Below.refl _ _⟩
  case round =>
    obtain ⟨k, hk, rfl, hall, hb⟩ := hrel
    by_cases hlt : k < n
    · have hkm : k < m.length := by omega
      obtain ⟨b, off, ak, ck, rfl, hc, _, h1, h2, h3⟩ := hx.below hb k hkm
      have HNo := Lib.hid (fun h => tour_noRow hkm h)
      have HNx := Lib.hid (show (m[k]'hkm).length = m.length → ∀ x (h : x < m.length), x < k + 1 → (m[x]'h).length = m.length from fun h0 x h h1 => by
        by_cases e : x = k
        · subst e; exact h0
        · exact hall x h (by omega))
      have HN := Lib.hid hn
      generalize (m[k]'hkm).length = len at *
      rw [hn] at HNo
      clear hall hx hn
      by_cases hL : len = n
      · have HR := Lib.hid (HNx.out (by rw [HN.out]; exact hL))
        subst hL
        clear HNo HNx
        go_wp2
        go_roundw
        case rel => exact ⟨k + 1, by omega, by go_num, HR.out, hb⟩
        case measure => simp [intOf]; omega
      · have HR := Lib.hid (HNo.out hL)
        have hL' : ((len : Int) != (n : Int)) = true := bne_iff_ne.2 (by omega)
        clear HNo HNx
        go_wp2
        go_ret
        exact ⟨ret_bool HR.out.symm, hb⟩
    · obtain rfl : k = n := by omega
      have hrow : ∀ x (h : x < m.length), (m[x]'h).length = m.length := fun x h => hall x h (by omega)
      clear hall
      have HNoIn := Lib.hid (fun (i k : Nat) (h1 : i < m.length) (h2 : k < m.length) (h : inR (at2 m i k) 0 1 = false) => tour_noIn (m := m) (i := i) (k := k) h1 (by rw [hrow i h1]; exact h2) (by rw [← at2_get h1]; exact h))
      have HNo := Lib.hid (fun (i k : Nat) (h1 : i < m.length) (h2 : k < m.length) (h : okT m i k = false) => tour_no h1 h2 h)
      have HYes := Lib.hid (fun (h : ∀ i, i < m.length → ∀ k, k < m.length → inR (at2 m i k) 0 1 = true ∧ okT m i k = true) => tour_end hrow (fun i hi k hk => by rw [← at2_get hi]; exact (h i hi k (by rw [← hrow i hi]; exact hk)).1) (fun i hi k hk => (h i hi k hk).2))
      obtain ⟨w1, rfl⟩ : ∃ w1 : World, w1 = wr := ⟨_, rfl⟩
      have hx1 := hx.below hb
      clear hx
      go_wp2
      go_loopw [4, 5] (fun i _ wr => ∃ j : Nat, j ≤ k ∧ i = .int .i64 j ∧ (∀ x, x < j → ∀ y, y < m.length → inR (at2 m x y) 0 1 = true ∧ okT m x y = true) ∧ Below w1.heap.size w1 wr) (fun i _ _ => k - (intOf i).toNat)
      case atStart => exact ⟨0, by omega, rfl, by intro x hx; omega, Below.refl _ _⟩
      case round =>
        obtain ⟨i, hi, rfl, hall, hb1⟩ := hrel
        by_cases hlt : i < k
        · go_wp2
          go_loopw [5] (fun j wr => ∃ t : Nat, t ≤ k ∧ j = .int .i64 t ∧ (∀ y, y < t → inR (at2 m i y) 0 1 = true ∧ okT m i y = true) ∧ Below w1.heap.size w1 wr) (fun j _ => k - (intOf j).toNat)
          case atStart => exact ⟨0, by omega, rfl, by intro x hx; omega, hb1⟩
          case round =>
            obtain ⟨t, ht, rfl, hin, hb2⟩ := hrel
            by_cases hlt2 : t < k
            · have him : i < m.length := by omega
              have htm : t < m.length := by omega
              have hkl : t < (m[i]'him).length := by rw [hrow i him]; exact htm
              have hil : i < (m[t]'htm).length := by rw [hrow t htm]; exact him
              obtain ⟨b', off', bi, oi, ci, e1, c1, c2⟩ := (hx1.below hb2).at (i := i) (k := t) him hkl
              cases e1
              obtain ⟨b', off', bk, ok, ck, e1, c3, c4⟩ := (hx1.below hb2).at (i := t) (k := i) htm hil
              cases e1
              rw [hrow i him, hn] at c1
              rw [hrow t htm, hn] at c3
              have hX := HWF.out i him t hkl
              have hY := HWF.out t htm i hil
              rw [← at2_get him hkl] at hX
              rw [← at2_get htm hil] at hY
              have HNx := Lib.hid (show inR (at2 m i t) 0 1 = true → okT m i t = true → ∀ y, y < t + 1 → inR (at2 m i y) 0 1 = true ∧ okT m i y = true from fun h0 h y hy => by
                by_cases e : y = t
                · subst e; exact ⟨h0, h⟩
                · exact hin y (by omega))
              have HF := Lib.hid (HNo.out i t him htm)
              have HFI := Lib.hid (HNoIn.out i t him htm)
              have HOK := Lib.hid (ok_or (m := m) (i := i) (k := t))
              have d1 := later_cell c1
              have d2 := later_cell c2
              have d3 := later_cell c3
              have d4 := later_cell c4
              have HIT := Lib.hid (show i = t → at2 m t i = at2 m i t from fun e => by rw [e])
              clear hin hkl hil c1 c2 c3 c4 hrow HNo HNoIn HYes hx1 hall HWF
              generalize okT m i t = B at *
              generalize at2 m i t = X at *
              generalize at2 m t i = Y at *
              have HE := Lib.hid (fun u : Later wr => same_below (inRange_any X 0 1 u.val))
              cases hV : inR X 0 1
              · rw [hV] at HE
                have HR := Lib.hid (HFI.out hV)
                clear HNx HF HFI HOK HIT hV
                go_wp2
                refine wp_region_later (by kernel_rfl) (by kernel_rfl) ?_
                repeat (go_big_quiet_step ((go_at_call 107; exact calls_later _ (HE.out _))))
                refine wpQuiet_nil ?_
                intro w5 hw'
                have hb5 := below_tr' hb2 (later_below hw')
                clear hw' d1 d2 d3 d4
                go_wp2
                go_ret
                exact ⟨ret_bool HR.out.symm, below_tr' hb hb5⟩
              · rw [hV] at HE
                have hXr := inR_true.1 hV
                by_cases hik : i = t
                · rw [if_pos hik] at HOK
                  subst hik
                  obtain rfl : Y = X := HIT.out rfl
                  have hb0 : ((i : Int) == (i : Int)) = true := by simp
                  by_cases h0 : Y = 0
                  · have HR := Lib.hid (HNx.out hV (by rw [HOK.out]; simp [h0]))
                    have hX0 : (Y != 0) = false := by simp [h0]
                    clear h0 HNx HF HFI hV HIT
                    go_wp2
                    refine wp_region_later (by kernel_rfl) (by kernel_rfl) ?_
                    repeat (go_big_quiet_step ((go_at_call 107; exact calls_later _ (HE.out _))))
                    refine wpQuiet_nil ?_
                    intro w5 hw'
                    have hb5 := below_tr' hb2 (later_below hw')
                    clear hw' d1 d2 d3 d4
                    go_wp2
                    go_roundw
                    case rel => exact ⟨i + 1, by omega, by go_num, HR.out, hb5⟩
                    case measure => simp [intOf]; omega
                  · have HR := Lib.hid (HF.out (by rw [HOK.out]; simp [h0]))
                    have hX0 : (Y != 0) = true := by simp [h0]
                    clear HNx HF HFI hV HIT
                    go_wp2
                    refine wp_region_later (by kernel_rfl) (by kernel_rfl) ?_
                    repeat (go_big_quiet_step ((go_at_call 107; exact calls_later _ (HE.out _))))
                    refine wpQuiet_nil ?_
                    intro w5 hw'
                    have hb5 := below_tr' hb2 (later_below hw')
                    clear hw' d1 d2 d3 d4
                    go_wp2
                    go_ret
                    exact ⟨ret_bool HR.out.symm, below_tr' hb hb5⟩
                · rw [if_neg hik] at HOK
                  obtain ⟨S, hS, hS1⟩ := wrap_one hXr.1 hXr.2 hY.1 hY.2
                  rw [← hS1] at HOK
                  have hb0 : ((i : Int) == (t : Int)) = false := by simp; omega
                  have hb1' : ((i : Int) != (t : Int)) = true := by simp; omega
                  by_cases h0 : S = 1
                  · have HR := Lib.hid (HNx.out hV (by rw [HOK.out]; simp [h0]))
                    have hX0 : (S != 1) = false := by simp [h0]
                    clear h0 HNx HF HFI hV HIT hS1 hX hY hXr
                    go_wp2
                    refine wp_region_later (by kernel_rfl) (by kernel_rfl) ?_
                    repeat (go_big_quiet_step ((go_at_call 107; exact calls_later _ (HE.out _))))
                    refine wpQuiet_nil ?_
                    intro w5 hw'
                    have hb5 := below_tr' hb2 (later_below hw')
                    clear hw' d1 d2 d3 d4
                    go_wp2
                    go_roundw
                    case rel => exact ⟨t + 1, by omega, by go_num, HR.out, hb5⟩
                    case measure => simp [intOf]; omega
                  · have HR := Lib.hid (HF.out (by rw [HOK.out]; simp [h0]))
                    have hX0 : (S != 1) = true := by simp [h0]
                    clear HNx HF HFI hV HIT hS1 hX hY hXr
                    go_wp2
                    refine wp_region_later (by kernel_rfl) (by kernel_rfl) ?_
                    repeat (go_big_quiet_step ((go_at_call 107; exact calls_later _ (HE.out _))))
                    refine wpQuiet_nil ?_
                    intro w5 hw'
                    have hb5 := below_tr' hb2 (later_below hw')
                    clear hw' d1 d2 d3 d4
                    go_wp2
                    go_ret
                    exact ⟨ret_bool HR.out.symm, below_tr' hb hb5⟩
            · obtain rfl : t = k := by omega
              have HR := Lib.hid (show ∀ x, x < i + 1 → ∀ y, y < m.length → inR (at2 m x y) 0 1 = true ∧ okT m x y = true from fun x hx y hy => by
                by_cases e : x = i
                · subst e; exact hin y (by omega)
                · exact hall x (by omega) y hy)
              clear hin
              go_wp2
              go_roundw
              case rel => exact ⟨i + 1, by omega, by go_num, HR.out, hb2⟩
              case measure => simp [intOf]; omega
        · obtain rfl : i = k := by omega
          have hy := HYes.out (fun x hx y hy => hall x (by omega) y hy)
          rw [hn] at hy
          have HR := Lib.hid hy
          have C1 := inRange_any i 1 5 wr
          generalize inR i 1 5 = V at *
          clear hall hy HYes HNo HNoIn
          go_wp2_with fail
          refine C1.mono ?_
          rintro e w2 ⟨rfl, rfl⟩
          go_wp2
          go_ret
          exact ⟨ret_bool HR.out.symm, below_tr' hb hb1⟩

theorem specVT_any (a : Option Addr) (c n : Nat) (m : List (List Int)) (w : World) (hn : m.length = n) (hx : RdM w a m) (hl : n + sumLen m ≤ 1048576) (hwf : WfM m) :
    Calls Try.prog 25 #[.slice a n c] w fun e w' => e = .returned (.bool (tourB m)) ∧ Below w.heap.size w w' := by
  have C1 := specValidTournament_any a c n m w hn hx hl hwf
  go_enter Try.func25, Try.ntmps25
  go_wp2_with fail
  refine C1.mono ?_
  rintro e w1 ⟨rfl, hb⟩
  go_wp2
  go_ret
  exact ⟨rfl, hb⟩

end Go.Proofs.Ytjghcegacgpehaa
