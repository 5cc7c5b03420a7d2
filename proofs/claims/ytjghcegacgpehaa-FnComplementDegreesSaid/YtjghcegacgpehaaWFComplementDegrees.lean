
/- The walk of the law FnComplementDegrees. -/
import Derived.Test.YtjghcegacgpehaaDegD
import Derived.Test.YtjghcegacgpehaaCompl
import Derived.Test.YtjghcegacgpehaaEqI
namespace Go.Proofs.Ytjghcegacgpehaa
open Go.RowKit

theorem validD_all {xs : List Int} : validD xs = true ↔ (∀ x ∈ xs, 0 ≤ x ∧ x ≤ (xs.length : Int) - 1) ∧ xs.length ≤ 7 := by
  simp only [validD, allR, Bool.and_eq_true, decide_eq_true_eq, List.all_eq_true, inR_true]
theorem compl_at {xs : List Int} (h : validD xs = true) (k : Nat) (hk : k < xs.length) : ∃ hk' : k < (compl xs).length, (compl xs)[k]'hk' = xs.length - 1 - xs[k]'hk := by
  have e : compl xs = upto (complF xs) xs.length := by rw [compl, eachOf, if_pos h]
  have hl : (compl xs).length = xs.length := by rw [e, upto_length]
  refine ⟨by omega, ?_⟩
  have := complF_at xs k hk
  simp only [e, upto, List.getElem_map, List.getElem_range, this]
theorem compl_length {xs : List Int} (h : validD xs = true) : (compl xs).length = xs.length := by rw [compl, eachOf, if_pos h, upto_length]
theorem compl_valid {xs : List Int} (h : validD xs = true) : validD (compl xs) = true := by
  have h1 := validD_all.1 h
  refine validD_all.2 ⟨fun x hx => ?_, by rw [compl_length h]; exact h1.2⟩
  obtain ⟨k, hk, rfl⟩ := List.getElem_of_mem hx
  have hk2 : k < xs.length := by rw [compl_length h] at hk; exact hk
  obtain ⟨_, e⟩ := compl_at h k hk2
  have := h1.1 _ (List.getElem_mem hk2)
  rw [e, compl_length h]; omega
theorem compl_compl {xs : List Int} (h : validD xs = true) : compl (compl xs) = xs := by
  have hv := compl_valid h
  refine List.ext_getElem (by rw [compl_length hv, compl_length h]) fun k h1 h2 => ?_
  obtain ⟨h3, e3⟩ := compl_at h k h2
  obtain ⟨h4, e4⟩ := compl_at hv k h3
  rw [e4, e3, compl_length h]; omega

set_option maxHeartbeats 4000000 in
set_option linter.unusedVariables false in
theorem walk_FnComplementDegrees (a_c : Option Addr) (c_c n_c : Nat) (bs : List Int) (w : World) (hc : CodeOK w a_c c_c n_c bs) :
    Calls Try.prog 7 #[.slice a_c n_c c_c] w fun e w' => e = .returned (.bool true) ∧ Below w.heap.size w w' := by
  by_cases hs : 1048576 < n_c
  · go_enter Try.func7, Try.ntmps7
    go_wp2
    go_ret
    exact ⟨rfl, Below.refl _ _⟩
  have hs' : n_c ≤ 1048576 := by omega
  have HB0 := Below.refl w.heap.size w
  go_enter Try.func7, Try.ntmps7
  have C1 := DrawComplementDegrees_any a_c c_c n_c bs w hc hs'
  go_wp2_with fail
  refine C1.mono ?_
  rintro e w1 ⟨d, a, c, rfl, hOK, hx, hb1⟩
  clear C1
  obtain ⟨n, hn⟩ : ∃ n, d.length = n := ⟨_, rfl⟩
  rw [hn]
  have hn8 := hOK.1
  have hcl := compl_len (xs := d)
  have C2 := implCompl_any a c n d w1 hn hx (by omega)
  go_wp2_with fail
  refine C2.mono ?_
  rintro e w2 ⟨a2, c2, rfl, ho2, hb2⟩
  clear C2
  have HB := below_tr' hb1 hb2
  have hx := hx.below hb2
  have hx2 := own_rd ho2
  clear ho2 hb1 hb2
  have C3 := specCompl_any a c n d w2 hn hx (by omega)
  go_wp2_with fail
  refine C3.mono ?_
  rintro e w3 ⟨a3, c3, rfl, ho3, hb3⟩
  clear C3
  have HB := below_tr' HB hb3
  have hx := hx.below hb3
  have hx2 := hx2.below hb3
  have C4 := equalInts_any a2 a3 c2 c3 _ (compl d) w3 rfl hx2 (own_rd ho3) (by omega)
  clear ho3 hb3
  go_wp2_with fail
  refine C4.mono ?_
  rintro e w4 ⟨rfl, hb4⟩
  clear C4
  have HB := below_tr' HB hb4
  have hx := hx.below hb4
  have hx2 := hx2.below hb4
  clear hb4
  have C5 := implVD_any a c n d w4 hn hx (by omega)
  cases hv : validD d
  · rw [hv] at C5
    go_wp2_with fail
    refine C5.mono ?_
    rintro e w5 ⟨rfl, hb5⟩
    clear C5
    have HB := below_tr' HB hb5
    have hx := hx.below hb5
    have hx2 := hx2.below hb5
    clear hb5
    have C6 := specCompl_any a c n d w5 hn hx (by omega)
    go_wp2_with fail
    refine C6.mono ?_
    rintro e w6 ⟨a6, c6, rfl, ho6, hb6⟩
    clear C6
    have HB := below_tr' HB hb6
    have hx2 := hx2.below hb6
    have C7 := equalInts_any a2 a6 c2 c6 _ (compl d) w6 rfl hx2 (own_rd ho6) (by omega)
    clear ho6 hb6
    go_wp2_with fail
    refine C7.mono ?_
    rintro e w7 ⟨rfl, hb7⟩
    clear C7
    have HB := below_tr' HB hb7
    go_wp2
    go_ret
    exact ⟨rfl, HB⟩
  · rw [hv] at C5
    go_wp2_with fail
    refine C5.mono ?_
    rintro e w5 ⟨rfl, hb5⟩
    clear C5
    have HB := below_tr' HB hb5
    have hx := hx.below hb5
    have hx2 := hx2.below hb5
    clear hb5
    have hcn : (compl d).length = n := by rw [compl_length hv, hn]
    have hca := fun k hk => compl_at hv k hk
    have hcc := compl_compl hv
    have hdn : ∀ (k : Nat) (hk : k < d.length), 0 ≤ d[k]'hk ∧ d[k]'hk ≤ (d.length : Int) - 1 := fun k hk => (validD_all.1 hv).1 _ (List.getElem_mem hk)
    generalize hC : compl d = C at *
    have HC := Lib.hid hC
    clear hC
    have HX := Lib.hid (And.intro hx hx2)
    clear hx hx2
    go_wp2
    go_loopw [5] (fun i wr => ∃ k : Nat, k ≤ n ∧ i = .int .i64 k ∧ Below w5.heap.size w5 wr) (fun i _ => n - (intOf i).toNat)
    case atStart => exact ⟨0, by omega, rfl, Below.refl _ _⟩
    case round =>
      obtain ⟨k, hk, rfl, hb⟩ := hrel
      have hx := HX.out.1.below hb
      have hx2 := HX.out.2.below hb
      by_cases hlt : k < n
      · obtain ⟨hk2, he⟩ := hca k (by omega)
        have hd := hdn k (by omega)
        obtain ⟨b1, o1, rfl, c1⟩ := hx.int (k := k) (by omega)
        obtain ⟨b2, o2, rfl, c2⟩ := hx2.int (k := k) hk2
        obtain ⟨X, hX⟩ : ∃ X, X = d[k]'(by omega) := ⟨_, rfl⟩
        obtain ⟨Y, hY⟩ : ∃ Y, Y = C[k]'hk2 := ⟨_, rfl⟩
        rw [← hX, ← hY] at he
        rw [← hX] at hd c1
        rw [← hY] at c2
        clear hX hY
        have d1 := later_cell c1
        have d2 := later_cell c2
        clear c1 c2 hx hx2
        go_wp2
        refine wp_region_later (by kernel_rfl) (by kernel_rfl) ?_
        repeat (go_big_quiet_step (fail))
        refine wpQuiet_nil ?_
        intro w1 hw'
        have hb1 := below_tr' hb (later_below hw')
        clear hw' d1 d2
        go_wp2
        go_roundw
        case rel => exact ⟨k + 1, by omega, by go_num, hb1⟩
        case measure => simp [intOf]; omega
      · have HB := below_tr' HB hb
        have C6 := implCompl_any a2 c2 n C wr hcn hx2 (by omega)
        rw [hcc, hn] at C6
        clear hca hdn HX hcc
        go_wp2_with fail
        refine C6.mono ?_
        rintro e w6 ⟨a6, c6, rfl, ho6, hb6⟩
        clear C6
        have HB := below_tr' HB hb6
        have hx := hx.below hb6
        have C7 := equalInts_any a6 a c6 c n d w6 hn (own_rd ho6) hx (by omega)
        clear ho6 hb6
        go_wp2_with fail
        refine C7.mono ?_
        rintro e w7 ⟨rfl, hb7⟩
        clear C7
        have HB := below_tr' HB hb7
        go_wp2
        go_ret
        exact ⟨rfl, HB⟩

end Go.Proofs.Ytjghcegacgpehaa
