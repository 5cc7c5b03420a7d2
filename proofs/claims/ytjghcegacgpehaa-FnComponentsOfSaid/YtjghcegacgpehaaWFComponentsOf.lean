
/- The walk of the law FnComponentsOf. (Printed by laws_f.py.) -/
import Derived.Test.YtjghcegacgpehaaPlainCp
import Derived.Test.YtjghcegacgpehaaEqL
import Derived.Test.YtjghcegacgpehaaDraw1
import Derived.Test.YtjghcegacgpehaaWhich
namespace Go.Proofs.Ytjghcegacgpehaa
open Go.RowKit

theorem own_setC {w : World} {B T n c g : Nat} {xs : List Int} (ho : w.ownsRow B T 1 (.slice (some ⟨g, 0, none⟩) n c) n (ints xs)) (i : Nat) (v : Int) :
    (w.setCell ⟨g, i, none⟩ (.int .i64 v)).ownsRow B T 1 (.slice (some ⟨g, 0, none⟩) n c) n (ints (xs.set i v)) := by
  have h := (ho.stored i (.int .i64 v)).1
  have e : (ints xs).set i (.int .i64 v) = ints (xs.set i v) := by simp [ints, List.map_set]
  rw [e] at h
  exact h
theorem own_atC {w : World} {B T n c g : Nat} {xs : List Int} (ho : w.ownsRow B T 1 (.slice (some ⟨g, 0, none⟩) n c) n (ints xs)) (i : Nat) (hi : i < xs.length) : w.cell? ⟨g, i, none⟩ = some (.int .i64 (xs.getD i 0)) := by
  have h := ho.cellAt i (by have := ho.1; rw [ints_length] at this; omega)
  rw [h, ints_get xs i (xs.getD i 0) (by simp [List.getD, List.getElem?_eq_getElem hi])]

set_option maxHeartbeats 4000000 in
set_option linter.unusedVariables false in
theorem walk_FnComponentsOf (a_c : Option Addr) (c_c n_c : Nat) (bs : List Int) (w : World) (hc : CodeOK w a_c c_c n_c bs) :
    Calls Try.prog 8 #[.slice a_c n_c c_c] w fun e w' => e = .returned (.bool true) ∧ Below w.heap.size w w' := by
  by_cases hs : 1048576 < n_c
  · go_enter Try.func8, Try.ntmps8
    go_wp2
    go_ret
    exact ⟨rfl, Below.refl _ _⟩
  have hs' : n_c ≤ 1048576 := by omega
  have HB0 := Below.refl w.heap.size w
  go_enter Try.func8, Try.ntmps8
  have C1 := DrawComponentsOf_any a_c c_c n_c bs w hc hs'
  go_wp2_with fail
  refine C1.mono ?_
  rintro e w1 ⟨N_g, g, a_g, c_g, rfl, hN_g, hb_g, ho_g, hb1⟩
  clear C1
  obtain ⟨n_g, hn_g'⟩ : ∃ n, n = g.length := ⟨_, rfl⟩
  rw [← hn_g'] at ho_g hb_g
  have CN_g : graphV N_g a_g g.length c_g = graphV N_g a_g n_g c_g := by rw [hn_g']
  rw [CN_g]
  have hn_g := hn_g'.symm
  clear CN_g hn_g'
  have hc_g := own_capE ho_g
  have HN_g := Lib.hid hn_g
  clear hn_g
  have HB1 := below_tr' HB0 hb1
  have HA1 := below_alloc w1 (.cells #[.int .i64 N_g, .slice a_g n_g c_g] 25)
  have q_b_g := heap_alloc_new w1 (.cells #[.int .i64 N_g, .slice a_g n_g c_g] 25)
  have ho_g := own_below ho_g HA1
  have HBc1 := below_tr' HB1 HA1
  generalize hV1 : w1.alloc (.cells #[.int .i64 N_g, .slice a_g n_g c_g] 25) = v1 at *
  have HV1 := Lib.hid hV1
  clear hV1 HA1
  have hCL := compsV_len N_g g
  have g_b_g_0 := blk_cell q_b_g 0 (.int .i64 N_g) rfl
  have g_b_g_1 := blk_cell q_b_g 1 (.slice a_g n_g c_g) rfl
  have C2 := implComponentsOf_any N_g a_g c_g n_g g v1 (by omega) HN_g.out (own_rd ho_g) (by omega)
  go_wp2_with (simp only [HV1.out])
  refine C2.mono ?_
  rintro e w2 ⟨a2, c2, rfl, hM2, hb2⟩
  clear C2
  have HB2 := below_tr' HBc1 hb2
  have ho_g := own_below ho_g hb2
  have q_b_g := blk_below q_b_g hb2
  clear g_b_g_0 g_b_g_1
  have hx := hM2.rdM
  clear hM2
  have g_b_g_0 := blk_cell q_b_g 0 (.int .i64 N_g) rfl
  have g_b_g_1 := blk_cell q_b_g 1 (.slice a_g n_g c_g) rfl
  have C3 := specComponentsOf_any N_g a_g c_g n_g g w2 HN_g.out (own_rd ho_g) (by omega)
  go_wp2_with fail
  refine C3.mono ?_
  rintro e w3 ⟨a3, c3, rfl, hM3, hb3⟩
  clear C3
  have HB3 := below_tr' HB2 hb3
  have ho_g := own_below ho_g hb3
  have q_b_g := blk_below q_b_g hb3
  have hx := hx.below hb3
  clear g_b_g_0 g_b_g_1
  have hy := hM3.rdM
  clear hM3
  have C4 := equalLists_any a2 a3 c2 c3 (compsV N_g g).length (compsV N_g g) w3 rfl hx hy (by omega)
  go_wp2_with fail
  refine C4.mono ?_
  rintro e w4 ⟨rfl, hb4⟩
  clear C4
  have HB4 := below_tr' HB3 hb4
  have ho_g := own_below ho_g hb4
  have q_b_g := blk_below q_b_g hb4
  have hx := hx.below hb4
  have hy := hy.below hb4
  clear hy
  cases hv : validG N_g g
  · have g_b_g_0 := blk_cell q_b_g 0 (.int .i64 N_g) rfl
    have g_b_g_1 := blk_cell q_b_g 1 (.slice a_g n_g c_g) rfl
    have C5 := implValidGraph_any N_g a_g c_g n_g g w4 (by omega) HN_g.out (own_rd ho_g) (by omega)
    rw [hv] at C5
    go_wp2_with fail
    refine C5.mono ?_
    rintro e w5 ⟨rfl, hb5⟩
    clear C5
    have HB5 := below_tr' HB4 hb5
    have ho_g := own_below ho_g hb5
    have q_b_g := blk_below q_b_g hb5
    have hx := hx.below hb5
    clear g_b_g_0 g_b_g_1
    have g_b_g_0 := blk_cell q_b_g 0 (.int .i64 N_g) rfl
    have g_b_g_1 := blk_cell q_b_g 1 (.slice a_g n_g c_g) rfl
    have C6 := specComponentsOf_any N_g a_g c_g n_g g w5 HN_g.out (own_rd ho_g) (by omega)
    go_wp2_with fail
    refine C6.mono ?_
    rintro e w6 ⟨a6, c6, rfl, hM6, hb6⟩
    clear C6
    have HB6 := below_tr' HB5 hb6
    have ho_g := own_below ho_g hb6
    have q_b_g := blk_below q_b_g hb6
    have hx := hx.below hb6
    clear g_b_g_0 g_b_g_1
    have hy := hM6.rdM
    clear hM6
    have C7 := equalLists_any a2 a6 c2 c6 (compsV N_g g).length (compsV N_g g) w6 rfl hx hy (by omega)
    go_wp2_with fail
    refine C7.mono ?_
    rintro e w7 ⟨rfl, hb7⟩
    clear C7
    have HB7 := below_tr' HB6 hb7
    have ho_g := own_below ho_g hb7
    have q_b_g := blk_below q_b_g hb7
    have hx := hx.below hb7
    have hy := hy.below hb7
    clear hy
    go_wp2
    go_ret
    exact ⟨rfl, HB7⟩
  · have g_b_g_0 := blk_cell q_b_g 0 (.int .i64 N_g) rfl
    have g_b_g_1 := blk_cell q_b_g 1 (.slice a_g n_g c_g) rfl
    have C5 := implValidGraph_any N_g a_g c_g n_g g w4 (by omega) HN_g.out (own_rd ho_g) (by omega)
    rw [hv] at C5
    go_wp2_with fail
    refine C5.mono ?_
    rintro e w5 ⟨rfl, hb5⟩
    clear C5
    have HB5 := below_tr' HB4 hb5
    have ho_g := own_below ho_g hb5
    have q_b_g := blk_below q_b_g hb5
    have hx := hx.below hb5
    clear g_b_g_0 g_b_g_1
    have hNv := (validG_true.1 hv).2
    obtain ⟨N, rfl⟩ : ∃ N : Nat, N_g = N := ⟨N_g.toNat, by omega⟩
    obtain ⟨hLP, hLS, hLC, hLE⟩ := compsV_law hv
    have hLG := hLE
    have hOE := fun (k j : Nat) (h : j < g.length) => ofK_eq (P := compsV (N : Int) g) (N := N) (a := (g[j]'h).1.toNat) (b := (g[j]'h).2.toNat) (fun p hp => ⟨(hLP p hp).2.2.1, by have h1 := (hLP p hp).2.2.2 j h; have h2 := hLE j h; rw [Int.toNat_of_nonneg h2.1, Int.toNat_of_nonneg h2.2.2.1]; exact h1⟩) (by have := hLE j h; omega) (by have := hLE j h; omega) k
    rw [HN_g.out] at hLC
    generalize hC : compsV (N : Int) g = C at *
    clear hC hv
    obtain ⟨L, hL⟩ : ∃ L, C.length = L := ⟨_, rfl⟩
    rw [hL] at hCL hLC ⊢
    have HL := Lib.hid hL
    have HP := Lib.hid hLP
    have HOE := Lib.hid hOE
    have HLE := Lib.hid hLE
    have HLS := Lib.hid hLS
    clear hLP hOE hLE hLS hLG hL
    have HX := Lib.hid (And.intro q_b_g (And.intro ho_g (And.intro hx HB5)))
    clear ho_g hx HB5
    have g0 := blk_cell q_b_g 0 (.int .i64 (N : Int)) rfl
    clear q_b_g
    go_wp2_with (at_make; refine makeI Try.infoI _ _ rfl rfl rfl rfl rfl rfl (by omega) ?_; intro w1 ho hb0)
    clear g0
    obtain ⟨G, hG⟩ : ∃ G, G = w5.heap.size := ⟨_, rfl⟩
    rw [← hG] at ho ⊢
    have HG := Lib.hid hG
    have hb0 : Below G w5 w1 := by rw [hG]; exact hb0
    clear hG
    have ho1 : w1.ownsRow G 3 1 (.slice (some ⟨G, 0, none⟩) N N) N (ints (ofK C N 0)) := ho
    clear ho
    go_loopw [6, 7, 8] (fun s i _ wr => ∃ k : Nat, k ≤ L ∧ i = .int .i64 k ∧ s = .int .i64 (sumLen (C.take k) : Nat) ∧ wr.ownsRow G 3 1 (.slice (some ⟨G, 0, none⟩) N N) N (ints (ofK C N k)) ∧ Below G w5 wr) (fun _ i _ _ => L - (intOf i).toNat)
    case atStart => exact ⟨0, by omega, rfl, by simp [sumLen], ho1, hb0⟩
    case round =>
      clear ho1 hb0
      obtain ⟨k, hk, rfl, rfl, ho, hb⟩ := hrel
      have hb' : Below w5.heap.size w5 wr := by have := HG.out; rw [← this]; exact hb
      by_cases hlt : k < L
      · have hkm : k < C.length := by rw [HL.out]; exact hlt
        have hx := HX.out.2.2.1.below hb'
        obtain ⟨b1, o1, a1, c1, e1, k1, r1, _, _, _⟩ := hx k hkm
        have hlt1 := Rd.lt k1
        obtain ⟨hP1, hP2, hP3, _⟩ := HP.out _ (List.getElem_mem hkm)
        have hsl := sumLen_get C k hkm
        have hss := Lib.hid (sumLen_succ C k hkm)
        have hst := sumLen_take C k
        have hgk : C.getD k [] = C[k]'hkm := by rw [List.getD, List.getElem?_eq_getElem hkm]; rfl
        have HOK := Lib.hid (show ofK C N (k + 1) = setPart (ofK C N k) (C[k]'hkm) k by rw [ofK, hgk])
        have hol := ofK_length C N k
        clear hgk
        obtain ⟨X, hX, hP1, hP2, hP3, r1, k1⟩ : ∃ X : List Int, X = C[k]'hkm ∧ (∀ j (h : j + 1 < X.length), X[j]'(by omega) < X[j + 1]'h) ∧ 0 < X.length ∧ (∀ v ∈ X, 0 ≤ v ∧ v < (N : Int)) ∧ Rd wr a1 (ints X) ∧ wr.cell? ⟨b1, o1 + k, none⟩ = some (.slice a1 X.length c1) := ⟨_, rfl, hP1, hP2, hP3, r1, k1⟩
        rw [← hX] at HOK hsl hss
        have HXe := Lib.hid hX
        clear hX hx
        obtain ⟨n, hn⟩ : ∃ n, X.length = n := ⟨_, rfl⟩
        rw [hn] at hsl hss k1
        have HN := Lib.hid hn
        have hn0 : 0 < n := by rw [← hn]; exact hP2
        obtain ⟨S, hS⟩ : ∃ S, S = sumLen (C.take k) := ⟨_, rfl⟩
        rw [← hS] at hss hst ⊢
        obtain ⟨O, hO⟩ : ∃ O, O = ofK C N k := ⟨_, rfl⟩
        rw [← hO] at HOK hol ho
        subst e1
        have K1 := Lib.hid k1
        have R1 := Lib.hid r1
        have HP1 := Lib.hid hP1
        have HP3 := Lib.hid hP3
        clear hS hO hn k1 r1 hP1 hP2 hP3
        go_wp2
        go_loopw [6, 8] (fun s i wr2 => ∃ j : Nat, j ≤ n ∧ i = .int .i64 j ∧ s = .int .i64 ((S : Int) + j) ∧ wr2.ownsRow G 3 1 (.slice (some ⟨G, 0, none⟩) N N) N (ints (setPart O (X.take j) k)) ∧ Below G w5 wr2) (fun _ i _ => n - (intOf i).toNat)
        case atStart => exact ⟨0, by omega, rfl, by simp, by simpa [setPart] using ho, hb⟩
        case round =>
          clear ho hb hb'
          obtain ⟨j, hj, rfl, rfl, ho, hb⟩ := hrel
          have hb' : Below w5.heap.size w5 wr := by have := HG.out; rw [← this]; exact hb
          have hGs : G < wr.heap.size := (own_lt ho ⟨G, 0, none⟩ rfl).2
          have hkm : k < C.length := by rw [HL.out]; exact hlt
          obtain ⟨b3, o3, a3, c3, e3, k3, r3, _, _, _⟩ := (HX.out.2.2.1.below hb') k hkm
          cases e3
          simp only [← HXe.out, HN.out] at k3 r3
          have hol2 : (setPart O (X.take j) k).length = N := by rw [setPart_length, hol]
          clear hb'
          by_cases hlt2 : j < n
          · have hjX : j < X.length := by rw [HN.out]; exact hlt2
            obtain ⟨b5, o5, rfl, c5⟩ := r3.int (k := j) hjX
            have hv5 := HP3.out _ (List.getElem_mem hjX)
            have HSS := Lib.hid (show setPart O (X.take (j + 1)) k = (setPart O (X.take j) k).set (X[j]'hjX).toNat k by rw [List.take_succ_eq_append_getElem hjX, setPart_snoc])
            obtain ⟨V, hV⟩ : ∃ V, V = X[j]'hjX := ⟨_, rfl⟩
            rw [← hV] at c5 hv5 HSS
            obtain ⟨u, rfl⟩ : ∃ u : Nat, V = u := ⟨V.toNat, by omega⟩
            obtain ⟨O2, hO2⟩ : ∃ O2, O2 = setPart O (X.take j) k := ⟨_, rfl⟩
            rw [← hO2] at HSS ho hol2
            rw [Int.toNat_natCast] at HSS
            have hu : u < N := by omega
            obtain ⟨x0, x1⟩ := own_some ho u (by omega)
            have f1 := ho.frozenAt u
            have HS1 := Lib.hid (own_setC ho u (k : Int))
            have HB1 := Lib.hid (hb.setCell (p := ⟨G, u, none⟩) (Nat.le_refl _) (.int .i64 (k : Int)))
            clear hV hO2 hv5 ho hb r3
            go_wp2
            go_roundw
            case rel => exact ⟨j + 1, by omega, by go_num, by go_num, by rw [HSS.out]; exact HS1.out, HB1.out⟩
            case measure => simp [intOf]; omega
          · obtain rfl : j = n := by omega
            have ht : X.take j = X := by rw [← HN.out, List.take_length]
            rw [ht] at ho
            have C9 := ascends_any a3 c3 j X wr HN.out r3 (by omega) HP1.out
            have HO2 := Lib.hid ho
            clear ho ht r3 hlt2
            go_wp2_with fail
            refine C9.mono ?_
            rintro e w7 ⟨rfl, hb7⟩
            clear C9
            have k3 := (hb7.cell (p := ⟨b1, o1 + k, none⟩) (Rd.lt k3)).trans k3
            have HO3 := Lib.hid (own_below HO2.out hb7)
            have HB3 := Lib.hid (hb.trans (hb7.mono (by omega)))
            clear hb hb7 HO2
            go_wp2
            go_roundw
            case rel => exact ⟨k + 1, by omega, by go_num, by rw [hss.out]; simp, by rw [HOK.out]; exact HO3.out, HB3.out⟩
            case measure => simp [intOf]; omega
      · obtain rfl : k = L := by omega
        have ht : sumLen (C.take k) = N := by rw [← HL.out, List.take_length]; exact HLS.out
        rw [ht]
        obtain ⟨q_b_g, ho_g, hx, HB⟩ := HX.out
        have q_b_g := blk_below q_b_g hb'
        have ho_g := own_below ho_g hb'
        have HB := below_tr' HB hb'
        have HY := Lib.hid (And.intro q_b_g (And.intro ho_g (And.intro ho HB)))
        clear q_b_g ho_g hx HB ho hb hb' ht HX hlt
        go_wp2
        go_loopw [9] (fun i wr2 => ∃ j : Nat, j ≤ n_g ∧ i = .int .i64 j ∧ Below wr.heap.size wr wr2) (fun i _ => n_g - (intOf i).toNat)
        case atStart => exact ⟨0, by omega, rfl, Below.refl _ _⟩
        case round =>
          obtain ⟨j, hj, rfl, hb⟩ := hrel
          obtain ⟨q_b_g, ho_g, ho, HB⟩ := HY.out
          have q_b_g := blk_below q_b_g hb
          have ho_g := own_below ho_g hb
          have ho := own_below ho hb
          have HB := below_tr' HB hb
          have g1 := blk_cell q_b_g 1 (.slice a_g n_g c_g) rfl
          by_cases hlt2 : j < n_g
          · have hjg : j < g.length := by rw [HN_g.out]; exact hlt2
            obtain ⟨b1, o1, rfl, c1, c2⟩ := (own_rd ho_g).edge (k := j) hjg
            have he := HLE.out j hjg
            have hoe := HOE.out k j hjg
            obtain ⟨XY, hXY⟩ : ∃ XY, XY = g[j]'hjg := ⟨_, rfl⟩
            simp only [← hXY] at he hoe c1 c2
            obtain ⟨X, Y⟩ := XY
            simp only at he hoe c1 c2
            obtain ⟨x, rfl⟩ : ∃ x : Nat, X = x := ⟨X.toNat, by omega⟩
            obtain ⟨y, rfl⟩ : ∃ y : Nat, Y = y := ⟨Y.toNat, by omega⟩
            rw [Int.toNat_natCast, Int.toNat_natCast] at hoe
            have hol := ofK_length C N k
            have m1 := own_atC ho x (by omega)
            have m2 := own_atC ho y (by omega)
            rw [← hoe] at m2
            generalize (ofK C N k).getD x 0 = Z at *
            have d1 := later_cell c1
            have d2 := later_cell c2
            have d3 := later_cell m1
            have d4 := later_cell m2
            have d5 := later_cell g1
            clear hXY hoe c1 c2 m1 m2 q_b_g ho_g ho hol
            go_wp2
            clear g1
            refine wp_region_later (by kernel_rfl) (by kernel_rfl) ?_
            repeat (go_big_quiet_step (fail))
            refine wpQuiet_nil ?_
            intro w1 hw'
            have hb1 := below_tr' hb (later_below hw')
            clear hw' d1 d2 d3 d4 d5
            go_wp2
            go_roundw
            case rel => exact ⟨j + 1, by omega, by go_num, hb1⟩
            case measure => simp [intOf]; omega
          · have g0 := blk_cell q_b_g 0 (.int .i64 (N : Int)) rfl
            clear q_b_g ho_g ho
            go_wp2
            go_ret
            exact ⟨rfl, HB⟩

end Go.Proofs.Ytjghcegacgpehaa
