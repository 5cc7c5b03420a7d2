
/- Drawn tournaments: the reference's aTournament, someTournament and DrawValidTournament. -/
import Derived.Test.YtjghcegacgpehaaDrawM2
import Derived.Test.YtjghcegacgpehaaCodeOK
namespace Go.Proofs.Ytjghcegacgpehaa
open Go.RowKit

theorem bitsM_zero (n cl : Nat) : BitsM n cl (List.replicate n (List.replicate cl 0)) :=
  ⟨by simp, fun X hX => by rw [List.eq_of_mem_replicate hX]; exact ⟨by simp, fun v hv => .inl (List.eq_of_mem_replicate hv)⟩⟩
theorem bits_zero (cl : Nat) : Bits cl (List.replicate cl 0) := ⟨by simp, fun v hv => .inl (List.eq_of_mem_replicate hv)⟩
theorem BitsM.set2 {n cl : Nat} {m : List (List Int)} (h : BitsM n cl m) (i k : Nat) {v : Int} (hv : v = 0 ∨ v = 1) : BitsM n cl (set2 m i k v) := by
  by_cases hi : i < m.length
  · refine ⟨by simp only [Go.Proofs.Ytjghcegacgpehaa.set2, List.length_set]; exact h.1, ?_⟩
    intro X hX
    simp only [Go.Proofs.Ytjghcegacgpehaa.set2] at hX
    rcases List.mem_or_eq_of_mem_set hX with h1 | h1
    · exact h.2 X h1
    · have hr := h.2 _ (List.getElem_mem hi)
      have e : m.getD i [] = m[i]'hi := by rw [List.getD, List.getElem?_eq_getElem hi]; rfl
      rw [h1, e]
      refine ⟨by rw [List.length_set]; exact hr.1, fun u hu => ?_⟩
      rcases List.mem_or_eq_of_mem_set hu with h2 | h2
      · exact hr.2 u h2
      · rw [h2]; exact hv
  · have e : Go.Proofs.Ytjghcegacgpehaa.set2 m i k v = m := by simp only [Go.Proofs.Ytjghcegacgpehaa.set2]; exact List.set_eq_of_length_le (by omega)
    rw [e]; exact h
theorem BitsM.at2 {n cl : Nat} {m : List (List Int)} (h : BitsM n cl m) (i k : Nat) : 0 ≤ at2 m i k ∧ at2 m i k ≤ 1 := by
  by_cases hi : i < m.length
  · have hr := h.2 _ (List.getElem_mem hi)
    by_cases hk : k < (m[i]'hi).length
    · rw [at2_get hi hk]
      have := hr.2 _ (List.getElem_mem hk)
      omega
    · have : Go.Proofs.Ytjghcegacgpehaa.at2 m i k = 0 := by
        simp only [Go.Proofs.Ytjghcegacgpehaa.at2, List.getD, List.getElem?_eq_getElem hi, Option.getD_some]
        rw [List.getElem?_eq_none (by omega)]; rfl
      omega
  · have : Go.Proofs.Ytjghcegacgpehaa.at2 m i k = 0 := by
      simp only [Go.Proofs.Ytjghcegacgpehaa.at2, List.getD, List.getElem?_eq_none (Nat.le_of_not_lt hi)]
      simp
    omega
/-- A row of one 0 in the place of another row. -/
theorem OwnM.putRow_rd {w : World} {B g n c A : Nat} {rs : List At} {m : List (List Int)} (h : OwnM w B (some ⟨g, 0, none⟩) n c rs m) {i : Nat} (hA : w.heap[A]? = some (.cells #[.int .i64 0] 3 (0, 0))) (hne : A ≠ g) :
    RdM (w.setCell ⟨g, i, none⟩ (.slice (some ⟨A, 0, none⟩) 1 1)) (some ⟨g, 0, none⟩) (m.set i [0]) := by
  obtain ⟨p1, p2, p3, p4, p5⟩ := h
  have hs := p3.stored i (.slice (some ⟨A, 0, none⟩) 1 1)
  have hlen : (rowVs rs m).length = n := by rw [rowVs_length rs m (by omega), p2]
  intro r hr
  have hr2 : r < m.length := by simpa using hr
  have hrs : r < rs.length := by omega
  by_cases e : r = i
  · subst e
    have e1 : (m.set r [0])[r]'hr = [0] := List.getElem_set_self _
    rw [e1]
    obtain ⟨b, off, e2, hc⟩ := own_rd hs.1 r (.slice (some ⟨A, 0, none⟩) 1 1) (by rw [List.getElem?_set_self (by omega)])
    cases e2
    refine ⟨g, 0, some ⟨A, 0, none⟩, 1, rfl, by simpa using hc, ?_, by decide, by decide, by simp⟩
    have hA2 := blk_set_other hA r (.slice (some ⟨A, 0, none⟩) 1 1) (g := g) hne
    exact rd_blkM hA2 rfl
  · have e1 : (m.set i [0])[r]'hr = m[r]'hr2 := List.getElem_set_ne (Ne.symm e) _
    rw [e1]
    have hin := p4 r hrs hr2
    have hsh := own_shape hin
    have hk := own_kept_kind hin p3 (by decide) hs.2
    obtain ⟨b, off, e2, hc⟩ := own_rd hs.1 r (.slice (rs[r]'hrs).1 (m[r]'hr2).length (rs[r]'hrs).2) (by rw [List.getElem?_set_ne (Ne.symm e)]; exact rowVs_get rs m r hrs hr2)
    cases e2
    exact ⟨g, 0, _, _, rfl, hc, own_rd hk, hsh.1, hsh.2.1, hsh.2.2⟩

theorem own_drew_put2 {w : World} {B g n c cl : Nat} {rs : List At} {m : List (List Int)} (h : OwnM w B (some ⟨g, 0, none⟩) n c rs m) (hr : Rect m n cl) {i k : Nat} (hi : i < n) (hk : k < cl) (v : Int) :
    OwnM (w.setCell ⟨rowB rs i, k, none⟩ (.int .i64 v)).drew B (some ⟨g, 0, none⟩) n c rs (set2 m i k v) := (OwnM.put h hr hi hk v).below (bel_drew (Below.refl _ _))

set_option maxHeartbeats 4000000 in
theorem aTournament_any (R p : Nat) (w : World) (h : RdrAt w R p) (hp : p ≤ 1000000) :
    Calls Try.prog 156 #[.pointer (some ⟨R, 0, none⟩)] w fun e w' => ∃ (n : Nat) (m : List (List Int)) (a : Option Addr) (c : Nat) (rs : List At) (p' : Nat), e = .returned (.slice a n c) ∧ 1 ≤ n ∧ n ≤ 5 ∧ BitsM n n m ∧ OwnM w' w.heap.size a n c rs m ∧ RdrAt w' R p' ∧ p' ≤ p + 30 ∧ w.grownBy w' (some R) := by
  have hRw := h.lt
  have hA := below_alloc w (.cells #[.int .i64 4, .int .i64 3, .int .i64 5, .int .i64 2, .int .i64 1] 3)
  have hr0 := h.below hA
  have hg0 := below_grownby hA (some R)
  have hx0 : Rd (w.alloc (.cells #[.int .i64 4, .int .i64 3, .int .i64 5, .int .i64 2, .int .i64 1] 3)) (some ⟨w.heap.size, 0, none⟩) (ints [4, 3, 5, 2, 1]) := rd_blkM (heap_alloc_new _ _) rfl
  have C1 := one_any R p (some ⟨w.heap.size, 0, none⟩) 5 5 [4, 3, 5, 2, 1] _ hr0 (by omega) rfl (by omega) (by omega) hx0 (by intro x h; cases h; simp; omega)
  clear h hA
  go_enter Try.func156, Try.ntmps156
  go_wp2_with fail
  refine C1.mono ?_
  rintro e w1 ⟨v, hv, rfl, hr1, hg1⟩
  have hv5 : 1 ≤ v ∧ v ≤ 5 := by
    simp only [List.mem_cons, List.not_mem_nil, or_false] at hv
    omega
  obtain ⟨n, rfl⟩ : ∃ n : Nat, v = n := ⟨v.toNat, by omega⟩
  have hn1 : 1 ≤ n := by omega
  have hn5 : n ≤ 5 := by omega
  have hg1 := grown_trans hg0 hg1
  have hs1 := hg1.size
  clear hv hv5 C1 hr0 hg0 hx0
  have hA := below_alloc w1 (.cells #[] 38)
  have hM0 := (ownM_nil w1).mono hs1
  have hr0 := hr1.below hA
  have hg0 := grown_below hg1 hA
  clear hA hr1 hg1
  go_wp2
  go_loopw [4, 5] (fun v i wr => ∃ (k : Nat) (m : List (List Int)) (av : Option Addr) (cv : Nat) (rs : List At), k ≤ n ∧ i = .int .i64 k ∧ v = .slice av k cv ∧ BitsM k n m ∧ OwnM wr w.heap.size av k cv rs m ∧ RdrAt wr R (p + 1) ∧ w.grownBy wr (some R)) (fun _ i _ => n - (intOf i).toNat)
  case atStart => exact ⟨0, [], _, 0, [], by omega, rfl, rfl, bitsM_nil _, hM0, hr0, hg0⟩
  case round =>
    clear hM0 hr0 hg0 hs1
    obtain ⟨k, m, av, cv, rs, hk, rfl, rfl, hbm, hM, hr, hg⟩ := hrel
    have hsz := hg.size
    by_cases hlt : k < n
    · go_wp2_with (first | (at_make; refine makeI Try.infoI _ _ rfl rfl rfl rfl rfl rfl (by omega) ?_; intro w3 ho3 hb3; have hap3 : ApartA rs (some ⟨wr.heap.size, 0, none⟩) := ApartA.fresh hM.2.2.2.1 (by rw [hM.1, hM.2.1]) (fun x hx => by cases hx; exact Nat.le_refl _); have hM := hM.below hb3; have hr := hr.below hb3; have hg := grown_below hg hb3; have ho3 := own_mono ho3 hsz; have hs3 := hg.size; have hb0 := (Below.refl w3.heap.size w3).mono hs3) | (at_builtin; refine pushRow _ _ rfl rfl hM hap3 (X := List.replicate n 0) (by simp) ho3 hb0 (Nat.le_refl _) hs3 rfl rfl (by omega) ?_; intro a' c' w5 hM5 hb5))
      have HR5 := Lib.hid (hr.low hb5 hRw)
      have HG5 := Lib.hid (grown_low hg hb5)
      have HM5 := Lib.hid hM5
      have HBM := Lib.hid (hbm.snoc (bits_zero n))
      clear hM5 hM ho3 hap3 hr hb5 hb0 hg hb3
      go_roundw
      case rel => exact ⟨k + 1, m ++ [List.replicate n 0], a', c', _, by omega, by go_num, rfl, HBM.out, HM5.out, HR5.out, HG5.out⟩
      case measure => simp [intOf]; omega
    · obtain rfl : k = n := by omega
      obtain ⟨g, rfl, hgB, _⟩ := own_head hM.2.2.1 (by omega)
      clear hlt
      have HM0 := Lib.hid hM
      clear hM
      go_wp2
      have hM := HM0.out
      clear HM0
      go_loopw [6, 7] (fun i _ wr => ∃ (i0 : Nat) (m : List (List Int)) (q : Nat), i0 ≤ k ∧ i = .int .i64 i0 ∧ BitsM k k m ∧ OwnM wr w.heap.size (some ⟨g, 0, none⟩) k cv rs m ∧ RdrAt wr R q ∧ q ≤ p + 1 + i0 * k ∧ w.grownBy wr (some R)) (fun i _ _ => k - (intOf i).toNat)
      case atStart => exact ⟨0, m, p + 1, by omega, rfl, hbm, hM, hr, by omega, hg⟩
      case round =>
        clear hbm hM hr hg hsz hk
        obtain ⟨i0, m, q, hi, rfl, hbm, hM, hr, hq, hg⟩ := hrel
        have hik : i0 * k ≤ 5 * 5 := Nat.mul_le_mul (by omega) hn5
        by_cases hlt : i0 < k
        · have HSM := Lib.hid (show (i0 + 1) * k = i0 * k + k from Nat.succ_mul i0 k)
          obtain ⟨KC, hKC⟩ : ∃ KC, KC = i0 * k := ⟨_, rfl⟩
          rw [← hKC] at hq hik HSM
          have HM0 := Lib.hid hM
          clear hKC hM
          go_wp2
          have hM := HM0.out
          clear HM0
          go_loopw [7] (fun j wr => ∃ (j0 : Nat) (m : List (List Int)) (q : Nat), j0 ≤ k ∧ i0 < j0 ∧ j = .int .i64 j0 ∧ BitsM k k m ∧ OwnM wr w.heap.size (some ⟨g, 0, none⟩) k cv rs m ∧ RdrAt wr R q ∧ q ≤ p + 1 + KC + j0 ∧ w.grownBy wr (some R)) (fun j _ => k - (intOf j).toNat)
          case atStart => exact ⟨i0 + 1, m, q, by omega, by omega, by go_num, hbm, hM, hr, by omega, hg⟩
          case round =>
            clear hbm hM hr hg hq
            obtain ⟨j0, m, q, hj, hij, rfl, hbm, hM, hr, hq, hg⟩ := hrel
            by_cases hlt2 : j0 < k
            · have C1 := pick_any R q 2 wr hr (by omega) (by omega)
              have HM0 := Lib.hid hM
              clear hM
              go_wp2_with fail
              refine C1.mono ?_
              rintro e w1 ⟨v, rfl, hv, hr1, hg1⟩
              have hM := HM0.out.grownR hg1 hRw
              have hg1 := grown_trans hg hg1
              have hv2 : v < 2 := by omega
              clear C1 hr hg HM0 hv
              by_cases hv0 : v = 0
              · subst hv0
                have cr := hM.cellRow hbm.rect (by omega) (i := i0) (by omega)
                have cn := hM.cellNum hbm.rect (i := i0) (k := j0) (by omega) (by omega)
                have hRB : R < rowB rs i0 := by have := cn.2.2.1; omega
                have M1 := Lib.hid (hM.put hbm.rect (i := i0) (k := j0) (by omega) (by omega) 1)
                have R1 := Lib.hid (hr1.setOther (rowB rs i0) j0 (.int .i64 1) hRB)
                have G1 := Lib.hid (grown_setNew hg1 (rowB rs i0) j0 (.int .i64 1) cn.2.2.1)
                have S1 := Lib.hid (hbm.set2 i0 j0 (.inr rfl))
                have x1 := cn.1
                have f1 := cn.2.1
                clear cn hM hr1 hg1
                go_wp2
                go_roundw
                case rel => exact ⟨j0 + 1, _, q + 1, by omega, by omega, by go_num, S1.out, M1.out, R1.out, by omega, G1.out⟩
                case measure => simp [intOf]; omega
              · obtain rfl : v = 1 := by omega
                have cr := hM.cellRow hbm.rect (by omega) (i := j0) (by omega)
                have cn := hM.cellNum hbm.rect (i := j0) (k := i0) (by omega) (by omega)
                have hRB : R < rowB rs j0 := by have := cn.2.2.1; omega
                have M1 := Lib.hid (hM.put hbm.rect (i := j0) (k := i0) (by omega) (by omega) 1)
                have R1 := Lib.hid (hr1.setOther (rowB rs j0) i0 (.int .i64 1) hRB)
                have G1 := Lib.hid (grown_setNew hg1 (rowB rs j0) i0 (.int .i64 1) cn.2.2.1)
                have S1 := Lib.hid (hbm.set2 j0 i0 (.inr rfl))
                have x1 := cn.1
                have f1 := cn.2.1
                clear cn hM hr1 hg1 hv0
                go_wp2
                go_roundw
                case rel => exact ⟨j0 + 1, _, q + 1, by omega, by omega, by go_num, S1.out, M1.out, R1.out, by omega, G1.out⟩
                case measure => simp [intOf]; omega
            · have HM := Lib.hid hM
              have HX := Lib.hid (And.intro hr hg)
              clear hM hr hg
              go_wp2
              go_roundw
              case rel => exact ⟨i0 + 1, m, q, by omega, by go_num, hbm, HM.out, HX.out.1, by have := HSM.out; omega, HX.out.2⟩
              case measure => simp [intOf]; omega
        · have HM := Lib.hid hM
          have HX := Lib.hid (And.intro hr hg)
          clear hM hr hg
          go_wp2
          go_ret
          exact ⟨k, m, _, cv, rs, q, rfl, hn1, hn5, hbm, HM.out, HX.out.1, by omega, HX.out.2⟩

set_option maxHeartbeats 4000000 in
theorem someTournament_any (R p : Nat) (w : World) (h : RdrAt w R p) (hp : p ≤ 100000) :
    Calls Try.prog 86 #[.pointer (some ⟨R, 0, none⟩)] w fun e w' => ∃ (m : List (List Int)) (a : Option Addr) (c : Nat), e = .returned (.slice a m.length c) ∧ SmallM m ∧ RdM w' a m ∧ w.grownBy w' (some R) := by
  have hRw := h.lt
  have C1 := aTournament_any R p w h (by omega)
  clear h
  go_enter Try.func86, Try.ntmps86
  go_wp2_with fail
  refine C1.mono ?_
  rintro e w1 ⟨n, m, a, c, rs, p1, rfl, hn1, hn5, hbm, hM, hr, hp1, hg⟩
  obtain ⟨g, rfl, hgB, _⟩ := own_head hM.2.2.1 (by omega)
  have HS := Lib.hid (hbm.small hn5 hn5)
  have HL := Lib.hid hbm.1
  clear C1
  by_cases h1 : n = 1
  · subst h1
    have HM := Lib.hid hM.rdM
    clear hM
    go_wp2
    go_ret
    exact ⟨m, _, c, by rw [HL.out]; rfl, HS.out, HM.out, hg⟩
  have C2 := pick_any R p1 24 w1 hr (by omega) (by omega)
  have HM0 := Lib.hid hM
  clear hM hr
  go_wp2_with fail
  refine C2.mono ?_
  rintro e w2 ⟨v, rfl, hv, hr, hg2⟩
  have hM := HM0.out.grownR hg2 hRw
  have hg := grown_trans hg hg2
  clear C2 hg2 HM0
  by_cases hz0 : v = 0
  · subst hz0
    have cn := hM.cellNum hbm.rect (i := 0) (k := 1) (by omega) (by omega)
    have hb01 := hbm.at2 0 1
    have d1 := later_cell (hM.cellRow hbm.rect (by omega) (i := 0) (by omega))
    have d2 := later_cell cn.1
    have bd := bel_drew (Below.refl w2.heap.size w2)
    generalize hX : at2 m 0 1 = X at *
    have M1 := Lib.hid (own_drew_put2 hM hbm.rect (i := 0) (k := 1) (by omega) (by omega) (1 - X))
    have G1 := Lib.hid (grown_drew (grown_setNew hg (rowB rs 0) 1 (.int .i64 (1 - X)) cn.2.2.1))
    have S1 := Lib.hid (set2_small hbm hn5 hn5 0 1 (v := 1 - X) (by omega))
    have L1 := Lib.hid (show (set2 m 0 1 (1 - X)).length = n by simp only [set2, List.length_set]; exact hbm.1)
    clear hM hg hr
    go_wp2
    refine wp_region_flags [true, true, true, true, true, true, true, true, true, true, false] 10 (C := fun w' => ∃ u : Later w2, w' = u.val) (by kernel_rfl) (by kernel_rfl) ⟨⟨_, bd⟩, rfl⟩ ?_
    simp only [pickT, pickF]
    repeat (go_big_quiet_step (fail))
    refine wpQuiet_nil ?_
    clear d1 d2
    refine tail_last fun K hK => ?_
    have x1 : w2.drew.cell? ⟨rowB rs 0, 1, none⟩ = _ := cn.1
    have f1 : w2.drew.frozen? ⟨rowB rs 0, 1, none⟩ = _ := cn.2.1
    clear cn bd
    go_wp2
    go_ret
    exact ⟨_, _, c, by rw [L1.out]; rfl, S1.out, M1.out.rdM, G1.out⟩
  · by_cases hz1 : v = 1
    · subst hz1
      have cr := hM.cellRow hbm.rect (by omega) (i := 0) (by omega)
      have cn := hM.cellNum hbm.rect (i := 0) (k := 0) (by omega) (by omega)
      have M1 := Lib.hid (hM.put hbm.rect (i := 0) (k := 0) (by omega) (by omega) 1)
      have G1 := Lib.hid (grown_setNew hg (rowB rs 0) 0 (.int .i64 1) cn.2.2.1)
      have S1 := Lib.hid (set2_small hbm hn5 hn5 0 0 (v := 1) (by omega))
      have L1 := Lib.hid (show (set2 m 0 0 1).length = n by simp only [set2, List.length_set]; exact hbm.1)
      have x1 := cn.1
      have f1 := cn.2.1
      clear cn hM hg hr
      go_wp2
      go_ret
      exact ⟨_, _, c, by rw [L1.out]; rfl, S1.out, M1.out.rdM, G1.out⟩
    · by_cases hz2 : v = 2
      · subst hz2
        have hgs : g < w2.heap.size := (own_lt hM.2.2.1 ⟨g, 0, none⟩ rfl).2
        have hA := below_alloc w2 (.cells #[.int .i64 0] 3)
        have qA := heap_alloc_new w2 (.cells #[.int .i64 0] 3)
        have hM := hM.below hA
        have hg := grown_below hg hA
        have cr := hM.cellRow hbm.rect (by omega) (i := 1) (by omega)
        have f1 := hM.2.2.1.frozenAt 1
        have P1 := Lib.hid (hM.putRow_rd (i := 1) qA (by omega))
        have G1 := Lib.hid (grown_setNew hg g 1 (.slice (some ⟨w2.heap.size, 0, none⟩) 1 1) hgB)
        have L1 := Lib.hid (show (m.set 1 [0]).length = n by rw [List.length_set]; exact hbm.1)
        have S1 := Lib.hid (show SmallM (m.set 1 [0]) from ⟨by rw [L1.out]; omega, fun X hX => by
          rcases List.mem_or_eq_of_mem_set hX with h5 | h5
          · exact HS.out.2 X h5
          · rw [h5]; simp⟩)
        generalize hV : w2.alloc (.cells #[.int .i64 0] 3) = W5 at *
        have HV := Lib.hid hV
        obtain ⟨A1, hA1⟩ : ∃ A1, A1 = w2.heap.size := ⟨_, rfl⟩
        rw [← hA1] at P1 G1
        have HA1 := Lib.hid hA1.symm
        clear hV hA1 hM hg hA qA hr
        go_wp2_with (simp only [HV.out, HA1.out])
        go_ret
        exact ⟨_, _, c, by rw [L1.out]; rfl, S1.out, P1.out, G1.out⟩
      · have HM := Lib.hid hM.rdM
        clear hM
        go_wp2
        go_ret
        exact ⟨m, _, c, by rw [HL.out]; rfl, HS.out, HM.out, hg⟩

theorem DrawValidTournament_any (a0 : Option Addr) (c0 n0 : Nat) (bs : List Int) (w : World) (hc : CodeOK w a0 c0 n0 bs) (hl : n0 ≤ 1048576) :
    Calls Try.prog 23 #[.slice a0 n0 c0] w fun e w' => ∃ (m : List (List Int)) (a : Option Addr) (c : Nat), e = .returned (.slice a m.length c) ∧ SmallM m ∧ RdM w' a m ∧ Below w.heap.size w w' := by
  have C1 := newReader_any a0 c0 n0 bs w hc.1 hl hc.2.1 hc.2.2.1 hc.2.2.2.1 hc.2.2.2.2
  go_enter Try.func23, Try.ntmps23
  go_wp2_with fail
  refine C1.mono ?_
  rintro e w1 ⟨rfl, hr, hb1⟩
  have C2 := someTournament_any w.heap.size 0 w1 hr (by omega)
  clear C1 hc
  go_wp2_with fail
  refine C2.mono ?_
  rintro e w2 ⟨m, a, c, rfl, hs, hx, hg⟩
  have hB2 := hb1.grown hg hb1.size (fun k hk => by simp only [Option.some.injEq] at hk; omega)
  have HX := Lib.hid hx
  clear C2 hg hr hx
  obtain ⟨n, hn⟩ : ∃ n, n = m.length := ⟨_, rfl⟩
  rw [← hn]
  have HN := Lib.hid hn
  clear hn
  go_wp2
  go_ret
  exact ⟨m, a, c, by rw [← HN.out]; rfl, hs, HX.out, hB2⟩

end Go.Proofs.Ytjghcegacgpehaa
