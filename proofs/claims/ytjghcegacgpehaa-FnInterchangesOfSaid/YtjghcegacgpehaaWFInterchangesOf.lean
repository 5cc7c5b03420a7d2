
/- The walk of the law FnInterchangesOf. (Printed by laws_d.py.) -/
import Derived.Test.YtjghcegacgpehaaDrawM3
import Derived.Test.YtjghcegacgpehaaSwEq
import Derived.Test.YtjghcegacgpehaaIcAll
import Derived.Test.YtjghcegacgpehaaMarg
namespace Go.Proofs.Ytjghcegacgpehaa
open Go.RowKit

set_option maxHeartbeats 4000000 in
set_option linter.unusedVariables false in
theorem walk_FnInterchangesOf (a_c : Option Addr) (c_c n_c : Nat) (bs : List Int) (w : World) (hc : CodeOK w a_c c_c n_c bs) :
    Calls Try.prog 10 #[.slice a_c n_c c_c] w fun e w' => e = .returned (.bool true) ∧ Below w.heap.size w w' := by
  by_cases hs : 1048576 < n_c
  · go_enter Try.func10, Try.ntmps10
    go_wp2
    go_ret
    exact ⟨rfl, Below.refl _ _⟩
  have hs' : n_c ≤ 1048576 := by omega
  have HB0 := Below.refl w.heap.size w
  go_enter Try.func10, Try.ntmps10
  have C1 := DrawInterchangesOf_any a_c c_c n_c bs w hc hs'
  go_wp2_with fail
  refine C1.mono ?_
  rintro e w1 ⟨m, a_m, c_m, rfl, hS, hx, hb1⟩
  clear C1
  have hsz := hS.size
  have hwf := hS.wf
  obtain ⟨n_m, hn⟩ : ∃ n, m.length = n := ⟨_, rfl⟩
  rw [hn]
  rw [hn] at hsz
  have HB1 := below_tr' HB0 hb1
  clear hb1
  have hL1 := icsL_len m
  have hLm := marg_len m
  have C2 := implIcs_any a_m c_m n_m m w1 hn hx (by omega)
  go_wp2_with fail
  refine C2.mono ?_
  rintro e w2 ⟨a2, c2, v2, rfl, hM2, hb2⟩
  clear C2
  have HB2 := below_tr' HB1 hb2
  have hx := hx.below hb2
  clear hb2
  have ho := own_rd hM2
  clear hM2
  obtain ⟨L, hL⟩ : ∃ L, L = icsL m := ⟨_, rfl⟩
  obtain ⟨nL, hnL⟩ : ∃ nL, nL = L.length := ⟨_, rfl⟩
  have HLL := Lib.hid hL
  have HNL := Lib.hid hnL
  rw [← hL] at hL1 ho ⊢
  rw [← hnL] at hL1 ⊢
  clear hL hnL
  have C3 := specIcs_any a_m c_m n_m m w2 hn hx (by omega)
  rw [← HLL.out, ← HNL.out] at C3
  go_wp2_with fail
  refine C3.mono ?_
  rintro e w3 ⟨a3, c3, v3, rfl, hM3, hb3⟩
  clear C3
  have HB3 := below_tr' HB2 hb3
  have hx := hx.below hb3
  have ho := ho.below hb3
  clear hb3
  have hs := own_rd hM3
  clear hM3
  have C4 := equalSwitches_any a2 a3 v2 v3 nL L w3 HNL.out.symm ho hs (by omega)
  go_wp2_with fail
  refine C4.mono ?_
  rintro e w4 ⟨rfl, hb4⟩
  clear C4
  have HB4 := below_tr' HB3 hb4
  have hx := hx.below hb4
  have ho := ho.below hb4
  have hs := hs.below hb4
  clear hb4
  clear hs
  cases hv : validM m
  · have C5 := implValidMatrix_any a_m c_m n_m m w4 hn hx (by omega)
    rw [hv] at C5
    go_wp2_with fail
    refine C5.mono ?_
    rintro e w5 ⟨rfl, hb5⟩
    clear C5
    have HB5 := below_tr' HB4 hb5
    have hx := hx.below hb5
    have ho := ho.below hb5
    clear hb5
    have C6 := specIcs_any a_m c_m n_m m w5 hn hx (by omega)
    rw [← HLL.out, ← HNL.out] at C6
    go_wp2_with fail
    refine C6.mono ?_
    rintro e w6 ⟨a6, c6, v6, rfl, hM6, hb6⟩
    clear C6
    have HB6 := below_tr' HB5 hb6
    have hx := hx.below hb6
    have ho := ho.below hb6
    clear hb6
    have hs := own_rd hM6
    clear hM6
    have C7 := equalSwitches_any a2 a6 v2 v6 nL L w6 HNL.out.symm ho hs (by omega)
    go_wp2_with fail
    refine C7.mono ?_
    rintro e w7 ⟨rfl, hb7⟩
    clear C7
    have HB7 := below_tr' HB6 hb7
    have hx := hx.below hb7
    have ho := ho.below hb7
    have hs := hs.below hb7
    clear hb7
    go_wp2
    go_ret
    exact ⟨rfl, HB7⟩
  · have C5 := implValidMatrix_any a_m c_m n_m m w4 hn hx (by omega)
    rw [hv] at C5
    go_wp2_with fail
    refine C5.mono ?_
    rintro e w5 ⟨rfl, hb5⟩
    clear C5
    have HB5 := below_tr' HB4 hb5
    have hx := hx.below hb5
    have ho := ho.below hb5
    clear hb5
    have HMEM := Lib.hid (fun s hs => ics_four_mem (s := s) hv hs)
    have HLW := Lib.hid (fun h1 h2 => allM_marg hv h1 h2)
    obtain ⟨l1, l2⟩ := marg_lens hv
    have h5 := validM_cols hv
    clear hv
    generalize hWB : w5 = wB at *
    clear hWB
    have HX := Lib.hid hx
    have HO := Lib.hid ho
    have HBB := Lib.hid HB5
    clear hx ho
    go_wp2
    go_loopw [5, 6, 7] (fun i _ _ wr => ∃ k : Nat, k ≤ nL ∧ i = .int .i64 k ∧ Below wB.heap.size wB wr) (fun i _ _ _ => nL - (intOf i).toNat)
    case atStart => exact ⟨0, by omega, rfl, Below.refl _ _⟩
    case round =>
      obtain ⟨k, hk, rfl, hb⟩ := hrel
      by_cases hlt : k < nL
      · have hkL : k < L.length := by rw [← HNL.out]; exact hlt
        have hok := HMEM.out (L[k]'hkL) (by rw [← HLL.out]; exact List.getElem_mem hkL)
        obtain ⟨b1, o1, e1, c1, c2, c3, c4⟩ := (HO.out.below hb).sw hkL
        generalize (L[k]'hkL).1 = sA at *
        generalize (L[k]'hkL).2.1 = sB at *
        generalize (L[k]'hkL).2.2.1 = sC at *
        generalize (L[k]'hkL).2.2.2 = sD at *
        have C := implInter_any a_m c_m n_m m sA sB sC sD wr hn (HX.out.below hb) (by omega)
        rw [hok] at C
        generalize interL m sA sB sC sD = G at *
        clear hok
        subst e1
        go_wp2_with fail
        refine C.mono ?_
        rintro e wI ⟨aI, cI, rI, rfl, _, hbI⟩
        have hb2 := below_tr' hb hbI
        clear C c1 c2 c3 c4 hbI
        go_wp2
        go_roundw
        case rel => exact ⟨k + 1, by omega, by go_num, hb2⟩
        case measure => simp [intOf]; omega
      · have HBR := below_tr' HBB.out hb
        have C := implMarg_any a_m c_m n_m m wr hn (HX.out.below hb) (by omega)
        have hlm := hLm
        obtain ⟨nr, hnr⟩ : ∃ nr, nr = (margR m).length := ⟨_, rfl⟩
        obtain ⟨nc, hnc⟩ : ∃ nc, nc = (margC m).length := ⟨_, rfl⟩
        rw [← hnr, ← hnc] at C hlm
        rw [← hnr] at l1
        rw [← hnc] at l2
        have HNR := Lib.hid hnr
        have HNC := Lib.hid hnc
        have HL1 := Lib.hid l1
        have HL2 := Lib.hid l2
        clear l1 l2
        have hkn : k = nL := by omega
        have HKN := Lib.hid hkn
        clear hLm hnr hnc hkn
        go_wp2_with fail
        refine C.mono ?_
        rintro e wM ⟨ra, ca, rb, cb, rfl, hR, hK, _, hbM⟩
        have HBM := below_tr' HBR hbM
        have hR := own_rd hR
        have hK := own_rd hK
        clear C hbM
        by_cases h1 : nr ≤ 4
        · have hd1 : decide ((4 : Int) < (nr : Int)) = false := decide_eq_false (by omega)
          by_cases h2 : nc ≤ 4
          · have hd2 : decide ((4 : Int) < (nc : Int)) = false := decide_eq_false (by omega)
            have CA := implAllM_any ra rb ca cb nr nc (margR m) (margC m) wM HNR.out.symm HNC.out.symm hR hK (by omega) (by omega)
            have hlaw := HLW.out (by rw [← HL1.out]; exact h1) (by rw [← HL2.out]; exact h2)
            rw [← HLL.out, ← HNL.out] at hlaw
            generalize (allM (margR m) (margC m)).length = na at *
            obtain ⟨V, hV⟩ : ∃ V, decide (nL = 0) = V := ⟨_, rfl⟩
            have q1 : ((nL : Int) == 0) = V := by rw [← hV, Bool.eq_iff_iff]; simp
            have q2 : ((na : Int) == 1) = V := by rw [← hV, hlaw, Bool.eq_iff_iff]; simp; omega
            have hVV : (V == V) = true := by simp
            clear hlaw hV hR hK
            go_wp2_with fail
            refine CA.mono ?_
            rintro e wA ⟨aA, rfl, _, hbA⟩
            have HBA := below_tr' HBM hbA
            clear CA hbA
            go_wp2
            go_ret
            exact ⟨rfl, HBA⟩
          · have hd2 : decide ((4 : Int) < (nc : Int)) = true := decide_eq_true (by omega)
            clear hR hK
            go_wp2
            go_ret
            exact ⟨rfl, HBM⟩
        · have hd1 : decide ((4 : Int) < (nr : Int)) = true := decide_eq_true (by omega)
          clear hR hK
          go_wp2
          go_ret
          exact ⟨rfl, HBM⟩

end Go.Proofs.Ytjghcegacgpehaa
