
/- The program's matrices: the walk by induction over the places. -/
import Derived.Test.YtjghcegacgpehaaPlainM0
import Derived.Test.YtjghcegacgpehaaMatW2
namespace Go.Proofs.Ytjghcegacgpehaa
open Go.RowKit

theorem set_backX {L : List Nat} {i v : Nat} (h : i < L.length) : (L.set i v).set i (L.getD i 0) = L := by
  rw [List.set_set, List.getD_eq_getElem?_getD, List.getElem?_eq_getElem h, Option.getD_some, List.set_getElem_self]
theorem set2_back {m : List (List Int)} {n cl i j : Nat} (h : Rect m n cl) (hi : i < n) (hj : j < cl) (hz : at2 m i j = 0) : set2 (set2 m i j 1) i j 0 = m := by
  have hi' : i < m.length := by rw [h.1]; exact hi
  have hl : (m[i]'hi').length = cl := h.2 i hi'
  have hj' : j < (m[i]'hi').length := by rw [hl]; exact hj
  rw [at2_get hi' hj'] at hz
  have e0 : m.getD i [] = m[i]'hi' := by rw [List.getD_eq_getElem?_getD, List.getElem?_eq_getElem hi', Option.getD_some]
  have e1 : ∀ x : List Int, (m.set i x).getD i [] = x := fun x => by
    rw [List.getD_eq_getElem?_getD, List.getElem?_eq_getElem (by rw [List.length_set]; exact hi'), Option.getD_some, List.getElem_set_self]
  unfold set2
  rw [e1, e0, List.set_set, List.set_set, ← hz, List.set_getElem_self, List.set_getElem_self]

section
variable {σ : Type} {St : σ → List Nat → World → Prop} {go : σ → List (List Int) → σ × Bool} {sz : σ → Nat} {M : Nat} {P : MP} {may : Nat → Nat → Bool}
set_option maxHeartbeats 16000000 in
theorem mwalk_any (hK : Keeps St) (hT : TakesM P.K P.cap P.n P.cl M sz St go) (hMay : MayM P.KM P.capM P.n P.cl may) (hgo : ∀ s x, sz (go s x).1 ≤ sz s + 1) (hP : MOK P) : ∀ (k : Nat) (R C : List Nat) (m : List (List Int)) (s : σ) (l : List Nat) (w : World) (T : Nat), k ≤ P.n * P.cl → T = P.n * P.cl - k → (∀ v, R.getD v 0 ≤ 900) → (∀ v, C.getD v 0 ≤ 900) →
    sz s + (solsX may P.n P.cl k R C m).length ≤ M → MSt P R C m w → (∀ i j, T ≤ i * P.cl + j → i < P.n → j < P.cl → at2 m i j = 0) → St s l w → SepM P l →
    Calls Try.prog 162 (#[.int .i64 (T : Int)] ++ #[.pointer (some ⟨P.br, 0, none⟩), .pointer (some ⟨P.bc, 0, none⟩), .pointer (some ⟨P.bR, 0, none⟩), .pointer (some ⟨P.bC, 0, none⟩), .pointer (some ⟨P.bk, 0, none⟩), .pointer (some ⟨P.bM, 0, none⟩), .pointer (some ⟨P.bm, 0, none⟩), .pointer (some ⟨P.bw, 0, none⟩)]) w
      fun e w' => MDoes St go may P k R C m s l w e w' := by
  intro k
  induction k with
  | zero =>
    intro R C m s l w T _ hTe hRb hCb hM hW _ hS hsep
    exact mwalk_nil hK hT hP R C m s l w hRb hCb hM hW hS hsep T (by omega)
  | succ k ih =>
    intro R C m s l w T hk hTe hRb hCb hM hW hz hS hsep
    have IH := Lib.hid ih
    clear ih
    obtain ⟨i, hi⟩ : ∃ i, i = T / P.cl := ⟨_, rfl⟩
    obtain ⟨j, hj⟩ : ∃ j, j = T % P.cl := ⟨_, rfl⟩
    have hcl0 : 0 < P.cl := by have := hP.c1; omega
    have hjc : j < P.cl := by rw [hj]; exact Nat.mod_lt _ hcl0
    have hin : i < P.n := by rw [hi]; exact Nat.div_lt_of_lt_mul (by rw [Nat.mul_comm]; omega)
    have hTij : T = i * P.cl + j := by rw [hi, hj, Nat.mul_comm]; exact (Nat.div_add_mod T P.cl).symm
    have HWX := Lib.hid (show walkX may P.n P.cl go (k + 1) R C m s = _ by rw [walkX, ← hTe, ← hi, ← hj])
    have HSX := Lib.hid (show solsX may P.n P.cl (k + 1) R C m = _ by rw [solsX, ← hTe, ← hi, ← hj])
    have e1 : ((T : Int)).tdiv (P.cl : Int) = (i : Int) := by rw [hi]; rfl
    have e2 : ((T : Int)).tmod (P.cl : Int) = (j : Int) := by rw [hj]; rfl
    obtain ⟨hRl, hCl, hml⟩ := hW.len
    obtain ⟨B, br, bc, bR, bC, bk, bM, bm, bw, n, cl, K, cap, KM, capM, ar, cr, ac, cc, gR, vR, lR, gC, vC, lC, gM, cM, rs⟩ := P
    simp only at hRl hCl hml hTe hk hcl0 hjc hin hTij e1 e2 HWX HSX hi hj
    have hn5 := hP.n5
    have hc5 := hP.c5
    simp only at hn5 hc5
    have hprod : n * cl ≤ 5 * 5 := Nat.mul_le_mul hn5 hc5
    have hT25 : T < 25 := by omega
    have hmul : (0 : Int) ≤ (n : Int) * (cl : Int) ∧ (n : Int) * (cl : Int) ≤ 25 := by
      have e : ((n * cl : Nat) : Int) = (n : Int) * (cl : Int) := by simp
      omega
    have hq : ((T : Int) == (n : Int) * (cl : Int)) = false := by
      have e : ((n * cl : Nat) : Int) = (n : Int) * (cl : Int) := by simp
      rw [beq_eq_false_iff_ne, ← e]; omega
    have HIJ := Lib.hid (And.intro hi hj)
    have k0 := blk_cell hW.hr 0 (.slice ar n cr) rfl
    have k1 := blk_cell hW.hc 0 (.slice ac cl cc) rfl
    have d0 := later_cell k1
    have HW := Lib.hid hW
    have HS := Lib.hid hS
    have HZ := Lib.hid hz
    have HTE := Lib.hid hTe
    have HT := Lib.hid hTij
    clear hW hS hz hi hj hTe hTij
    go_enter Try.func162, Try.ntmps162
    go_wp2
    refine wp_region_later (by kernel_rfl) (by kernel_rfl) ?_
    repeat (go_big_quiet_step (fail))
    refine wpQuiet_nil ?_
    intro w1 hw'
    have hb1 := later_below hw'
    clear hw' k0 k1 d0 e1 e2 hq hmul
    have hW1 := HW.out.below hb1
    have dR := later_cell (blk_cell hW1.hR 0 (.slice (some ⟨gR, 0, none⟩) n vR) rfl)
    have dc := later_cell (blk_cell hW1.hc 0 (.slice ac cl cc) rfl)
    have dg := later_cell (own_natAt hW1.oR i hin)
    have HB1 := Lib.hid hb1
    obtain ⟨p, hp⟩ : ∃ p, R.getD i 0 = p := ⟨_, rfl⟩
    obtain ⟨q, hqq⟩ : ∃ q, C.getD j 0 = q := ⟨_, rfl⟩
    have hpb : p ≤ 900 := by rw [← hp]; exact hRb i
    have hqb : q ≤ 900 := by rw [← hqq]; exact hCb j
    rw [hp] at dg
    rw [hp, hqq] at HWX HSX
    have HP := Lib.hid hp
    have HQ := Lib.hid hqq
    have HRB := Lib.hid hRb
    have HCB := Lib.hid hCb
    have HM := Lib.hid hM
    have KS := Lib.hid hsep
    clear hp hqq hRb hCb hM hsep hW1 hb1 hprod
    by_cases hA : cl - j < p
    · have hd : decide ((cl : Int) - (j : Int) < (p : Int)) = true := decide_eq_true (by omega)
      have HR := Lib.hid (show walkX may n cl go (k + 1) R C m s = (s, true) by rw [HWX.out, if_pos hA])
      clear hA HWX HSX HM
      go_wp2
      refine wp_region_later (by kernel_rfl) (by kernel_rfl) ?_
      repeat (go_big_quiet_step (fail))
      refine wpQuiet_nil ?_
      intro w2 hw'
      have hb2 := below_tr' HB1.out (later_below hw')
      clear hw' dR dc dg
      go_wp2
      go_ret
      exact ⟨ret_bool (by rw [HR.out]), l, HW.out.below hb2, by rw [HR.out]; exact hK.stay _ _ _ _ HS.out (fun i hi => hb2.block i (hK.lt _ _ _ HS.out i hi)), KS.out, fun j hj => .inl hj, FrL.of_below hb2 _⟩
    · have hd : decide ((cl : Int) - (j : Int) < (p : Int)) = false := decide_eq_false (by omega)
      have HWX2 := Lib.hid (HWX.out.trans (if_neg hA))
      have HSX2 := Lib.hid (HSX.out.trans (if_neg hA))
      clear HWX HSX hA
      go_wp2
      refine wp_region_later (by kernel_rfl) (by kernel_rfl) ?_
      repeat (go_big_quiet_step (fail))
      refine wpQuiet_nil ?_
      intro w2 hw'
      have hb2 := below_tr' HB1.out (later_below hw')
      clear hw' dR dc dg hd HB1
      have hW2 := HW.out.below hb2
      have hS2 := hK.stay _ _ _ _ HS.out (fun i hi => hb2.block i (hK.lt _ _ _ HS.out i hi))
      have kR := blk_cell hW2.hR 0 (.slice (some ⟨gR, 0, none⟩) n vR) rfl
      have kC := blk_cell hW2.hC 0 (.slice (some ⟨gC, 0, none⟩) cl vC) rfl
      have km := blk_cell hW2.hm 0 (.func (.func KM) #[] capM) rfl
      have kw := blk_cell hW2.hw 0 (MP.fn ⟨B, br, bc, bR, bC, bk, bM, bm, bw, n, cl, K, cap, KM, capM, ar, cr, ac, cc, gR, vR, lR, gC, vC, lC, gM, cM, rs⟩) rfl
      have aR := own_natAt hW2.oR i hin
      have aC := own_natAt hW2.oC j hjc
      rw [HP.out] at aR
      rw [HQ.out] at aC
      simp only [MP.fn] at kw
      have hK1 : ∀ args w, (callFunc KM args).run Try.prog w = .ok (.enter KM args) w := hMay.1
      have hEW : ∀ args w, (callFunc 162 args).run Try.prog w = .ok (.enter 162 args) w := enters_mwalk
      have CM := hMay.2 w2 i j hin hjc
      obtain ⟨V, hV⟩ : ∃ V, may i j = V := ⟨_, rfl⟩
      simp only [hV] at CM
      rw [hV] at HWX2 HSX2
      have hs2 := hb2.size
      have HB2 := Lib.hid hb2
      have HW2 := Lib.hid hW2
      have HS2 := Lib.hid hS2
      have CE := Lib.hid (show ((T : Int) + 1) = ((T + 1 : Nat) : Int) by omega)
      clear hV hb2 hW2 hS2 HW HS
      by_cases hB : V = true ∧ 0 < p ∧ 0 < q
      · obtain ⟨rfl, hp0, hq0⟩ := hB
        obtain ⟨p', rfl⟩ : ∃ p', p = p' + 1 := ⟨p - 1, by omega⟩
        obtain ⟨q', rfl⟩ : ∃ q', q = q' + 1 := ⟨q - 1, by omega⟩
        have hdR : decN R i = R.set i p' := by simp only [decN, HP.out, Nat.add_sub_cancel]
        have hdC : decN C j = C.set j q' := by simp only [decN, HQ.out, Nat.add_sub_cancel]
        have hWB := HWX2.out.trans (if_pos ⟨rfl, hp0, hq0⟩)
        have hSB := HSX2.out
        rw [if_pos ⟨rfl, hp0, hq0⟩] at hSB
        rw [hdR, hdC] at hWB hSB
        have hM2 := HM.out
        rw [hSB, List.length_append] at hM2
        have HR1 := Lib.hid (fun (h : (walkX may n cl go k (R.set i p') (C.set j q') (set2 m i j 1) s).2 = true) => hWB.trans (if_pos h))
        have HR0 := Lib.hid (fun (h : (walkX may n cl go k (R.set i p') (C.set j q') (set2 m i j 1) s).2 = false) => hWB.trans (if_neg (by rw [h]; decide)))
        have HSZ := Lib.hid (show sz (walkX may n cl go k (R.set i p') (C.set j q') (set2 m i j 1) s).1 ≤ sz s + (solsX may n cl k (R.set i p') (C.set j q') (set2 m i j 1)).length by rw [walkX_fold]; exact foldX_size hgo _ _)
        have HMM := Lib.hid hM2
        have HRB1 := Lib.hid (show ∀ v, (R.set i p').getD v 0 ≤ 900 from fun v => Nat.le_trans (set_le (by rw [HP.out]; omega) v) (HRB.out v))
        have HCB1 := Lib.hid (show ∀ v, (C.set j q').getD v 0 ≤ 900 from fun v => Nat.le_trans (set_le (by rw [HQ.out]; omega) v) (HCB.out v))
        have HBR := Lib.hid (show (R.set i p').set i (p' + 1) = R by rw [← HP.out]; exact set_backX (by omega))
        have HBC := Lib.hid (show (C.set j q').set j (q' + 1) = C by rw [← HQ.out]; exact set_backX (by omega))
        have HBM := Lib.hid (show set2 (set2 m i j 1) i j 0 = m from set2_back (HW2.out.rect) hin hjc (HZ.out i j (by rw [HT.out]; exact Nat.le_refl _) hin hjc))
        have HZ1 := Lib.hid (show ∀ i' j', T + 1 ≤ i' * cl + j' → i' < n → j' < cl → at2 (set2 m i j 1) i' j' = 0 from fun i' j' h1 h2 h3 => by
          rw [at2_set2 HW2.out.rect hin hjc h2 h3, if_neg (fun h => by rw [h.1, h.2, ← HT.out] at h1; omega)]
          exact HZ.out i' j' (by omega) h2 h3)
        have HG1 := Lib.hid (show (R.set i p').getD i 0 = p' by rw [getD_setX (by omega), if_pos rfl])
        have HG2 := Lib.hid (show (C.set j q').getD j 0 = q' by rw [getD_setX (by omega), if_pos rfl])
        have HRL := Lib.hid hRl
        have HCL := Lib.hid hCl
        obtain ⟨d1, d2, d3⟩ := mem_mdata (MP.mk B br bc bR bC bk bM bm bw n cl K cap KM capM ar cr ac cc gR vR lR gC vC lC gM cM rs)
        have HD := Lib.hid (And.intro d1 (And.intro d2 (d3 _ (rowB_mem HW2.out.oM HW2.out.rect (by omega) hin))))
        have c1N : (((p' + 1 : Nat)) : Int) = (p' : Int) + 1 := by omega
        have c2N : (((q' + 1 : Nat)) : Int) = (q' : Int) + 1 := by omega
        rw [c1N] at aR
        rw [c2N] at aC
        have hd1 : decide ((0 : Int) < (p' : Int) + 1) = true := decide_eq_true (by omega)
        have hd2 : decide ((0 : Int) < (q' : Int) + 1) = true := decide_eq_true (by omega)
        clear hWB hSB hM2 hdR hdC hp0 hq0 HWX2 HSX2 c1N c2N d1 d2 d3 hRl hCl
        go_wp2_with fail
        refine CM.mono ?_
        rintro e w3 ⟨rfl, rfl⟩
        clear CM
        have f1 := HW2.out.oR.frozenAt i
        simp only at f1
        have H1 := Lib.hid (HW2.out.setR hP i p' (p' : Int) rfl)
        have E1 := Lib.hid (FrL.set w3 gR i (.int .i64 (p' : Int)) (MP.mk B br bc bR bC bk bM bm bw n cl K cap KM capM ar cr ac cc gR vR lR gC vC lC gM cM rs).data HD.out.1)
        have F1 := Lib.hid (E1.out.mono (fun j hj => List.mem_append_right l hj))
        go_upto_region 8 with (fail)
        have hg1 : w3.heap.size ≤ (w3.setCell ⟨gR, i, none⟩ (.int .i64 (p' : Int))).heap.size := F1.out.size
        generalize hV4 : w3.setCell ⟨gR, i, none⟩ (.int .i64 (p' : Int)) = w4 at *
        clear hV4 f1 aR aC kR kC km kw hd1 hd2
        have kC := blk_cell H1.out.hC 0 (.slice (some ⟨gC, 0, none⟩) cl vC) rfl
        have aC := own_natAt H1.out.oC j hjc
        rw [HQ.out, show (((q' + 1 : Nat)) : Int) = (q' : Int) + 1 from by omega] at aC
        have f2 := H1.out.oC.frozenAt j
        simp only at f2
        have H2 := Lib.hid (H1.out.setC hP j q' (q' : Int) rfl)
        have E2 := Lib.hid (E1.out.trans (FrL.set w4 gC j (.int .i64 (q' : Int)) (MP.mk B br bc bR bC bk bM bm bw n cl K cap KM capM ar cr ac cc gR vR lR gC vC lC gM cM rs).data HD.out.2.1))
        have F2 := Lib.hid (E2.out.mono (fun j hj => List.mem_append_right l hj))
        go_upto_region 9 with (fail)
        have hg2 : w3.heap.size ≤ (w4.setCell ⟨gC, j, none⟩ (.int .i64 (q' : Int))).heap.size := F2.out.size
        generalize hV5 : w4.setCell ⟨gC, j, none⟩ (.int .i64 (q' : Int)) = w5 at *
        clear hV5 f2 aC kC
        have kM := blk_cell H2.out.hM 0 (.slice (some ⟨gM, 0, none⟩) n cM) rfl
        have ar1 := H2.out.oM.cellRow H2.out.rect hcl0 hin
        obtain ⟨_, f3, _, _⟩ := H2.out.oM.cellNum H2.out.rect hin hjc
        simp only at ar1 f3
        have H3 := Lib.hid (H2.out.setM hP hin hjc 1 (.inr rfl))
        have E3 := Lib.hid (E2.out.trans (FrL.set w5 (rowB rs i) j (.int .i64 1) (MP.mk B br bc bR bC bk bM bm bw n cl K cap KM capM ar cr ac cc gR vR lR gC vC lC gM cM rs).data HD.out.2.2))
        have F3 := Lib.hid (E3.out.mono (fun j hj => List.mem_append_right l hj))
        go_upto_region 10 with (fail)
        have hg3 : w3.heap.size ≤ (w5.setCell ⟨rowB rs i, j, none⟩ (.int .i64 1)).heap.size := F3.out.size
        generalize hV6 : w5.setCell ⟨rowB rs i, j, none⟩ (.int .i64 1) = w6 at *
        clear hV6 f3 ar1 kM
        have HFD := Lib.hid (show FrL (MP.mk B br bc bR bC bk bM bm bw n cl K cap KM capM ar cr ac cc gR vR lR gC vC lC gM cM rs).data w3 w6 from E3.out)
        have kw := blk_cell H3.out.hw 0 (MP.fn (MP.mk B br bc bR bC bk bM bm bw n cl K cap KM capM ar cr ac cc gR vR lR gC vC lC gM cM rs)) rfl
        simp only [MP.fn] at kw
        have hlt := hK.lt _ _ _ HS2.out
        have G3 : FrL (MP.mk B br bc bR bC bk bM bm bw n cl K cap KM capM ar cr ac cc gR vR lR gC vC lC gM cM rs).data w3 w6 := HFD.out
        have hS6 := hK.stay _ _ _ _ HS2.out (fun j hj => G3.block j (hlt j hj) (KS.out j hj).2)
        have C1 := IH.out (R.set i p') (C.set j q') (set2 m i j 1) s l w6 (T + 1) (by omega) (by have := HTE.out; omega) HRB1.out HCB1.out (by have := HMM.out; omega) H3.out HZ1.out hS6 KS.out
        rw [← CE.out] at C1
        clear hS6 G3 hlt
        go_wp2_with fail
        refine C1.mono ?_
        rintro e w7 ⟨rfl, l7, hW7, hS7, hsep7, hl7, hF7⟩
        obtain ⟨V, hV⟩ : ∃ V, (walkX may n cl go k (R.set i p') (C.set j q') (set2 m i j 1) s).2 = V := ⟨_, rfl⟩
        rw [hV]
        have HV := Lib.hid hV
        have F7 := Lib.hid (F3.out.trans hF7)
        have H7 := Lib.hid hW7
        have S7 := Lib.hid hS7
        have P7 := Lib.hid hsep7
        have L7 := Lib.hid hl7
        clear hV hW7 hS7 hsep7 hl7 hF7 C1 kw
        have kM := blk_cell H7.out.hM 0 (.slice (some ⟨gM, 0, none⟩) n cM) rfl
        have ar1 := H7.out.oM.cellRow H7.out.rect hcl0 hin
        obtain ⟨_, f3, _, _⟩ := H7.out.oM.cellNum H7.out.rect hin hjc
        simp only at ar1 f3
        have H8 := Lib.hid (H7.out.setM hP hin hjc 0 (.inl rfl))
        have F8 := Lib.hid (FrL.set w7 (rowB rs i) j (.int .i64 0) (MP.mk B br bc bR bC bk bM bm bw n cl K cap KM capM ar cr ac cc gR vR lR gC vC lC gM cM rs).data HD.out.2.2)
        go_upto_region 12 with (fail)
        generalize hV8 : w7.setCell ⟨rowB rs i, j, none⟩ (.int .i64 0) = w8 at *
        clear hV8 f3 ar1 kM
        have kR := blk_cell H8.out.hR 0 (.slice (some ⟨gR, 0, none⟩) n vR) rfl
        have aR := own_natAt H8.out.oR i hin
        rw [HG1.out] at aR
        have f1 := H8.out.oR.frozenAt i
        simp only at f1
        have H9 := Lib.hid (H8.out.setR hP i (p' + 1) ((p' : Int) + 1) (by omega))
        have F9 := Lib.hid (F8.out.trans (FrL.set w8 gR i (.int .i64 ((p' : Int) + 1)) (MP.mk B br bc bR bC bk bM bm bw n cl K cap KM capM ar cr ac cc gR vR lR gC vC lC gM cM rs).data HD.out.1))
        go_upto_region 13 with (fail)
        generalize hV9 : w8.setCell ⟨gR, i, none⟩ (.int .i64 ((p' : Int) + 1)) = w9 at *
        clear hV9 f1 aR kR
        have kC := blk_cell H9.out.hC 0 (.slice (some ⟨gC, 0, none⟩) cl vC) rfl
        have aC := own_natAt H9.out.oC j hjc
        rw [HG2.out] at aC
        have f2 := H9.out.oC.frozenAt j
        simp only at f2
        have H10 := Lib.hid (H9.out.setC hP j (q' + 1) ((q' : Int) + 1) (by omega))
        have F10 := Lib.hid (F9.out.trans (FrL.set w9 gC j (.int .i64 ((q' : Int) + 1)) (MP.mk B br bc bR bC bk bM bm bw n cl K cap KM capM ar cr ac cc gR vR lR gC vC lC gM cM rs).data HD.out.2.1))
        go_upto_region 14 with (fail)
        generalize hV10 : w9.setCell ⟨gC, j, none⟩ (.int .i64 ((q' : Int) + 1)) = w10 at *
        clear hV10 f2 aC kC
        have hW10 := H10.out
        rw [HBR.out, HBC.out, HBM.out] at hW10
        have hlt7 := hK.lt _ _ _ S7.out
        have hS10 := hK.stay _ _ _ _ S7.out (fun j hj => F10.out.block j (hlt7 j hj) (P7.out j hj).2)
        have W10 := Lib.hid hW10
        have S10 := Lib.hid hS10
        have hs6 := F7.out.size
        have hs10 := F10.out.size
        have FF := Lib.hid (show FrL (l ++ (MP.mk B br bc bR bC bk bM bm bw n cl K cap KM capM ar cr ac cc gR vR lR gC vC lC gM cM rs).data) w w10 from ((FrL.of_below HB2.out _).trans F7.out).trans (F10.out.mono (fun j hj => List.mem_append_right _ hj)))
        have LL := Lib.hid (show ∀ j ∈ l7, j ∈ l ∨ w.heap.size ≤ j from fun j hj => by
          rcases L7.out j hj with h1 | h1
          · exact .inl h1
          · right; omega)
        clear hW10 hS10 hlt7
        cases V with
        | false =>
          have HR := Lib.hid (HR0.out HV.out)
          go_wp2
          go_ret
          exact ⟨ret_bool (by rw [HR.out]), l7, W10.out, by rw [HR.out]; exact S10.out, P7.out, LL.out, FF.out⟩
        | true =>
          have HR := Lib.hid (HR1.out HV.out)
          have C2 := IH.out R C m (walkX may n cl go k (R.set i p') (C.set j q') (set2 m i j 1) s).1 l7 w10 (T + 1) (by omega) (by have := HTE.out; omega) HRB.out HCB.out (by have h1 := HMM.out; have h2 := HSZ.out; omega) W10.out (fun i' j' h1 h2 h3 => HZ.out i' j' (by omega) h2 h3) S10.out P7.out
          rw [← CE.out] at C2
          have kw := blk_cell W10.out.hw 0 (MP.fn (MP.mk B br bc bR bC bk bM bm bw n cl K cap KM capM ar cr ac cc gR vR lR gC vC lC gM cM rs)) rfl
          simp only [MP.fn] at kw
          generalize hs1 : (walkX may n cl go k (R.set i p') (C.set j q') (set2 m i j 1) s).1 = s1 at *
          clear hs1
          go_wp2_with fail
          refine C2.mono ?_
          rintro e w11 ⟨rfl, l11, r1, r2, r3, r4, r5⟩
          have HH := Lib.hid (And.intro r1 (And.intro r2 (And.intro r3 (And.intro r4 r5))))
          generalize hV : (walkX may n cl go k R C m s1).2 = V at *
          have HV2 := Lib.hid hV
          clear hV r1 r2 r3 r4 r5 C2 kw
          go_wp2
          go_ret
          obtain ⟨r1, r2, r3, r4, r5⟩ := HH.out
          refine ⟨ret_bool (by rw [HR.out]; exact HV2.out.symm), l11, r1, by rw [HR.out]; exact r2, r3, fun j hj => ?_, FF.out.then r5 (fun j hj => ?_)⟩
          · rcases r4 j hj with h1 | h1
            · exact LL.out j h1
            · right; omega
          · rcases List.mem_append.1 hj with h1 | h1
            · rcases LL.out j h1 with h2 | h2
              · exact .inl (List.mem_append_left _ h2)
              · exact .inr h2
            · exact .inl (List.mem_append_right _ h1)
      · have HR := Lib.hid (HWX2.out.trans (if_neg hB))
        have HRS := Lib.hid (show solsX may n cl (k + 1) R C m = solsX may n cl k R C m by rw [HSX2.out, if_neg hB]; rfl)
        clear HWX2 HSX2
        have C2 := IH.out R C m s l w2 (T + 1) (by omega) (by have := HTE.out; omega) HRB.out HCB.out (by rw [← HRS.out]; exact HM.out) HW2.out (fun i' j' h1 h2 h3 => HZ.out i' j' (by omega) h2 h3) HS2.out KS.out
        rw [← CE.out] at C2
        cases V with
        | false =>
          clear hB
          go_wp2_with fail
          refine CM.mono ?_
          rintro e w3 ⟨rfl, rfl⟩
          clear CM
          go_wp2_with fail
          refine C2.mono ?_
          rintro e w4 ⟨rfl, l4, r1, r2, r3, r4, r5⟩
          have HH := Lib.hid (And.intro r1 (And.intro r2 (And.intro r3 (And.intro r4 r5))))
          generalize hV : (walkX may n cl go k R C m s).2 = V at *
          have HV := Lib.hid hV
          clear hV r1 r2 r3 r4 r5 C2
          go_wp2
          go_ret
          obtain ⟨r1, r2, r3, r4, r5⟩ := HH.out
          exact ⟨ret_bool (by rw [HR.out]; exact HV.out.symm), l4, r1, by rw [HR.out]; exact r2, r3, fun j hj => by rcases r4 j hj with h | h; exact .inl h; right; omega, (FrL.of_below HB2.out _).trans r5⟩
        | true =>
          by_cases hp0 : 0 < p
          · have hq0 : ¬ 0 < q := fun h => hB ⟨rfl, hp0, h⟩
            have hd1 : decide ((0 : Int) < (p : Int)) = true := by simp; omega
            have hd2 : decide ((0 : Int) < (q : Int)) = false := by simp; omega
            clear hB
            go_wp2_with fail
            refine CM.mono ?_
            rintro e w3 ⟨rfl, rfl⟩
            clear CM
            go_wp2_with fail
            refine C2.mono ?_
            rintro e w4 ⟨rfl, l4, r1, r2, r3, r4, r5⟩
            have HH := Lib.hid (And.intro r1 (And.intro r2 (And.intro r3 (And.intro r4 r5))))
            generalize hV : (walkX may n cl go k R C m s).2 = V at *
            have HV := Lib.hid hV
            clear hV r1 r2 r3 r4 r5 C2
            go_wp2
            go_ret
            obtain ⟨r1, r2, r3, r4, r5⟩ := HH.out
            exact ⟨ret_bool (by rw [HR.out]; exact HV.out.symm), l4, r1, by rw [HR.out]; exact r2, r3, fun j hj => by rcases r4 j hj with h | h; exact .inl h; right; omega, (FrL.of_below HB2.out _).trans r5⟩
          · have hd1 : decide ((0 : Int) < (p : Int)) = false := by simp; omega
            clear hB
            go_wp2_with fail
            refine CM.mono ?_
            rintro e w3 ⟨rfl, rfl⟩
            clear CM
            go_wp2_with fail
            refine C2.mono ?_
            rintro e w4 ⟨rfl, l4, r1, r2, r3, r4, r5⟩
            have HH := Lib.hid (And.intro r1 (And.intro r2 (And.intro r3 (And.intro r4 r5))))
            generalize hV : (walkX may n cl go k R C m s).2 = V at *
            have HV := Lib.hid hV
            clear hV r1 r2 r3 r4 r5 C2
            go_wp2
            go_ret
            obtain ⟨r1, r2, r3, r4, r5⟩ := HH.out
            exact ⟨ret_bool (by rw [HR.out]; exact HV.out.symm), l4, r1, by rw [HR.out]; exact r2, r3, fun j hj => by rcases r4 j hj with h | h; exact .inl h; right; omega, (FrL.of_below HB2.out _).trans r5⟩
end

end Go.Proofs.Ytjghcegacgpehaa
