
/- The program's matrices: the walk at its end. -/
import Derived.Test.YtjghcegacgpehaaMatW
import Derived.Test.YtjghcegacgpehaaGrowL
namespace Go.Proofs.Ytjghcegacgpehaa
open Go.RowKit

theorem enters_mwalk : Enters Try.prog 162 := enters Try.func162 (by kernel_rfl) rfl
theorem small_intsN {L : List Nat} (h : ∀ v, L.getD v 0 ≤ 900) : Small (intsN L) := by
  intro x hx
  simp only [intsN, List.mem_map] at hx
  obtain ⟨u, hu, rfl⟩ := hx
  obtain ⟨i, hi, rfl⟩ := List.getElem_of_mem hu
  have := h i
  rw [List.getD_eq_getElem?_getD, List.getElem?_eq_getElem hi, Option.getD_some] at this
  omega
theorem sum_intsN (L : List Nat) : (intsN L).sum = (L.sum : Nat) := by
  induction L with
  | nil => rfl
  | cons a t ih => simp only [intsN, List.map_cons, List.sum_cons] at ih ⊢; rw [ih]; omega

section
variable {σ : Type} {St : σ → List Nat → World → Prop} {go : σ → List (List Int) → σ × Bool} {sz : σ → Nat} {M : Nat} {P : MP} {may : Nat → Nat → Bool}
set_option maxHeartbeats 8000000 in
theorem mwalk_nil (hK : Keeps St) (hT : TakesM P.K P.cap P.n P.cl M sz St go) (hP : MOK P) (R C : List Nat) (m : List (List Int)) (s : σ) (l : List Nat) (w : World) (hRb : ∀ v, R.getD v 0 ≤ 900) (hCb : ∀ v, C.getD v 0 ≤ 900)
    (hM : sz s + (solsX may P.n P.cl 0 R C m).length ≤ M) (hW : MSt P R C m w) (hS : St s l w) (hsep : SepM P l) (T : Nat) (hT0 : T = P.n * P.cl) :
    Calls Try.prog 162 (#[.int .i64 (T : Int)] ++ #[.pointer (some ⟨P.br, 0, none⟩), .pointer (some ⟨P.bc, 0, none⟩), .pointer (some ⟨P.bR, 0, none⟩), .pointer (some ⟨P.bC, 0, none⟩), .pointer (some ⟨P.bk, 0, none⟩), .pointer (some ⟨P.bM, 0, none⟩), .pointer (some ⟨P.bm, 0, none⟩), .pointer (some ⟨P.bw, 0, none⟩)]) w
      fun e w' => MDoes St go may P 0 R C m s l w e w' := by
  obtain ⟨B, br, bc, bR, bC, bk, bM, bm, bw, n, cl, K, cap, KM, capM, ar, cr, ac, cc, gR, vR, lR, gC, vC, lC, gM, cM, rs⟩ := P
  obtain ⟨hRl, hCl, hml⟩ := hW.len
  simp only at hRl hCl hml hT0
  obtain ⟨hn1, hn5, hc1, hc5, _, _, _, _⟩ := hP
  simp only at hn1 hn5 hc1 hc5
  have k0 := blk_cell hW.hr 0 (.slice ar n cr) rfl
  have k1 := blk_cell hW.hc 0 (.slice ac cl cc) rfl
  have hprod : n * cl ≤ 5 * 5 := Nat.mul_le_mul hn5 hc5
  have hmul : (0 : Int) ≤ (n : Int) * (cl : Int) ∧ (n : Int) * (cl : Int) ≤ 25 := by
    have e : ((n * cl : Nat) : Int) = (n : Int) * (cl : Int) := by simp
    omega
  have hq : ((T : Int) == (n : Int) * (cl : Int)) = true := by rw [hT0]; simp
  have hRR := fun u : Later w => (by simpa using (own_rd hW.oR).below u.ok : Rd u.val (some ⟨gR, 0, none⟩) (ints (intsN R)))
  have hCC := fun u : Later w => (by simpa using (own_rd hW.oC).below u.ok : Rd u.val (some ⟨gC, 0, none⟩) (ints (intsN C)))
  have HA := Lib.hid (fun u : Later w => implSum_any (some ⟨gR, 0, none⟩) vR n (intsN R) u.val (by rw [intsN_length]; exact hRl) (hRR u) (by omega) (small_intsN hRb))
  have HB := Lib.hid (fun u : Later w => implSum_any (some ⟨gC, 0, none⟩) vC cl (intsN C) u.val (by rw [intsN_length]; exact hCl) (hCC u) (by omega) (small_intsN hCb))
  rw [sum_intsN] at HA HB
  have dR := later_cell (blk_cell hW.hR 0 (.slice (some ⟨gR, 0, none⟩) n vR) rfl)
  have dC := later_cell (blk_cell hW.hC 0 (.slice (some ⟨gC, 0, none⟩) cl vC) rfl)
  have hbnd : ∀ L : List Nat, L.length ≤ 5 → (∀ v, L.getD v 0 ≤ 900) → (L.sum : Nat) ≤ 5000000 := by
    intro L hL hb
    have h1 := sum_bd _ (small_intsN hb)
    rw [sum_intsN, intsN_length] at h1
    omega
  have hbR := hbnd R (by omega) hRb
  have hbC := hbnd C (by omega) hCb
  by_cases hz : R.sum = 0 ∧ C.sum = 0
  · have hlw := hK.lt _ _ _ hS
    obtain ⟨hK0, hT1⟩ := hT
    have hK1 : ∀ args w, (callFunc K args).run Try.prog w = .ok (.enter K args) w := hK0
    obtain ⟨m1, m2, m3, m4, m5, m6, m7, m8⟩ := mem_mvars ⟨B, br, bc, bR, bC, bk, bM, bm, bw, n, cl, K, cap, KM, capM, ar, cr, ac, cc, gR, vR, lR, gC, vC, lC, gM, cM, rs⟩
    have nv : ∀ b ∈ (MP.mk B br bc bR bC bk bM bm bw n cl K cap KM capM ar cr ac cc gR vR lR gC vC lC gM cM rs).vars, b ∉ l := fun b hb h' => (hsep b h').1 hb
    have dk := growl_cell (l := l) (blk_cell hW.hk 0 (.func (.func K) #[] cap) rfl) (nv _ m5)
    have dM := growl_cell (l := l) (blk_cell hW.hM 0 (.slice (some ⟨gM, 0, none⟩) n cM) rfl) (nv _ m6)
    have eR := growl_cell (l := l) (blk_cell hW.hR 0 (.slice (some ⟨gR, 0, none⟩) n vR) rfl) (nv _ m3)
    have eC := growl_cell (l := l) (blk_cell hW.hC 0 (.slice (some ⟨gC, 0, none⟩) cl vC) rfl) (nv _ m4)
    have hMs : sz s < M := by
      have e : solsX may n cl 0 R C m = [m] := by rw [solsX, if_pos hz]
      simp only at hM
      rw [e] at hM
      simp at hM; omega
    have HR := Lib.hid (show walkX may n cl go 0 R C m s = go s m by rw [walkX, if_pos hz])
    rw [hz.1] at HA
    rw [hz.2] at HB
    have HW := Lib.hid hW
    have HS := Lib.hid hS
    have HT := Lib.hid hT1
    have HDK := Lib.hid dk
    have HDM := Lib.hid dM
    have HEC := Lib.hid eC
    have hI0 : InL w l w.drew := ⟨Nat.le_refl _, fun _ _ _ => rfl⟩
    clear hz hW hS hT1 nv dk dM eC dR dC hRR hCC hbR hbC
    go_enter Try.func162, Try.ntmps162
    go_wp2
    refine wp_region_heads [true, false, false, false, false, false, false, false, false, false, false, false, false, false, false] 14 14 (C := fun w' => ∃ u : GrowL w l, w' = u.val) (by kernel_rfl) (by kernel_rfl) ⟨⟨_, hI0⟩, rfl⟩ ?_
    simp only [pickT]
    repeat (go_big_quiet_step (fail))
    refine wpQuiet_nil ?_
    clear eR k0 k1
    refine any_one (i := 1) (by kernel_rfl) rfl ?_
    intro Q1 hQ1
    have CA := HA.out ⟨_, bel_drew (Below.refl w.heap.size w)⟩
    go_wp2_with fail
    refine CA.mono ?_
    rintro e w1 ⟨rfl, hw1⟩
    have hb1 : Below w.heap.size w w1 := by rw [hw1]; exact bel_drew (Below.refl w.heap.size w)
    have hI1 : InL w l w1 := ⟨hb1.size, fun i hi _ => hb1.block i hi⟩
    clear hw1
    go_wp2
    refine hQ1 _ _ (fun _ => ⟨⟨_, hI1⟩, rfl⟩) ?_
    clear hQ1 CA
    have eC := HEC.out
    refine any_heads (id := 3) (n := 10) [false, false, true, true, true, false, false, false, false, false, false, false, false, false, false] #[true, true, true, true, true, false, false, false, false, false, false, false, false, false, false] (by kernel_rfl) ⟨⟨_, hI1⟩, rfl⟩ ?_
    simp only [pickT]
    repeat (go_big_quiet_step (fail))
    refine wpQuiet_nil ?_
    clear eC
    refine any_one (i := 5) (by kernel_rfl) rfl ?_
    intro Q1 hQ1
    have CB := HB.out ⟨_, hb1⟩
    go_wp2_with fail
    refine CB.mono ?_
    rintro e w2 ⟨rfl, hw2⟩
    have hb2 : Below w.heap.size w w2 := by rw [hw2]; exact hb1
    have hI2 : InL w l w2 := ⟨hb2.size, fun i hi _ => hb2.block i hi⟩
    clear hw2
    go_wp2
    refine hQ1 _ _ (fun _ => ⟨⟨_, hI2⟩, rfl⟩) ?_
    clear hQ1 CB hb1 hI1
    have dk := HDK.out
    have dM := HDM.out
    refine any_heads (id := 5) (n := 4) [false, false, false, false, false, false, true, true, true, true, true, false, false, false, false] #[true, true, true, true, true, true, true, true, true, true, true, false, false, false, false] (by kernel_rfl) ⟨⟨_, hI2⟩, rfl⟩ ?_
    simp only [pickT]
    repeat (go_big_quiet_step (fail))
    refine wpQuiet_nil ?_
    clear dk dM
    have hWS2 := HW.out.below hb2
    have CC := copyTable_any (some ⟨gM, 0, none⟩) cM n m w2 hWS2.vm hml hWS2.oM.rdM
    refine any_one (i := 11) (by kernel_rfl) rfl ?_
    intro Q1 hQ1
    go_wp2_with fail
    refine CC.mono ?_
    rintro e w3 ⟨g3, rs3, rfl, hM3, hb3⟩
    have hb3' : Below w.heap.size w w3 := below_tr' hb2 hb3
    have hI3 : InL w l w3 := ⟨hb3'.size, fun i hi _ => hb3'.block i hi⟩
    have HM3 := Lib.hid hM3
    clear hM3
    go_wp2
    refine hQ1 _ _ (fun _ => ⟨⟨_, hI3⟩, rfl⟩) ?_
    clear hQ1 CC
    have hWS3 := HW.out.below hb3'
    have hS3 := hK.stay _ _ _ _ HS.out (fun i hi => hb3'.block i (hlw i hi))
    have hs2 := hb2.size
    have ha3 : ∀ i ∈ mblks (some ⟨g3, 0, none⟩) rs3, i ∉ l := fun i hi h' => by
      have h1 := (HM3.out.blts i hi).1
      have h2 := hlw _ h'
      omega
    have CT := HT.out s l w3 (some ⟨g3, 0, none⟩) rs3 m hMs hWS3.vm hWS3.vc hS3 (HM3.out.mono (Nat.zero_le _)) ha3
    have HB1 := Lib.hid HM3.out.blts
    have HWS3 := Lib.hid hWS3
    clear hWS2 hWS3 hS3 HM3
    refine any_one (i := 12) (by kernel_rfl) rfl ?_
    intro Q1 hQ1
    go_wp2_with fail
    refine CT.mono ?_
    rintro e w4 ⟨rfl, l', hS4, hl', hF4⟩
    have hF : FrL l w w4 := (FrL.of_below hb3' l).trans hF4
    have HWS4 := Lib.hid (HWS3.out.frl hF4 hsep)
    have HS4 := Lib.hid hS4
    generalize hV : (go s m).2 = V at *
    have HV := Lib.hid hV
    clear hV hS4
    go_wp2
    refine hQ1 _ _ (fun _ => ⟨⟨_, hF.inL⟩, rfl⟩) ?_
    clear hQ1 CT
    refine any_heads (id := 1) (n := 1) [false, false, false, false, false, false, false, false, false, false, false, false, false, true, false] #[true, true, true, true, true, true, true, true, true, true, true, true, true, true, false] (by kernel_rfl) ⟨⟨_, hF.inL⟩, rfl⟩ ?_
    simp only [pickT]
    repeat (go_big_quiet_step (fail))
    refine wpQuiet_nil ?_
    refine any_one (i := 14) (by kernel_rfl) rfl ?_
    intro Q1 hQ1
    go_wp2
    refine hQ1 _ _ (fun h => absurd rfl h) ?_
    clear hQ1
    refine any_end (by kernel_rfl) ?_
    have hnew : ∀ j ∈ l', j ∈ l ∨ w.heap.size ≤ j := by
      intro j hj
      rcases hl' j hj with h1 | h1 | h1
      · exact .inl h1
      · right; have := hb3'.size; omega
      · right; have := (HB1.out j h1).1; omega
    have hsep4 : SepM ⟨B, br, bc, bR, bC, bk, bM, bm, bw, n, cl, K, cap, KM, capM, ar, cr, ac, cc, gR, vR, lR, gC, vC, lC, gM, cM, rs⟩ l' := by
      intro j hj
      rcases hnew j hj with h1 | h1
      · exact hsep j h1
      · refine ⟨fun h' => ?_, fun h' => ?_⟩
        · have := HW.out.lt j (.inl h'); omega
        · have := HW.out.lt j (.inr h'); omega
    go_wp2
    go_ret
    exact ⟨ret_bool (by rw [HR.out, HV.out]), l', HWS4.out, by rw [HR.out]; exact HS4.out, hsep4, hnew, hF.mono (fun i hi => List.mem_append_left _ hi)⟩
  · have HR := Lib.hid (show walkX may n cl go 0 R C m s = (s, true) by rw [walkX, if_neg hz])
    have HW := Lib.hid hW
    have HS := Lib.hid hS
    generalize R.sum = SR at *
    generalize C.sum = SC at *
    clear hW hS hRR hCC
    have HF : ∀ w1, Below w.heap.size w w1 → MDoes St go may ⟨B, br, bc, bR, bC, bk, bM, bm, bw, n, cl, K, cap, KM, capM, ar, cr, ac, cc, gR, vR, lR, gC, vC, lC, gM, cM, rs⟩ 0 R C m s l w (.returned (.bool true)) w1 := fun w1 hb =>
      ⟨ret_bool (by rw [HR.out]), l, HW.out.below hb, by rw [HR.out]; exact hK.stay _ _ _ _ HS.out (fun i hi => hb.block i (hK.lt _ _ _ HS.out i hi)), hsep, fun j hj => .inl hj, FrL.of_below hb _⟩
    have HF := Lib.hid HF
    clear HR HW HS
    by_cases hz1 : SR = 0
    · have hz2 : 0 < SC := by omega
      subst hz1
      go_enter Try.func162, Try.ntmps162
      go_wp2
      refine wp_region_later (by kernel_rfl) (by kernel_rfl) ?_
      iterate 4 (go_big_quiet_step ((go_at_call 163; exact calls_later _ ((HA.out _).mono fun _ _ h => ⟨h.1, by rw [h.2]; exact Below.refl _ _⟩))))
      repeat (go_big_quiet_step ((go_at_call 163; exact calls_later _ ((HB.out _).mono fun _ _ h => ⟨h.1, by rw [h.2]; exact Below.refl _ _⟩))))
      refine wpQuiet_nil ?_
      intro w1 hw'
      have hb := later_below hw'
      clear hw' dR dC k0 k1
      go_wp2
      go_ret
      exact HF.out _ hb
    · have hz2 : 0 < SR := by omega
      go_enter Try.func162, Try.ntmps162
      go_wp2
      refine wp_region_later (by kernel_rfl) (by kernel_rfl) ?_
      repeat (go_big_quiet_step ((go_at_call 163; exact calls_later _ ((HA.out _).mono fun _ _ h => ⟨h.1, by rw [h.2]; exact Below.refl _ _⟩))))
      refine wpQuiet_nil ?_
      intro w1 hw'
      have hb := later_below hw'
      clear hw' dR dC k0 k1
      go_wp2
      go_ret
      exact HF.out _ hb
end

end Go.Proofs.Ytjghcegacgpehaa
