
/- The reference's IsDigraphic. -/
import Derived.Test.YtjghcegacgpehaaArc
import Derived.Test.YtjghcegacgpehaaMargins
namespace Go.Proofs.Ytjghcegacgpehaa
open Go.RowKit

set_option maxHeartbeats 1000000 in
theorem validScores_any (a : Option Addr) (ca n : Nat) (xs : List Int) (w : World) (hn : xs.length = n) (hx : Rd w a (ints xs)) (hl : n ≤ 1048576) :
    Calls Try.prog 92 #[.slice a n ca] w fun e w' => e = .returned (.bool (vSc xs)) ∧ w' = w := by
  have hV : vSc xs = (allR xs 0 ((n : Int) - 1) && inR n 1 5) := by rw [vSc, hn]
  have HV := Lib.hid hV
  have HN := Lib.hid hn
  clear hV hn
  go_enter Try.func92, Try.ntmps92
  go_wp2
  go_loopw [3] (fun i wr => ∃ k : Nat, k ≤ n ∧ i = .int .i64 k ∧ (∀ j (hj : j < k) (h : j < xs.length), inR (xs[j]'h) 0 ((n : Int) - 1) = true) ∧ wr = w) (fun i _ => n - (intOf i).toNat)
  case atStart => exact ⟨0, by omega, rfl, by intro j hj; omega, rfl⟩
  case round =>
    obtain ⟨k, hk, rfl, hall, rfl⟩ := hrel
    by_cases hlt : k < n
    · have hkx : k < xs.length := by rw [HN.out]; exact hlt
      obtain ⟨b1, o1, rfl, c1⟩ := hx.int hkx
      have hyes := Lib.hid (fun (h0 : inR (xs[k]'hkx) 0 ((n : Int) - 1) = true) => upto_step (xs := xs) (k := k) hkx h0 hall)
      have hno := Lib.hid (fun (h0 : inR (xs[k]'hkx) 0 ((n : Int) - 1) = false) => (show vSc xs = false by rw [HV.out, allR_no hkx h0]; rfl))
      clear hall
      generalize (xs[k]'hkx) = X at *
      have HI := inRange_any X 0 ((n : Int) - 1) wr
      cases hp : inR X 0 ((n : Int) - 1)
      · have HE := Lib.hid (hno.out hp); clear hno hyes
        rw [hp] at HI
        clear hp
        go_wp2_with fail
        refine HI.mono ?_
        rintro e w' ⟨rfl, rfl⟩
        clear HI
        go_wp2
        go_ret
        exact ⟨ret_bool HE.out.symm, rfl⟩
      · have HE := Lib.hid (hyes.out hp); clear hno hyes
        rw [hp] at HI
        clear hp
        go_wp2_with fail
        refine HI.mono ?_
        rintro e w' ⟨rfl, rfl⟩
        clear HI
        go_wp2
        go_roundw
        case rel => exact ⟨k + 1, by omega, by go_num, HE.out, trivial⟩
        case measure => simp [intOf]; omega
    · have hA : allR xs 0 ((n : Int) - 1) = true := allR_yes fun j hj => hall j (by rw [HN.out] at hj; omega) hj
      have HE := Lib.hid (show vSc xs = inR n 1 5 by rw [HV.out, hA]; rfl)
      clear hA hall
      have HI := inRange_any n 1 5 wr
      generalize inR n 1 5 = V at *
      go_wp2_with fail
      refine HI.mono ?_
      rintro e w' ⟨rfl, rfl⟩
      clear HI
      go_wp2
      go_ret
      exact ⟨ret_bool HE.out.symm, rfl⟩

/-- Bounds. -/
def BndP (l : List P2) : Prop := ∀ p ∈ l, 0 ≤ p.1 ∧ p.1 ≤ 5 ∧ 0 ≤ p.2 ∧ p.2 ≤ 5
theorem bnd_at {l : List P2} (h : BndP l) (j : Nat) : 0 ≤ (l.getD j (0, 0)).1 ∧ (l.getD j (0, 0)).1 ≤ 5 ∧ 0 ≤ (l.getD j (0, 0)).2 ∧ (l.getD j (0, 0)).2 ≤ 5 := by
  by_cases hj : j < l.length
  · rw [List.getD_eq_getElem?_getD, List.getElem?_eq_getElem hj]; exact h _ (List.getElem_mem hj)
  · rw [List.getD_eq_getElem?_getD, List.getElem?_eq_none (by omega)]; simp
theorem term_bnd {l : List P2} (h : BndP l) (k j : Nat) : -6 ≤ termP l k j ∧ termP l k j ≤ 6 := by
  have := bnd_at h j
  unfold termP
  split <;> omega
theorem sum_bnd {l : List P2} (h : BndP l) (k : Nat) : ∀ i : Nat, -6 * (i : Int) ≤ sF (termP l k) i ∧ sF (termP l k) i ≤ 6 * (i : Int) := by
  intro i
  induction i with
  | zero => simp [sF]
  | succ i ih =>
    have := term_bnd h k i
    rw [sF]
    omega
theorem ordP_bnd {xs ys : List Int} (hx : ∀ x ∈ xs, 0 ≤ x ∧ x ≤ 5) (hy : ∀ x ∈ ys, 0 ≤ x ∧ x ≤ 5) (i : Nat) : BndP (ordP xs ys i) := by
  have hg : ∀ l : List Int, (∀ x ∈ l, 0 ≤ x ∧ x ≤ 5) → ∀ v, 0 ≤ l.getD v 0 ∧ l.getD v 0 ≤ 5 := by
    intro l h v
    by_cases hv : v < l.length
    · rw [List.getD_eq_getElem?_getD, List.getElem?_eq_getElem hv]; exact h _ (List.getElem_mem hv)
    · rw [List.getD_eq_getElem?_getD, List.getElem?_eq_none (by omega)]; simp
  intro p hp
  obtain ⟨v, _, rfl⟩ := List.mem_map.1 hp
  have h1 := hg xs hx v
  have h2 := hg ys hy v
  exact ⟨h1.1, h1.2, h2.1, h2.2⟩
theorem small5 {l : List Int} (h : ∀ x ∈ l, 0 ≤ x ∧ x ≤ 5) : Small l := fun x hx => by
  have := h x hx
  omega

set_option maxHeartbeats 4000000 in
theorem isDig_any (a b : Option Addr) (ca cb n : Nat) (xs ys : List Int) (w : World) (hn : xs.length = n) (hm : ys.length = n) (hx : Rd w a (ints xs)) (hy : Rd w b (ints ys)) (hl : n ≤ 5) (hx5 : ∀ x ∈ xs, 0 ≤ x ∧ x ≤ 5) (hy5 : ∀ x ∈ ys, 0 ≤ x ∧ x ≤ 5) :
    Calls Try.prog 93 #[.slice a n ca, .slice b n cb] w fun e w' => e = .returned (.bool (digB xs ys)) ∧ Below w.heap.size w w' := by
  have C1 := arcOrder_any a b ca cb n xs ys w hn hm hx hy (by omega)
  have HB := Lib.hid (ordP_bnd hx5 hy5 n)
  have HLEN := Lib.hid (ordP_length xs ys n)
  have HD := Lib.hid (show digB xs ys = (((List.range n).all fun i => okP (ordP xs ys n) (i + 1)) && decide (xs.sum = ys.sum)) by rw [digB, hn])
  have HS1 := Lib.hid (fun (v : World) (hb : Below w.heap.size w v) => specSum_any a ca n xs v hn (hx.below hb) (by omega) (small5 hx5))
  have HS2 := Lib.hid (fun (v : World) (hb : Below w.heap.size w v) => specSum_any b cb n ys v hm (hy.below hb) (by omega) (small5 hy5))
  clear hn hm hx hy hx5 hy5
  go_enter Try.func93, Try.ntmps93
  go_wp2_with fail
  refine C1.mono ?_
  rintro e w1 ⟨a1, c1, rfl, ho, hb1⟩
  have HR := Lib.hid (own_rd ho)
  generalize ordP xs ys n = L at *
  clear C1 ho
  have hb0 := Below.refl w1.heap.size w1
  go_wp2
  go_loopw [6, 7, 8] (fun k _ _ wr => ∃ q : Nat, q ≤ n ∧ k = .int .i64 ((q : Int) + 1) ∧ (∀ i, i < q → okP L (i + 1) = true) ∧ Below w1.heap.size w1 wr) (fun k _ _ _ => n + 1 - (intOf k).toNat)
  case atStart => exact ⟨0, by omega, by go_num, by intro i hi; omega, hb0⟩
  case round =>
    clear hb0
    obtain ⟨q, hq, rfl, hall, hb⟩ := hrel
    by_cases hlt : q < n
    · obtain ⟨wo, rfl⟩ : ∃ wo : World, wo = wr := ⟨_, rfl⟩
      have hd : decide ((q : Int) + 1 ≤ (n : Int)) = true := decide_eq_true (by omega)
      have HALL := Lib.hid hall
      have hb0 := Below.refl wo.heap.size wo
      clear hall
      go_wp2
      go_loopw [7, 8] (fun s i wr => ∃ p : Nat, p ≤ n ∧ i = .int .i64 p ∧ s = .int .i64 (sF (termP L (q + 1)) p) ∧ Below wo.heap.size wo wr) (fun _ i _ => n - (intOf i).toNat)
      case atStart => exact ⟨0, by omega, rfl, rfl, hb0⟩
      case round =>
        clear hb0
        obtain ⟨p, hp, rfl, rfl, hbi⟩ := hrel
        have hsb := sum_bnd HB.out (q + 1) p
        by_cases hlt2 : p < n
        · have hpl : p < L.length := by rw [HLEN.out]; exact hlt2
          obtain ⟨b1, o1, e1, k1, k2⟩ := ((HR.out.below hb).below hbi).edge hpl
          have hba := bnd_at HB.out p
          have HT := Lib.hid (show sF (termP L (q + 1)) (p + 1) = sF (termP L (q + 1)) p + termP L (q + 1) p from rfl)
          have hgd : L.getD p (0, 0) = L[p]'hpl := by rw [List.getD_eq_getElem?_getD, List.getElem?_eq_getElem hpl]; rfl
          have hterm : termP L (q + 1) p = if p < q + 1 then min (L[p]'hpl).2 (((q + 1 : Nat) : Int) - 1) - (L[p]'hpl).1 else min (L[p]'hpl).2 ((q + 1 : Nat) : Int) := by rw [termP, hgd]
          rw [hgd] at hba
          rw [hterm] at HT
          clear hterm hgd
          generalize (L[p]'hpl).1 = A at *
          generalize (L[p]'hpl).2 = Bb at *
          generalize sF (termP L (q + 1)) p = S at *
          subst e1
          by_cases hpq : p < q + 1
          · have hd2 : decide ((p : Int) < (q : Int) + 1) = true := decide_eq_true (by omega)
            have HT2 := Lib.hid (HT.out.trans (by rw [if_pos hpq]))
            have d1 := later_cell k1
            have d2 := later_cell k2
            clear HT k1 k2
            go_wp2
            refine wp_region_flags [true, true, true, true, true, true, true, true, false, false, true, true, true, true, true, false, false] 16 (C := fun w' => ∃ u : Later wr, w' = u.val) (by kernel_rfl) (by kernel_rfl) ⟨⟨_, bel_drew (Below.refl _ _)⟩, rfl⟩ ?_
            simp only [pickT, pickF]
            repeat (go_big_quiet_step (fail))
            refine wpQuiet_nil ?_
            clear d1 d2
            have hv0 : Below wr.heap.size wr wr.drew := bel_drew (Below.refl _ _)
            generalize hD : wr.drew = wd at *
            clear hD
            refine tail_step fun K hK => ?_
            go_wp2
            all_goals
              refine hK _ _ ⟨⟨_, hv0⟩, rfl⟩ ?_
              clear hK
              refine tail_step fun K hK => ?_
              go_wp2
              refine hK _ _ ⟨⟨_, hv0⟩, rfl⟩ ?_
              clear hK
              refine tail_step fun K hK => ?_
              go_wp2
              refine hK _ _ ⟨⟨_, hv0⟩, rfl⟩ ?_
              clear hK
              refine tail_last fun K hK => ?_
              have hb2 := below_tr' hbi hv0
              go_wp2
              go_roundw
              case rel => exact ⟨p + 1, by omega, by go_num, by rw [HT2.out]; go_num, hb2⟩
              case measure => simp [intOf]; omega
          · have hd2 : decide ((p : Int) < (q : Int) + 1) = false := decide_eq_false (by omega)
            have HT2 := Lib.hid (HT.out.trans (by rw [if_neg hpq]))
            clear HT
            go_wp2
            go_roundw
            case rel => exact ⟨p + 1, by omega, by go_num, by rw [HT2.out]; go_num, hbi⟩
            case measure => simp [intOf]; omega
        · obtain rfl : p = n := by omega
          have hb2 := below_tr' hb hbi
          have hok : okP L (q + 1) = decide (0 ≤ sF (termP L (q + 1)) p) := by rw [okP, HLEN.out]
          generalize sF (termP L (q + 1)) p = S at *
          by_cases hS : S < 0
          · have hd3 : decide (S < 0) = true := decide_eq_true hS
            have HF := Lib.hid (show digB xs ys = false by
              rw [HD.out]
              have : ((List.range p).all fun i => okP L (i + 1)) = false := by
                rw [List.all_eq_false]
                exact ⟨q, List.mem_range.2 hlt, by rw [hok]; simp; omega⟩
              rw [this]; rfl)
            have HBB := Lib.hid (below_tr' hb1 hb2)
            clear hok hb2 hbi hb
            go_wp2
            go_ret
            exact ⟨ret_bool HF.out.symm, HBB.out⟩
          · have hd3 : decide (S < 0) = false := decide_eq_false hS
            have HN := Lib.hid (fun i (hi : i < q + 1) => (show okP L (i + 1) = true from by
              by_cases e : i = q
              · subst e; rw [hok]; simp; omega
              · exact HALL.out i (by omega)))
            clear hok hbi hb
            go_wp2
            go_roundw
            case rel => exact ⟨q + 1, by omega, by go_num, HN.out, hb2⟩
            case measure => simp [intOf]; omega
    · obtain rfl : q = n := by omega
      have hd : decide ((q : Int) + 1 ≤ (q : Int)) = false := decide_eq_false (by omega)
      have hBB := below_tr' hb1 hb
      have HE := Lib.hid (show digB xs ys = decide (xs.sum = ys.sum) by
        rw [HD.out]
        have : ((List.range q).all fun i => okP L (i + 1)) = true := by
          rw [List.all_eq_true]
          exact fun i hi => hall i (List.mem_range.1 hi)
        rw [this, Bool.true_and])
      have C1 := HS1.out wr hBB
      have C2 := HS2.out wr hBB
      clear hall
      generalize xs.sum = X at *
      generalize ys.sum = Y at *
      go_wp2_with fail
      refine C1.mono ?_
      rintro e w2 ⟨rfl, rfl⟩
      clear C1
      go_wp2_with fail
      refine C2.mono ?_
      rintro e w3 ⟨rfl, rfl⟩
      clear C2
      go_wp2
      go_ret
      exact ⟨ret_bool (by rw [HE.out, Bool.eq_iff_iff]; simp), hBB⟩

set_option maxHeartbeats 2000000 in
theorem specDig_any (a b : Option Addr) (ca cb n m : Nat) (xs ys : List Int) (w : World) (hn : xs.length = n) (hm : ys.length = m) (hx : Rd w a (ints xs)) (hy : Rd w b (ints ys)) (hl : n ≤ 1048576) (hl2 : m ≤ 1048576) :
    Calls Try.prog 28 #[.slice a n ca, .slice b m cb] w fun e w' => e = .returned (.bool (digV xs ys)) ∧ Below w.heap.size w w' := by
  by_cases hnm : n = m
  · subst hnm
    have hq : ((n : Int) == (n : Int)) = true := by simp
    have hV0 : digV xs ys = (vSc xs && (vSc ys && digB xs ys)) := by rw [digV, hn, hm]; simp
    have C1 := validScores_any a ca n xs w hn hx hl
    have C2 := validScores_any b cb n ys w hm hy hl
    cases h1 : vSc xs with
    | false =>
      have HV := Lib.hid (show digV xs ys = false by rw [hV0, h1]; rfl)
      rw [h1] at C1
      clear hV0 h1 C2 hx hy
      go_enter Try.func28, Try.ntmps28
      go_wp2_with fail
      refine C1.mono ?_
      rintro e w1 ⟨rfl, rfl⟩
      clear C1
      go_wp2
      go_ret
      exact ⟨ret_bool HV.out.symm, Below.refl _ _⟩
    | true =>
      cases h2 : vSc ys with
      | false =>
        have HV := Lib.hid (show digV xs ys = false by rw [hV0, h1, h2]; rfl)
        rw [h1] at C1
        rw [h2] at C2
        clear hV0 h1 h2 hx hy
        go_enter Try.func28, Try.ntmps28
        go_wp2_with fail
        refine C1.mono ?_
        rintro e w1 ⟨rfl, rfl⟩
        clear C1
        go_wp2_with fail
        refine C2.mono ?_
        rintro e w2 ⟨rfl, rfl⟩
        clear C2
        go_wp2
        go_ret
        exact ⟨ret_bool HV.out.symm, Below.refl _ _⟩
      | true =>
        have HV := Lib.hid (show digV xs ys = digB xs ys by rw [hV0, h1, h2]; simp)
        rw [h1] at C1
        rw [h2] at C2
        have hfacts : ∀ (l : List Int), l.length = n → vSc l = true → n ≤ 5 ∧ ∀ x ∈ l, 0 ≤ x ∧ x ≤ 5 := by
          intro l hl h
          rw [vSc, Bool.and_eq_true, inR_true, hl] at h
          refine ⟨by omega, fun x hx => ?_⟩
          have h3 := h.1
          rw [allR, List.all_eq_true] at h3
          have := inR_true.1 (h3 x hx)
          omega
        obtain ⟨h5, hx5⟩ := hfacts xs hn h1
        obtain ⟨_, hy5⟩ := hfacts ys hm h2
        have C3 := isDig_any a b ca cb n xs ys w hn hm hx hy h5 hx5 hy5
        generalize digB xs ys = V at *
        clear hV0 h1 h2 hx hy hfacts hx5 hy5
        go_enter Try.func28, Try.ntmps28
        go_wp2_with fail
        refine C1.mono ?_
        rintro e w1 ⟨rfl, rfl⟩
        clear C1
        go_wp2_with fail
        refine C2.mono ?_
        rintro e w2 ⟨rfl, rfl⟩
        clear C2
        go_wp2_with fail
        refine C3.mono ?_
        rintro e w3 ⟨rfl, hb⟩
        clear C3
        go_wp2
        go_ret
        exact ⟨ret_bool HV.out.symm, hb⟩
  · have HV := Lib.hid (show digV xs ys = false by rw [digV, hn, hm]; simp [hnm])
    have hq : ((n : Int) == (m : Int)) = false := beq_eq_false_iff_ne.2 (by omega)
    clear hx hy
    go_enter Try.func28, Try.ntmps28
    go_wp2
    go_ret
    exact ⟨ret_bool HV.out.symm, Below.refl _ _⟩

end Go.Proofs.Ytjghcegacgpehaa
