/- IsMultigraphic: the reference's and the program's, both are 'multi'. -/
import Derived.Test.YtnjolpdpdmclhaaSum
namespace Go.Proofs.Ytnjolpdpdmclhaa
open Go.RowKit

def multi (xs : List Int) : Bool := validD xs && ((xs.sum % 2 == 0) && !(xs.any fun x => decide (xs.sum < 2 * x)))

set_option maxHeartbeats 1000000 in
theorem specIM_any (a : Option Addr) (c n : Nat) (xs : List Int) (w : World) (hn : xs.length = n) (hx : Rd w a (ints xs)) (hl : n ≤ 140737488351232) :
    Calls Try.prog 19 #[.slice a n c] w fun e w' => e = .returned (.bool (multi xs)) ∧ ∃ q, w' = w.drewN q := by
  have HV := specValidDegrees_any a c n xs w hn hx hl
  cases hv : validD xs
  · have HE := Lib.hid (show false = multi xs by simp [multi, hv])
    rw [hv] at HV
    clear hx hv
    go_enter Try.func19, Try.ntmps19
    go_wp2_with (go_at_call 35; refine HV.mono ?_; rintro e w ⟨rfl, rfl⟩)
    go_ret
    exact ⟨ret_bool HE.out, 0, rfl⟩
  · rw [hv] at HV
    obtain ⟨hsm, h7⟩ := validD_small hv
    have HS := specSum_any a c n xs w hn hx (by omega) hsm
    have hb := sum_bd _ hsm
    have HE := Lib.hid (show multi xs = ((xs.sum % 2 == 0) && !(xs.any fun x => decide (xs.sum < 2 * x))) by simp [multi, hv])
    have HSM := Lib.hid hsm
    clear hv hsm
    generalize hS : xs.sum = S at *
    have HSS := Lib.hid hS; clear hS
    by_cases hpar : S % 2 = 0
    · have hpar' : (S % 2 == 0) = true := by simp [hpar]
      have hpar2 : (S % 2 != 0) = false := by simp [hpar]
      have HE2 := Lib.hid (show multi xs = !(xs.any fun x => decide (S < 2 * x)) by rw [HE.out, hpar']; rfl)
      have HP := Lib.hid hpar
      clear HE hpar hpar'
      have HSH := Lib.hid HS
      clear HS
      go_enter Try.func19, Try.ntmps19
      go_wp2_with (first | (go_at_call 35; refine HV.mono ?_; rintro e w ⟨rfl, rfl⟩) | (go_at_call 39; refine HSH.out.mono ?_; rintro e w ⟨rfl, rfl⟩))
      go_loopw [3] (fun i wr => ∃ k : Nat, k ≤ n ∧ i = .int .i64 k ∧ (∀ j (hj : j < k) (h : j < xs.length), 2 * xs[j]'h ≤ S) ∧ ∃ q, wr = w.drewN q) (fun i _ => n - (intOf i).toNat)
      case atStart => exact ⟨0, by omega, rfl, by intro j hj; omega, 0, rfl⟩
      case round =>
        obtain ⟨k, hk, rfl, hall, q, hq⟩ := hrel
        have hxr : Rd wr a (ints xs) := by rw [hq]; exact hx
        have HQ := Lib.hid hq; clear hq
        by_cases hlt : k < n
        · have hyes : 2 * (xs[k]'(by omega)) ≤ S → (∀ j (hj : j < k + 1) (h : j < xs.length), 2 * xs[j]'h ≤ S) := by
            intro h0 j hj h
            by_cases e : j = k
            · subst e; exact h0
            · exact hall j (by omega) h
          have hno : S < 2 * (xs[k]'(by omega)) → multi xs = false := by
            intro h0
            rw [HE2.out]
            have : (xs.any fun x => decide (S < 2 * x)) = true := List.any_eq_true.2 ⟨xs[k]'(by omega), List.getElem_mem _, by simpa using h0⟩
            rw [this]; rfl
          have HA := Lib.hid hall; clear hall
          have HSQ : ∀ m, Calls Try.prog 39 #[.slice a n c] (wr.drewN m) fun e w' => e = .returned (.int .i64 S) ∧ w' = wr.drewN m := by
            intro m
            rw [← HSS.out]
            exact specSum_any a c n xs (wr.drewN m) hn hxr (by omega) HSM.out
          have HSQ := Lib.hid HSQ
          obtain ⟨b1, o1, rfl, c1⟩ := hxr.int (k := k) (by omega)
          have hxk := HSM.out.get k (by omega)
          generalize (xs[k]'(by omega)) = X at *
          have hwr : IntKind.i64.wrap (2 * X) = 2 * X := IntWalk.i64_in _ (by omega)
          by_cases hX : S < 2 * X
          · have HN := Lib.hid (hno hX)
            clear hno hyes
            go_wp2
            go_quiet ((go_at_call 39; exact Calls.quiet_of_same (HSQ.out _)))
            clear hwr
            go_wp2
            go_ret
            exact ⟨ret_bool HN.out.symm, q + nq, by rw [HQ.out, World.drewN_drewN]⟩
          · have HN := Lib.hid (hyes (by omega))
            clear hno hyes
            go_wp2
            go_quiet ((go_at_call 39; exact Calls.quiet_of_same (HSQ.out _)))
            clear hwr
            go_wp2
            go_roundw
            case rel => exact ⟨k + 1, by omega, by go_num, HN.out, q + nq, by rw [HQ.out, World.drewN_drewN]⟩
            case measure => simp [intOf]; omega
        · have hf : multi xs = true := by
            rw [HE2.out]
            have : (xs.any fun x => decide (S < 2 * x)) = false := by
              rw [List.any_eq_false]
              intro x hx
              obtain ⟨i, hi, rfl⟩ := List.getElem_of_mem hx
              have := hall i (by omega) hi
              simp; omega
            rw [this]; rfl
          have HF := Lib.hid hf
          clear hf hall
          go_wp2
          go_ret
          exact ⟨ret_bool HF.out.symm, q, HQ.out⟩
    · have hpar2 : (S % 2 != 0) = true := by simp; omega
      have HE2 := Lib.hid (show multi xs = false by rw [HE.out]; simp [hpar])
      have HP := Lib.hid hpar
      clear HE hpar
      have HSH := Lib.hid HS
      clear HS
      go_enter Try.func19, Try.ntmps19
      go_wp2_with (first | (go_at_call 35; refine HV.mono ?_; rintro e w ⟨rfl, rfl⟩) | (go_at_call 39; refine HSH.out.mono ?_; rintro e w ⟨rfl, rfl⟩))
      go_ret
      exact ⟨ret_bool HE2.out.symm, 0, rfl⟩

theorem enters_IM : Enters Try.prog 42 := enters Try.func42 (by kernel_rfl) rfl

set_option maxHeartbeats 400000 in
theorem IM1_any (x : Int) (p : Nat) (a : Option Addr) (c n : Nat) (xs : List Int) (w : World) (hn : xs.length = n) (hx : Rd w a (ints xs)) (hl : n ≤ 7) (hs : Small xs) (h1 : w.cell? ⟨p, 0, none⟩ = some (.slice a n c)) (hx0 : 0 ≤ x ∧ x ≤ 1000000) :
    Calls Try.prog 42 #[.int .i64 x, .pointer (some ⟨p, 0, none⟩)] w fun e w' => e = .returned (.bool (decide (xs.sum < 2 * x))) ∧ w' = w := by
  have HC := implSum_any a c n xs w hn hx (by omega) hs
  generalize xs.sum = S at *
  clear hs hx
  go_enter Try.func42, Try.ntmps42
  go_wp2_with (go_at_call 40; refine HC.mono ?_; rintro e w ⟨rfl, rfl⟩)
  go_ret
  exact ⟨rfl, rfl⟩

set_option maxHeartbeats 1000000 in
theorem implIM_any (a : Option Addr) (c n : Nat) (xs : List Int) (w : World) (hn : xs.length = n) (hx : Rd w a (ints xs)) (hl : n ≤ 140737488351232) :
    Calls Try.prog 20 #[.slice a n c] w fun e w' => e = .returned (.bool (multi xs)) ∧ Below w.heap.size w w' := by
  have hB := below_alloc w (.cells #[.slice a n c] 23)
  have hx1 := hx.below hB
  have HV := implVD_any a c n xs _ hn hx1 hl
  cases hv : validD xs
  · have HE := Lib.hid (show false = multi xs by simp [multi, hv])
    rw [hv] at HV
    clear hx hx1 hv
    go_enter Try.func20, Try.ntmps20
    go_wp2_with (go_at_call 15; refine HV.mono ?_; rintro e w2 ⟨rfl, hb⟩)
    go_ret
    exact ⟨ret_bool HE.out, below_tr' hB hb⟩
  · rw [hv] at HV
    obtain ⟨hsm, h7⟩ := validD_small hv
    have HS : ∀ w2, Below (w.alloc (.cells #[.slice a n c] 23)).heap.size (w.alloc (.cells #[.slice a n c] 23)) w2 → Calls Try.prog 40 #[.slice a n c] w2 fun e w' => e = .returned (.int .i64 xs.sum) ∧ w' = w2 :=
      fun w2 hb => implSum_any a c n xs w2 hn (hx1.below hb) (by omega) hsm
    have hA : ∀ w2, Below (w.alloc (.cells #[.slice a n c] 23)).heap.size (w.alloc (.cells #[.slice a n c] 23)) w2 → Answers w2 42 #[.pointer (some ⟨w.heap.size, 0, none⟩)] xs (fun x => decide (xs.sum < 2 * x)) := by
      intro w2 hb2
      refine ⟨enters_IM, fun w' x hb hxm => ?_⟩
      have hb3 := below_tr' hb2 hb
      exact (IM1_any x _ a c n xs w' hn (hx1.below hb3) (by omega) hsm (cell_new _ _ hb3) (hsm x hxm)).mono fun e w'' ⟨h1, h2⟩ => ⟨h1, by rw [h2]; exact Below.refl _ _⟩
    have HC := fun w2 hb => ContainsFunc_any a c n xs _ _ _ w2 hn (hx1.below hb) hl (hA w2 hb)
    have hbd := sum_bd _ hsm
    have HE := Lib.hid (show multi xs = ((xs.sum % 2 == 0) && !(xs.any fun x => decide (xs.sum < 2 * x))) by simp [multi, hv])
    have hcell := fun w2 hb => cell_new (w := w) (w' := w2) (.slice a n c) 23 hb
    have HS := Lib.hid HS
    have HC := Lib.hid HC
    have hcell := Lib.hid hcell
    clear hA hv hsm hx hx1
    generalize (xs.any fun x => decide (xs.sum < 2 * x)) = V at *
    generalize xs.sum = S at *
    cases hpar : (S % 2 == 0)
    · have HP := Lib.hid (show multi xs = false by rw [HE.out, hpar]; rfl)
      clear HE
      go_enter Try.func20, Try.ntmps20
      go_wp2_with fail
      refine HV.mono ?_
      rintro e w2 ⟨rfl, hb⟩
      have c2 := hcell.out w2 hb
      go_wp2_with fail
      refine (HS.out w2 hb).mono ?_
      rintro e w2 ⟨rfl, rfl⟩
      go_wp2
      go_ret
      exact ⟨ret_bool HP.out.symm, below_tr' hB hb⟩
    · have HP := Lib.hid (show multi xs = !V by rw [HE.out, hpar]; rfl)
      clear HE
      go_enter Try.func20, Try.ntmps20
      go_wp2_with fail
      refine HV.mono ?_
      rintro e w2 ⟨rfl, hb⟩
      have c2 := hcell.out w2 hb
      go_wp2_with fail
      refine (HS.out w2 hb).mono ?_
      rintro e w2 ⟨rfl, rfl⟩
      go_wp2_with fail
      refine (HC.out w2 hb).mono ?_
      rintro e w3 ⟨rfl, hb3⟩
      go_wp2
      go_ret
      exact ⟨ret_bool HP.out.symm, below_tr' (below_tr' hB hb) hb3⟩

end Go.Proofs.Ytnjolpdpdmclhaa
