
/- Margins: the reference's test and the program's, both are 'vMarg'; sums. -/
import Derived.Test.YtjghcegacgpehaaEach
namespace Go.Proofs.Ytjghcegacgpehaa
open Go.RowKit

def vMarg (r c : List Int) : Bool := allR r 0 c.length && (allR c 0 r.length && (inR r.length 1 5 && inR c.length 1 5))

theorem upto_step {xs : List Int} {lo hi : Int} {k : Nat} (hk : k < xs.length) (h0 : inR (xs[k]'hk) lo hi = true) (hall : ∀ j (_ : j < k) (h : j < xs.length), inR (xs[j]'h) lo hi = true) :
    ∀ j (_ : j < k + 1) (h : j < xs.length), inR (xs[j]'h) lo hi = true := by
  intro j hj h
  by_cases e : j = k
  · subst e; exact h0
  · exact hall j (by omega) h

set_option maxHeartbeats 1000000 in
theorem specValidMargins_any (a b : Option Addr) (ca cb n m : Nat) (r c : List Int) (w : World) (hn : r.length = n) (hm : c.length = m) (hr : Rd w a (ints r)) (hc : Rd w b (ints c)) (hl : n ≤ 140737488351232) (hl2 : m ≤ 140737488351232) :
    Calls Try.prog 133 #[.slice a n ca, .slice b m cb] w fun e w' => e = .returned (.bool (vMarg r c)) ∧ w' = w := by
  go_enter Try.func133, Try.ntmps133
  go_wp2
  go_loop [5] (fun i => ∃ k : Nat, k ≤ n ∧ i = .int .i64 k ∧ ∀ j (hj : j < k) (h : j < r.length), inR (r[j]'h) 0 m = true) (fun i => n - (intOf i).toNat)
  case atStart => exact ⟨0, by omega, rfl, by intro j hj; omega⟩
  case round =>
    obtain ⟨k, hk, rfl, hall⟩ := hrel
    by_cases hlt : k < n
    · obtain ⟨b1, o1, rfl, c1⟩ := hr.int (k := k) (by omega)
      have hyes := fun (h0 : inR (r[k]'(by omega)) 0 m = true) => upto_step (xs := r) (k := k) (by omega) h0 hall
      have hno : inR (r[k]'(by omega)) 0 m = false → vMarg r c = false := by
        intro h0
        have := allR_no (xs := r) (lo := 0) (hi := m) (by omega) h0
        simp [vMarg, hm, this]
      have HN := Lib.hid hall; clear hall
      generalize hX : (r[k]'(by omega)) = X at *
      clear hX
      have HI := inRange_any X 0 m w
      cases hp : inR X 0 m
      · have HE := Lib.hid (hno hp); clear hno hyes
        rw [hp] at HI
        clear hp
        go_wp2_with (go_at_call 107; refine HI.mono ?_; rintro e w' ⟨rfl, rfl⟩)
        go_ret
        exact ⟨ret_bool HE.out.symm, rfl⟩
      · have HE := Lib.hid (hyes hp); clear hno hyes
        rw [hp] at HI
        clear hp
        go_wp2_with (go_at_call 107; refine HI.mono ?_; rintro e w' ⟨rfl, rfl⟩)
        go_round
        case rel => exact ⟨k + 1, by omega, by go_num, HE.out⟩
        case measure => simp [intOf]; omega
    · have hA : allR r 0 m = true := allR_yes fun j hj => hall j (by omega) hj
      have HA := Lib.hid hA; clear hA hall
      go_wp2
      go_loop [6] (fun i => ∃ k : Nat, k ≤ m ∧ i = .int .i64 k ∧ ∀ j (hj : j < k) (h : j < c.length), inR (c[j]'h) 0 n = true) (fun i => m - (intOf i).toNat)
      case atStart => exact ⟨0, by omega, rfl, by intro j hj; omega⟩
      case round =>
        obtain ⟨k, hk, rfl, hall⟩ := hrel
        by_cases hlt : k < m
        · obtain ⟨b1, o1, rfl, c1⟩ := hc.int (k := k) (by omega)
          have hyes := fun (h0 : inR (c[k]'(by omega)) 0 n = true) => upto_step (xs := c) (k := k) (by omega) h0 hall
          have hno : inR (c[k]'(by omega)) 0 n = false → vMarg r c = false := by
            intro h0
            have := allR_no (xs := c) (lo := 0) (hi := n) (by omega) h0
            simp [vMarg, hn, this]
          have HN := Lib.hid hall; clear hall
          generalize hX : (c[k]'(by omega)) = X at *
          clear hX
          have HI := inRange_any X 0 n w
          cases hp : inR X 0 n
          · have HE := Lib.hid (hno hp); clear hno hyes
            rw [hp] at HI
            clear hp
            go_wp2_with (go_at_call 107; refine HI.mono ?_; rintro e w' ⟨rfl, rfl⟩)
            go_ret
            exact ⟨ret_bool HE.out.symm, rfl⟩
          · have HE := Lib.hid (hyes hp); clear hno hyes
            rw [hp] at HI
            clear hp
            go_wp2_with (go_at_call 107; refine HI.mono ?_; rintro e w' ⟨rfl, rfl⟩)
            go_round
            case rel => exact ⟨k + 1, by omega, by go_num, HE.out⟩
            case measure => simp [intOf]; omega
        · have e : vMarg r c = (inR n 1 5 && inR m 1 5) := by
            have h2 : allR c 0 n = true := allR_yes fun j hj => hall j (by omega) hj
            have h1 := HA.out
            simp only [vMarg]
            rw [hn, hm, h1, h2]; rfl
          have HE := Lib.hid e; clear e hall
          have I1 := inRange_any n 1 5 w
          have I2 := inRange_any m 1 5 w
          cases h1 : inR n 1 5
          · have HF := Lib.hid (show vMarg r c = false by rw [HE.out, h1]; rfl)
            rw [h1] at I1
            clear HE h1 I2
            go_wp2_with (go_at_call 107; refine I1.mono ?_; rintro e w' ⟨rfl, rfl⟩)
            go_ret
            exact ⟨ret_bool HF.out.symm, rfl⟩
          · have HF := Lib.hid (show vMarg r c = inR m 1 5 by rw [HE.out, h1]; rfl)
            rw [h1] at I1
            clear HE h1
            generalize inR m 1 5 = V at *
            go_wp2_with fail
            refine I1.mono ?_
            rintro e w ⟨rfl, rfl⟩
            go_wp2_with fail
            refine I2.mono ?_
            rintro e w ⟨rfl, rfl⟩
            go_wp2
            go_ret
            exact ⟨ret_bool HF.out.symm, rfl⟩

set_option maxHeartbeats 1000000 in
theorem implVMg_any (a b : Option Addr) (ca cb n m : Nat) (r c : List Int) (w : World) (hn : r.length = n) (hm : c.length = m) (hr : Rd w a (ints r)) (hc : Rd w b (ints c)) (hl : n ≤ 140737488351232) (hl2 : m ≤ 140737488351232) :
    Calls Try.prog 126 #[.slice a n ca, .slice b m cb] w fun e w' => e = .returned (.bool (vMarg r c)) ∧ Below w.heap.size w w' := by
  have e : vMarg r c = (allR r 0 m && (allR c 0 n && (inR n 1 5 && inR m 1 5))) := by simp only [vMarg]; rw [hn, hm]
  have I1 := in_any n 1 5 w
  have I2 := in_any m 1 5 w
  have A1 := allIn_any a ca n r 0 m w hn hr hl
  have A2 := fun (w1 : World) (hb : Below w.heap.size w w1) => allIn_any b cb m c 0 n w1 hm (hc.below hb) hl2
  rw [e]
  clear e hr hc
  generalize inR n 1 5 = V1 at *
  generalize inR m 1 5 = V2 at *
  generalize allR r 0 m = V3 at *
  generalize allR c 0 n = V4 at *
  cases V1
  · clear I2 A1 A2
    go_enter Try.func126, Try.ntmps126
    go_wp2_with (go_at_call 90; refine I1.mono ?_; rintro e w' ⟨rfl, rfl⟩)
    go_ret
    exact ⟨ret_bool (by simp), Below.refl _ _⟩
  cases V2
  · clear A1 A2
    go_enter Try.func126, Try.ntmps126
    go_wp2_with fail
    refine I1.mono ?_
    rintro e w ⟨rfl, rfl⟩
    go_wp2_with (go_at_call 90; refine I2.mono ?_; rintro e w ⟨rfl, rfl⟩)
    go_ret
    exact ⟨ret_bool (by simp), Below.refl _ _⟩
  cases V3
  · clear A2
    go_enter Try.func126, Try.ntmps126
    go_wp2_with fail
    refine I1.mono ?_
    rintro e w ⟨rfl, rfl⟩
    go_wp2_with fail
    refine I2.mono ?_
    rintro e w ⟨rfl, rfl⟩
    go_wp2_with (go_at_call 91; refine A1.mono ?_; rintro e w ⟨rfl, hb⟩)
    go_ret
    exact ⟨rfl, hb⟩
  · have A2 := Lib.hid A2
    go_enter Try.func126, Try.ntmps126
    go_wp2_with fail
    refine I1.mono ?_
    rintro e w ⟨rfl, rfl⟩
    go_wp2_with fail
    refine I2.mono ?_
    rintro e w ⟨rfl, rfl⟩
    go_wp2_with fail
    refine A1.mono ?_
    rintro e w1 ⟨rfl, hb⟩
    go_wp2_with fail
    refine (A2.out w1 hb).mono ?_
    rintro e w2 ⟨rfl, hb2⟩
    go_wp2
    go_ret
    exact ⟨ret_bool (by simp), below_tr' hb hb2⟩

end Go.Proofs.Ytjghcegacgpehaa
