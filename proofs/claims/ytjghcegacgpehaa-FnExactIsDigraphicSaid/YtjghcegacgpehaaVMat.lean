
/- Whether rows are a matrix of 0 and 1: the program's ValidMatrix and the reference's validMatrix. -/
import Derived.Test.YtjghcegacgpehaaMatL2
import Derived.Test.YtjghcegacgpehaaBase
import Derived.Test.YtjghcegacgpehaaEach
namespace Go.Proofs.Ytjghcegacgpehaa
open Go.RowKit

def rowOK (m : List (List Int)) (row : List Int) : Bool := decide (row.length = (m.getD 0 []).length) && (inR row.length 1 5 && allR row 0 1)
def validM (m : List (List Int)) : Bool := m.all (rowOK m) && inR m.length 1 5
theorem validM_no {m : List (List Int)} {k : Nat} (hk : k < m.length) (h : rowOK m (m[k]'hk) = false) : validM m = false := by
  have : m.all (rowOK m) = false := by
    rw [List.all_eq_false]
    exact ⟨_, List.getElem_mem hk, by simp [h]⟩
  simp [validM, this]
theorem validM_end {m : List (List Int)} {k : Nat} (h : ∀ j (_ : j < k) (hj : j < m.length), rowOK m (m[j]'hj) = true) (hk : k = m.length) : validM m = inR k 1 5 := by
  have : m.all (rowOK m) = true := by
    rw [List.all_eq_true]
    intro e he
    obtain ⟨i, hi, rfl⟩ := List.getElem_of_mem he
    exact h i (by omega) hi
  rw [validM, this, Bool.true_and, hk]
theorem rowOK_next {m : List (List Int)} {k : Nat} (h : ∀ j (_ : j < k) (hj : j < m.length), rowOK m (m[j]'hj) = true) (hk : k < m.length) (h0 : rowOK m (m[k]'hk) = true) : ∀ j (_ : j < k + 1) (hj : j < m.length), rowOK m (m[j]'hj) = true := by
  intro j hj h1
  by_cases e : j = k
  · subst e; exact h0
  · exact h j (by omega) h1
theorem getD_zero {m : List (List Int)} (h : 0 < m.length) : m.getD 0 [] = m[0]'h := by rw [List.getD, List.getElem?_eq_getElem h]; rfl

set_option maxHeartbeats 1000000 in
theorem implValidMatrix_any (a : Option Addr) (c n : Nat) (m : List (List Int)) (w : World) (hn : m.length = n) (hx : RdM w a m) (hl : n + sumLen m ≤ 1048576) :
    Calls Try.prog 27 #[.slice a n c] w fun e w' => e = .returned (.bool (validM m)) ∧ Below w.heap.size w w' := by
  go_enter Try.func27, Try.ntmps27
  go_wp2
  go_loopw [4, 7] (fun _ i wr => ∃ k : Nat, k ≤ n ∧ i = .int .i64 k ∧ (∀ j (_ : j < k) (hj : j < m.length), rowOK m (m[j]'hj) = true) ∧ Below w.heap.size w wr) (fun _ i _ => n - (intOf i).toNat)
  case atStart => exact ⟨0, by omega, rfl, by intro j hj; omega, Below.refl _ _⟩
  case round =>
    obtain ⟨k, hk, rfl, hall, hb⟩ := hrel
    by_cases hlt : k < n
    · have hkm : k < m.length := by omega
      have h0m : 0 < m.length := by omega
      obtain ⟨b, off, ak, ck, rfl, hc, hrd, h1, h2, h3⟩ := hx.below hb k hkm
      obtain ⟨b0, off0, a0, c0, e0, hc0, _⟩ := hx.below hb 0 h0m
      cases e0
      rw [Nat.add_zero] at hc0
      have hsl := sumLen_get m k hkm
      have HNo := Lib.hid (validM_no hkm)
      have HNx := Lib.hid (rowOK_next hall hkm)
      have hok : rowOK m (m[k]'hkm) = (decide ((m[k]'hkm).length = (m[0]'h0m).length) && (inR (m[k]'hkm).length 1 5 && allR (m[k]'hkm) 0 1)) := by rw [rowOK, getD_zero h0m]
      have HOK := Lib.hid hok
      have CA := allIn_any ak ck (m[k]'hkm).length (m[k]'hkm) 0 1 wr rfl hrd (by omega)
      clear hall hok hx hrd
      generalize (m[k]'hkm) = X at *
      obtain ⟨len, hlen⟩ : ∃ len, X.length = len := ⟨_, rfl⟩
      rw [hlen] at hc hsl CA HOK h1
      generalize (m[0]'h0m).length = len0 at *
      clear hlen
      by_cases hL : len = len0
      · have C1 := in_any len 1 5 wr
        subst hL
        cases hI : inR len 1 5
        · rw [hI] at C1
          have HR := Lib.hid (HNo.out (by rw [HOK.out, hI]; simp))
          go_wp2_with fail
          refine C1.mono ?_
          rintro e w1 ⟨rfl, rfl⟩
          clear C1 CA
          go_wp2
          go_ret
          exact ⟨ret_bool HR.out.symm, hb⟩
        · rw [hI] at C1
          cases hA : allR X 0 1
          · rw [hA] at CA
            have HR := Lib.hid (HNo.out (by rw [HOK.out, hA]; simp))
            go_wp2_with fail
            refine C1.mono ?_
            rintro e w1 ⟨rfl, rfl⟩
            clear C1
            go_wp2_with fail
            refine CA.mono ?_
            rintro e w2 ⟨rfl, hb2⟩
            clear CA
            have hb2 := below_tr' hb hb2
            go_wp2
            go_ret
            exact ⟨ret_bool HR.out.symm, hb2⟩
          · rw [hA] at CA
            have HR := Lib.hid (HNx.out (by rw [HOK.out, hA, hI]; simp))
            go_wp2_with fail
            refine C1.mono ?_
            rintro e w1 ⟨rfl, rfl⟩
            clear C1
            go_wp2_with fail
            refine CA.mono ?_
            rintro e w2 ⟨rfl, hb2⟩
            clear CA
            have hb2 := below_tr' hb hb2
            go_wp2
            go_roundw
            case rel => exact ⟨k + 1, by omega, by go_num, HR.out, hb2⟩
            case measure => simp [intOf]; omega
      · have HR := Lib.hid (HNo.out (by rw [HOK.out, decide_eq_false hL]; simp))
        have hL' : (len : Int) ≠ len0 := by omega
        clear CA
        go_wp2
        go_ret
        exact ⟨ret_bool HR.out.symm, hb⟩
    · obtain rfl : k = n := by omega
      have HR := Lib.hid (validM_end hall hn.symm)
      have C1 := in_any k 1 5 wr
      generalize inR k 1 5 = V at *
      clear hall hx
      go_wp2_with fail
      refine C1.mono ?_
      rintro e w1 ⟨rfl, rfl⟩
      go_wp2
      go_ret
      exact ⟨ret_bool HR.out.symm, hb⟩

theorem allR_upto {xs : List Int} {k : Nat} (h : ∀ j (_ : j < k) (hj : j < xs.length), inR (xs[j]'hj) 0 1 = true) (hk : k = xs.length) : allR xs 0 1 = true :=
  allR_yes fun j hj => h j (by omega) hj
theorem inR_next {xs : List Int} {k : Nat} (h : ∀ j (_ : j < k) (hj : j < xs.length), inR (xs[j]'hj) 0 1 = true) (hk : k < xs.length) (h0 : inR (xs[k]'hk) 0 1 = true) : ∀ j (_ : j < k + 1) (hj : j < xs.length), inR (xs[j]'hj) 0 1 = true := by
  intro j hj h1
  by_cases e : j = k
  · subst e; exact h0
  · exact h j (by omega) h1

set_option maxHeartbeats 2000000 in
theorem specValidMatrix_any (a : Option Addr) (c n : Nat) (m : List (List Int)) (w : World) (hn : m.length = n) (hx : RdM w a m) (hl : n + sumLen m ≤ 1048576) :
    Calls Try.prog 123 #[.slice a n c] w fun e w' => e = .returned (.bool (validM m)) ∧ Below w.heap.size w w' := by
  go_enter Try.func123, Try.ntmps123
  go_wp2
  go_loopw [3, 4] (fun i _ wr => ∃ k : Nat, k ≤ n ∧ i = .int .i64 k ∧ (∀ j (_ : j < k) (hj : j < m.length), rowOK m (m[j]'hj) = true) ∧ Below w.heap.size w wr) (fun i _ _ => n - (intOf i).toNat)
  case atStart => exact ⟨0, by omega, rfl, by intro j hj; omega, Below.refl _ _⟩
  case round =>
    obtain ⟨k, hk, rfl, hall, hb⟩ := hrel
    by_cases hlt : k < n
    · have hkm : k < m.length := by omega
      have h0m : 0 < m.length := by omega
      obtain ⟨b, off, ak, ck, rfl, hc, hrd, h1, h2, h3⟩ := hx.below hb k hkm
      obtain ⟨b0, off0, a0, c0, e0, hc0, _⟩ := hx.below hb 0 h0m
      cases e0
      rw [Nat.add_zero] at hc0
      have hsl := sumLen_get m k hkm
      have HNo := Lib.hid (validM_no hkm)
      have HNx := Lib.hid (rowOK_next hall hkm)
      have hok : rowOK m (m[k]'hkm) = (decide ((m[k]'hkm).length = (m[0]'h0m).length) && (inR (m[k]'hkm).length 1 5 && allR (m[k]'hkm) 0 1)) := by rw [rowOK, getD_zero h0m]
      have HOK := Lib.hid hok
      clear hall hok hx
      generalize (m[k]'hkm) = X at *
      obtain ⟨len, hlen⟩ : ∃ len, X.length = len := ⟨_, rfl⟩
      rw [hlen] at hc hsl HOK h1
      generalize (m[0]'h0m).length = len0 at *
      have HLEN := Lib.hid hlen
      have HRD := Lib.hid hrd
      clear hlen hrd
      have d1 := later_cell hc
      have d2 := later_cell hc0
      by_cases hL : len = len0
      · have HE := Lib.hid (fun u : Later wr => same_below (inRange_any len 1 5 u.val))
        subst hL
        cases hI : inR len 1 5
        · rw [hI] at HE
          have HR := Lib.hid (HNo.out (by rw [HOK.out, hI]; simp))
          go_wp2
          refine wp_region_later (by kernel_rfl) (by kernel_rfl) ?_
          repeat (go_big_quiet_step ((go_at_call 107; exact calls_later _ (HE.out _))))
          refine wpQuiet_nil ?_
          intro w1 hw'
          have hb1 := below_tr' hb (later_below hw')
          clear hw' d1 d2
          go_wp2
          go_ret
          exact ⟨ret_bool HR.out.symm, hb1⟩
        · rw [hI] at HE
          go_wp2
          refine wp_region_later (by kernel_rfl) (by kernel_rfl) ?_
          repeat (go_big_quiet_step ((go_at_call 107; exact calls_later _ (HE.out _))))
          refine wpQuiet_nil ?_
          intro w1 hw'
          have hbw := later_below hw'
          have hb1 := below_tr' hb hbw
          have hc := (hbw.cell (p := ⟨b, off + k, none⟩) (Rd.lt hc)).trans hc
          have hrd := HRD.out.below hbw
          clear hw' d1 d2 hc0 HRD
          go_wp2
          go_loopw [4] (fun i wr => ∃ j : Nat, j ≤ len ∧ i = .int .i64 j ∧ (∀ t (_ : t < j) (ht : t < X.length), inR (X[t]'ht) 0 1 = true) ∧ Below w1.heap.size w1 wr) (fun i _ => len - (intOf i).toNat)
          case atStart => exact ⟨0, by omega, rfl, by intro t ht; omega, Below.refl _ _⟩
          case round =>
            obtain ⟨j, hj, rfl, hin, hb3⟩ := hrel
            have hc3 := (hb3.cell (p := ⟨b, off + k, none⟩) (Rd.lt hc)).trans hc
            have hb4 := below_tr' hb1 hb3
            by_cases hlt2 : j < len
            · have hjx : j < X.length := by rw [HLEN.out]; exact hlt2
              obtain ⟨b5, o5, e5, hc5⟩ := (hrd.below hb3).int (k := j) hjx
              have HZ := Lib.hid (inR_next hin hjx)
              have HF := Lib.hid (allR_no (lo := 0) (hi := 1) hjx)
              clear hin
              generalize X[j]'hjx = y at *
              subst e5
              have C1 := inRange_any y 0 1 wr
              cases hV : inR y 0 1
              · rw [hV] at C1
                have HR := Lib.hid (HNo.out (by rw [HOK.out, HF.out hV]; simp))
                clear HZ HF
                go_wp2_with fail
                refine C1.mono ?_
                rintro e w2 ⟨rfl, rfl⟩
                clear C1
                go_wp2
                go_ret
                exact ⟨ret_bool HR.out.symm, hb4⟩
              · rw [hV] at C1
                have HR := Lib.hid (HZ.out hV)
                clear HZ HF
                go_wp2_with fail
                refine C1.mono ?_
                rintro e w2 ⟨rfl, rfl⟩
                clear C1
                go_wp2
                go_roundw
                case rel => exact ⟨j + 1, by omega, by go_num, HR.out, hb3⟩
                case measure => simp [intOf]; omega
            · obtain rfl : j = len := by omega
              have HA := allR_upto hin HLEN.out.symm
              have HR := Lib.hid (HNx.out (by rw [HOK.out, HA, hI]; simp))
              clear hin HA
              go_wp2
              go_roundw
              case rel => exact ⟨k + 1, by omega, by go_num, HR.out, hb4⟩
              case measure => simp [intOf]; omega
      · have HR := Lib.hid (HNo.out (by rw [HOK.out, decide_eq_false hL]; simp))
        have hL' : (len : Int) ≠ len0 := by omega
        have hLb : ((len : Int) != (len0 : Int)) = true := bne_iff_ne.2 hL'
        go_wp2
        refine wp_region_later (by kernel_rfl) (by kernel_rfl) ?_
        repeat (go_big_quiet_step (fail))
        refine wpQuiet_nil ?_
        intro w1 hw'
        have hb1 := below_tr' hb (later_below hw')
        clear hw' d1 d2
        go_wp2
        go_ret
        exact ⟨ret_bool HR.out.symm, hb1⟩
    · obtain rfl : k = n := by omega
      have HR := Lib.hid (validM_end hall hn.symm)
      have C1 := inRange_any k 1 5 wr
      generalize inR k 1 5 = V at *
      clear hall hx
      go_wp2_with fail
      refine C1.mono ?_
      rintro e w1 ⟨rfl, rfl⟩
      go_wp2
      go_ret
      exact ⟨ret_bool HR.out.symm, hb⟩

end Go.Proofs.Ytjghcegacgpehaa
