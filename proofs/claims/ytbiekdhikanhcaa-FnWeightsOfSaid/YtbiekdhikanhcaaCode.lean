
/- Codes of threshold graphs: the reference's test and the program's, both are 'codeB'. -/
import Derived.Test.YtbiekdhikanhcaaRng
namespace Go.Proofs.Ytbiekdhikanhcaa
open Go.RowKit

def codeUpto (s : ByteArray) (n : Nat) : Prop := ∀ k, k < n → (h : k < s.size) → (s[k]'h).toNat = 105 ∨ ((s[k]'h).toNat = 100 ∧ 0 < k)
def lettersUpto (s : ByteArray) (n : Nat) : Prop := ∀ k, k < n → (h : k < s.size) → (s[k]'h).toNat = 105 ∨ (s[k]'h).toNat = 100

open Classical in
noncomputable def codeB (s : ByteArray) : Bool := decide (codeUpto s s.size ∧ 1 ≤ s.size ∧ s.size ≤ 7)

theorem codeB_true {s : ByteArray} (h : codeB s = true) : codeUpto s s.size ∧ 1 ≤ s.size ∧ s.size ≤ 7 := by simpa [codeB] using h
theorem codeB_yes {s : ByteArray} (h : codeUpto s s.size) (h1 : 1 ≤ s.size) (h2 : s.size ≤ 7) : codeB s = true := by simp [codeB, h, h1, h2]
theorem codeB_no {s : ByteArray} (h : ¬ (codeUpto s s.size ∧ 1 ≤ s.size ∧ s.size ≤ 7)) : codeB s = false := by simp only [codeB, decide_eq_false_iff_not]; exact h
theorem codeB_bad {s : ByteArray} {k : Nat} (h : k < s.size) (h1 : (s[k]'h).toNat ≠ 105) (h2 : (s[k]'h).toNat ≠ 100 ∨ k = 0) : codeB s = false := by
  apply codeB_no
  rintro ⟨h3, _⟩
  rcases h3 k h h with h4 | ⟨h4, h5⟩ <;> omega

theorem upto_more {s : ByteArray} {k : Nat} (hall : lettersUpto s k) (h0 : ∀ h : k < s.size, (s[k]'h).toNat = 105 ∨ (s[k]'h).toNat = 100) : lettersUpto s (k + 1) := by
  intro j hj h
  by_cases e : j = k
  · subst e; exact h0 h
  · exact hall j (by omega) h
theorem code_more {s : ByteArray} {k : Nat} (hall : codeUpto s k) (h0 : ∀ h : k < s.size, (s[k]'h).toNat = 105 ∨ ((s[k]'h).toNat = 100 ∧ 0 < k)) : codeUpto s (k + 1) := by
  intro j hj h
  by_cases e : j = k
  · subst e; exact h0 h
  · exact hall j (by omega) h

set_option maxHeartbeats 1000000 in
theorem specCode_any (s : ByteArray) (w : World) (hl : s.size ≤ 9223372036854775807) :
    Calls Try.prog 71 #[.string s] w fun e w' => e = .returned (.bool (codeB s)) ∧ w' = w := by
  go_enter Try.func71, Try.ntmps71
  go_wp2
  go_loop [3] (fun i => ∃ k : Nat, k ≤ s.size ∧ i = .int .i64 k ∧ lettersUpto s k) (fun i => s.size - (intOf i).toNat)
  case atStart => exact ⟨0, by omega, rfl, by intro j hj; omega⟩
  case round =>
    obtain ⟨k, hk, rfl, hall⟩ := hrel
    by_cases hlt : k < s.size
    · have HA := Lib.hid hall; clear hall
      go_wp2
      · have h1 : ((s[k]'hlt).toNat : Int) = 105 := by assumption
        go_round
        case rel => exact ⟨k + 1, by omega, by go_num, upto_more HA.out fun _ => by omega⟩
        case measure => simp [intOf]; omega
      · have h1 : (((s[k]'hlt).toNat : Int) != 105) = true ∧ (((s[k]'hlt).toNat : Int) != 100) = true := by assumption
        simp only [bne_iff_ne, ne_eq] at h1
        go_ret
        exact ⟨ret_bool (codeB_bad hlt (by omega) (by omega)).symm, rfl⟩
      · have h1 : (((s[k]'hlt).toNat : Int) != 105) = false ∨ (((s[k]'hlt).toNat : Int) != 100) = false := by assumption
        simp only [bne_eq_false_iff_eq] at h1
        go_round
        case rel => exact ⟨k + 1, by omega, by go_num, upto_more HA.out fun _ => by omega⟩
        case measure => simp [intOf]; omega
    · have HA := Lib.hid (show lettersUpto s s.size by have : k = s.size := by omega
                                                       rw [this] at hall; exact hall)
      clear hall
      have HI := inRange_any s.size 1 7 w
      by_cases h17 : 1 ≤ s.size ∧ s.size ≤ 7
      · have hin : inR s.size 1 7 = true := inR_true.2 (by omega)
        rw [hin] at HI
        obtain ⟨h1, h7⟩ := h17
        have h0 : 0 < s.size := by omega
        clear hin
        go_wp2_with (go_at_call 84; refine HI.mono ?_; rintro e w ⟨rfl, rfl⟩)
        go_ret
        refine ⟨ret_bool ?_, rfl⟩
        by_cases h5 : ((s[0]'h0).toNat : Int) = 105
        · rw [codeB_yes (fun j hj h => ?_) h1 h7]
          · simp [h5]
          · rcases HA.out j hj h with h6 | h6
            · exact .inl h6
            · by_cases e : j = 0
              · subst e; omega
              · exact .inr ⟨h6, by omega⟩
        · rw [codeB_bad h0 (by omega) (.inr rfl)]
          simp [h5]
      · have hin : inR s.size 1 7 = false := inR_false.2 (by omega)
        rw [hin] at HI
        have HF := Lib.hid (codeB_no (s := s) (by omega))
        clear hin h17
        go_wp2_with (go_at_call 84; refine HI.mono ?_; rintro e w ⟨rfl, rfl⟩)
        go_ret
        exact ⟨ret_bool HF.out.symm, rfl⟩

set_option maxHeartbeats 1000000 in
theorem implCode_any (s : ByteArray) (w : World) (hl : s.size ≤ 9223372036854775807) :
    Calls Try.prog 70 #[.string s] w fun e w' => e = .returned (.bool (codeB s)) ∧ w' = w := by
  go_enter Try.func70, Try.ntmps70
  go_wp2
  go_loop [3, 6] (fun _ i => ∃ k : Nat, k ≤ s.size ∧ i = .int .i64 k ∧ codeUpto s k) (fun _ i => s.size - (intOf i).toNat)
  case atStart => exact ⟨0, by omega, rfl, by intro j hj; omega⟩
  case round =>
    obtain ⟨k, hk, rfl, hall⟩ := hrel
    by_cases hlt : k < s.size
    · have HA := Lib.hid hall; clear hall
      go_wp2
      · have h1 : ((s[k]'hlt).toNat : Int) = 105 := by assumption
        go_round
        case rel => exact ⟨k + 1, by omega, by go_num, code_more HA.out fun _ => by omega⟩
        case measure => simp [intOf]; omega
      · have h1 : ((s[k]'hlt).toNat : Int) = 100 := by assumption
        have h2 : ((k : Int) == 0) = true := by assumption
        simp only [beq_iff_eq] at h2
        go_ret
        exact ⟨ret_bool (codeB_bad hlt (by omega) (by omega)).symm, rfl⟩
      · have h1 : ((s[k]'hlt).toNat : Int) = 100 := by assumption
        have h2 : ((k : Int) == 0) = false := by assumption
        simp only [beq_eq_false_iff_ne, ne_eq] at h2
        go_round
        case rel => exact ⟨k + 1, by omega, by go_num, code_more HA.out fun _ => by omega⟩
        case measure => simp [intOf]; omega
      · have h1 : ¬ ((s[k]'hlt).toNat : Int) = 105 := by assumption
        have h2 : ¬ ((s[k]'hlt).toNat : Int) = 100 := by assumption
        go_ret
        exact ⟨ret_bool (codeB_bad hlt (by omega) (by omega)).symm, rfl⟩
    · have HA := Lib.hid (show codeUpto s s.size by have : k = s.size := by omega
                                                    rw [this] at hall; exact hall)
      clear hall
      have HI := in_any s.size 1 7 w
      have e : inR s.size 1 7 = codeB s := by
        by_cases h17 : 1 ≤ s.size ∧ s.size ≤ 7
        · rw [codeB_yes HA.out h17.1 h17.2]; exact inR_true.2 (by omega)
        · rw [codeB_no (by omega)]; exact inR_false.2 (by omega)
      obtain ⟨V, hV⟩ : ∃ V, V = codeB s := ⟨_, rfl⟩
      rw [e, ← hV] at HI
      have HV := Lib.hid hV
      clear e hV
      go_wp2_with (go_at_call 76; refine HI.mono ?_; rintro e w ⟨rfl, rfl⟩)
      go_ret
      exact ⟨ret_bool HV.out, rfl⟩

end Go.Proofs.Ytbiekdhikanhcaa
