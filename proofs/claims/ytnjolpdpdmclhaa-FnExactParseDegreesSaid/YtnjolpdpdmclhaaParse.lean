/- ParseDegrees: the reference's and the program's, both are 'pdL'. -/
import Derived.Test.YtnjolpdpdmclhaaClone
import Derived.Test.YtnjolpdpdmclhaaWeights
namespace Go.Proofs.Ytnjolpdpdmclhaa
open Go.RowKit

def byteI (s : ByteArray) (k : Nat) : Int := ((s.data.toList.getD k 0).toNat : Int)
theorem byteI_at (s : ByteArray) (k : Nat) (h : k < s.size) : byteI s k = ((s[k]'h).toNat : Int) := by rw [byteI, byte_at s k h]
def sdF (s : ByteArray) (k : Nat) : Int := byteI s k - 48
def idF (s : ByteArray) (k : Nat) : Int := if byteI s k < 48 then 99 else byteI s k - 48
def sdL (s : ByteArray) : List Int := upto (sdF s) s.size
def idL (s : ByteArray) : List Int := upto (idF s) s.size
def pdL (s : ByteArray) : List Int := if validD (sdL s) = true then sdL s else []

theorem upto_get (f : Nat → Int) (n k : Nat) (h : k < (upto f n).length) : (upto f n)[k] = f k := by simp [upto]

theorem idL_eq (s : ByteArray) (h : ∀ k, k < s.size → 48 ≤ byteI s k) : idL s = sdL s := by
  unfold idL sdL upto
  apply List.map_congr_left
  intro k hk
  have := h k (by simpa using hk)
  simp only [idF, sdF]
  rw [if_neg (by omega)]

theorem valid_bad {xs : List Int} {k : Nat} (hk : k < xs.length) (h : xs[k] < 0 ∨ 7 ≤ xs[k]) : validD xs = false := by
  by_cases h7 : xs.length ≤ 7
  · have : inR (xs[k]) 0 (xs.length - 1) = false := inR_false.2 (by omega)
    simp [validD, allR_no hk this]
  · simp [validD, h7]

theorem validD_id (s : ByteArray) : validD (idL s) = validD (sdL s) := by
  by_cases h : ∀ k, k < s.size → 48 ≤ byteI s k
  · rw [idL_eq s h]
  · obtain ⟨k, hk⟩ := Classical.not_forall.1 h
    obtain ⟨hk, hb⟩ := Classical.not_imp.1 hk
    have l1 : k < (idL s).length := by rw [idL, upto_length]; exact hk
    have l2 : k < (sdL s).length := by rw [sdL, upto_length]; exact hk
    have e1 : (idL s)[k] = idF s k := upto_get _ _ _ l1
    have e2 : (sdL s)[k] = sdF s k := upto_get _ _ _ l2
    rw [valid_bad l1 (by rw [e1, idF, if_pos (by omega)]; omega), valid_bad l2 (by rw [e2, sdF]; omega)]

theorem idL_valid (s : ByteArray) (h : validD (sdL s) = true) : idL s = sdL s := by
  apply idL_eq
  intro k hk
  have l2 : k < (sdL s).length := by rw [sdL, upto_length]; exact hk
  have e2 : (sdL s)[k] = sdF s k := upto_get _ _ _ l2
  have := ((validD_small h).1.get k l2).1
  rw [e2, sdF] at this
  omega

theorem pdL_len {s : ByteArray} : (pdL s).length ≤ 7 := by
  unfold pdL
  split
  · rename_i h; exact validD_len h
  · simp

set_option maxHeartbeats 1000000 in
theorem parseDegrees_any (s : ByteArray) (w : World) (hl : s.size ≤ 1048576) :
    Calls Try.prog 47 #[.string s] w fun e w' => ∃ a c, e = .returned (.tuple #[.slice a s.size c, .bool (validD (sdL s))]) ∧
      w'.ownsRow w.heap.size 3 1 (.slice a s.size c) s.size (ints (sdL s)) ∧ Below w.heap.size w w' := by
  go_enter Try.func47, Try.ntmps47
  go_wp2
  go_loopw [4, 5] (fun v i wr => ∃ (k : Nat) (a : Option Addr) (c : Nat), k ≤ s.size ∧ i = .int .i64 k ∧ v = .slice a k c ∧ wr.ownsRow w.heap.size 3 1 (.slice a k c) k (ints (upto (sdF s) k)) ∧ Below w.heap.size w wr) (fun _ i _ => s.size - (intOf i).toNat)
  case atStart => exact ⟨0, some ⟨w.heap.size, 0, none⟩, 0, by omega, rfl, rfl, World.ownsRow_made w #[] 0 (Nat.le_refl _) (by decide) rfl, below_alloc _ _⟩
  case round =>
    obtain ⟨k, a, c, hk, rfl, rfl, hown, hb⟩ := hrel
    by_cases hlt : k < s.size
    · have hsz := hb.size
      have hF := Lib.hid (show sdF s k = ((s[k]'hlt).toNat : Int) - 48 by rw [sdF, byteI_at s k hlt])
      have hlt256 : (s[k]'hlt).toNat < 256 := (s[k]'hlt).toNat_lt
      go_wp2_with (at_builtin; refine appendI Try.infoI _ _ rfl rfl hown hb (Nat.le_refl _) hsz rfl rfl (by omega) ?_; intro a' c' w1 hown1 hb1)
      go_roundw
      case rel => exact ⟨k + 1, a', c', by omega, by go_num, rfl, by rw [upto_succ, hF.out]; exact hown1, hb1⟩
      case measure => simp [intOf]; omega
    · have e : k = s.size := by omega
      subst e
      have HV := specValidDegrees_any a c s.size (sdL s) wr (by rw [sdL, upto_length]) (own_rd hown) (by omega)
      have HO := Lib.hid hown
      clear hown
      obtain ⟨V, hV⟩ : ∃ V, V = validD (sdL s) := ⟨_, rfl⟩
      rw [← hV] at HV
      have HVV := Lib.hid hV
      clear hV
      go_wp2_with fail
      refine HV.mono ?_
      rintro e wr ⟨rfl, rfl⟩
      go_wp2
      go_ret2
      exact ⟨a, c, by rw [← HVV.out]; rfl, HO.out, hb⟩

set_option maxHeartbeats 400000 in
theorem specPD_any (s : ByteArray) (w : World) (hl : s.size ≤ 1048576) :
    Calls Try.prog 27 #[.string s] w fun e w' => ∃ a c c0, e = .returned (.tuple #[.slice a (pdL s).length c, .bool (validD (sdL s))]) ∧
      w'.ownsRow w.heap.size 3 1 (.slice a (pdL s).length c0) (pdL s).length (ints (pdL s)) ∧ Below w.heap.size w w' := by
  have HC := parseDegrees_any s w hl
  cases hv : validD (sdL s)
  · have e : pdL s = [] := by simp [pdL, hv]
    rw [e]
    rw [hv] at HC
    clear hv e
    go_enter Try.func27, Try.ntmps27
    go_wp2_with fail
    refine HC.mono ?_
    rintro e w1 ⟨a, c, rfl, ho, hb⟩
    clear HC
    go_wp2
    go_ret2
    exact ⟨none, 0, 0, rfl, World.ownsRow_nil _ _ _ _, hb⟩
  · have e : pdL s = sdL s := by simp [pdL, hv]
    have el : (sdL s).length = s.size := by rw [sdL, upto_length]
    rw [e, el]
    rw [hv] at HC
    clear hv e el
    go_enter Try.func27, Try.ntmps27
    go_wp2_with fail
    refine HC.mono ?_
    rintro e w1 ⟨a, c, rfl, ho, hb⟩
    clear HC
    go_wp2
    go_ret2
    exact ⟨a, c, c, rfl, ho, hb⟩

set_option maxHeartbeats 1000000 in
theorem readDigits_any (s : ByteArray) (w : World) (hl : s.size ≤ 1048576) :
    Calls Try.prog 48 #[.string s] w fun e w' => ∃ a c0, e = .returned (.slice a s.size s.size) ∧
      w'.ownsRow w.heap.size 3 1 (.slice a s.size c0) s.size (ints (idL s)) ∧ Below w.heap.size w w' := by
  go_enter Try.func48, Try.ntmps48
  go_wp2
  go_loopw [3, 4, 5, 8] (fun v _ _ i wr => ∃ (k : Nat) (a : Option Addr) (c : Nat), k ≤ s.size ∧ i = .int .i64 k ∧ v = .slice a k c ∧ wr.ownsRow w.heap.size 3 1 (.slice a k c) k (ints (upto (idF s) k)) ∧ Below w.heap.size w wr) (fun _ _ _ i _ => s.size - (intOf i).toNat)
  case atStart => exact ⟨0, none, 0, by omega, rfl, rfl, World.ownsRow_nil _ _ _ _, Below.refl _ _⟩
  case round =>
    obtain ⟨k, a, c, hk, rfl, rfl, hown, hb⟩ := hrel
    by_cases hlt : k < s.size
    · have hsz := hb.size
      have hlt256 : (s[k]'hlt).toNat < 256 := (s[k]'hlt).toNat_lt
      by_cases h48 : ((s[k]'hlt).toNat : Int) < 48
      · have hF := Lib.hid (show idF s k = 99 by rw [idF, byteI_at s k hlt, if_pos h48])
        go_wp2_with (at_builtin; refine appendI Try.infoI _ _ rfl rfl hown hb (Nat.le_refl _) hsz rfl rfl (by omega) ?_; intro a' c' w1 hown1 hb1)
        go_roundw
        case rel => exact ⟨k + 1, a', c', by omega, by go_num, rfl, by rw [upto_succ, hF.out]; exact hown1, hb1⟩
        case measure => simp [intOf]; omega
      · have hF := Lib.hid (show idF s k = ((s[k]'hlt).toNat : Int) - 48 by rw [idF, byteI_at s k hlt, if_neg h48])
        go_wp2_with (at_builtin; refine appendI Try.infoI _ _ rfl rfl hown hb (Nat.le_refl _) hsz rfl rfl (by omega) ?_; intro a' c' w1 hown1 hb1)
        go_roundw
        case rel => exact ⟨k + 1, a', c', by omega, by go_num, rfl, by rw [upto_succ, hF.out]; exact hown1, hb1⟩
        case measure => simp [intOf]; omega
    · have e : k = s.size := by omega
      subst e
      have HP := Clip_any a c s.size wr (own_cap hown) (by omega)
      have HO := Lib.hid hown
      clear hown
      go_wp2_with fail
      refine HP.mono ?_
      rintro e wr ⟨rfl, rfl⟩
      go_wp2
      go_ret
      exact ⟨a, c, rfl, HO.out, hb⟩

set_option maxHeartbeats 400000 in
theorem implPD_any (s : ByteArray) (w : World) (hl : s.size ≤ 1048576) :
    Calls Try.prog 28 #[.string s] w fun e w' => ∃ a c c0, e = .returned (.tuple #[.slice a (pdL s).length c, .bool (validD (sdL s))]) ∧
      w'.ownsRow w.heap.size 3 1 (.slice a (pdL s).length c0) (pdL s).length (ints (pdL s)) ∧ Below w.heap.size w w' := by
  have HC := readDigits_any s w hl
  have HV := Lib.hid (fun (a : Option Addr) (c : Nat) (w1 : World) (hx : Rd w1 a (ints (idL s))) => implVD_any a c s.size (idL s) w1 (by rw [idL, upto_length]) hx (by omega))
  have hid := validD_id s
  cases hv : validD (sdL s)
  · have e : pdL s = [] := by simp [pdL, hv]
    rw [e]
    rw [hv] at hid
    have HI := Lib.hid hid
    clear hv e hid
    go_enter Try.func28, Try.ntmps28
    go_wp2_with fail
    refine HC.mono ?_
    rintro e w1 ⟨a, c, rfl, ho, hb⟩
    have HW := HV.out a s.size w1 (own_rd ho)
    rw [HI.out] at HW
    clear HC
    go_wp2_with fail
    refine HW.mono ?_
    rintro e w2 ⟨rfl, hb2⟩
    have HB := below_tr' hb hb2
    clear HW
    go_wp2
    go_ret2
    exact ⟨none, 0, 0, rfl, World.ownsRow_nil _ _ _ _, HB⟩
  · have e : pdL s = sdL s := by simp [pdL, hv]
    have el : (sdL s).length = s.size := by rw [sdL, upto_length]
    have ei := idL_valid s hv
    rw [e, el]
    rw [hv] at hid
    have HI := Lib.hid hid
    have EI := Lib.hid ei
    clear hv e el hid ei
    go_enter Try.func28, Try.ntmps28
    go_wp2_with fail
    refine HC.mono ?_
    rintro e w1 ⟨a, c, rfl, ho, hb⟩
    have HW := HV.out a s.size w1 (own_rd ho)
    rw [HI.out] at HW
    rw [EI.out] at ho
    clear HC
    go_wp2_with fail
    refine HW.mono ?_
    rintro e w2 ⟨rfl, hb2⟩
    have HB := below_tr' hb hb2
    have HO := Lib.hid (own_below ho hb2)
    clear HW ho
    go_wp2
    go_ret2
    exact ⟨a, s.size, c, rfl, HO.out, HB⟩

end Go.Proofs.Ytnjolpdpdmclhaa
