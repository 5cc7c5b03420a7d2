
/- WeightsOf: the reference's and the program's, both are 'wtsOf'. -/
import Derived.Test.YtbiekdhikanhcaaCode
import Derived.Test.YtbiekdhikanhcaaEach
namespace Go.Proofs.Ytbiekdhikanhcaa
open Go.RowKit

def wt (s : ByteArray) (k : Nat) : Int := if (s.data.toList.getD k 0).toNat = 100 then (k : Int) + 1 else -(k : Int) - 1
def wts (s : ByteArray) (n : Nat) : List Int := (List.range n).map (wt s)
theorem wts_succ (s : ByteArray) (n : Nat) : wts s (n + 1) = wts s n ++ [wt s n] := by simp [wts, List.range_succ]
theorem wts_length (s : ByteArray) (n : Nat) : (wts s n).length = n := by simp [wts]
theorem byte_at (s : ByteArray) (k : Nat) (h : k < s.size) : s.data.toList.getD k 0 = s[k] := by
  have h' : k < s.data.toList.length := by simpa using h
  rw [List.getD, List.getElem?_eq_getElem h']; rfl
theorem wt_d {s : ByteArray} {k : Nat} (h : k < s.size) (e : (s[k]'h).toNat = 100) : wt s k = (k : Int) + 1 := by rw [wt, byte_at s k h, if_pos e]
theorem wt_i {s : ByteArray} {k : Nat} (h : k < s.size) (e : (s[k]'h).toNat ≠ 100) : wt s k = -(k : Int) - 1 := by rw [wt, byte_at s k h, if_neg e]
noncomputable def wtsOf (s : ByteArray) : List Int := if codeB s = true then wts s s.size else []


set_option maxHeartbeats 1000000 in
theorem specWeights_any (s : ByteArray) (w : World) (hl : s.size ≤ 9223372036854775807) :
    Calls Try.prog 24 #[.string s] w fun e w' => ∃ a c, e = .returned (.tuple #[.slice a (wtsOf s).length c, .int .i64 0, .bool (codeB s)]) ∧
      w'.ownsRow w.heap.size 3 1 (.slice a (wtsOf s).length c) (wtsOf s).length (ints (wtsOf s)) ∧ Below w.heap.size w w' := by
  have HC := specCode_any s w hl
  cases hc : codeB s
  · have e : wtsOf s = [] := by simp [wtsOf, hc]
    rw [e]
    rw [hc] at HC
    clear hc e
    go_enter Try.func24, Try.ntmps24
    go_wp2_with (go_at_call 71; refine HC.mono ?_; rintro e w ⟨rfl, rfl⟩)
    go_ret3
    exact ⟨none, 0, rfl, World.ownsRow_nil _ _ _ _, Below.refl _ _⟩
  · have hcc := (codeB_true hc).1
    have h7 := (codeB_true hc).2.2
    have e : wtsOf s = wts s s.size := by simp [wtsOf, hc]
    rw [e, wts_length]
    rw [hc] at HC
    have HCC := Lib.hid hcc
    clear hc e hcc
    go_enter Try.func24, Try.ntmps24
    go_wp2_with (go_at_call 71; refine HC.mono ?_; rintro e w ⟨rfl, rfl⟩)
    go_loopw [5, 6] (fun v i wr => ∃ (k : Nat) (a : Option Addr) (c : Nat), k ≤ s.size ∧ i = .int .i64 k ∧ v = .slice a k c ∧ wr.ownsRow w.heap.size 3 1 (.slice a k c) k (ints (wts s k)) ∧ Below w.heap.size w wr) (fun _ i _ => s.size - (intOf i).toNat)
    case atStart => exact ⟨0, some ⟨w.heap.size, 0, none⟩, 0, by omega, rfl, rfl, World.ownsRow_made w #[] 0 (Nat.le_refl _) (by decide) rfl, below_alloc _ _⟩
    case round =>
      obtain ⟨k, a, c, hk, rfl, rfl, hown, hb⟩ := hrel
      by_cases hlt : k < s.size
      · have hsz := hb.size
        go_wp2_with (at_builtin; refine appendI Try.infoI _ _ rfl rfl hown hb (Nat.le_refl _) hsz rfl rfl (by omega) ?_; intro a' c' w1 hown1 hb1)
        · have h1 : (((s[k]'hlt).toNat : Int) == 100) = true := by assumption
          simp only [beq_iff_eq] at h1
          go_roundw
          case rel => exact ⟨k + 1, a', c', by omega, by go_num, rfl, by rw [wts_succ, wt_d hlt (by omega)]; exact hown1, hb1⟩
          case measure => simp [intOf]; omega
        · have h1 : (((s[k]'hlt).toNat : Int) == 100) = false := by assumption
          simp only [beq_eq_false_iff_ne, ne_eq] at h1
          go_roundw
          case rel => exact ⟨k + 1, a', c', by omega, by go_num, rfl, by rw [wts_succ, wt_i hlt (by omega)]; exact hown1, hb1⟩
          case measure => simp [intOf]; omega
      · have e : k = s.size := by omega
        subst e
        go_wp2
        go_ret3
        exact ⟨a, c, rfl, hown, hb⟩

theorem wts_set (s : ByteArray) (n k : Nat) (x : Int) (hk : k < n) (hx : x = wt s k) :
    ((ints (wts s k ++ List.replicate (n - k) 0)).set k (.int .i64 x)) = ints (wts s (k + 1) ++ List.replicate (n - (k + 1)) 0) := by
  rw [show n - k = (n - (k + 1)) + 1 from by omega, List.replicate_succ, set_mid _ _ _ _ _ (wts_length s k), wts_succ, hx, List.append_assoc]
  rfl

set_option maxHeartbeats 1000000 in
theorem implWeights_any (s : ByteArray) (w : World) (hl : s.size ≤ 9223372036854775807) :
    Calls Try.prog 23 #[.string s] w fun e w' => ∃ a c, e = .returned (.tuple #[.slice a (wtsOf s).length c, .int .i64 0, .bool (codeB s)]) ∧
      w'.ownsRow w.heap.size 3 1 (.slice a (wtsOf s).length c) (wtsOf s).length (ints (wtsOf s)) ∧ Below w.heap.size w w' := by
  have HC := implCode_any s w hl
  cases hc : codeB s
  · have e : wtsOf s = [] := by simp [wtsOf, hc]
    rw [e]
    rw [hc] at HC
    clear hc e
    go_enter Try.func23, Try.ntmps23
    go_wp2_with (go_at_call 70; refine HC.mono ?_; rintro e w ⟨rfl, rfl⟩)
    go_ret3
    exact ⟨none, 0, rfl, World.ownsRow_nil _ _ _ _, Below.refl _ _⟩
  · have hcc := (codeB_true hc).1
    have h7 := (codeB_true hc).2.2
    have e : wtsOf s = wts s s.size := by simp [wtsOf, hc]
    rw [e, wts_length]
    rw [hc] at HC
    have HCC := Lib.hid hcc
    clear hc e hcc
    go_enter Try.func23, Try.ntmps23
    go_wp2_with (first | (go_at_call 70; refine HC.mono ?_; rintro e w ⟨rfl, rfl⟩) | (at_make; refine makeI Try.infoI _ _ rfl rfl rfl rfl rfl rfl (by omega) ?_; intro w1 hown1 hB))
    have hown : w1.ownsRow w.heap.size 3 1 (.slice (some ⟨w.heap.size, 0, none⟩) s.size s.size) s.size (ints (wts s 0 ++ List.replicate (s.size - 0) 0)) := by
      simpa [wts] using hown1
    clear hown1
    go_loopw [6, 15] (fun _ i wr => ∃ k : Nat, k ≤ s.size ∧ i = .int .i64 k ∧ wr.ownsRow w.heap.size 3 1 (.slice (some ⟨w.heap.size, 0, none⟩) s.size s.size) s.size (ints (wts s k ++ List.replicate (s.size - k) 0)) ∧ Below w.heap.size w wr) (fun _ i _ => s.size - (intOf i).toNat)
    case atStart => exact ⟨0, by omega, rfl, hown, hB⟩
    case round =>
      obtain ⟨k, hk, rfl, ho, hb⟩ := hrel
      by_cases hlt : k < s.size
      · have hos := (ho.stored k (.int .i64 ((k : Int) + 1))).1
        have hos2 := (hos.stored k (.int .i64 (-(k : Int) - 1))).1
        rw [List.set_set] at hos2
        have HB := hb.setCell (p := ⟨w.heap.size, k, none⟩) (Nat.le_refl _) (.int .i64 ((k : Int) + 1))
        have HB2 := HB.setCell (p := ⟨w.heap.size, k, none⟩) (Nat.le_refl _) (.int .i64 (-(k : Int) - 1))
        obtain ⟨v, c2⟩ := own_some ho k (by omega)
        have f2 := ho.frozenAt k
        go_wp2
        · have h1 : (((s[k]'hlt).toNat : Int) == 105) = true := by assumption
          simp only [beq_iff_eq] at h1
          have e := wts_set s s.size k (-(k : Int) - 1) hlt (wt_i hlt (by omega)).symm
          rw [e] at hos2
          go_roundw
          case rel => exact ⟨k + 1, by omega, by go_num, by simpa using hos2, by simpa using HB2⟩
          case measure => simp [intOf]; omega
        · have h1 : (((s[k]'hlt).toNat : Int) == 105) = false := by assumption
          simp only [beq_eq_false_iff_ne, ne_eq] at h1
          have e := wts_set s s.size k ((k : Int) + 1) hlt (wt_d hlt (by have := HCC.out k hlt hlt; omega)).symm
          rw [e] at hos
          go_roundw
          case rel => exact ⟨k + 1, by omega, by go_num, hos, HB⟩
          case measure => simp [intOf]; omega
      · have e : k = s.size := by omega
        subst e
        go_wp2
        go_ret3
        exact ⟨_, _, rfl, by simpa using ho, hb⟩

end Go.Proofs.Ytbiekdhikanhcaa
