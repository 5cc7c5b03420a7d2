
/- The columns of a matrix as rows, and the matrix with 0 for 1: both sides. -/
import Derived.Test.YtmlaohohbadgbaaTable
import Derived.Test.YtmlaohohbadgbaaTourI
namespace Go.Proofs.Ytmlaohohbadgbaa
open Go.RowKit

def colsOf (m : List (List Int)) : Nat := (m.getD 0 []).length
def transL (m : List (List Int)) : List (List Int) := if validM m = true then tbl (colsOf m) m.length (fun i k => at2 m k i) else []
def flipL (m : List (List Int)) : List (List Int) := if validM m = true then tbl m.length (colsOf m) (fun i k => 1 - at2 m i k) else []

theorem validM_cols {m : List (List Int)} (h : validM m = true) : 1 ≤ colsOf m ∧ colsOf m ≤ 5 ∧ 1 ≤ m.length ∧ m.length ≤ 5 := by
  have h1 := validM_size h
  have h0 : 0 < m.length := by omega
  have h2 := validM_row h h0
  unfold colsOf
  rw [← h2.1]
  omega
theorem at2_bounds {m : List (List Int)} (h : validM m = true) {i k : Nat} (hi : i < m.length) (hk : k < colsOf m) : 0 ≤ at2 m i k ∧ at2 m i k ≤ 1 := by
  have h1 := validM_row h hi
  have hk' : k < (m[i]'hi).length := by rw [h1.1]; exact hk
  rw [at2_get hi hk']
  exact h1.2.2 _ (List.getElem_mem hk')

theorem small_mul {a b : Nat} (ha : a ≤ 5) (hb : b ≤ 5) : a * b ≤ 25 := Nat.mul_le_mul ha hb
theorem transL_len (m : List (List Int)) : (transL m).length + sumLen (transL m) ≤ 1000 := by
  unfold transL
  split
  · rename_i h
    have h1 := validM_cols h
    have h2 := small_mul h1.2.1 h1.2.2.2
    rw [tbl_length, sumLen_tbl]; omega
  · simp [sumLen]
theorem flipL_len (m : List (List Int)) : (flipL m).length + sumLen (flipL m) ≤ 1000 := by
  unfold flipL
  split
  · rename_i h
    have h1 := validM_cols h
    have h2 := small_mul h1.2.2.2 h1.2.1
    rw [tbl_length, sumLen_tbl]; omega
  · simp [sumLen]

/-- One number of a matrix, in memory. -/
theorem RdM.num {w : World} {a : Option Addr} {m : List (List Int)} (hv : validM m = true) (h : RdM w a m) {i k : Nat} (hi : i < m.length) (hk : k < colsOf m) :
    ∃ b off bi oi ci, a = some ⟨b, off, none⟩ ∧ w.cell? ⟨b, off + i, none⟩ = some (.slice (some ⟨bi, oi, none⟩) (colsOf m) ci) ∧ w.cell? ⟨bi, oi + k, none⟩ = some (.int .i64 (at2 m i k)) := by
  have h1 := validM_row hv hi
  have hk' : k < (m[i]'hi).length := by rw [h1.1]; exact hk
  obtain ⟨b, off, bi, oi, ci, h2, h3, h4⟩ := h.at hi hk'
  rw [h1.1] at h3
  exact ⟨b, off, bi, oi, ci, h2, h3, h4⟩
/-- Its first row. -/
theorem RdM.first {w : World} {a : Option Addr} {m : List (List Int)} (hv : validM m = true) (h : RdM w a m) :
    ∃ b off a0 c0, a = some ⟨b, off, none⟩ ∧ w.cell? ⟨b, off, none⟩ = some (.slice a0 (colsOf m) c0) := by
  have h1 := validM_size hv
  obtain ⟨b, off, a0, c0, h2, h3, _⟩ := h 0 (by omega)
  rw [(validM_row hv (by omega)).1, Nat.add_zero] at h3
  exact ⟨b, off, a0, c0, h2, h3⟩
theorem RdM.row {w : World} {a : Option Addr} {m : List (List Int)} (hv : validM m = true) (h : RdM w a m) {i : Nat} (hi : i < m.length) :
    ∃ b off a0 c0, a = some ⟨b, off, none⟩ ∧ w.cell? ⟨b, off + i, none⟩ = some (.slice a0 (colsOf m) c0) := by
  obtain ⟨b, off, a0, c0, h2, h3, _⟩ := h i hi
  rw [(validM_row hv hi).1] at h3
  exact ⟨b, off, a0, c0, h2, h3⟩

theorem enters_trans : Enters Try.prog 38 := enters Try.func38 (by kernel_rfl) rfl
theorem enters_flip : Enters Try.prog 39 := enters Try.func39 (by kernel_rfl) rfl

theorem trans1_any (p : Nat) (a : Option Addr) (c n : Nat) (m : List (List Int)) (i k : Nat) (w : World) (hv : validM m = true) (hn : m.length = n) (hp : w.cell? ⟨p, 0, none⟩ = some (.slice a n c)) (hx : RdM w a m) (hi : i < colsOf m) (hk : k < m.length) :
    Calls Try.prog 38 #[.int .i64 i, .int .i64 k, .pointer (some ⟨p, 0, none⟩)] w fun e w' => e = .returned (.int .i64 (at2 m k i)) ∧ w' = w := by
  obtain ⟨b, off, bi, oi, ci, rfl, c1, c2⟩ := hx.num hv hk hi
  have h5 := validM_cols hv
  generalize at2 m k i = X at *
  generalize colsOf m = cl at *
  clear hx hv
  go_enter Try.func38, Try.ntmps38
  go_wp2
  go_ret
  exact ⟨rfl, rfl⟩

theorem flip1_any (p : Nat) (a : Option Addr) (c n : Nat) (m : List (List Int)) (i k : Nat) (w : World) (hv : validM m = true) (hn : m.length = n) (hp : w.cell? ⟨p, 0, none⟩ = some (.slice a n c)) (hx : RdM w a m) (hi : i < m.length) (hk : k < colsOf m) :
    Calls Try.prog 39 #[.int .i64 i, .int .i64 k, .pointer (some ⟨p, 0, none⟩)] w fun e w' => e = .returned (.int .i64 (1 - at2 m i k)) ∧ w' = w := by
  obtain ⟨b, off, bi, oi, ci, rfl, c1, c2⟩ := hx.num hv hi hk
  have h5 := validM_cols hv
  have h6 := at2_bounds hv hi hk
  generalize at2 m i k = X at *
  generalize colsOf m = cl at *
  clear hx hv
  go_enter Try.func39, Try.ntmps39
  go_wp2
  go_ret
  exact ⟨rfl, rfl⟩

set_option maxHeartbeats 1000000 in
theorem specTranspose_any (a : Option Addr) (c n : Nat) (m : List (List Int)) (w : World) (hv : validM m = true) (hn : m.length = n) (hx : RdM w a m) :
    Calls Try.prog 42 #[.slice a n c] w fun e w' => ∃ a' c' rs, e = .returned (.slice a' (colsOf m) c') ∧ OwnM w' w.heap.size a' (colsOf m) c' rs (tbl (colsOf m) n (fun i k => at2 m k i)) ∧ Below w.heap.size w w' := by
  have h5 := validM_cols hv
  rw [hn] at h5
  have HV := Lib.hid hv
  obtain ⟨cl, hcl⟩ : ∃ cl, cl = colsOf m := ⟨_, rfl⟩
  rw [← hcl] at h5 ⊢
  have HCL := Lib.hid hcl
  have HN := Lib.hid hn
  clear hv hcl hn
  go_enter Try.func42, Try.ntmps42
  go_wp2
  go_loopw [3, 4, 5, 6] (fun v i _ _ wr => ∃ (k : Nat) (ao : Option Addr) (co : Nat) (rs : List At), k ≤ cl ∧ i = .int .i64 k ∧ v = .slice ao k co ∧ OwnM wr w.heap.size ao k co rs (tbl k n (fun i k => at2 m k i)) ∧ Below w.heap.size w wr) (fun _ i _ _ _ => cl - (intOf i).toNat)
  case atStart => exact ⟨0, some ⟨w.heap.size, 0, none⟩, 0, [], by omega, rfl, rfl, ownM_nil w, below_alloc _ _⟩
  case round =>
    obtain ⟨k, ao, co, rs, hk, rfl, rfl, hM, hb⟩ := hrel
    obtain ⟨b0, off0, a0, c0, e0, hc0⟩ := (hx.below hb).first HV.out
    rw [← HCL.out] at hc0
    subst e0
    by_cases hlt : k < cl
    · obtain ⟨wo, rfl⟩ : ∃ wo : World, wo = wr := ⟨_, rfl⟩
      have hM0 := hM.below (below_alloc wo (.cells #[] 3))
      have hfr0 : ApartA rs (some ⟨wo.heap.size, 0, none⟩) := ApartA.fresh hM.2.2.2.1 (by rw [hM.1, hM.2.1]) (by intro x hx; cases hx; exact Nat.le_refl _)
      have hr0 : (wo.alloc (.cells #[] 3)).ownsRow w.heap.size 3 1 (.slice (some ⟨wo.heap.size, 0, none⟩) 0 0) 0 (ints []) := World.ownsRow_made wo #[] 0 hb.size (by decide) rfl
      have hb0 := below_tr' hb (below_alloc wo (.cells #[] 3))
      have HM0 := Lib.hid hM0
      have HFR := Lib.hid hfr0
      have HR0 := Lib.hid hr0
      have HB0 := Lib.hid hb0
      clear hM0 hfr0 hr0 hb0 hM
      go_wp2
      go_loopw [5, 6] (fun v j wr => ∃ (t : Nat) (ar : Option Addr) (cr : Nat), t ≤ n ∧ j = .int .i64 t ∧ v = .slice ar t cr ∧ OwnM wr w.heap.size ao k co rs (tbl k n (fun i k => at2 m k i)) ∧ ApartA rs ar ∧ wr.ownsRow w.heap.size 3 1 (.slice ar t cr) t (ints (rowF (fun i => at2 m i k) t)) ∧ Below w.heap.size w wr) (fun _ j _ => n - (intOf j).toNat)
      case atStart => exact ⟨0, some ⟨wo.heap.size, 0, none⟩, 0, by omega, rfl, rfl, HM0.out, HFR.out, HR0.out, HB0.out⟩
      case round =>
        obtain ⟨t, ar, cr, ht, rfl, rfl, hM, hap, hrow, hb⟩ := hrel
        clear HM0 HFR HR0 HB0 hc0
        have hsz := hb.size
        by_cases hlt2 : t < n
        · obtain ⟨b, off, bi, oi, ci, e1, c1, c2⟩ := (hx.below hb).num HV.out (i := t) (k := k) (by rw [HN.out]; exact hlt2) (by rw [← HCL.out]; exact hlt)
          cases e1
          rw [← HCL.out] at c1
          have HX := Lib.hid (rowF_succ (fun i => at2 m i k) t)
          generalize at2 m t k = X at *
          go_wp2_with (at_builtin; refine appendRow _ _ rfl rfl hM hap hrow hb (Nat.le_refl _) hsz rfl rfl (by omega) ?_; intro a' c' w1 hM1 hap1 hrow1 hb1)
          have HRW := Lib.hid hrow1
          clear hrow1 hrow c1 c2
          go_roundw
          case rel => exact ⟨t + 1, a', c', by omega, by go_num, rfl, hM1, hap1, by rw [HX.out]; exact HRW.out, hb1⟩
          case measure => simp [intOf]; omega
        · obtain rfl : t = n := by omega
          have HX := Lib.hid (tbl_succ k t (fun i k => at2 m k i))
          have HL := Lib.hid (rowF_length (fun i => at2 m i k) t)
          go_wp2_with (at_builtin; refine pushRow _ _ rfl rfl hM hap HL.out hrow hb (Nat.le_refl _) hsz rfl rfl (by omega) ?_; intro a' c' w1 hM1 hb1)
          have HRW := Lib.hid hM1
          clear hM1 hM hrow
          go_roundw
          case rel => exact ⟨k + 1, a', c', _, by omega, by go_num, rfl, by rw [HX.out]; exact HRW.out, hb1⟩
          case measure => simp [intOf]; omega
    · obtain rfl : k = cl := by omega
      have HR := Lib.hid hM
      clear hM
      go_wp2
      go_ret
      exact ⟨ao, co, rs, rfl, HR.out, hb⟩

end Go.Proofs.Ytmlaohohbadgbaa
