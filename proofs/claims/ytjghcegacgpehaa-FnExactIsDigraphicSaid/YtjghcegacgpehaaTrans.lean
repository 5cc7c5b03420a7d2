
/- The columns of a matrix as rows, and the matrix with 0 for 1: both sides. -/
import Derived.Test.YtjghcegacgpehaaTable
import Derived.Test.YtjghcegacgpehaaTourI
namespace Go.Proofs.Ytjghcegacgpehaa
open Go.RowKit

def colsOf (m : List (List Int)) : Nat := (m.getD 0 []).length
def transL (m : List (List Int)) : List (List Int) := if validM m = true then tbl (colsOf m) m.length (fun i k => at2 m k i) else []
def flipL (m : List (List Int)) : List (List Int) := if validM m = true then tbl m.length (colsOf m) (fun i k => 1 - at2 m i k) else []

theorem validM_cols {m : List (List Int)} (h : validM m = true) : 1 ≤ colsOf m ∧ colsOf m ≤ 5 ∧ 1 ≤ m.length ∧ m.length ≤ 5 := by
  have h1 := validM_size h
  have h0 : 0 < m.length := by omega
  have h2 := validM_row h h0
  unfold colsOf
  rw [← h2.1]
  omega
theorem at2_bounds {m : List (List Int)} (h : validM m = true) {i k : Nat} (hi : i < m.length) (hk : k < colsOf m) : 0 ≤ at2 m i k ∧ at2 m i k ≤ 1 := by
  have h1 := validM_row h hi
  have hk' : k < (m[i]'hi).length := by rw [h1.1]; exact hk
  rw [at2_get hi hk']
  exact h1.2.2 _ (List.getElem_mem hk')

theorem small_mul {a b : Nat} (ha : a ≤ 5) (hb : b ≤ 5) : a * b ≤ 25 := Nat.mul_le_mul ha hb
theorem transL_len (m : List (List Int)) : (transL m).length + sumLen (transL m) ≤ 1000 := by
  unfold transL
  split
  · rename_i h
    have h1 := validM_cols h
    have h2 := small_mul h1.2.1 h1.2.2.2
    rw [tbl_length, sumLen_tbl]; omega
  · simp [sumLen]
theorem flipL_len (m : List (List Int)) : (flipL m).length + sumLen (flipL m) ≤ 1000 := by
  unfold flipL
  split
  · rename_i h
    have h1 := validM_cols h
    have h2 := small_mul h1.2.2.2 h1.2.1
    rw [tbl_length, sumLen_tbl]; omega
  · simp [sumLen]

/-- One number of a matrix, in memory. -/
theorem RdM.num {w : World} {a : Option Addr} {m : List (List Int)} (hv : validM m = true) (h : RdM w a m) {i k : Nat} (hi : i < m.length) (hk : k < colsOf m) :
    ∃ b off bi oi ci, a = some ⟨b, off, none⟩ ∧ w.cell? ⟨b, off + i, none⟩ = some (.slice (some ⟨bi, oi, none⟩) (colsOf m) ci) ∧ w.cell? ⟨bi, oi + k, none⟩ = some (.int .i64 (at2 m i k)) := by
  have h1 := validM_row hv hi
  have hk' : k < (m[i]'hi).length := by rw [h1.1]; exact hk
  obtain ⟨b, off, bi, oi, ci, h2, h3, h4⟩ := h.at hi hk'
  rw [h1.1] at h3
  exact ⟨b, off, bi, oi, ci, h2, h3, h4⟩
/-- Its first row. -/
theorem RdM.first {w : World} {a : Option Addr} {m : List (List Int)} (hv : validM m = true) (h : RdM w a m) :
    ∃ b off a0 c0, a = some ⟨b, off, none⟩ ∧ w.cell? ⟨b, off, none⟩ = some (.slice a0 (colsOf m) c0) := by
  have h1 := validM_size hv
  obtain ⟨b, off, a0, c0, h2, h3, _⟩ := h 0 (by omega)
  rw [(validM_row hv (by omega)).1, Nat.add_zero] at h3
  exact ⟨b, off, a0, c0, h2, h3⟩
theorem RdM.row {w : World} {a : Option Addr} {m : List (List Int)} (hv : validM m = true) (h : RdM w a m) {i : Nat} (hi : i < m.length) :
    ∃ b off a0 c0, a = some ⟨b, off, none⟩ ∧ w.cell? ⟨b, off + i, none⟩ = some (.slice a0 (colsOf m) c0) := by
  obtain ⟨b, off, a0, c0, h2, h3, _⟩ := h i hi
  rw [(validM_row hv hi).1] at h3
  exact ⟨b, off, a0, c0, h2, h3⟩

theorem enters_trans : Enters Try.prog 89 := enters Try.func89 (by kernel_rfl) rfl
theorem trans1_any (p : Nat) (a : Option Addr) (c n : Nat) (m : List (List Int)) (i k : Nat) (w : World) (hv : validM m = true) (hn : m.length = n) (hp : w.cell? ⟨p, 0, none⟩ = some (.slice a n c)) (hx : RdM w a m) (hi : i < colsOf m) (hk : k < m.length) :
    Calls Try.prog 89 #[.int .i64 i, .int .i64 k, .pointer (some ⟨p, 0, none⟩)] w fun e w' => e = .returned (.int .i64 (at2 m k i)) ∧ w' = w := by
  obtain ⟨b, off, bi, oi, ci, rfl, c1, c2⟩ := hx.num hv hk hi
  have h5 := validM_cols hv
  generalize at2 m k i = X at *
  generalize colsOf m = cl at *
  clear hx hv
  go_enter Try.func89, Try.ntmps89
  go_wp2
  go_ret
  exact ⟨rfl, rfl⟩

end Go.Proofs.Ytjghcegacgpehaa
