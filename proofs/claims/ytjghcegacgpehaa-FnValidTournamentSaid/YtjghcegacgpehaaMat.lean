
/- Rows of rows of numbers, for reading. No program is named here. -/
import Derived.Test.YtjghcegacgpehaaBase
namespace Go.Proofs.Ytjghcegacgpehaa
open Go.RowKit

def RdM (w : World) (a : Option Addr) (m : List (List Int)) : Prop :=
  ∀ r (h : r < m.length), ∃ b off a' c', a = some ⟨b, off, none⟩ ∧ w.cell? ⟨b, off + r, none⟩ = some (.slice a' (m[r]'h).length c') ∧ Rd w a' (ints (m[r]'h)) ∧ (m[r]'h).length ≤ c' ∧ c' ≤ maxLen ∧ (a' = none → c' = 0)

theorem rdM_nil (w : World) (a : Option Addr) : RdM w a [] := by intro r h; simp at h

theorem RdM.below {w w' : World} {a : Option Addr} {m : List (List Int)} (h : RdM w a m) (hb : Below w.heap.size w w') : RdM w' a m := by
  intro r hr
  obtain ⟨b, off, a', c', rfl, hc, hrd, h1, h2, h3⟩ := h r hr
  exact ⟨b, off, a', c', rfl, (hb.cell (p := ⟨b, off + r, none⟩) (Rd.lt hc)).trans hc, hrd.below hb, h1, h2, h3⟩

theorem addr_add (b off n : Nat) : (⟨b, off, none⟩ : Addr).add n = ⟨b, off + n, none⟩ := by unfold Addr.add; split <;> simp_all

theorem rd_of_cells {w : World} {x : Addr} {c l : Nat} {zs : List Int} (hl : l ≤ c) (hz : zs.length = c) (h : ∀ j, j < c → w.cell? (x.add j) = some (.int .i64 (zs.getD j 0))) : Rd w (some x) (ints (zs.take l)) := by
  intro j u hu
  have hj : j < (zs.take l).length := by have := (List.getElem?_eq_some_iff.1 hu).1; rwa [ints_length] at this
  have hjl : j < l := by simp at hj; omega
  have hjz : j < zs.length := by omega
  have hc := h j (by omega)
  obtain ⟨b, off, spot⟩ := x
  have hspot : spot = none := by simpa [Addr.add] using World.cell?_spot (h 0 (by omega))
  subst hspot
  refine ⟨b, off, rfl, ?_⟩
  rw [addr_add] at hc
  rw [hc, ← hu]
  have e2 : (ints (zs.take l))[j]? = some (.int .i64 (zs[j]'hjz)) := ints_get _ _ _ (by rw [List.getElem?_take, if_pos hjl, List.getElem?_eq_getElem hjz])
  rw [e2]
  simp [List.getD, List.getElem?_eq_getElem hjz]

theorem rdM_of_rows {w : World} {x : Addr} {len : Nat} {A : Nat → Option Addr} {L C : Nat → Nat} {Z : Nat → List Int}
    (h : ∀ r, r < len → w.cell? (x.add r) = some (.slice (A r) (L r) (C r)) ∧ L r ≤ C r ∧ C r ≤ maxLen ∧ (Z r).length = C r ∧ (A r = none → C r = 0) ∧ ∀ a', A r = some a' → ∀ c, c < C r → w.cell? (a'.add c) = some (.int .i64 ((Z r).getD c 0))) :
    ∃ m : List (List Int), m.length = len ∧ RdM w (some x) m := by
  refine ⟨(List.range len).map fun r => (Z r).take (L r), by simp, ?_⟩
  intro r hr
  have hr' : r < len := by simpa using hr
  obtain ⟨h0, h1, h2, h3, h4, h5⟩ := h r hr'
  have e : ((List.range len).map fun r => (Z r).take (L r))[r]'hr = (Z r).take (L r) := by simp
  have el : ((Z r).take (L r)).length = L r := by simp; omega
  obtain ⟨b, off, spot⟩ := x
  have hspot : spot = none := by simpa [Addr.add] using World.cell?_spot (h 0 (by omega)).1
  subst hspot
  rw [e, el]
  rw [addr_add] at h0
  refine ⟨b, off, A r, C r, rfl, h0, ?_, h1, h2, h4⟩
  cases ha : A r with
  | none =>
    have hc0 := h4 ha
    have : (Z r).take (L r) = [] := List.eq_nil_of_length_eq_zero (by omega)
    rw [this]
    exact Rd.nil _ _
  | some a' => exact rd_of_cells h1 h3 (h5 a' ha)

theorem rdM_of_rows' {w : World} {x : Addr} {len : Nat} {A : Nat → Option Addr} {L C : Nat → Nat} {Z : Nat → List Int}
    (h : ∀ r, r < len → w.cell? (x.add r) = some (.slice (A r) (L r) (C r)) ∧ L r ≤ C r ∧ C r ≤ maxLen ∧ (Z r).length = C r ∧ (A r = none → C r = 0) ∧ ∀ a', A r = some a' → ∀ c, c < C r → w.cell? (a'.add c) = some (.int .i64 ((Z r).getD c 0))) :
    ∃ m : List (List Int), m.length = len ∧ RdM w (some x) m ∧ ∀ r (hr : r < m.length), m[r]'hr = (Z r).take (L r) := by
  refine ⟨(List.range len).map fun r => (Z r).take (L r), by simp, ?_, by intro r hr; simp⟩
  intro r hr
  have hr' : r < len := by simpa using hr
  obtain ⟨h0, h1, h2, h3, h4, h5⟩ := h r hr'
  have e : ((List.range len).map fun r => (Z r).take (L r))[r]'hr = (Z r).take (L r) := by simp
  have el : ((Z r).take (L r)).length = L r := by simp; omega
  obtain ⟨b, off, spot⟩ := x
  have hspot : spot = none := by simpa [Addr.add] using World.cell?_spot (h 0 (by omega)).1
  subst hspot
  rw [e, el]
  rw [addr_add] at h0
  refine ⟨b, off, A r, C r, rfl, h0, ?_, h1, h2, h4⟩
  cases ha : A r with
  | none =>
    have hc0 := h4 ha
    have : (Z r).take (L r) = [] := List.eq_nil_of_length_eq_zero (by omega)
    rw [this]
    exact Rd.nil _ _
  | some a' => exact rd_of_cells h1 h3 (h5 a' ha)

/-- All numbers of the rows are numbers of 64 bits. -/
def WfM (m : List (List Int)) : Prop := ∀ r (h : r < m.length) k (hk : k < (m[r]'h).length), -9223372036854775808 ≤ (m[r]'h)[k]'hk ∧ (m[r]'h)[k]'hk ≤ 9223372036854775807
theorem wfM_nil : WfM [] := by intro r h; simp at h

theorem rdM_of_rows2 {w : World} {x : Addr} {len : Nat} {A : Nat → Option Addr} {L C : Nat → Nat} {Z : Nat → List Int}
    (h : ∀ r, r < len → w.cell? (x.add r) = some (.slice (A r) (L r) (C r)) ∧ L r ≤ C r ∧ C r ≤ maxLen ∧ (Z r).length = C r ∧ (A r = none → C r = 0) ∧ ∀ a', A r = some a' → ∀ c, c < C r → w.cell? (a'.add c) = some (.int .i64 ((Z r).getD c 0)))
    (hz : ∀ r, r < len → ∀ n ∈ Z r, (Lit.int .i64 n).wf = true) :
    ∃ m : List (List Int), m.length = len ∧ RdM w (some x) m ∧ WfM m := by
  obtain ⟨m, hm, hr, he⟩ := rdM_of_rows' h
  refine ⟨m, hm, hr, ?_⟩
  intro r hr k hk
  have h1 : (m[r]'hr)[k]'hk ∈ Z r := by
    have h2 : (m[r]'hr)[k]'hk ∈ (m[r]'hr) := List.getElem_mem hk
    generalize (m[r]'hr)[k]'hk = v at h2
    rw [he r hr] at h2
    exact List.mem_of_mem_take h2
  have h3 := hz r (by omega) _ h1
  have e1 : IntKind.i64.min = -9223372036854775808 := rfl
  have e2 : IntKind.i64.max = 9223372036854775807 := rfl
  simp only [Lit.wf, Bool.and_eq_true, decide_eq_true_eq] at h3
  omega

end Go.Proofs.Ytjghcegacgpehaa
