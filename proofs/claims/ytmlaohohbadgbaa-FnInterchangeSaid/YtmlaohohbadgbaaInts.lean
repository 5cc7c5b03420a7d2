
/- The laws' helpers on slices of numbers: copy, compare, mark, look again. -/
import Derived.Test.YtmlaohohbadgbaaBase
import Derived.Test.YtmlaohohbadgbaaChecked
namespace Go.Proofs.Ytmlaohohbadgbaa
open Go.RowKit

theorem take_eq_all {xs ys : List Int} (hl : xs.length = ys.length) (h : xs.take xs.length = ys.take xs.length) : xs = ys := by
  rw [List.take_length, hl, List.take_length] at h; exact h

theorem take_snoc_eq {xs ys : List Int} {k : Nat} (h1 : k < xs.length) (h2 : k < ys.length) (h : xs.take k = ys.take k) (e : xs[k] = ys[k]) : xs.take (k + 1) = ys.take (k + 1) := by
  rw [List.take_succ_eq_append_getElem h1, List.take_succ_eq_append_getElem h2, h, e]

theorem Try.infoInt : (Try.prog.info? 3).map (fun i => (i.zero, i.size, i.bytes)) = some (some (.int .i64 0), 1, 8) := by kernel_rfl

theorem Try.infoI : Info Try.prog 37 3 (.int .i64 0) 1 8 := ⟨Try.underlying37, Try.infoInt, rfl, by decide, by decide⟩

theorem set_mid (l r : List Int) (z x : Int) (k : Nat) (hk : l.length = k) : (ints (l ++ z :: r)).set k (.int .i64 x) = ints (l ++ x :: r) := by
  subst hk
  simp [ints]

theorem set_take (xs : List Int) (n k : Nat) (hn : xs.length = n) (hk : k < n) :
    (ints (xs.take k ++ List.replicate (n - k) 0)).set k (.int .i64 (xs[k]'(by omega))) = ints (xs.take (k + 1) ++ List.replicate (n - (k + 1)) 0) := by
  have e : xs.take (k + 1) = xs.take k ++ [xs[k]'(by omega)] := List.take_succ_eq_append_getElem (by omega)
  rw [show n - k = (n - (k + 1)) + 1 from by omega, List.replicate_succ, set_mid _ _ _ _ _ (by simp; omega), e, List.append_assoc]
  rfl

def marks (k : Int) (n : Nat) : List Int := (List.range n).map fun i : Nat => k + (i : Int)
theorem marks_length (k : Int) (n : Nat) : (marks k n).length = n := by simp [marks]
theorem marks_succ (k : Int) (n : Nat) : marks k (n + 1) = marks k n ++ [k + (n : Int)] := by simp [marks, List.range_succ]
theorem marks_get (k : Int) (n i : Nat) (h : i < n) : (marks k n)[i]'(by rw [marks_length]; exact h) = k + (i : Int) := by simp [marks]

/-- A slice of numbers that came in, as the frame of a law tells it: it reads as its numbers. -/
theorem rd_of_row {w : World} {a : Option Addr} {len cap : Nat} {zs : List Int}
    (h : (a = none ∧ len = 0 ∧ cap = 0 ∧ zs = []) ∨
      ∃ x, a = some x ∧ len ≤ cap ∧ cap ≤ maxLen ∧ zs.length = cap ∧ (∀ i, i < zs.length → w.cell? (x.add i) = some (.int .i64 (zs.getD i 0))) ∧ ∀ n ∈ zs, (Lit.int .i64 n).wf = true) :
    Rd w a (ints (zs.take len)) ∧ (zs.take len).length = len ∧ len ≤ 9223372036854775807 ∧ ∀ x ∈ zs.take len, -9223372036854775808 ≤ x ∧ x ≤ 9223372036854775807 := by
  rcases h with ⟨rfl, rfl, rfl, rfl⟩ | ⟨x, rfl, h1, h2, h3, h4, h5⟩
  · exact ⟨by simpa [ints] using Rd.nil w none, rfl, by omega, by simp⟩
  · refine ⟨?_, by simp; omega, by unfold maxLen at h2; omega, ?_⟩
    · intro j u hu
      have hj : j < (zs.take len).length := by have := (List.getElem?_eq_some_iff.1 hu).1; rwa [ints_length] at this
      have hjl : j < len := by simp at hj; omega
      have hjz : j < zs.length := by simp at hj; omega
      have hc := h4 j hjz
      obtain ⟨b, off, spot⟩ := x
      have hspot : spot = none := by simpa [Addr.add] using World.cell?_spot (h4 0 (by omega))
      subst hspot
      refine ⟨b, off, rfl, ?_⟩
      have e : (⟨b, off, none⟩ : Addr).add j = ⟨b, off + j, none⟩ := by unfold Addr.add; split <;> simp_all
      rw [e] at hc
      rw [hc]
      rw [← hu]
      have e2 : (ints (zs.take len))[j]? = some (.int .i64 (zs[j]'hjz)) := ints_get _ _ _ (by rw [List.getElem?_take, if_pos hjl, List.getElem?_eq_getElem hjz])
      rw [e2]
      simp [List.getD, List.getElem?_eq_getElem hjz]
    · intro n hn
      have := h5 n (List.mem_of_mem_take hn)
      have e1 : IntKind.i64.min = -9223372036854775808 := rfl
      have e2 : IntKind.i64.max = 9223372036854775807 := rfl
      simp only [Lit.wf, Bool.and_eq_true, decide_eq_true_eq] at this
      omega

end Go.Proofs.Ytmlaohohbadgbaa
