
/- For the frames of laws on graphs: what a slice of edges that came in reads as. No program is named here. -/
import Derived.Test.YtjghcegacgpehaaBase
namespace Go.Proofs.Ytjghcegacgpehaa
open Go.RowKit

def valI : Value → Int | .int _ z => z | _ => 0

def pairVals (V0 V1 : Nat → Value) (n : Nat) : List (Int × Int) := (List.range n).map fun i => (valI (V0 i), valI (V1 i))

theorem flat_get (es : List (Int × Int)) (k : Nat) (h : k < es.length) :
    (es.flatMap fun e => [Value.int .i64 e.1, Value.int .i64 e.2])[k * 2]? = some (.int .i64 (es[k]'h).1) ∧ (es.flatMap fun e => [Value.int .i64 e.1, Value.int .i64 e.2])[k * 2 + 1]? = some (.int .i64 (es[k]'h).2) := by
  induction es generalizing k with
  | nil => simp at h
  | cons e l ih =>
    rw [List.flatMap_cons]
    cases k with
    | zero => simp
    | succ k =>
      have h' : k < l.length := by simpa using h
      obtain ⟨h1, h2⟩ := ih k h'
      have e1 : (k + 1) * 2 = k * 2 + 2 := by omega
      have e2 : (k + 1) * 2 + 1 = k * 2 + 1 + 2 := by omega
      rw [e2, e1]
      exact ⟨h1, h2⟩
theorem flat_len (es : List (Int × Int)) : (es.flatMap fun e => [Value.int .i64 e.1, Value.int .i64 e.2]).length = es.length * 2 := by
  induction es with
  | nil => rfl
  | cons e l ih => simp only [List.flatMap_cons, List.length_append, List.length_cons, List.length_nil] at ih ⊢; omega

theorem rd_of_pairs {w : World} {x : Addr} {len : Nat} {V0 V1 : Nat → Value}
    (h : ∀ i, i < len → w.cell? (x.add (i * 2)) = some (V0 i) ∧ w.cell? (x.add (i * 2 + 1)) = some (V1 i) ∧ (∃ z, V0 i = .int .i64 z) ∧ (∃ z, V1 i = .int .i64 z)) :
    ∃ es : List (Int × Int), es.length = len ∧ Rd w (some x) (es.flatMap fun e => [Value.int .i64 e.1, Value.int .i64 e.2]) := by
  refine ⟨pairVals V0 V1 len, by simp [pairVals], ?_⟩
  intro j u hu
  have hl : (pairVals V0 V1 len).length = len := by simp [pairVals]
  have hj : j < len * 2 := by have := (List.getElem?_eq_some_iff.1 hu).1; rw [flat_len, hl] at this; exact this
  have hi : j / 2 < len := by omega
  obtain ⟨b, off, spot⟩ := x
  have hspot : spot = none := by simpa [Addr.add] using World.cell?_spot (h 0 (by omega)).1
  subst hspot
  refine ⟨b, off, rfl, ?_⟩
  have hadd : ∀ n, (⟨b, off, none⟩ : Addr).add n = ⟨b, off + n, none⟩ := by intro n; unfold Addr.add; split <;> simp_all
  obtain ⟨h1, h2, ⟨z0, e0⟩, ⟨z1, e1⟩⟩ := h (j / 2) hi
  obtain ⟨g1, g2⟩ := flat_get (pairVals V0 V1 len) (j / 2) (by omega)
  have hp : (pairVals V0 V1 len)[j / 2]'(by omega) = (z0, z1) := by simp [pairVals, e0, e1, valI]
  rw [hp] at g1 g2
  rw [hadd, e0] at h1
  rw [hadd, e1] at h2
  rcases Nat.mod_two_eq_zero_or_one j with hm | hm
  · have e : j = j / 2 * 2 := by omega
    rw [← e] at h1 g1
    rw [h1, ← hu, g1]
  · have e : j = j / 2 * 2 + 1 := by omega
    rw [← e] at h2 g2
    rw [h2, ← hu, g2]

theorem rd_none (w : World) : Rd w none (([] : List (Int × Int)).flatMap fun e => [Value.int .i64 e.1, Value.int .i64 e.2]) := Rd.nil w none

end Go.Proofs.Ytjghcegacgpehaa
