
/- impl.table: a matrix of a function value. -/
import Derived.Test.YtchefkggnncalaaRowM
namespace Go.Proofs.Ytchefkggnncalaa
open Go.RowKit

/-- A function value that answers 'f i k' at the places of a matrix, over memory that lies as it did at 'w'. -/
def GivesM (w : World) (K : Nat) (cap : Array Value) (rows cols : Nat) (f : Nat → Nat → Int) : Prop :=
  Enters Try.prog K ∧ ∀ w' (i k : Nat), Below w.heap.size w w' → i < rows → k < cols → Calls Try.prog K (#[.int .i64 i, .int .i64 k] ++ cap) w' fun e w'' => e = .returned (.int .i64 (f i k)) ∧ Below w'.heap.size w' w''

theorem rowVs_at {rs : List At} {m : List (List Int)} {r : At} {X : List Int} {n : Nat} (h : rs.length = m.length) : (rowVs (rs ++ [r]) (m ++ [X]) ++ List.replicate n (Value.slice none 0 0))[m.length]? = some (.slice r.1 X.length r.2) := by
  have hl : (rowVs rs m).length = m.length := rowVs_length _ _ h
  rw [rowVs_snoc _ _ _ _ h, List.append_assoc, List.getElem?_append_right (by omega), hl, Nat.sub_self]
  rfl
theorem set_last (m : List (List Int)) (X : List Int) (j : Nat) (v : Int) (h : m.length < (m ++ [X]).length) : (m ++ [X]).set m.length (((m ++ [X])[m.length]'h).set j v) = m ++ [X.set j v] := by
  have e : (m ++ [X])[m.length]'h = X := by simp
  rw [e, List.set_append_right _ _ (Nat.le_refl _), Nat.sub_self, List.set_cons_zero]

theorem fill_facts {w wr w2 : World} {rows i cols : Nat} {rs : List At} {m : List (List Int)} {g : Nat} (hP : PartM wr w.heap.size g rows rs m) (hm : m.length = i) (hlt : i < rows) (hB2 : Below wr.heap.size wr w2)
    (hown2 : w2.ownsRow wr.heap.size 3 1 (.slice (some ⟨wr.heap.size, 0, none⟩) cols cols) cols (List.replicate cols (.int .i64 0))) (hb : Below w.heap.size w wr) :
    (∃ v, w2.cell? ⟨g, i, none⟩ = some v) ∧ w2.frozen? ⟨g, i, none⟩ = false ∧ Hid (PartM (w2.setCell ⟨g, i, none⟩ (.slice (some ⟨wr.heap.size, 0, none⟩) cols cols)) w.heap.size g rows (rs ++ [(some ⟨wr.heap.size, 0, none⟩, cols)]) (m ++ [List.replicate cols 0])) ∧
      Hid (Below w.heap.size w (w2.setCell ⟨g, i, none⟩ (.slice (some ⟨wr.heap.size, 0, none⟩) cols cols))) ∧ (w2.setCell ⟨g, i, none⟩ (.slice (some ⟨wr.heap.size, 0, none⟩) cols cols)).cell? ⟨g, i, none⟩ = some (.slice (some ⟨wr.heap.size, 0, none⟩) cols cols) := by
  have hsz := hb.size
  have hP2 := hP.below hB2
  have hb2 := below_tr' hb hB2
  have hown3 : w2.ownsRow w.heap.size 3 1 (.slice (some ⟨wr.heap.size, 0, none⟩) cols cols) cols (ints (List.replicate cols 0)) := by
    have := own_mono hown2 hsz
    simpa [ints] using this
  have hfr : ApartA rs (some ⟨wr.heap.size, 0, none⟩) := ApartA.fresh hP.2.2.2.1 hP.1 (by intro x hx; cases hx; exact Nat.le_refl _)
  have hP3 := hP2.fill (by rw [hm]; exact hlt) hfr (by simp) hown3
  have hgB : w.heap.size ≤ g := by
    obtain ⟨g', e1, e3, _⟩ := own_head hP.2.2.1 (by omega)
    cases e1
    exact e3
  have hb3 := hb2.setCell (p := ⟨g, i, none⟩) hgB (.slice (some ⟨wr.heap.size, 0, none⟩) cols cols)
  rw [hm] at hP3
  have c4 := rowVs_at (rs := rs) (m := m) (r := (some ⟨wr.heap.size, 0, none⟩, cols)) (X := List.replicate cols (0 : Int)) (n := rows - (m ++ [List.replicate cols (0:Int)]).length) hP.1
  have c5 := hP3.2.2.1.cellAt i (by omega)
  rw [hm] at c4
  rw [c4] at c5
  simp only [List.length_replicate] at c5
  exact ⟨own_some hP2.2.2.1 i (by omega), hP2.2.2.1.frozenAt i, hP3, hb3, c5⟩

end Go.Proofs.Ytchefkggnncalaa
