
/- The laws' helpers on rows of rows of numbers: their size, copy, compare, mark. -/
import Derived.Test.YtmlaohohbadgbaaInts
import Derived.Test.YtmlaohohbadgbaaBlk
import Derived.Test.YtmlaohohbadgbaaMat
namespace Go.Proofs.Ytmlaohohbadgbaa
open Go.RowKit

theorem Try.infoRow : (Try.prog.info? 37).map (fun i => (i.zero, i.size, i.bytes)) = some (some (.slice none 0 0), 1, 24) := by kernel_rfl
theorem Try.infoII : Info Try.prog 23 37 (.slice none 0 0) 1 24 := ⟨Try.underlying23, Try.infoRow, rfl, by decide, by decide⟩

/-- Where a row lies, and its capacity. -/
abbrev At := Option Addr × Nat
def rowVs (rs : List At) (m : List (List Int)) : List Value := (rs.zip m).map fun p => .slice p.1.1 p.2.length p.1.2
theorem rowVs_length (rs : List At) (m : List (List Int)) (h : rs.length = m.length) : (rowVs rs m).length = m.length := by simp [rowVs, h]
theorem rowVs_snoc (rs : List At) (m : List (List Int)) (r : At) (x : List Int) (h : rs.length = m.length) : rowVs (rs ++ [r]) (m ++ [x]) = rowVs rs m ++ [.slice r.1 x.length r.2] := by
  simp [rowVs, List.zip_append h]
theorem rowVs_get (rs : List At) (m : List (List Int)) (k : Nat) (h1 : k < rs.length) (h2 : k < m.length) : (rowVs rs m)[k]? = some (.slice (rs[k]'h1).1 (m[k]'h2).length (rs[k]'h1).2) := by
  have hz : k < (rs.zip m).length := by rw [List.length_zip]; omega
  rw [rowVs, List.getElem?_map, List.getElem?_eq_getElem hz, List.getElem_zip]
  rfl

/-- A matrix that is owned: its outer row, and inner rows that lie apart from each other. -/
def OwnM (w : World) (B : Nat) (a : Option Addr) (n c : Nat) (rs : List At) (m : List (List Int)) : Prop :=
  rs.length = n ∧ m.length = n ∧ w.ownsRow B 37 1 (.slice a n c) n (rowVs rs m) ∧
    (∀ r (h : r < rs.length) (h' : r < m.length), w.ownsRow B 3 1 (.slice (rs[r]'h).1 (m[r]'(h')).length (rs[r]'h).2) (m[r]'(h')).length (ints (m[r]'(h')))) ∧
    ∀ r s (h : r < s) (hs : s < rs.length), Apart (rs[r]'(by omega)).1 (rs[s]'hs).1

theorem own_shape {w : World} {B T s n c : Nat} {a : Option Addr} {cs : List Value} (h : w.ownsRow B T s (.slice a n c) n cs) : n ≤ c ∧ c ≤ maxLen ∧ (a = none → c = 0) := by
  rcases h.2 with ⟨h1, h2⟩ | ⟨g, cap, cur, h1, hB, hg, hn, hc, _⟩
  · cases h1
    exact ⟨by omega, by decide, fun _ => rfl⟩
  · cases h1
    exact ⟨hn, hc, fun h => by cases h⟩

theorem OwnM.rdM {w : World} {B n c : Nat} {a : Option Addr} {rs : List At} {m : List (List Int)} (h : OwnM w B a n c rs m) : RdM w a m := by
  intro r hr
  obtain ⟨h1, h2, h3, h4, _⟩ := h
  have hr' : r < rs.length := by omega
  obtain ⟨b, off, ha, hc⟩ := own_rd h3 r _ (rowVs_get rs m r hr' hr)
  have ho := h4 r hr' hr
  have hs := own_shape ho
  exact ⟨b, off, _, _, ha, hc, own_rd ho, hs.1, hs.2.1, hs.2.2⟩

theorem OwnM.below {w w' : World} {B n c : Nat} {a : Option Addr} {rs : List At} {m : List (List Int)} (h : OwnM w B a n c rs m) (hb : Below w.heap.size w w') : OwnM w' B a n c rs m :=
  ⟨h.1, h.2.1, own_below h.2.2.1 hb, fun r h1 h2 => own_below (h.2.2.2.1 r h1 h2) hb, h.2.2.2.2⟩
theorem OwnM.mono {w : World} {B B' n c : Nat} {a : Option Addr} {rs : List At} {m : List (List Int)} (h : OwnM w B a n c rs m) (hB : B' ≤ B) : OwnM w B' a n c rs m :=
  ⟨h.1, h.2.1, own_mono h.2.2.1 hB, fun r h1 h2 => own_mono (h.2.2.2.1 r h1 h2) hB, h.2.2.2.2⟩

/-- The blocks of two owned rows of different kinds of elements differ. -/
theorem own_kinds {w : World} {B T s n c m B' T' s' n' c' m' : Nat} {a : Option Addr} {g : Nat} {cs cs' : List Value} (h : w.ownsRow B T s (.slice a m c) n cs) (h' : w.ownsRow B' T' s' (.slice (some ⟨g, 0, none⟩) m' c') n' cs') (hT : T ≠ T') : some g ≠ (Value.slice a m c).ownBlock := by
  rcases h'.2 with ⟨h1, _⟩ | ⟨g', cap, cur, h1, hB, hg, _⟩
  · cases h1
  · cases h1
    exact own_ne h hg hT

def sumLen (m : List (List Int)) : Nat := (m.map List.length).sum
theorem sumLen_get (m : List (List Int)) (k : Nat) (h : k < m.length) : (m[k]'h).length ≤ sumLen m := by
  induction m generalizing k with
  | nil => simp at h
  | cons x l ih =>
    have e : sumLen (x :: l) = x.length + sumLen l := by simp [sumLen]
    rw [e]
    cases k with
    | zero => simp
    | succ k =>
      have := ih k (by simpa using h)
      simp only [List.getElem_cons_succ]
      omega
theorem sumLen_succ (m : List (List Int)) (k : Nat) (h : k < m.length) : sumLen (m.take (k + 1)) = sumLen (m.take k) + (m[k]'h).length := by
  rw [sumLen, List.take_succ_eq_append_getElem h, List.map_append, List.sum_append]; simp [sumLen]

theorem set_row (rs : List At) (m : List (List Int)) (n k : Nat) (r : At) (hr : rs.length = k) (hm : m.length = n) (hk : k < n) :
    (rowVs rs (m.take k) ++ List.replicate (n - k) (Value.slice none 0 0)).set k (.slice r.1 (m[k]'(by omega)).length r.2) = rowVs (rs ++ [r]) (m.take (k + 1)) ++ List.replicate (n - (k + 1)) (Value.slice none 0 0) := by
  have e : m.take (k + 1) = m.take k ++ [m[k]'(by omega)] := List.take_succ_eq_append_getElem (by omega)
  have hl : (rowVs rs (m.take k)).length = k := by rw [rowVs_length _ _ (by simp; omega)]; simp; omega
  rw [e, rowVs_snoc _ _ _ _ (by simp; omega), show n - k = (n - (k + 1)) + 1 from by omega, List.replicate_succ, List.set_append_right _ _ (by omega), hl, Nat.sub_self, List.set_cons_zero, List.append_assoc]
  rfl

theorem rows_zero (n : Nat) : (madeCells #[Value.slice none 0 0] n).toList = List.replicate n (Value.slice none 0 0) := toList_madeCells_one _ _

end Go.Proofs.Ytmlaohohbadgbaa
