
/- The laws' helpers on graphs: count, copy, compare, mark, look again. -/
import Derived.Test.YtbiekdhikanhcaaEdge
import Derived.Test.YtbiekdhikanhcaaBlk
namespace Go.Proofs.Ytbiekdhikanhcaa
open Go.RowKit

theorem edges_set (es : List E2) (k : Nat) (h : k < es.length) (x y : Int) : ((edges es).set (k * 2) (.int .i64 x)).set (k * 2 + 1) (.int .i64 y) = edges (es.set k (x, y)) := by
  induction es generalizing k with
  | nil => simp at h
  | cons e l ih =>
    rw [edges_cons]
    cases k with
    | zero => simp [edges_cons]
    | succ k =>
      have h' : k < l.length := by simpa using h
      have e1 : (k + 1) * 2 = k * 2 + 2 := by omega
      have e2 : k * 2 + 2 + 1 = k * 2 + 1 + 2 := by omega
      rw [e1, e2]
      simp only [List.set_cons_succ]
      rw [ih k h', edges_cons]

/-- An edge is stored into an owned row, one cell after the other. -/
theorem own_edge {w : World} {B T n c g : Nat} {es : List E2} (ho : w.ownsRow B T 2 (.slice (some ⟨g, 0, none⟩) n c) n (edges es)) (k : Nat) (hk : k < es.length) (x y : Int) :
    ((w.setCell ⟨g, k * 2, none⟩ (.int .i64 x)).setCell ⟨g, k * 2 + 1, none⟩ (.int .i64 y)).ownsRow B T 2 (.slice (some ⟨g, 0, none⟩) n c) n (edges (es.set k (x, y))) := by
  rw [← edges_set es k hk]
  exact ((ho.stored (k * 2) _).1.stored (k * 2 + 1) _).1

theorem own_edgeLen {w : World} {B T n c : Nat} {a : Option Addr} {es : List E2} (ho : w.ownsRow B T 2 (.slice a n c) n (edges es)) : es.length = n := by
  have := ho.1; rw [edges_length] at this; omega

theorem take_set_zero (es : List E2) (n k : Nat) (hn : es.length = n) (hk : k < n) :
    (es.take k ++ List.replicate (n - k) ((0, 0) : E2)).set k (es[k]'(by omega)) = es.take (k + 1) ++ List.replicate (n - (k + 1)) (0, 0) := by
  have e : es.take (k + 1) = es.take k ++ [es[k]'(by omega)] := List.take_succ_eq_append_getElem (by omega)
  rw [show n - k = (n - (k + 1)) + 1 from by omega, List.replicate_succ, List.set_append_right _ _ (by simp; omega)]
  simp only [List.length_take, show k - min k es.length = 0 by omega, List.set_cons_zero]
  rw [e, List.append_assoc]
  rfl

theorem edges_zero (n : Nat) : (madeCells (Value.agg #[Value.int .i64 0, Value.int .i64 0]).cells (n * 2)).toList = edges (List.replicate n ((0, 0) : E2)) := by
  have h : ∀ n, (List.range (n * 2)).map (fun i => #[Value.int .i64 0, Value.int .i64 0][i % 2]!) = edges (List.replicate n ((0, 0) : E2)) := by
    intro n
    induction n with
    | zero => rfl
    | succ n ih =>
      rw [show (n + 1) * 2 = n * 2 + 1 + 1 by omega, List.range_succ, List.range_succ, List.map_append, List.map_append, ih, List.replicate_succ', edges_append, List.append_assoc]
      congr 1
      have h1 : n * 2 % 2 = 0 := by omega
      have h2 : (n * 2 + 1) % 2 = 1 := by omega
      simp [h1, h2, edges]
  rw [← h n]
  simp [madeCells, Value.cells]

def marksE (k : Int) (n : Nat) : List E2 := (List.range n).map fun i : Nat => (k + 2 * (i : Int), k + 2 * (i : Int) + 1)
theorem marksE_length (k : Int) (n : Nat) : (marksE k n).length = n := by simp [marksE]
theorem marksE_succ (k : Int) (n : Nat) : marksE k (n + 1) = marksE k n ++ [(k + 2 * (n : Int), k + 2 * (n : Int) + 1)] := by simp [marksE, List.range_succ]
theorem marksE_get (k : Int) (n i : Nat) (h : i < n) : (marksE k n)[i]'(by rw [marksE_length]; exact h) = (k + 2 * (i : Int), k + 2 * (i : Int) + 1) := by simp [marksE]
theorem marksE_set (k : Int) (es : List E2) (n j : Nat) (hn : es.length = n) (hj : j < n) : (marksE k j ++ es.drop j).set j (k + 2 * (j : Int), k + 2 * (j : Int) + 1) = marksE k (j + 1) ++ es.drop (j + 1) := by
  rw [List.drop_eq_getElem_cons (by omega), List.set_append_right _ _ (by rw [marksE_length]; omega), marksE_length, Nat.sub_self, List.set_cons_zero, marksE_succ]
  simp

end Go.Proofs.Ytbiekdhikanhcaa
