
/- The laws' helpers on graphs: count, copy, compare, mark, look again. -/
import Derived.Test.YtjghcegacgpehaaPairs
import Derived.Test.YtjghcegacgpehaaBlk
namespace Go.Proofs.Ytjghcegacgpehaa
open Go.RowKit

theorem edges_set (es : List E2) (k : Nat) (h : k < es.length) (x y : Int) : ((edges es).set (k * 2) (.int .i64 x)).set (k * 2 + 1) (.int .i64 y) = edges (es.set k (x, y)) := by
  induction es generalizing k with
  | nil => simp at h
  | cons e l ih =>
    rw [edges_cons]
    cases k with
    | zero => simp [edges_cons]
    | succ k =>
      have h' : k < l.length := by simpa using h
      have e1 : (k + 1) * 2 = k * 2 + 2 := by omega
      have e2 : k * 2 + 2 + 1 = k * 2 + 1 + 2 := by omega
      rw [e1, e2]
      simp only [List.set_cons_succ]
      rw [ih k h', edges_cons]

/-- An edge is stored into an owned row, one cell after the other. -/
theorem own_edge {w : World} {B T n c g : Nat} {es : List E2} (ho : w.ownsRow B T 2 (.slice (some ⟨g, 0, none⟩) n c) n (edges es)) (k : Nat) (hk : k < es.length) (x y : Int) :
    ((w.setCell ⟨g, k * 2, none⟩ (.int .i64 x)).setCell ⟨g, k * 2 + 1, none⟩ (.int .i64 y)).ownsRow B T 2 (.slice (some ⟨g, 0, none⟩) n c) n (edges (es.set k (x, y))) := by
  rw [← edges_set es k hk]
  exact ((ho.stored (k * 2) _).1.stored (k * 2 + 1) _).1

theorem own_edgeLen {w : World} {B T n c : Nat} {a : Option Addr} {es : List E2} (ho : w.ownsRow B T 2 (.slice a n c) n (edges es)) : es.length = n := by
  have := ho.1; rw [edges_length] at this; omega

theorem take_set_zero (es : List E2) (n k : Nat) (hn : es.length = n) (hk : k < n) :
    (es.take k ++ List.replicate (n - k) ((0, 0) : E2)).set k (es[k]'(by omega)) = es.take (k + 1) ++ List.replicate (n - (k + 1)) (0, 0) := by
  have e : es.take (k + 1) = es.take k ++ [es[k]'(by omega)] := List.take_succ_eq_append_getElem (by omega)
  rw [show n - k = (n - (k + 1)) + 1 from by omega, List.replicate_succ, List.set_append_right _ _ (by simp; omega)]
  simp only [List.length_take, show k - min k es.length = 0 by omega, List.set_cons_zero]
  rw [e, List.append_assoc]
  rfl

theorem edges_zero (n : Nat) : (madeCells (Value.agg #[Value.int .i64 0, Value.int .i64 0]).cells (n * 2)).toList = edges (List.replicate n ((0, 0) : E2)) := by
  have h : ∀ n, (List.range (n * 2)).map (fun i => #[Value.int .i64 0, Value.int .i64 0][i % 2]!) = edges (List.replicate n ((0, 0) : E2)) := by
    intro n
    induction n with
    | zero => rfl
    | succ n ih =>
      rw [show (n + 1) * 2 = n * 2 + 1 + 1 by omega, List.range_succ, List.range_succ, List.map_append, List.map_append, ih, List.replicate_succ', edges_append, List.append_assoc]
      congr 1
      have h1 : n * 2 % 2 = 0 := by omega
      have h2 : (n * 2 + 1) % 2 = 1 := by omega
      simp [h1, h2, edges]
  rw [← h n]
  simp [madeCells, Value.cells]

theorem eqEdge_any (x y : Int) (w : World) :
    Calls Try.prog 195 #[.agg #[.int .i64 x, .int .i64 y], .agg #[.int .i64 x, .int .i64 y]] w fun e w' => e = .returned (.bool true) ∧ Below w.heap.size w w' := by
  go_enter Try.func195, Try.ntmps195
  go_wp2
  go_ret
  exact ⟨rfl, below_alloc2 _ _ _⟩

set_option maxHeartbeats 400000 in
theorem eqEdgeS_any (a b : Option Addr) (ca cb n : Nat) (es : List E2) (w : World) (hn : es.length = n) (hx : Rd w a (edges es)) (hy : Rd w b (edges es)) (hl : n ≤ 8796093022208) :
    Calls Try.prog 188 #[.slice a n ca, .slice b n cb] w fun e w' => e = .returned (.bool true) ∧ Below w.heap.size w w' := by
  go_enter Try.func188, Try.ntmps188
  go_wp2
  go_loopw [5] (fun i wr => ∃ k : Nat, k ≤ n ∧ i = .int .i64 k ∧ Below w.heap.size w wr) (fun i _ => n - (intOf i).toNat)
  case atStart => exact ⟨0, by omega, rfl, Below.refl _ _⟩
  case round =>
    obtain ⟨k, hk, rfl, hb⟩ := hrel
    by_cases hlt : k < n
    · obtain ⟨b1, o1, rfl, c1, c2⟩ := (hx.below hb).edge (k := k) (by omega)
      obtain ⟨b2, o2, rfl, c3, c4⟩ := (hy.below hb).edge (k := k) (by omega)
      generalize (es[k]'(by omega)).1 = X at *
      generalize (es[k]'(by omega)).2 = Y at *
      have d1 := later_cell c1
      have d2 := later_cell c2
      have d3 := later_cell c3
      have d4 := later_cell c4
      have HT := Lib.hid (fun u : Later wr => eqEdge_any X Y u.val)
      clear c1 c2 c3 c4
      go_wp2
      refine wp_region_later (by kernel_rfl) (by kernel_rfl) ?_
      repeat (go_big_quiet_step ((go_at_call 195; exact calls_later _ (HT.out _))))
      refine wpQuiet_nil ?_
      intro w1 hw'
      have hb1 := below_tr' hb (later_below hw')
      clear hw' d1 d2 d3 d4
      go_wp2
      go_roundw
      case rel => exact ⟨k + 1, by omega, by go_num, hb1⟩
      case measure => simp [intOf]; omega
    · go_wp2
      go_ret
      exact ⟨rfl, hb⟩

theorem eqGraph_any (N : Int) (a b : Option Addr) (ca cb n : Nat) (es : List E2) (w : World) (hn : es.length = n) (hx : Rd w a (edges es)) (hy : Rd w b (edges es)) (hl : n ≤ 8796093022208) :
    Calls Try.prog 143 #[graphV N a n ca, graphV N b n cb] w fun e w' => e = .returned (.bool true) ∧ Below w.heap.size w w' := by
  have hB := below_alloc2 w (.cells #[.int .i64 N, .slice a n ca] 25) (.cells #[.int .i64 N, .slice b n cb] 25)
  have C1 := eqEdgeS_any a b ca cb n es _ hn (hx.below hB) (hy.below hB) hl
  go_enter Try.func143, Try.ntmps143
  go_wp2_with fail
  refine C1.mono ?_
  rintro e w1 ⟨rfl, hb⟩
  go_wp2
  go_ret
  exact ⟨rfl, below_tr' hB hb⟩

def marksE (k : Int) (n : Nat) : List E2 := (List.range n).map fun i : Nat => (k + 2 * (i : Int), k + 2 * (i : Int) + 1)
theorem marksE_length (k : Int) (n : Nat) : (marksE k n).length = n := by simp [marksE]
theorem marksE_succ (k : Int) (n : Nat) : marksE k (n + 1) = marksE k n ++ [(k + 2 * (n : Int), k + 2 * (n : Int) + 1)] := by simp [marksE, List.range_succ]
theorem marksE_get (k : Int) (n i : Nat) (h : i < n) : (marksE k n)[i]'(by rw [marksE_length]; exact h) = (k + 2 * (i : Int), k + 2 * (i : Int) + 1) := by simp [marksE]
theorem marksE_set (k : Int) (es : List E2) (n j : Nat) (hn : es.length = n) (hj : j < n) : (marksE k j ++ es.drop j).set j (k + 2 * (j : Int), k + 2 * (j : Int) + 1) = marksE k (j + 1) ++ es.drop (j + 1) := by
  rw [List.drop_eq_getElem_cons (by omega), List.set_append_right _ _ (by rw [marksE_length]; omega), marksE_length, Nat.sub_self, List.set_cons_zero, marksE_succ]
  simp

set_option maxHeartbeats 400000 in
theorem markEdgeS_any (B : Nat) (a : Option Addr) (c cv n : Nat) (es : List E2) (k0 : Int) (w : World) (ho0 : w.ownsRow B 48 2 (.slice a n c) n (edges es)) (hl : n ≤ 1048576) (hk0 : 0 ≤ k0) (hk1 : k0 ≤ 1099511627776) :
    Calls Try.prog 144 #[.slice a n cv, .int .i64 k0] w fun e w' =>
      e = .returned (.int .i64 (k0 + 2 * n)) ∧ w'.ownsRow B 48 2 (.slice a n c) n (edges (marksE k0 n)) ∧ w.grownBy w' (Value.slice a n c).ownBlock := by
  have hxl : es.length = n := own_edgeLen ho0
  go_enter Try.func144, Try.ntmps144
  go_wp2
  go_loopw [1, 5] (fun q i wr => ∃ k : Nat, k ≤ n ∧ i = .int .i64 k ∧ q = .int .i64 (k0 + 2 * (k : Int)) ∧ wr.ownsRow B 48 2 (.slice a n c) n (edges (marksE k0 k ++ es.drop k)) ∧ w.grownBy wr (Value.slice a n c).ownBlock) (fun _ i _ => n - (intOf i).toNat)
  case atStart => exact ⟨0, by omega, rfl, by simp, by simpa [marksE] using ho0, World.grownBy.refl _ _⟩
  case round =>
    obtain ⟨k, hk, rfl, rfl, ho, hg⟩ := hrel
    by_cases hlt : k < n
    · obtain ⟨g, rfl, hgB, _⟩ := own_head ho0 (by omega)
      obtain ⟨v, c2⟩ := own_some ho (k * 2) (by omega)
      have f2 := ho.frozenAt (k * 2)
      have hs1 := ho.stored (k * 2) (.int .i64 (k0 + 2 * (k : Int)))
      obtain ⟨v3, c3⟩ := own_some hs1.1 (k * 2 + 1) (by omega)
      have f3 := hs1.1.frozenAt (k * 2 + 1)
      have hs2 := hs1.1.stored (k * 2 + 1) (.int .i64 (k0 + 2 * (k : Int) + 1))
      rw [edges_set _ _ (by simp [marksE_length]; omega), marksE_set _ _ _ _ hxl hlt] at hs2
      have hg2 : w.grownBy ((wr.setCell ⟨g, k * 2, none⟩ (.int .i64 (k0 + 2 * (k : Int)))).setCell ⟨g, k * 2 + 1, none⟩ (.int .i64 (k0 + 2 * (k : Int) + 1))) (some g) := grown_trans (grown_trans hg hs1.2) hs2.2
      have H := Lib.hid (And.intro hs2.1 hg2)
      clear hs1 hs2 hg2
      go_wp2
      go_roundw
      case rel => exact ⟨k + 1, by omega, by go_num, by go_num, H.out.1, H.out.2⟩
      case measure => simp [intOf]; omega
    · go_wp2
      go_ret
      have : k = n := by omega
      subst this
      refine ⟨rfl, ?_, hg⟩
      rw [List.drop_of_length_le (by omega), List.append_nil] at ho
      exact ho

set_option maxHeartbeats 400000 in
theorem heldEdgeS_any (a : Option Addr) (c n : Nat) (k0 : Int) (w : World) (hx : Rd w a (edges (marksE k0 n))) (hl : n ≤ 1048576) (hk0 : 0 ≤ k0) (hk1 : k0 ≤ 1099511627776) :
    Calls Try.prog 145 #[.slice a n c, .int .i64 k0] w fun e w' => e = .returned (.int .i64 (k0 + 2 * n)) ∧ w' = w := by
  go_enter Try.func145, Try.ntmps145
  go_wp2
  go_loop [1, 5] (fun q i => ∃ k : Nat, k ≤ n ∧ i = .int .i64 k ∧ q = .int .i64 (k0 + 2 * (k : Int))) (fun _ i => n - (intOf i).toNat)
  case atStart => exact ⟨0, by omega, rfl, by simp⟩
  case round =>
    obtain ⟨k, hk, rfl, rfl⟩ := hrel
    by_cases hlt : k < n
    · obtain ⟨b1, o1, rfl, c1, c2⟩ := hx.edge (k := k) (by rw [marksE_length]; exact hlt)
      rw [marksE_get _ _ _ hlt] at c1 c2
      go_wp2
      go_round
      case rel => exact ⟨k + 1, by omega, by go_num, by go_num⟩
      case measure => simp [intOf]; omega
    · go_wp2
      go_ret
      have : k = n := by omega
      subst this
      exact ⟨rfl, rfl⟩

end Go.Proofs.Ytjghcegacgpehaa
