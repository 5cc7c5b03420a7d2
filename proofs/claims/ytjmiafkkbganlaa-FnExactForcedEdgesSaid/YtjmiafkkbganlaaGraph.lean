
/- The laws' helpers on graphs: count, copy, compare, mark, look again. -/
import Derived.Test.YtjmiafkkbganlaaEdge
import Derived.Test.YtjmiafkkbganlaaBlk
namespace Go.Proofs.Ytjmiafkkbganlaa
open Go.RowKit

theorem szEdgeS_any (a : Option Addr) (c n : Nat) (l : Int) (w : World) (hl : n ≤ 9223372036854775807) (h0 : 0 ≤ l) (h1 : l ≤ 9223372036854775807) :
    Calls Try.prog 44 #[.slice a n c, .int .i64 l] w fun e w' => e = .returned (.int .i64 (if l < n then -1 else l - n)) ∧ w' = w := by
  by_cases h : l < n
  · rw [if_pos h]
    go_enter Try.func44, Try.ntmps44
    go_wp2
    go_ret
    exact ⟨rfl, rfl⟩
  · rw [if_neg h]
    go_enter Try.func44, Try.ntmps44
    go_wp2
    go_ret
    exact ⟨rfl, rfl⟩

theorem szGraph_any (N : Int) (a : Option Addr) (c n : Nat) (l : Int) (w : World) (hl : n ≤ 9223372036854775807) (h0 : 0 ≤ l) (h1 : l ≤ 9223372036854775807) :
    Calls Try.prog 11 #[graphV N a n c, .int .i64 l] w fun e w' => e = .returned (.int .i64 (if l < n then -1 else l - n)) ∧ Below w.heap.size w w' := by
  have C1 := szEdgeS_any a c n l (w.alloc (.cells #[.int .i64 N, .slice a n c] 24)) hl h0 h1
  have HB := below_alloc w (.cells #[.int .i64 N, .slice a n c] 24)
  by_cases h : l < n
  · rw [if_pos h] at C1
    rw [if_pos h]
    go_enter Try.func11, Try.ntmps11
    go_wp2_with fail
    refine C1.mono ?_
    rintro e w' ⟨rfl, rfl⟩
    go_wp2
    go_ret
    exact ⟨rfl, HB⟩
  · rw [if_neg h] at C1
    rw [if_neg h]
    go_enter Try.func11, Try.ntmps11
    go_wp2_with fail
    refine C1.mono ?_
    rintro e w' ⟨rfl, rfl⟩
    go_wp2
    go_ret
    exact ⟨rfl, HB⟩

theorem toEdge_any (x y : Int) (w : World) :
    Calls Try.prog 74 #[.agg #[.int .i64 x, .int .i64 y]] w fun e w' => e = .returned (.agg #[.int .i64 x, .int .i64 y]) ∧ Below w.heap.size w w' := by
  go_enter Try.func74, Try.ntmps74
  go_wp2
  refine bodyPost_ret (v := .agg #[.int .i64 x, .int .i64 y]) (by simp [results, Try.results74, go_sem]) rfl ⟨rfl, below_tr' (below_alloc2 w _ _) (below_alloc _ _)⟩

theorem edges_set (es : List E2) (k : Nat) (h : k < es.length) (x y : Int) : ((edges es).set (k * 2) (.int .i64 x)).set (k * 2 + 1) (.int .i64 y) = edges (es.set k (x, y)) := by
  induction es generalizing k with
  | nil => simp at h
  | cons e l ih =>
    rw [edges_cons]
    cases k with
    | zero => simp [edges_cons]
    | succ k =>
      have h' : k < l.length := by simpa using h
      have e1 : (k + 1) * 2 = k * 2 + 2 := by omega
      have e2 : k * 2 + 2 + 1 = k * 2 + 1 + 2 := by omega
      rw [e1, e2]
      simp only [List.set_cons_succ]
      rw [ih k h', edges_cons]

/-- An edge is stored into an owned row, one cell after the other. -/
theorem own_edge {w : World} {B T n c g : Nat} {es : List E2} (ho : w.ownsRow B T 2 (.slice (some ⟨g, 0, none⟩) n c) n (edges es)) (k : Nat) (hk : k < es.length) (x y : Int) :
    ((w.setCell ⟨g, k * 2, none⟩ (.int .i64 x)).setCell ⟨g, k * 2 + 1, none⟩ (.int .i64 y)).ownsRow B T 2 (.slice (some ⟨g, 0, none⟩) n c) n (edges (es.set k (x, y))) := by
  rw [← edges_set es k hk]
  exact ((ho.stored (k * 2) _).1.stored (k * 2 + 1) _).1

theorem own_edgeLen {w : World} {B T n c : Nat} {a : Option Addr} {es : List E2} (ho : w.ownsRow B T 2 (.slice a n c) n (edges es)) : es.length = n := by
  have := ho.1; rw [edges_length] at this; omega

theorem take_set_zero (es : List E2) (n k : Nat) (hn : es.length = n) (hk : k < n) :
    (es.take k ++ List.replicate (n - k) ((0, 0) : E2)).set k (es[k]'(by omega)) = es.take (k + 1) ++ List.replicate (n - (k + 1)) (0, 0) := by
  have e : es.take (k + 1) = es.take k ++ [es[k]'(by omega)] := List.take_succ_eq_append_getElem (by omega)
  rw [show n - k = (n - (k + 1)) + 1 from by omega, List.replicate_succ, List.set_append_right _ _ (by simp; omega)]
  simp only [List.length_take, show k - min k es.length = 0 by omega, List.set_cons_zero]
  rw [e, List.append_assoc]
  rfl

theorem edges_zero (n : Nat) : (madeCells (Value.agg #[Value.int .i64 0, Value.int .i64 0]).cells (n * 2)).toList = edges (List.replicate n ((0, 0) : E2)) := by
  have h : ∀ n, (List.range (n * 2)).map (fun i => #[Value.int .i64 0, Value.int .i64 0][i % 2]!) = edges (List.replicate n ((0, 0) : E2)) := by
    intro n
    induction n with
    | zero => rfl
    | succ n ih =>
      rw [show (n + 1) * 2 = n * 2 + 1 + 1 by omega, List.range_succ, List.range_succ, List.map_append, List.map_append, ih, List.replicate_succ', edges_append, List.append_assoc]
      congr 1
      have h1 : n * 2 % 2 = 0 := by omega
      have h2 : (n * 2 + 1) % 2 = 1 := by omega
      simp [h1, h2, edges]
  rw [← h n]
  simp [madeCells, Value.cells]

set_option maxHeartbeats 400000 in
theorem toEdgeS_any (a : Option Addr) (c n : Nat) (es : List E2) (w : World) (hn : es.length = n) (hx : Rd w a (edges es)) (hl : n ≤ 1048576) :
    Calls Try.prog 48 #[.slice a n c] w fun e w' =>
      e = .returned (.slice (some ⟨w.heap.size, 0, none⟩) n n) ∧ w'.ownsRow w.heap.size 71 2 (.slice (some ⟨w.heap.size, 0, none⟩) n n) n (edges es) ∧ Below w.heap.size w w' := by
  obtain ⟨i0, hi, hz0, hz1, hz2⟩ := info_parts Try.infoEdge
  go_enter Try.func48, Try.ntmps48
  go_wp2_with (at_make; refine wpList_make_full _ rfl _ _ 27 rfl w.heap.size 71 i0 (.agg #[.int .i64 0, .int .i64 0]) 2 Try.underlying27 hi hz0 hz1 _ _ _ _ n rfl rfl rfl rfl ?b1 ?b2 ?b3 ?_)
  case b1 => rw [hz2]; omega
  case b2 => unfold maxLen; omega
  case b3 => exact Nat.le_refl _
  intro w1 hown1 hg1
  have hown : w1.ownsRow w.heap.size 71 2 (.slice (some ⟨w.heap.size, 0, none⟩) n n) n (edges (es.take 0 ++ List.replicate (n - 0) (0, 0))) := by
    have e : (madeCells (Value.agg #[Value.int .i64 0, Value.int .i64 0]).cells (n * 2)).toList = edges (es.take 0 ++ List.replicate (n - 0) (0, 0)) := by
      rw [edges_zero]; simp
    rw [← e]; exact hown1
  have hB : Below w.heap.size w w1 := grown_none_below hg1
  clear hown1 hg1
  go_wp2
  go_loopw [4] (fun i wr => ∃ k : Nat, k ≤ n ∧ i = .int .i64 k ∧ wr.ownsRow w.heap.size 71 2 (.slice (some ⟨w.heap.size, 0, none⟩) n n) n (edges (es.take k ++ List.replicate (n - k) (0, 0))) ∧ Below w.heap.size w wr) (fun i _ => n - (intOf i).toNat)
  case atStart => exact ⟨0, by omega, rfl, hown, hB⟩
  case round =>
    obtain ⟨k, hk, rfl, ho, hb⟩ := hrel
    by_cases hlt : k < n
    · obtain ⟨b1, o1, rfl, c1, c2⟩ := (hx.below hb).edge (k := k) (by omega)
      have hst := take_set_zero es n k hn hlt
      have hos := Lib.hid (fun (w2 : World) (hb2 : Below wr.heap.size wr w2) => own_edge (own_below ho hb2) k (by simp; omega) (es[k]'(by omega)).1 (es[k]'(by omega)).2)
      have hst := Lib.hid hst
      have HT := toEdge_any (es[k]'(by omega)).1 (es[k]'(by omega)).2 wr
      generalize hX : (es[k]'(by omega)).1 = X at *
      generalize hY : (es[k]'(by omega)).2 = Y at *
      have hX := Lib.hid hX
      have hY := Lib.hid hY
      go_wp2_with fail
      refine HT.mono ?_
      rintro e w2 ⟨rfl, hb2⟩
      have ho2 := hos.out w2 hb2
      have HB2 := below_tr' hb hb2
      have hob := own_below ho hb2
      obtain ⟨v, c3⟩ := own_some hob (k * 2) (by omega)
      obtain ⟨v2, c4⟩ := own_some hob (k * 2 + 1) (by omega)
      have f1 := hob.frozenAt (k * 2)
      have f2 := hob.frozenAt (k * 2 + 1)
      have HS := (HB2.setCell (p := ⟨w.heap.size, k * 2, none⟩) (Nat.le_refl _) (.int .i64 X)).setCell (p := ⟨w.heap.size, k * 2 + 1, none⟩) (Nat.le_refl _) (.int .i64 Y)
      clear HT
      go_wp2
      go_roundw
      case rel => exact ⟨k + 1, by omega, by go_num, by rw [← hst.out, show es[k]'(by omega) = (X, Y) from Prod.ext hX.out hY.out]; exact ho2, HS⟩
      case measure => simp [intOf]; omega
    · go_wp2
      go_ret
      have : k = n := by omega
      subst this
      refine ⟨rfl, ?_, hb⟩
      have e : es.take k ++ List.replicate (k - k) ((0, 0) : E2) = es := by rw [← hn]; simp
      rw [← e]; exact ho


theorem toGraph_any (N : Int) (a : Option Addr) (c n : Nat) (es : List E2) (w : World) (hn : es.length = n) (hx : Rd w a (edges es)) (hl : n ≤ 1048576) :
    Calls Try.prog 13 #[graphV N a n c] w fun e w' => ∃ a', e = .returned (graphV N a' n n) ∧
      w'.ownsRow w.heap.size 71 2 (.slice a' n n) n (edges es) ∧ Below w.heap.size w w' := by
  obtain ⟨W3, hW3⟩ : ∃ W, W = (((w.alloc (.cells #[.int .i64 N, .slice a n c] 24)).alloc (.cells #[.int .i64 0, .slice none 0 0] 29)).alloc (.cells #[.int .i64 N, .slice none 0 0] 29)) := ⟨_, rfl⟩
  have hB : Below w.heap.size w W3 := by rw [hW3]; exact below_tr' (below_alloc2 w _ _) (below_alloc _ _)
  have hs : W3.heap.size = w.heap.size + 1 + 1 + 1 := by rw [hW3]; simp
  have q1 : W3.heap[w.heap.size + 1]? = some (.cells #[.int .i64 0, .slice none 0 0] 29 (0, 0)) := by
    rw [hW3, heap_alloc_old _ _ (by simp), show w.heap.size + 1 = (w.alloc (.cells #[.int .i64 N, .slice a n c] 24)).heap.size from by simp, heap_alloc_new]
  have q2 : W3.heap[w.heap.size + 1 + 1]? = some (.cells #[.int .i64 N, .slice none 0 0] 29 (0, 0)) := by
    rw [hW3, show w.heap.size + 1 + 1 = ((w.alloc (.cells #[.int .i64 N, .slice a n c] 24)).alloc (.cells #[.int .i64 0, .slice none 0 0] 29)).heap.size from by simp, heap_alloc_new]
  have C1 := toEdgeS_any a c n es W3 hn (hx.below hB) hl
  have HW := Lib.hid hW3
  clear hW3
  go_enter Try.func13, Try.ntmps13
  go_wp2_with fail
  rw [← HW.out]
  refine C1.mono ?_
  rintro e w1 ⟨rfl, ho, hb⟩
  have ho := own_mono ho (show w.heap.size ≤ W3.heap.size by omega)
  have hb1 := below_tr' hB hb
  have q1 := blk_below q1 hb
  have q2 := blk_below q2 hb
  generalize some (⟨W3.heap.size, 0, none⟩ : Addr) = aE at *
  have k3 := blk_cell q2 1 (.slice none 0 0) rfl
  have f3 := blk_free q2 1
  have r2 := blk_set q2 1 (.slice aE n n)
  have r1 := blk_set_other q1 1 (.slice aE n n) (g := w.heap.size + 1 + 1) (by omega)
  have ho2 := own_setOther ho (w.heap.size + 1 + 1) 1 (.slice aE n n) (own_ne ho q2 (by decide))
  have hb2 := hb1.setCell (p := ⟨w.heap.size + 1 + 1, 1, none⟩) (by simp; omega) (.slice aE n n)
  generalize hw2 : w1.setCell ⟨w.heap.size + 1 + 1, 1, none⟩ (.slice aE n n) = w2 at *
  have HW2 := Lib.hid hw2
  have g0 := blk_cell r2 0 (.int .i64 N) rfl
  have g1 := blk_cell r2 1 (.slice aE n n) rfl
  have z0 := blk_cell r1 0 (.int .i64 0) rfl
  have z1 := blk_cell r1 1 (.slice none 0 0) rfl
  have f0 := blk_free r1 0
  have f1 := blk_free r1 1
  have s1 := blk_set (w := w2.setCell ⟨w.heap.size + 1, 0, none⟩ (.int .i64 N)) (blk_set r1 0 (.int .i64 N)) 1 (.slice aE n n)
  have so := own_setOther (own_setOther ho2 (w.heap.size + 1) 0 (.int .i64 N) (own_ne ho2 r1 (by decide))) (w.heap.size + 1) 1 (.slice aE n n) (own_ne ho2 r1 (by decide))
  have sb := (hb2.setCell (p := ⟨w.heap.size + 1, 0, none⟩) (by simp) (.int .i64 N)).setCell (p := ⟨w.heap.size + 1, 1, none⟩) (by simp) (.slice aE n n)
  have S := Lib.hid (And.intro so sb)
  clear so sb ho ho2 hb hb1 hb2 q1 q2 r2 hw2 C1
  go_wp2_with (simp only [HW2.out])
  refine bodyPost_ret (v := graphV N aE n n) (by simp [results, Try.results13, go_sem, z0, z1]) rfl ⟨aE, rfl, S.out.1, S.out.2⟩

theorem eqEdge_any (x y : Int) (w : World) :
    Calls Try.prog 70 #[.agg #[.int .i64 x, .int .i64 y], .agg #[.int .i64 x, .int .i64 y]] w fun e w' => e = .returned (.bool true) ∧ Below w.heap.size w w' := by
  go_enter Try.func70, Try.ntmps70
  go_wp2
  go_ret
  exact ⟨rfl, below_alloc2 _ _ _⟩

set_option maxHeartbeats 400000 in
theorem eqEdgeS_any (a b : Option Addr) (ca cb n : Nat) (es : List E2) (w : World) (hn : es.length = n) (hx : Rd w a (edges es)) (hy : Rd w b (edges es)) (hl : n ≤ 8796093022208) :
    Calls Try.prog 41 #[.slice a n ca, .slice b n cb] w fun e w' => e = .returned (.bool true) ∧ Below w.heap.size w w' := by
  go_enter Try.func41, Try.ntmps41
  go_wp2
  go_loopw [5] (fun i wr => ∃ k : Nat, k ≤ n ∧ i = .int .i64 k ∧ Below w.heap.size w wr) (fun i _ => n - (intOf i).toNat)
  case atStart => exact ⟨0, by omega, rfl, Below.refl _ _⟩
  case round =>
    obtain ⟨k, hk, rfl, hb⟩ := hrel
    by_cases hlt : k < n
    · obtain ⟨b1, o1, rfl, c1, c2⟩ := (hx.below hb).edge (k := k) (by omega)
      obtain ⟨b2, o2, rfl, c3, c4⟩ := (hy.below hb).edge (k := k) (by omega)
      generalize (es[k]'(by omega)).1 = X at *
      generalize (es[k]'(by omega)).2 = Y at *
      have d1 := later_cell c1
      have d2 := later_cell c2
      have d3 := later_cell c3
      have d4 := later_cell c4
      have HT := Lib.hid (fun u : Later wr => eqEdge_any X Y u.val)
      clear c1 c2 c3 c4
      go_wp2
      refine wp_region_later (by kernel_rfl) (by kernel_rfl) ?_
      repeat (go_big_quiet_step ((go_at_call 70; exact calls_later _ (HT.out _))))
      refine wpQuiet_nil ?_
      intro w1 hw'
      have hb1 := below_tr' hb (later_below hw')
      clear hw' d1 d2 d3 d4
      go_wp2
      go_roundw
      case rel => exact ⟨k + 1, by omega, by go_num, hb1⟩
      case measure => simp [intOf]; omega
    · go_wp2
      go_ret
      exact ⟨rfl, hb⟩

theorem eqGraph_any (N : Int) (a b : Option Addr) (ca cb n : Nat) (es : List E2) (w : World) (hn : es.length = n) (hx : Rd w a (edges es)) (hy : Rd w b (edges es)) (hl : n ≤ 8796093022208) :
    Calls Try.prog 16 #[graphV N a n ca, graphV N b n cb] w fun e w' => e = .returned (.bool true) ∧ Below w.heap.size w w' := by
  have hB := below_alloc2 w (.cells #[.int .i64 N, .slice a n ca] 29) (.cells #[.int .i64 N, .slice b n cb] 29)
  have C1 := eqEdgeS_any a b ca cb n es _ hn (hx.below hB) (hy.below hB) hl
  go_enter Try.func16, Try.ntmps16
  go_wp2_with fail
  refine C1.mono ?_
  rintro e w1 ⟨rfl, hb⟩
  go_wp2
  go_ret
  exact ⟨rfl, below_tr' hB hb⟩

def marksE (k : Int) (n : Nat) : List E2 := (List.range n).map fun i : Nat => (k + 2 * (i : Int), k + 2 * (i : Int) + 1)
theorem marksE_length (k : Int) (n : Nat) : (marksE k n).length = n := by simp [marksE]
theorem marksE_succ (k : Int) (n : Nat) : marksE k (n + 1) = marksE k n ++ [(k + 2 * (n : Int), k + 2 * (n : Int) + 1)] := by simp [marksE, List.range_succ]
theorem marksE_get (k : Int) (n i : Nat) (h : i < n) : (marksE k n)[i]'(by rw [marksE_length]; exact h) = (k + 2 * (i : Int), k + 2 * (i : Int) + 1) := by simp [marksE]
theorem marksE_set (k : Int) (es : List E2) (n j : Nat) (hn : es.length = n) (hj : j < n) : (marksE k j ++ es.drop j).set j (k + 2 * (j : Int), k + 2 * (j : Int) + 1) = marksE k (j + 1) ++ es.drop (j + 1) := by
  rw [List.drop_eq_getElem_cons (by omega), List.set_append_right _ _ (by rw [marksE_length]; omega), marksE_length, Nat.sub_self, List.set_cons_zero, marksE_succ]
  simp

set_option maxHeartbeats 400000 in
theorem markEdgeS_any (B : Nat) (a : Option Addr) (c cv n : Nat) (es : List E2) (k0 : Int) (w : World) (ho0 : w.ownsRow B 71 2 (.slice a n c) n (edges es)) (hl : n ≤ 1048576) (hk0 : 0 ≤ k0) (hk1 : k0 ≤ 1099511627776) :
    Calls Try.prog 42 #[.slice a n cv, .int .i64 k0] w fun e w' =>
      e = .returned (.int .i64 (k0 + 2 * n)) ∧ w'.ownsRow B 71 2 (.slice a n c) n (edges (marksE k0 n)) ∧ w.grownBy w' (Value.slice a n c).ownBlock := by
  have hxl : es.length = n := own_edgeLen ho0
  go_enter Try.func42, Try.ntmps42
  go_wp2
  go_loopw [1, 5] (fun q i wr => ∃ k : Nat, k ≤ n ∧ i = .int .i64 k ∧ q = .int .i64 (k0 + 2 * (k : Int)) ∧ wr.ownsRow B 71 2 (.slice a n c) n (edges (marksE k0 k ++ es.drop k)) ∧ w.grownBy wr (Value.slice a n c).ownBlock) (fun _ i _ => n - (intOf i).toNat)
  case atStart => exact ⟨0, by omega, rfl, by simp, by simpa [marksE] using ho0, World.grownBy.refl _ _⟩
  case round =>
    obtain ⟨k, hk, rfl, rfl, ho, hg⟩ := hrel
    by_cases hlt : k < n
    · obtain ⟨g, rfl, hgB, _⟩ := own_head ho0 (by omega)
      obtain ⟨v, c2⟩ := own_some ho (k * 2) (by omega)
      have f2 := ho.frozenAt (k * 2)
      have hs1 := ho.stored (k * 2) (.int .i64 (k0 + 2 * (k : Int)))
      obtain ⟨v3, c3⟩ := own_some hs1.1 (k * 2 + 1) (by omega)
      have f3 := hs1.1.frozenAt (k * 2 + 1)
      have hs2 := hs1.1.stored (k * 2 + 1) (.int .i64 (k0 + 2 * (k : Int) + 1))
      rw [edges_set _ _ (by simp [marksE_length]; omega), marksE_set _ _ _ _ hxl hlt] at hs2
      have hg2 : w.grownBy ((wr.setCell ⟨g, k * 2, none⟩ (.int .i64 (k0 + 2 * (k : Int)))).setCell ⟨g, k * 2 + 1, none⟩ (.int .i64 (k0 + 2 * (k : Int) + 1))) (some g) := grown_trans (grown_trans hg hs1.2) hs2.2
      have H := Lib.hid (And.intro hs2.1 hg2)
      clear hs1 hs2 hg2
      go_wp2
      go_roundw
      case rel => exact ⟨k + 1, by omega, by go_num, by go_num, H.out.1, H.out.2⟩
      case measure => simp [intOf]; omega
    · go_wp2
      go_ret
      have : k = n := by omega
      subst this
      refine ⟨rfl, ?_, hg⟩
      rw [List.drop_of_length_le (by omega), List.append_nil] at ho
      exact ho

set_option maxHeartbeats 400000 in
theorem heldEdgeS_any (a : Option Addr) (c n : Nat) (k0 : Int) (w : World) (hx : Rd w a (edges (marksE k0 n))) (hl : n ≤ 1048576) (hk0 : 0 ≤ k0) (hk1 : k0 ≤ 1099511627776) :
    Calls Try.prog 43 #[.slice a n c, .int .i64 k0] w fun e w' => e = .returned (.int .i64 (k0 + 2 * n)) ∧ w' = w := by
  go_enter Try.func43, Try.ntmps43
  go_wp2
  go_loop [1, 5] (fun q i => ∃ k : Nat, k ≤ n ∧ i = .int .i64 k ∧ q = .int .i64 (k0 + 2 * (k : Int))) (fun _ i => n - (intOf i).toNat)
  case atStart => exact ⟨0, by omega, rfl, by simp⟩
  case round =>
    obtain ⟨k, hk, rfl, rfl⟩ := hrel
    by_cases hlt : k < n
    · obtain ⟨b1, o1, rfl, c1, c2⟩ := hx.edge (k := k) (by rw [marksE_length]; exact hlt)
      rw [marksE_get _ _ _ hlt] at c1 c2
      go_wp2
      go_round
      case rel => exact ⟨k + 1, by omega, by go_num, by go_num⟩
      case measure => simp [intOf]; omega
    · go_wp2
      go_ret
      have : k = n := by omega
      subst this
      exact ⟨rfl, rfl⟩

theorem markGraph_any (N : Int) (B : Nat) (a : Option Addr) (c cv n : Nat) (es : List E2) (k0 : Int) (w : World) (ho0 : w.ownsRow B 71 2 (.slice a n c) n (edges es)) (hl : n ≤ 1048576) (hk0 : 0 ≤ k0) (hk1 : k0 ≤ 1099511627776) :
    Calls Try.prog 18 #[graphV N a n cv, .int .i64 k0] w fun e w' =>
      e = .returned (.int .i64 (k0 + 2 * n)) ∧ w'.ownsRow B 71 2 (.slice a n c) n (edges (marksE k0 n)) ∧ w.grownBy w' (Value.slice a n c).ownBlock := by
  have C1 := markEdgeS_any B a c cv n es k0 (w.alloc (.cells #[.int .i64 N, .slice a n cv] 29)) (ho0.alloc _) hl hk0 hk1
  go_enter Try.func18, Try.ntmps18
  go_wp2_with fail
  refine C1.mono ?_
  rintro e w1 ⟨rfl, ho, hg⟩
  go_wp2
  go_ret
  exact ⟨rfl, ho, grown_trans (World.grownBy_alloc w _ _) hg⟩

theorem heldGraph_any (N : Int) (a : Option Addr) (c n : Nat) (k0 : Int) (w : World) (hx : Rd w a (edges (marksE k0 n))) (hl : n ≤ 1048576) (hk0 : 0 ≤ k0) (hk1 : k0 ≤ 1099511627776) :
    Calls Try.prog 20 #[graphV N a n c, .int .i64 k0] w fun e w' => e = .returned (.int .i64 (k0 + 2 * n)) ∧ Below w.heap.size w w' := by
  have C1 := heldEdgeS_any a c n k0 (w.alloc (.cells #[.int .i64 N, .slice a n c] 29)) (hx.below (below_alloc w _)) hl hk0 hk1
  go_enter Try.func20, Try.ntmps20
  go_wp2_with fail
  refine C1.mono ?_
  rintro e w1 ⟨rfl, rfl⟩
  go_wp2
  go_ret
  exact ⟨rfl, below_alloc w _⟩

end Go.Proofs.Ytjmiafkkbganlaa
