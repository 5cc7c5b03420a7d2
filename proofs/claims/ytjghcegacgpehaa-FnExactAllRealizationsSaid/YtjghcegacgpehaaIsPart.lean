
/- Whether all edges of a graph are edges of another one; two valid graphs with as many vertices; slices.ContainsFunc on edges. (Printed by gen_ispart.py.) -/
import Derived.Test.YtjghcegacgpehaaHas
namespace Go.Proofs.Ytjghcegacgpehaa
open Go.RowKit

theorem all_next {p : E2 → Bool} {es : List E2} {k : Nat} (h : ∀ j (_ : j < k) (hj : j < es.length), p (es[j]'hj) = true) (hk : k < es.length) (h0 : p (es[k]'hk) = true) : ∀ j (_ : j < k + 1) (hj : j < es.length), p (es[j]'hj) = true := by
  intro j hj h1
  by_cases e : j = k
  · subst e; exact h0
  · exact h j (by omega) h1
theorem all_end {p : E2 → Bool} {es : List E2} {k : Nat} (h : ∀ j (_ : j < k) (hj : j < es.length), p (es[j]'hj) = true) (hk : k = es.length) : es.all p = true := by
  rw [List.all_eq_true]
  intro e he
  obtain ⟨i, hi, rfl⟩ := List.getElem_of_mem he
  exact h i (by omega) hi
theorem all_no {p : E2 → Bool} {es : List E2} {k : Nat} (hk : k < es.length) (h0 : p (es[k]'hk) = false) : es.all p = false := by
  rw [List.all_eq_false]
  exact ⟨_, List.getElem_mem hk, by simp [h0]⟩
def partB (gs hs : List E2) : Bool := gs.all fun e => hasB hs e.1 e.2

noncomputable def bothV (Ng : Int) (gs : List E2) (Nh : Int) (hs : List E2) : Bool := validG Ng gs && (validG Nh hs && decide (Ng = Nh))
set_option maxHeartbeats 1000000 in
theorem both_any (Ng : Int) (ag : Option Addr) (cg ng : Nat) (gs : List E2) (Nh : Int) (ah : Option Addr) (ch nh : Nat) (hs : List E2) (w : World) (hNg : Ng ≤ 9223372036854775807) (hNh : Nh ≤ 9223372036854775807) (hng : gs.length = ng) (hxg : Rd w ag (edges gs)) (hlg : ng ≤ 8796093022208) (hnh : hs.length = nh) (hxh : Rd w ah (edges hs)) (hlh : nh ≤ 8796093022208) :
    Calls Try.prog 72 #[graphV Ng ag ng cg, graphV Nh ah nh ch] w fun e w' => e = .returned (.bool (bothV Ng gs Nh hs)) ∧ Below w.heap.size w w' := by
  have hB := below_alloc2 w (.cells #[.int .i64 Ng, .slice ag ng cg] 25) (.cells #[.int .i64 Nh, .slice ah nh ch] 25)
  have qg := heap_alloc_new w (.cells #[.int .i64 Ng, .slice ag ng cg] 25)
  have qg := blk_below qg (below_alloc _ (.cells #[.int .i64 Nh, .slice ah nh ch] 25))
  have qh := heap_alloc_new (w.alloc (.cells #[.int .i64 Ng, .slice ag ng cg] 25)) (.cells #[.int .i64 Nh, .slice ah nh ch] 25)
  have hsz : (w.alloc (.cells #[.int .i64 Ng, .slice ag ng cg] 25)).heap.size = w.heap.size + 1 := by simp
  rw [hsz] at qh
  have hWs : w.heap.size + 1 < ((w.alloc (.cells #[.int .i64 Ng, .slice ag ng cg] 25)).alloc (.cells #[.int .i64 Nh, .slice ah nh ch] 25)).heap.size := by simp
  generalize hW : (w.alloc (.cells #[.int .i64 Ng, .slice ag ng cg] 25)).alloc (.cells #[.int .i64 Nh, .slice ah nh ch] 25) = W at *
  have HW := Lib.hid hW
  clear hW hsz
  have xg := hxg.below hB
  have xh := hxh.below hB
  clear hxg hxh
  have g0 := blk_cell qg 0 (.int .i64 Ng) rfl
  have g1 := blk_cell qg 1 (.slice ag ng cg) rfl
  have C1 := implValidGraph_any Ng ag cg ng gs W hNg hng xg hlg
  have Qg := Lib.hid qg
  have Qh := Lib.hid qh
  clear qg qh
  cases hv : validG Ng gs
  · have HR := Lib.hid (show false = bothV Ng gs Nh hs by simp [bothV, hv])
    rw [hv] at C1
    go_enter Try.func72, Try.ntmps72
    go_wp2_with (simp only [HW.out])
    refine C1.mono ?_
    rintro e w1 ⟨rfl, hb⟩
    go_wp2
    go_ret
    exact ⟨ret_bool HR.out, below_tr' hB hb⟩
  · rw [hv] at C1
    cases hv2 : validG Nh hs
    · have HR := Lib.hid (show false = bothV Ng gs Nh hs by simp [bothV, hv2])
      go_enter Try.func72, Try.ntmps72
      go_wp2_with (simp only [HW.out])
      refine C1.mono ?_
      rintro e w1 ⟨rfl, hb⟩
      have r := blk_below Qh.out hb
      have h0 := blk_cell r 0 (.int .i64 Nh) rfl
      have h1 := blk_cell r 1 (.slice ah nh ch) rfl
      have C2 := implValidGraph_any Nh ah ch nh hs w1 hNh hnh (xh.below hb) hlh
      rw [hv2] at C2
      go_wp2_with fail
      refine C2.mono ?_
      rintro e w2 ⟨rfl, hb2⟩
      go_wp2
      go_ret
      exact ⟨ret_bool HR.out, below_tr' (below_tr' hB hb) hb2⟩
    · have HR := Lib.hid (show decide (Ng = Nh) = bothV Ng gs Nh hs by simp [bothV, hv, hv2])
      go_enter Try.func72, Try.ntmps72
      go_wp2_with (simp only [HW.out])
      refine C1.mono ?_
      rintro e w1 ⟨rfl, hb⟩
      have r := blk_below Qh.out hb
      have r' := blk_below Qg.out hb
      clear g0 g1
      have h0 := blk_cell r 0 (.int .i64 Nh) rfl
      have h1 := blk_cell r 1 (.slice ah nh ch) rfl
      have C2 := implValidGraph_any Nh ah ch nh hs w1 hNh hnh (xh.below hb) hlh
      rw [hv2] at C2
      go_wp2_with fail
      refine C2.mono ?_
      rintro e w2 ⟨rfl, hb2⟩
      clear h0 h1
      have h0 := blk_cell (blk_below r hb2) 0 (.int .i64 Nh) rfl
      have g0 := blk_cell (blk_below r' hb2) 0 (.int .i64 Ng) rfl
      go_wp2
      go_ret
      exact ⟨ret_bool (by rw [← HR.out, Bool.beq_eq_decide_eq]), below_tr' (below_tr' hB hb) hb2⟩

end Go.Proofs.Ytjghcegacgpehaa
