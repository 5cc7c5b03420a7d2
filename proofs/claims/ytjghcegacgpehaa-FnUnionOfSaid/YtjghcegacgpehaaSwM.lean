
/- The reference's maySwitch, switches and switched: what a drawn graph needs of them. (Printed by gen_swm.py.) -/
import Derived.Test.YtjghcegacgpehaaSwD
namespace Go.Proofs.Ytjghcegacgpehaa
open Go.RowKit

def GoodSw (l : List S4) : Prop := ∀ s ∈ l, s.1 ≠ s.2.2.1 ∧ s.2.1 ≠ s.2.2.2
theorem goodSw_nil : GoodSw [] := by intro s hs; simp at hs
theorem GoodSw.snoc {l : List S4} (h : GoodSw l) {p q r t : Int} (h1 : p ≠ r ∧ q ≠ t) : GoodSw (l ++ [(p, q, r, t)]) := by
  intro s hs
  rcases List.mem_append.1 hs with h2 | h2
  · exact h s h2
  · rw [List.mem_singleton.1 h2]; exact h1

set_option maxHeartbeats 4000000 in
theorem maySwitch_some (N : Int) (a : Option Addr) (c n : Nat) (es : List E2) (A B C D : Int) (w : World) (hn : es.length = n) (hx : Rd w a (edges es)) (hl : n ≤ 1048576) :
    Calls Try.prog 189 #[graphV N a n c, .agg #[.int .i64 A, .int .i64 B, .int .i64 C, .int .i64 D]] w fun e w' => ∃ b, e = .returned (.bool b) ∧ (b = true → A ≠ C ∧ B ≠ D) ∧ Below w.heap.size w w' := by
  have hB := below_alloc2 w (.cells #[.int .i64 N, .slice a n c] 25) (.cells #[.int .i64 A, .int .i64 B, .int .i64 C, .int .i64 D] 60)
  have qg := blk_below (heap_alloc_new w (.cells #[.int .i64 N, .slice a n c] 25)) (below_alloc _ (.cells #[.int .i64 A, .int .i64 B, .int .i64 C, .int .i64 D] 60))
  have qs := heap_alloc_new (w.alloc (.cells #[.int .i64 N, .slice a n c] 25)) (.cells #[.int .i64 A, .int .i64 B, .int .i64 C, .int .i64 D] 60)
  rw [show (w.alloc (.cells #[.int .i64 N, .slice a n c] 25)).heap.size = w.heap.size + 1 from by simp] at qs
  generalize hW : ((w.alloc (.cells #[.int .i64 N, .slice a n c] 25)).alloc (.cells #[.int .i64 A, .int .i64 B, .int .i64 C, .int .i64 D] 60)) = W at *
  have HW := Lib.hid hW
  have CH := Lib.hid (fun (p q : Int) (v : World) (hb : Below w.heap.size w v) => specHasEdge_any N a c n es p q v hn (hx.below hb) (by omega))
  clear hW hx hn
  cases h0 : (A != C)
  · go_enter Try.func189, Try.ntmps189
    have g0 := blk_cell qg 0 (.int .i64 N) rfl
    have g1 := blk_cell qg 1 (.slice a n c) rfl
    have s0 := blk_cell qs 0 (.int .i64 A) rfl
    have s1 := blk_cell qs 1 (.int .i64 B) rfl
    have s2 := blk_cell qs 2 (.int .i64 C) rfl
    have s3 := blk_cell qs 3 (.int .i64 D) rfl
    go_wp2_with (simp only [HW.out])
    go_ret
    exact ⟨_, rfl, fun h => by first | (cases h; done) | simp_all, hB⟩
  cases h1 : (B != D)
  · go_enter Try.func189, Try.ntmps189
    have g0 := blk_cell qg 0 (.int .i64 N) rfl
    have g1 := blk_cell qg 1 (.slice a n c) rfl
    have s0 := blk_cell qs 0 (.int .i64 A) rfl
    have s1 := blk_cell qs 1 (.int .i64 B) rfl
    have s2 := blk_cell qs 2 (.int .i64 C) rfl
    have s3 := blk_cell qs 3 (.int .i64 D) rfl
    go_wp2_with (simp only [HW.out])
    go_ret
    exact ⟨_, rfl, fun h => by first | (cases h; done) | simp_all, hB⟩
  cases h2 : (A != D)
  · go_enter Try.func189, Try.ntmps189
    have g0 := blk_cell qg 0 (.int .i64 N) rfl
    have g1 := blk_cell qg 1 (.slice a n c) rfl
    have s0 := blk_cell qs 0 (.int .i64 A) rfl
    have s1 := blk_cell qs 1 (.int .i64 B) rfl
    have s2 := blk_cell qs 2 (.int .i64 C) rfl
    have s3 := blk_cell qs 3 (.int .i64 D) rfl
    go_wp2_with (simp only [HW.out])
    go_ret
    exact ⟨_, rfl, fun h => by first | (cases h; done) | simp_all, hB⟩
  cases h3 : (B != C)
  · go_enter Try.func189, Try.ntmps189
    have g0 := blk_cell qg 0 (.int .i64 N) rfl
    have g1 := blk_cell qg 1 (.slice a n c) rfl
    have s0 := blk_cell qs 0 (.int .i64 A) rfl
    have s1 := blk_cell qs 1 (.int .i64 B) rfl
    have s2 := blk_cell qs 2 (.int .i64 C) rfl
    have s3 := blk_cell qs 3 (.int .i64 D) rfl
    go_wp2_with (simp only [HW.out])
    go_ret
    exact ⟨_, rfl, fun h => by first | (cases h; done) | simp_all, hB⟩
  cases e0 : hasB es A B
  · go_enter Try.func189, Try.ntmps189
    have g0 := blk_cell qg 0 (.int .i64 N) rfl
    have g1 := blk_cell qg 1 (.slice a n c) rfl
    have s0 := blk_cell qs 0 (.int .i64 A) rfl
    have s1 := blk_cell qs 1 (.int .i64 B) rfl
    have s2 := blk_cell qs 2 (.int .i64 C) rfl
    have s3 := blk_cell qs 3 (.int .i64 D) rfl
    have C0 := CH.out A B W hB
    rw [e0] at C0
    go_wp2_with (simp only [HW.out])
    refine C0.mono ?_
    rintro e w0 ⟨rfl, hb0⟩
    clear C0 g0 g1 s0 s1 s2 s3
    have qg := blk_below qg hb0
    have qs := blk_below qs hb0
    have HB0 := below_tr' hB hb0
    have g0 := blk_cell qg 0 (.int .i64 N) rfl
    have g1 := blk_cell qg 1 (.slice a n c) rfl
    have s0 := blk_cell qs 0 (.int .i64 A) rfl
    have s1 := blk_cell qs 1 (.int .i64 B) rfl
    have s2 := blk_cell qs 2 (.int .i64 C) rfl
    have s3 := blk_cell qs 3 (.int .i64 D) rfl
    go_wp2
    go_ret
    exact ⟨_, rfl, fun h => by first | (cases h; done) | simp_all, HB0⟩
  cases e1 : hasB es C D
  · go_enter Try.func189, Try.ntmps189
    have g0 := blk_cell qg 0 (.int .i64 N) rfl
    have g1 := blk_cell qg 1 (.slice a n c) rfl
    have s0 := blk_cell qs 0 (.int .i64 A) rfl
    have s1 := blk_cell qs 1 (.int .i64 B) rfl
    have s2 := blk_cell qs 2 (.int .i64 C) rfl
    have s3 := blk_cell qs 3 (.int .i64 D) rfl
    have C0 := CH.out A B W hB
    rw [e0] at C0
    go_wp2_with (simp only [HW.out])
    refine C0.mono ?_
    rintro e w0 ⟨rfl, hb0⟩
    clear C0 g0 g1 s0 s1 s2 s3
    have qg := blk_below qg hb0
    have qs := blk_below qs hb0
    have HB0 := below_tr' hB hb0
    have g0 := blk_cell qg 0 (.int .i64 N) rfl
    have g1 := blk_cell qg 1 (.slice a n c) rfl
    have s0 := blk_cell qs 0 (.int .i64 A) rfl
    have s1 := blk_cell qs 1 (.int .i64 B) rfl
    have s2 := blk_cell qs 2 (.int .i64 C) rfl
    have s3 := blk_cell qs 3 (.int .i64 D) rfl
    have C1 := CH.out C D w0 HB0
    rw [e1] at C1
    go_wp2_with fail
    refine C1.mono ?_
    rintro e w1 ⟨rfl, hb1⟩
    clear C1 g0 g1 s0 s1 s2 s3
    have qg := blk_below qg hb1
    have qs := blk_below qs hb1
    have HB1 := below_tr' HB0 hb1
    have g0 := blk_cell qg 0 (.int .i64 N) rfl
    have g1 := blk_cell qg 1 (.slice a n c) rfl
    have s0 := blk_cell qs 0 (.int .i64 A) rfl
    have s1 := blk_cell qs 1 (.int .i64 B) rfl
    have s2 := blk_cell qs 2 (.int .i64 C) rfl
    have s3 := blk_cell qs 3 (.int .i64 D) rfl
    go_wp2
    go_ret
    exact ⟨_, rfl, fun h => by first | (cases h; done) | simp_all, HB1⟩
  cases e2 : hasB es A C
  rotate_left
  · go_enter Try.func189, Try.ntmps189
    have g0 := blk_cell qg 0 (.int .i64 N) rfl
    have g1 := blk_cell qg 1 (.slice a n c) rfl
    have s0 := blk_cell qs 0 (.int .i64 A) rfl
    have s1 := blk_cell qs 1 (.int .i64 B) rfl
    have s2 := blk_cell qs 2 (.int .i64 C) rfl
    have s3 := blk_cell qs 3 (.int .i64 D) rfl
    have C0 := CH.out A B W hB
    rw [e0] at C0
    go_wp2_with (simp only [HW.out])
    refine C0.mono ?_
    rintro e w0 ⟨rfl, hb0⟩
    clear C0 g0 g1 s0 s1 s2 s3
    have qg := blk_below qg hb0
    have qs := blk_below qs hb0
    have HB0 := below_tr' hB hb0
    have g0 := blk_cell qg 0 (.int .i64 N) rfl
    have g1 := blk_cell qg 1 (.slice a n c) rfl
    have s0 := blk_cell qs 0 (.int .i64 A) rfl
    have s1 := blk_cell qs 1 (.int .i64 B) rfl
    have s2 := blk_cell qs 2 (.int .i64 C) rfl
    have s3 := blk_cell qs 3 (.int .i64 D) rfl
    have C1 := CH.out C D w0 HB0
    rw [e1] at C1
    go_wp2_with fail
    refine C1.mono ?_
    rintro e w1 ⟨rfl, hb1⟩
    clear C1 g0 g1 s0 s1 s2 s3
    have qg := blk_below qg hb1
    have qs := blk_below qs hb1
    have HB1 := below_tr' HB0 hb1
    have g0 := blk_cell qg 0 (.int .i64 N) rfl
    have g1 := blk_cell qg 1 (.slice a n c) rfl
    have s0 := blk_cell qs 0 (.int .i64 A) rfl
    have s1 := blk_cell qs 1 (.int .i64 B) rfl
    have s2 := blk_cell qs 2 (.int .i64 C) rfl
    have s3 := blk_cell qs 3 (.int .i64 D) rfl
    have C2 := CH.out A C w1 HB1
    rw [e2] at C2
    go_wp2_with fail
    refine C2.mono ?_
    rintro e w2 ⟨rfl, hb2⟩
    clear C2 g0 g1 s0 s1 s2 s3
    have qg := blk_below qg hb2
    have qs := blk_below qs hb2
    have HB2 := below_tr' HB1 hb2
    have g0 := blk_cell qg 0 (.int .i64 N) rfl
    have g1 := blk_cell qg 1 (.slice a n c) rfl
    have s0 := blk_cell qs 0 (.int .i64 A) rfl
    have s1 := blk_cell qs 1 (.int .i64 B) rfl
    have s2 := blk_cell qs 2 (.int .i64 C) rfl
    have s3 := blk_cell qs 3 (.int .i64 D) rfl
    go_wp2
    go_ret
    exact ⟨_, rfl, fun h => by first | (cases h; done) | simp_all, HB2⟩
  cases e3 : hasB es B D
  rotate_left
  · go_enter Try.func189, Try.ntmps189
    have g0 := blk_cell qg 0 (.int .i64 N) rfl
    have g1 := blk_cell qg 1 (.slice a n c) rfl
    have s0 := blk_cell qs 0 (.int .i64 A) rfl
    have s1 := blk_cell qs 1 (.int .i64 B) rfl
    have s2 := blk_cell qs 2 (.int .i64 C) rfl
    have s3 := blk_cell qs 3 (.int .i64 D) rfl
    have C0 := CH.out A B W hB
    rw [e0] at C0
    go_wp2_with (simp only [HW.out])
    refine C0.mono ?_
    rintro e w0 ⟨rfl, hb0⟩
    clear C0 g0 g1 s0 s1 s2 s3
    have qg := blk_below qg hb0
    have qs := blk_below qs hb0
    have HB0 := below_tr' hB hb0
    have g0 := blk_cell qg 0 (.int .i64 N) rfl
    have g1 := blk_cell qg 1 (.slice a n c) rfl
    have s0 := blk_cell qs 0 (.int .i64 A) rfl
    have s1 := blk_cell qs 1 (.int .i64 B) rfl
    have s2 := blk_cell qs 2 (.int .i64 C) rfl
    have s3 := blk_cell qs 3 (.int .i64 D) rfl
    have C1 := CH.out C D w0 HB0
    rw [e1] at C1
    go_wp2_with fail
    refine C1.mono ?_
    rintro e w1 ⟨rfl, hb1⟩
    clear C1 g0 g1 s0 s1 s2 s3
    have qg := blk_below qg hb1
    have qs := blk_below qs hb1
    have HB1 := below_tr' HB0 hb1
    have g0 := blk_cell qg 0 (.int .i64 N) rfl
    have g1 := blk_cell qg 1 (.slice a n c) rfl
    have s0 := blk_cell qs 0 (.int .i64 A) rfl
    have s1 := blk_cell qs 1 (.int .i64 B) rfl
    have s2 := blk_cell qs 2 (.int .i64 C) rfl
    have s3 := blk_cell qs 3 (.int .i64 D) rfl
    have C2 := CH.out A C w1 HB1
    rw [e2] at C2
    go_wp2_with fail
    refine C2.mono ?_
    rintro e w2 ⟨rfl, hb2⟩
    clear C2 g0 g1 s0 s1 s2 s3
    have qg := blk_below qg hb2
    have qs := blk_below qs hb2
    have HB2 := below_tr' HB1 hb2
    have g0 := blk_cell qg 0 (.int .i64 N) rfl
    have g1 := blk_cell qg 1 (.slice a n c) rfl
    have s0 := blk_cell qs 0 (.int .i64 A) rfl
    have s1 := blk_cell qs 1 (.int .i64 B) rfl
    have s2 := blk_cell qs 2 (.int .i64 C) rfl
    have s3 := blk_cell qs 3 (.int .i64 D) rfl
    have C3 := CH.out B D w2 HB2
    rw [e3] at C3
    go_wp2_with fail
    refine C3.mono ?_
    rintro e w3 ⟨rfl, hb3⟩
    clear C3 g0 g1 s0 s1 s2 s3
    have qg := blk_below qg hb3
    have qs := blk_below qs hb3
    have HB3 := below_tr' HB2 hb3
    have g0 := blk_cell qg 0 (.int .i64 N) rfl
    have g1 := blk_cell qg 1 (.slice a n c) rfl
    have s0 := blk_cell qs 0 (.int .i64 A) rfl
    have s1 := blk_cell qs 1 (.int .i64 B) rfl
    have s2 := blk_cell qs 2 (.int .i64 C) rfl
    have s3 := blk_cell qs 3 (.int .i64 D) rfl
    go_wp2
    go_ret
    exact ⟨_, rfl, fun h => by first | (cases h; done) | simp_all, HB3⟩
  go_enter Try.func189, Try.ntmps189
  have g0 := blk_cell qg 0 (.int .i64 N) rfl
  have g1 := blk_cell qg 1 (.slice a n c) rfl
  have s0 := blk_cell qs 0 (.int .i64 A) rfl
  have s1 := blk_cell qs 1 (.int .i64 B) rfl
  have s2 := blk_cell qs 2 (.int .i64 C) rfl
  have s3 := blk_cell qs 3 (.int .i64 D) rfl
  have C0 := CH.out A B W hB
  rw [e0] at C0
  go_wp2_with (simp only [HW.out])
  refine C0.mono ?_
  rintro e w0 ⟨rfl, hb0⟩
  clear C0 g0 g1 s0 s1 s2 s3
  have qg := blk_below qg hb0
  have qs := blk_below qs hb0
  have HB0 := below_tr' hB hb0
  have g0 := blk_cell qg 0 (.int .i64 N) rfl
  have g1 := blk_cell qg 1 (.slice a n c) rfl
  have s0 := blk_cell qs 0 (.int .i64 A) rfl
  have s1 := blk_cell qs 1 (.int .i64 B) rfl
  have s2 := blk_cell qs 2 (.int .i64 C) rfl
  have s3 := blk_cell qs 3 (.int .i64 D) rfl
  have C1 := CH.out C D w0 HB0
  rw [e1] at C1
  go_wp2_with fail
  refine C1.mono ?_
  rintro e w1 ⟨rfl, hb1⟩
  clear C1 g0 g1 s0 s1 s2 s3
  have qg := blk_below qg hb1
  have qs := blk_below qs hb1
  have HB1 := below_tr' HB0 hb1
  have g0 := blk_cell qg 0 (.int .i64 N) rfl
  have g1 := blk_cell qg 1 (.slice a n c) rfl
  have s0 := blk_cell qs 0 (.int .i64 A) rfl
  have s1 := blk_cell qs 1 (.int .i64 B) rfl
  have s2 := blk_cell qs 2 (.int .i64 C) rfl
  have s3 := blk_cell qs 3 (.int .i64 D) rfl
  have C2 := CH.out A C w1 HB1
  rw [e2] at C2
  go_wp2_with fail
  refine C2.mono ?_
  rintro e w2 ⟨rfl, hb2⟩
  clear C2 g0 g1 s0 s1 s2 s3
  have qg := blk_below qg hb2
  have qs := blk_below qs hb2
  have HB2 := below_tr' HB1 hb2
  have g0 := blk_cell qg 0 (.int .i64 N) rfl
  have g1 := blk_cell qg 1 (.slice a n c) rfl
  have s0 := blk_cell qs 0 (.int .i64 A) rfl
  have s1 := blk_cell qs 1 (.int .i64 B) rfl
  have s2 := blk_cell qs 2 (.int .i64 C) rfl
  have s3 := blk_cell qs 3 (.int .i64 D) rfl
  have C3 := CH.out B D w2 HB2
  rw [e3] at C3
  go_wp2_with fail
  refine C3.mono ?_
  rintro e w3 ⟨rfl, hb3⟩
  clear C3 g0 g1 s0 s1 s2 s3
  have qg := blk_below qg hb3
  have qs := blk_below qs hb3
  have HB3 := below_tr' HB2 hb3
  have g0 := blk_cell qg 0 (.int .i64 N) rfl
  have g1 := blk_cell qg 1 (.slice a n c) rfl
  have s0 := blk_cell qs 0 (.int .i64 A) rfl
  have s1 := blk_cell qs 1 (.int .i64 B) rfl
  have s2 := blk_cell qs 2 (.int .i64 C) rfl
  have s3 := blk_cell qs 3 (.int .i64 D) rfl
  go_wp2
  go_ret
  exact ⟨_, rfl, fun h => by first | (cases h; done) | simp_all, HB3⟩

end Go.Proofs.Ytjghcegacgpehaa
