
/- The complement of a graph, both sides: what is left of the pairs. -/
import Derived.Test.YtjghcegacgpehaaHas
import Derived.Test.YtjghcegacgpehaaWhich
namespace Go.Proofs.Ytjghcegacgpehaa
open Go.RowKit

noncomputable def cgN (N : Int) (es : List E2) : Int := if validG N es then N else 0
noncomputable def cgL (N : Int) (es : List E2) : List E2 := if validG N es then complG N.toNat es else []
theorem cgL_len (N : Int) (es : List E2) : (cgL N es).length ≤ 1000000 := by
  unfold cgL
  split
  · rename_i h
    have h1 := validG_true.1 h
    exact Nat.le_trans (List.length_filter_le _ _) (pairsL_len (by omega))
  · simp

theorem enters_complG : Enters Try.prog 152 := enters Try.func152 (by kernel_rfl) rfl

theorem complG1_any (N : Int) (a : Option Addr) (c n : Nat) (es : List E2) (x y : Int) (b : Nat) (w : World) (q : w.heap[b]? = some (.cells #[.int .i64 N, .slice a n c] 25 (0, 0))) (hn : es.length = n) (hx : Rd w a (edges es)) (hl : n ≤ 8796093022208) :
    Calls Try.prog 152 #[.int .i64 x, .int .i64 y, .pointer (some ⟨b, 0, none⟩)] w fun e w' => e = .returned (.bool (!hasM es x y)) ∧ Below w.heap.size w w' := by
  have g0 := blk_cell q 0 (.int .i64 N) rfl
  have g1 := blk_cell q 1 (.slice a n c) rfl
  have C1 := has_any N a c n es x y w hn hx hl
  go_enter Try.func152, Try.ntmps152
  go_wp2_with fail
  refine C1.mono ?_
  rintro e w1 ⟨rfl, hb⟩
  go_wp2
  go_ret
  exact ⟨rfl, hb⟩

set_option maxHeartbeats 1000000 in
theorem implCompl_any (N : Nat) (a : Option Addr) (c n : Nat) (es : List E2) (w : World) (hN : N ≤ 1000) (hn : es.length = n) (hx : Rd w a (edges es)) (hl : n ≤ 8796093022208) :
    Calls Try.prog 78 #[graphV N a n c] w fun e w' => ∃ a' c', e = .returned (graphV N a' ((pairsL N).filter fun e => !hasM es e.1 e.2).length ((pairsL N).filter fun e => !hasM es e.1 e.2).length) ∧
      w'.ownsRow w.heap.size 48 2 (.slice a' ((pairsL N).filter fun e => !hasM es e.1 e.2).length c') ((pairsL N).filter fun e => !hasM es e.1 e.2).length (edges ((pairsL N).filter fun e => !hasM es e.1 e.2)) ∧ Below w.heap.size w w' := by
  have hB := below_alloc2 w (.cells #[.int .i64 N, .slice a n c] 25) (.cells #[.int .i64 0, .slice none 0 0] 25)
  have q0 := heap_alloc_new w (.cells #[.int .i64 N, .slice a n c] 25)
  have q0 := blk_below q0 (below_alloc _ (.cells #[.int .i64 0, .slice none 0 0] 25))
  have q1 := heap_alloc_new (w.alloc (.cells #[.int .i64 N, .slice a n c] 25)) (.cells #[.int .i64 0, .slice none 0 0] 25)
  have hs : (w.alloc (.cells #[.int .i64 N, .slice a n c] 25)).heap.size = w.heap.size + 1 := by simp
  rw [hs] at q1
  generalize hW : (w.alloc (.cells #[.int .i64 N, .slice a n c] 25)).alloc (.cells #[.int .i64 0, .slice none 0 0] 25) = W at *
  have HW := Lib.hid hW
  clear hW hs
  have hx1 := hx.below hB
  have hA : AnswersE W 152 #[.pointer (some ⟨w.heap.size, 0, none⟩)] (pairsL N) (fun e => !hasM es e.1 e.2) :=
    ⟨enters_complG, fun w' e hb _ => complG1_any N a c n es e.1 e.2 w.heap.size w' (blk_below q0 hb) hn (hx1.below hb) hl⟩
  have C1 := which_any N _ _ _ W hN hA
  generalize (pairsL N).filter (fun e => !hasM es e.1 e.2) = R at *
  have g0 := blk_cell q0 0 (.int .i64 N) rfl
  have Q1 := Lib.hid q1
  clear hA q1
  go_enter Try.func78, Try.ntmps78
  go_wp2_with (simp only [HW.out])
  refine C1.mono ?_
  rintro e w1 ⟨a', c', rfl, ho, hb⟩
  have ho := own_mono ho hB.size
  have hb1 := below_tr' hB hb
  have r0 := blk_below Q1.out hb
  have z0 := blk_cell r0 0 (.int .i64 0) rfl
  have z1 := blk_cell r0 1 (.slice none 0 0) rfl
  have f0 := blk_free r0 0
  have f1 := blk_free r0 1
  have sO := own_setOther (own_setOther ho (w.heap.size + 1) 0 (.int .i64 (N : Int)) (own_ne ho r0 (by decide))) (w.heap.size + 1) 1 (.slice a' R.length R.length) (own_ne ho r0 (by decide))
  have sB := (hb1.setCell (p := ⟨w.heap.size + 1, 0, none⟩) (by simp) (.int .i64 (N : Int))).setCell (p := ⟨w.heap.size + 1, 1, none⟩) (by simp) (.slice a' R.length R.length)
  have SO := Lib.hid sO
  have SB := Lib.hid sB
  clear sO sB C1 r0 ho hb hb1
  go_wp2
  refine bodyPost_ret (v := graphV N a' R.length R.length) (by simp [results, Try.results78, go_sem, z0, z1]) rfl ⟨a', c', rfl, SO.out, SB.out⟩

theorem complM {N : Int} {es : List E2} (h : validG N es = true) : ((pairsL N.toNat).filter fun e => !hasM es e.1 e.2) = complG N.toNat es := by
  unfold complG
  refine List.filter_congr fun e _ => ?_
  rw [hasB_hasM (valid_lt h)]

-- the walks (printed by gen_complg.py)

set_option maxHeartbeats 1000000 in
theorem implCG_any (N : Int) (a : Option Addr) (c n : Nat) (es : List E2) (w : World) (hN : N ≤ 9223372036854775807) (hn : es.length = n) (hx : Rd w a (edges es)) (hl : n ≤ 8796093022208) :
    Calls Try.prog 18 #[graphV N a n c] w fun e w' => ∃ a' c' d', e = .returned (graphV (cgN N es) a' (cgL N es).length d') ∧
      w'.ownsRow w.heap.size 48 2 (.slice a' (cgL N es).length c') (cgL N es).length (edges (cgL N es)) ∧ Below w.heap.size w w' := by
  have hB := below_alloc2 w (.cells #[.int .i64 N, .slice a n c] 25) (.cells #[.int .i64 0, .slice none 0 0] 25)
  have q0 := heap_alloc_new w (.cells #[.int .i64 N, .slice a n c] 25)
  have q0 := blk_below q0 (below_alloc _ (.cells #[.int .i64 0, .slice none 0 0] 25))
  have q1 := heap_alloc_new (w.alloc (.cells #[.int .i64 N, .slice a n c] 25)) (.cells #[.int .i64 0, .slice none 0 0] 25)
  have hs : (w.alloc (.cells #[.int .i64 N, .slice a n c] 25)).heap.size = w.heap.size + 1 := by simp
  rw [hs] at q1
  generalize hW : (w.alloc (.cells #[.int .i64 N, .slice a n c] 25)).alloc (.cells #[.int .i64 0, .slice none 0 0] 25) = W at *
  have HW := Lib.hid hW
  clear hW hs
  have hx1 := hx.below hB
  have g0 := blk_cell q0 0 (.int .i64 N) rfl
  have g1 := blk_cell q0 1 (.slice a n c) rfl
  have Q0 := Lib.hid q0
  have Q1 := Lib.hid q1
  have C1 := implValidGraph_any N a c n es W hN hn hx1 hl
  clear q0 q1
  cases hv : validG N es
  · rw [hv] at C1
    have hR : cgL N es = [] := by simp [cgL, hv]
    have hRN : cgN N es = 0 := by simp [cgN, hv]
    have HR := Lib.hid hR
    have HRN := Lib.hid hRN
    clear hR hRN
    go_enter Try.func18, Try.ntmps18
    go_wp2_with (simp only [HW.out])
    refine C1.mono ?_
    rintro e w1 ⟨rfl, hb⟩
    have hb1 := below_tr' hB hb
    have r0 := blk_below Q1.out hb
    have z0 := blk_cell r0 0 (.int .i64 0) rfl
    have z1 := blk_cell r0 1 (.slice none 0 0) rfl
    have f0 := blk_free r0 0
    have f1 := blk_free r0 1
    have sB := (hb1.setCell (p := ⟨w.heap.size + 1, 0, none⟩) (by simp) (.int .i64 0)).setCell (p := ⟨w.heap.size + 1, 1, none⟩) (by simp) (.slice none 0 0)
    have SB := Lib.hid sB
    clear sB C1 r0 hb hb1 g0 g1
    go_wp2
    refine bodyPost_ret (v := graphV 0 none 0 0) (by simp [results, Try.results18, go_sem, z0, z1]) rfl ⟨none, 0, 0, by rw [HR.out, HRN.out]; rfl, by rw [HR.out]; exact World.ownsRow_nil _ _ _ _, SB.out⟩
  · have hr := (validG_true.1 hv).2
    have hNN : ((N.toNat : Nat) : Int) = N := Int.toNat_of_nonneg hr.1
    rw [hv] at C1
    have hRN : cgN N es = N := by simp [cgN, hv]
    have HRN := Lib.hid hRN
    clear hRN
    go_enter Try.func18, Try.ntmps18
    go_wp2_with (simp only [HW.out])
    refine C1.mono ?_
    rintro e w1 ⟨rfl, hb⟩
    have hb1 := below_tr' hB hb
    have r0 := blk_below Q1.out hb
    have r1 := blk_below Q0.out hb
    clear g0 g1 C1
    have g0 := blk_cell r1 0 (.int .i64 N) rfl
    have g1 := blk_cell r1 1 (.slice a n c) rfl
    have C2 := implCompl_any N.toNat a c n es w1 (by omega) hn (hx1.below hb) hl
    have hR : ((pairsL N.toNat).filter fun e => !hasM es e.1 e.2) = cgL N es := by rw [complM hv]; simp [cgL, hv]
    rw [hR] at C2
    rw [hNN] at C2
    generalize hRR : cgL N es = R at *
    have HRR := Lib.hid hRR
    clear hR r1 hRR
    go_wp2_with fail
    refine C2.mono ?_
    rintro e w2 ⟨a', c', rfl, ho, hb2⟩
    have ho := own_mono ho hb1.size
    have hb3 := below_tr' hb1 hb2
    have r0 := blk_below r0 hb2
    have z0 := blk_cell r0 0 (.int .i64 0) rfl
    have z1 := blk_cell r0 1 (.slice none 0 0) rfl
    have f0 := blk_free r0 0
    have f1 := blk_free r0 1
    have sO := own_setOther (own_setOther ho (w.heap.size + 1) 0 (.int .i64 N) (own_ne ho r0 (by decide))) (w.heap.size + 1) 1 (.slice a' R.length R.length) (own_ne ho r0 (by decide))
    have sB := (hb3.setCell (p := ⟨w.heap.size + 1, 0, none⟩) (by simp) (.int .i64 N)).setCell (p := ⟨w.heap.size + 1, 1, none⟩) (by simp) (.slice a' R.length R.length)
    have SO := Lib.hid sO
    have SB := Lib.hid sB
    clear sO sB C2 r0 ho hb hb1 hb2 hb3 g0 g1
    go_wp2
    refine bodyPost_ret (v := graphV N a' R.length R.length) (by simp [results, Try.results18, go_sem, z0, z1]) rfl ⟨a', c', R.length, by rw [HRN.out, HRR.out], by rw [HRR.out]; exact SO.out, SB.out⟩

end Go.Proofs.Ytjghcegacgpehaa
