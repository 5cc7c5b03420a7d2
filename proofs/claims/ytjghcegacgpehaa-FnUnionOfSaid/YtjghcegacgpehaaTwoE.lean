
/- Two drawn graphs: DrawDifferenceOf and DrawUnionOf. (Printed by gen_twod.py.) -/
import Derived.Test.YtjghcegacgpehaaTwoD
namespace Go.Proofs.Ytjghcegacgpehaa
open Go.RowKit

set_option maxHeartbeats 4000000 in
theorem DrawDifferenceOf_any (a0 : Option Addr) (c0 n0 : Nat) (bs : List Int) (w : World) (hc : CodeOK w a0 c0 n0 bs) (hl : n0 ≤ 1048576) :
    Calls Try.prog 14 #[.slice a0 n0 c0] w fun e w' => ∃ (N1 : Int) (es1 : List E2) (a1 : Option Addr) (c1 : Nat) (N2 : Int) (es2 : List E2) (a2 : Option Addr) (c2 : Nat), e = .returned (.tuple #[graphV N1 a1 es1.length c1, graphV N2 a2 es2.length c2]) ∧
      (-1 ≤ N1 ∧ N1 ≤ 8) ∧ (-1 ≤ N2 ∧ N2 ≤ 8) ∧ es1.length ≤ 50 ∧ es2.length ≤ 60 ∧ w'.ownsRow w.heap.size 48 2 (.slice a1 es1.length c1) es1.length (edges es1) ∧ w'.ownsRow w.heap.size 48 2 (.slice a2 es2.length c2) es2.length (edges es2) ∧ Below w.heap.size w w' := by
  have hB := below_alloc2 w (.cells #[.int .i64 0, .slice none 0 0] 25) (.cells #[.int .i64 0, .slice none 0 0] 25)
  have rP := blk_below (heap_alloc_new w (.cells #[.int .i64 0, .slice none 0 0] 25)) (below_alloc _ (.cells #[.int .i64 0, .slice none 0 0] 25))
  have rQ := heap_alloc_new (w.alloc (.cells #[.int .i64 0, .slice none 0 0] 25)) (.cells #[.int .i64 0, .slice none 0 0] 25)
  rw [show (w.alloc (.cells #[.int .i64 0, .slice none 0 0] 25)).heap.size = w.heap.size + 1 from by simp] at rQ
  have hs1 : ((w.alloc (.cells #[.int .i64 0, .slice none 0 0] 25)).alloc (.cells #[.int .i64 0, .slice none 0 0] 25)).heap.size = w.heap.size + 2 := by simp
  generalize hW : ((w.alloc (.cells #[.int .i64 0, .slice none 0 0] 25)).alloc (.cells #[.int .i64 0, .slice none 0 0] 25)) = W at *
  have HW := Lib.hid hW
  clear hW
  have hc := hc.below hB
  have C1 := newReader_any a0 c0 n0 bs W hc.1 hl hc.2.1 hc.2.2.1 hc.2.2.2.1 hc.2.2.2.2
  go_enter Try.func14, Try.ntmps14
  go_wp2_with (simp only [HW.out])
  refine C1.mono ?_
  rintro e w1 ⟨rfl, hr, hb1⟩
  have rP := blk_below rP hb1
  have rQ := blk_below rQ hb1
  have hB := below_tr' hB hb1
  have hRl := hr.lt
  rw [hs1] at hr hRl
  rw [hs1]
  have C2 := someGraph_any (w.heap.size + 2) 0 w1 hr (by omega)
  clear C1 hc hs1 hb1 hr
  go_wp2_with fail
  refine C2.mono ?_
  rintro e w2 ⟨N, es, a, c, p0, rfl, hN, hes, ho, hr, hp0, hg⟩
  have rP := blk_grown rP hg (by simp)
  have rQ := blk_grown rQ hg (by simp)
  have hBz := hB.size
  have hs2 := hg.size
  have hB := hB.grown hg hB.size (fun k hk => by simp only [Option.some.injEq] at hk; omega)
  clear C2 hg
  obtain ⟨n, hn⟩ : ∃ n, es.length = n := ⟨_, rfl⟩
  rw [hn] at ho hes
  have CN : (graphV N a es.length c) = graphV N a n c := by rw [hn]
  rw [CN]
  have C3 := twoGraphs_any (w.heap.size + 2) p0 w1.heap.size N a c n es w2 hr (by omega) hRl hs2 hn (by omega) ho hN
  have HN := Lib.hid hn
  clear hn CN ho hr
  go_wp2_with fail
  refine C3.mono ?_
  rintro e w3 ⟨N2, es2, a2, n2, c2, rfl, hN2, hn2, ho, o2, hg⟩
  have rP := blk_grown rP hg (by simp)
  have rQ := blk_grown rQ hg (by simp)
  have hB := hB.grown hg hB.size (fun k hk => by simp only [Option.some.injEq] at hk; omega)
  have ho := own_mono ho hBz
  have o2 := own_mono o2 hBz
  have HN2 := Lib.hid (own_edgeLen o2)
  clear C3 hg
  have z0 := blk_cell rP 0 (.int .i64 0) rfl
  have z1 := blk_cell rP 1 (.slice none 0 0) rfl
  have f0 := blk_free rP 0
  have f1 := blk_free rP 1
  have ho := own_setOther (own_setOther ho w.heap.size 0 (.int .i64 N) (own_ne ho rP (by decide))) w.heap.size 1 (.slice a n c) (own_ne ho rP (by decide))
  have o2 := own_setOther (own_setOther o2 w.heap.size 0 (.int .i64 N) (own_ne o2 rP (by decide))) w.heap.size 1 (.slice a n c) (own_ne o2 rP (by decide))
  have rQ := blk_set_other (blk_set_other rQ 0 (.int .i64 N) (g := w.heap.size) (by omega)) 1 (.slice a n c) (g := w.heap.size) (by omega)
  have rP := blk_set (blk_set rP 0 (.int .i64 N)) 1 (.slice a n c)
  have hB := (hB.setCell (p := ⟨w.heap.size, 0, none⟩) (by simp) (.int .i64 N)).setCell (p := ⟨w.heap.size, 1, none⟩) (by simp) (.slice a n c)
  generalize hV : (w3.setCell ⟨w.heap.size, 0, none⟩ (.int .i64 N)).setCell ⟨w.heap.size, 1, none⟩ (.slice a n c) = w4 at *
  have HV := Lib.hid hV
  clear hV
  have y0 := blk_cell rQ 0 (.int .i64 0) rfl
  have y1 := blk_cell rQ 1 (.slice none 0 0) rfl
  have e0 := blk_free rQ 0
  have e1 := blk_free rQ 1
  have ho := own_setOther (own_setOther ho (w.heap.size + 1) 0 (.int .i64 N2) (own_ne ho rQ (by decide))) (w.heap.size + 1) 1 (.slice a2 n2 c2) (own_ne ho rQ (by decide))
  have o2 := own_setOther (own_setOther o2 (w.heap.size + 1) 0 (.int .i64 N2) (own_ne o2 rQ (by decide))) (w.heap.size + 1) 1 (.slice a2 n2 c2) (own_ne o2 rQ (by decide))
  have rP := blk_set_other (blk_set_other rP 0 (.int .i64 N2) (g := w.heap.size + 1) (by omega)) 1 (.slice a2 n2 c2) (g := w.heap.size + 1) (by omega)
  have rQ := blk_set (blk_set rQ 0 (.int .i64 N2)) 1 (.slice a2 n2 c2)
  have hB := (hB.setCell (p := ⟨w.heap.size + 1, 0, none⟩) (by simp) (.int .i64 N2)).setCell (p := ⟨w.heap.size + 1, 1, none⟩) (by simp) (.slice a2 n2 c2)
  generalize hV : (w4.setCell ⟨w.heap.size + 1, 0, none⟩ (.int .i64 N2)).setCell ⟨w.heap.size + 1, 1, none⟩ (.slice a2 n2 c2) = w5 at *
  have HV5 := Lib.hid hV
  clear hV
  have x0 := blk_cell rP 0 (.int .i64 N) rfl
  have x1 := blk_cell rP 1 (.slice a n c) rfl
  have x2 := blk_cell rQ 0 (.int .i64 N2) rfl
  have x3 := blk_cell rQ 1 (.slice a2 n2 c2) rfl
  have O1 := Lib.hid ho
  have O2 := Lib.hid o2
  have HBB := Lib.hid hB
  clear ho o2 hB rP rQ
  go_wp2_with (first | simp only [HV.out] | simp only [HV5.out])
  try simp only [HV.out]
  try simp only [HV5.out]
  refine bodyPost_ret (v := .tuple #[graphV N a n c, graphV N2 a2 n2 c2]) (by simp [results, Try.results14, go_sem, x0, x1, x2, x3]) rfl ⟨N, es, a, c, N2, es2, a2, c2, by rw [HN.out, HN2.out], hN, hN2, by rw [HN.out]; exact hes, by rw [HN2.out]; exact hn2, by rw [HN.out]; exact O1.out, by rw [HN2.out]; exact O2.out, HBB.out⟩

set_option maxHeartbeats 4000000 in
theorem DrawUnionOf_any (a0 : Option Addr) (c0 n0 : Nat) (bs : List Int) (w : World) (hc : CodeOK w a0 c0 n0 bs) (hl : n0 ≤ 1048576) :
    Calls Try.prog 19 #[.slice a0 n0 c0] w fun e w' => ∃ (N1 : Int) (es1 : List E2) (a1 : Option Addr) (c1 : Nat) (N2 : Int) (es2 : List E2) (a2 : Option Addr) (c2 : Nat), e = .returned (.tuple #[graphV N1 a1 es1.length c1, graphV N2 a2 es2.length c2]) ∧
      (-1 ≤ N1 ∧ N1 ≤ 8) ∧ (-1 ≤ N2 ∧ N2 ≤ 8) ∧ es1.length ≤ 50 ∧ es2.length ≤ 60 ∧ w'.ownsRow w.heap.size 48 2 (.slice a1 es1.length c1) es1.length (edges es1) ∧ w'.ownsRow w.heap.size 48 2 (.slice a2 es2.length c2) es2.length (edges es2) ∧ Below w.heap.size w w' := by
  have hB := below_alloc2 w (.cells #[.int .i64 0, .slice none 0 0] 25) (.cells #[.int .i64 0, .slice none 0 0] 25)
  have rP := blk_below (heap_alloc_new w (.cells #[.int .i64 0, .slice none 0 0] 25)) (below_alloc _ (.cells #[.int .i64 0, .slice none 0 0] 25))
  have rQ := heap_alloc_new (w.alloc (.cells #[.int .i64 0, .slice none 0 0] 25)) (.cells #[.int .i64 0, .slice none 0 0] 25)
  rw [show (w.alloc (.cells #[.int .i64 0, .slice none 0 0] 25)).heap.size = w.heap.size + 1 from by simp] at rQ
  have hs1 : ((w.alloc (.cells #[.int .i64 0, .slice none 0 0] 25)).alloc (.cells #[.int .i64 0, .slice none 0 0] 25)).heap.size = w.heap.size + 2 := by simp
  generalize hW : ((w.alloc (.cells #[.int .i64 0, .slice none 0 0] 25)).alloc (.cells #[.int .i64 0, .slice none 0 0] 25)) = W at *
  have HW := Lib.hid hW
  clear hW
  have hc := hc.below hB
  have C1 := newReader_any a0 c0 n0 bs W hc.1 hl hc.2.1 hc.2.2.1 hc.2.2.2.1 hc.2.2.2.2
  go_enter Try.func19, Try.ntmps19
  go_wp2_with (simp only [HW.out])
  refine C1.mono ?_
  rintro e w1 ⟨rfl, hr, hb1⟩
  have rP := blk_below rP hb1
  have rQ := blk_below rQ hb1
  have hB := below_tr' hB hb1
  have hRl := hr.lt
  rw [hs1] at hr hRl
  rw [hs1]
  have C2 := someGraph_any (w.heap.size + 2) 0 w1 hr (by omega)
  clear C1 hc hs1 hb1 hr
  go_wp2_with fail
  refine C2.mono ?_
  rintro e w2 ⟨N, es, a, c, p0, rfl, hN, hes, ho, hr, hp0, hg⟩
  have rP := blk_grown rP hg (by simp)
  have rQ := blk_grown rQ hg (by simp)
  have hBz := hB.size
  have hs2 := hg.size
  have hB := hB.grown hg hB.size (fun k hk => by simp only [Option.some.injEq] at hk; omega)
  clear C2 hg
  obtain ⟨n, hn⟩ : ∃ n, es.length = n := ⟨_, rfl⟩
  rw [hn] at ho hes
  have CN : (graphV N a es.length c) = graphV N a n c := by rw [hn]
  rw [CN]
  have C3 := twoGraphs_any (w.heap.size + 2) p0 w1.heap.size N a c n es w2 hr (by omega) hRl hs2 hn (by omega) ho hN
  have HN := Lib.hid hn
  clear hn CN ho hr
  go_wp2_with fail
  refine C3.mono ?_
  rintro e w3 ⟨N2, es2, a2, n2, c2, rfl, hN2, hn2, ho, o2, hg⟩
  have rP := blk_grown rP hg (by simp)
  have rQ := blk_grown rQ hg (by simp)
  have hB := hB.grown hg hB.size (fun k hk => by simp only [Option.some.injEq] at hk; omega)
  have ho := own_mono ho hBz
  have o2 := own_mono o2 hBz
  have HN2 := Lib.hid (own_edgeLen o2)
  clear C3 hg
  have z0 := blk_cell rP 0 (.int .i64 0) rfl
  have z1 := blk_cell rP 1 (.slice none 0 0) rfl
  have f0 := blk_free rP 0
  have f1 := blk_free rP 1
  have ho := own_setOther (own_setOther ho w.heap.size 0 (.int .i64 N) (own_ne ho rP (by decide))) w.heap.size 1 (.slice a n c) (own_ne ho rP (by decide))
  have o2 := own_setOther (own_setOther o2 w.heap.size 0 (.int .i64 N) (own_ne o2 rP (by decide))) w.heap.size 1 (.slice a n c) (own_ne o2 rP (by decide))
  have rQ := blk_set_other (blk_set_other rQ 0 (.int .i64 N) (g := w.heap.size) (by omega)) 1 (.slice a n c) (g := w.heap.size) (by omega)
  have rP := blk_set (blk_set rP 0 (.int .i64 N)) 1 (.slice a n c)
  have hB := (hB.setCell (p := ⟨w.heap.size, 0, none⟩) (by simp) (.int .i64 N)).setCell (p := ⟨w.heap.size, 1, none⟩) (by simp) (.slice a n c)
  generalize hV : (w3.setCell ⟨w.heap.size, 0, none⟩ (.int .i64 N)).setCell ⟨w.heap.size, 1, none⟩ (.slice a n c) = w4 at *
  have HV := Lib.hid hV
  clear hV
  have y0 := blk_cell rQ 0 (.int .i64 0) rfl
  have y1 := blk_cell rQ 1 (.slice none 0 0) rfl
  have e0 := blk_free rQ 0
  have e1 := blk_free rQ 1
  have ho := own_setOther (own_setOther ho (w.heap.size + 1) 0 (.int .i64 N2) (own_ne ho rQ (by decide))) (w.heap.size + 1) 1 (.slice a2 n2 c2) (own_ne ho rQ (by decide))
  have o2 := own_setOther (own_setOther o2 (w.heap.size + 1) 0 (.int .i64 N2) (own_ne o2 rQ (by decide))) (w.heap.size + 1) 1 (.slice a2 n2 c2) (own_ne o2 rQ (by decide))
  have rP := blk_set_other (blk_set_other rP 0 (.int .i64 N2) (g := w.heap.size + 1) (by omega)) 1 (.slice a2 n2 c2) (g := w.heap.size + 1) (by omega)
  have rQ := blk_set (blk_set rQ 0 (.int .i64 N2)) 1 (.slice a2 n2 c2)
  have hB := (hB.setCell (p := ⟨w.heap.size + 1, 0, none⟩) (by simp) (.int .i64 N2)).setCell (p := ⟨w.heap.size + 1, 1, none⟩) (by simp) (.slice a2 n2 c2)
  generalize hV : (w4.setCell ⟨w.heap.size + 1, 0, none⟩ (.int .i64 N2)).setCell ⟨w.heap.size + 1, 1, none⟩ (.slice a2 n2 c2) = w5 at *
  have HV5 := Lib.hid hV
  clear hV
  have x0 := blk_cell rP 0 (.int .i64 N) rfl
  have x1 := blk_cell rP 1 (.slice a n c) rfl
  have x2 := blk_cell rQ 0 (.int .i64 N2) rfl
  have x3 := blk_cell rQ 1 (.slice a2 n2 c2) rfl
  have O1 := Lib.hid ho
  have O2 := Lib.hid o2
  have HBB := Lib.hid hB
  clear ho o2 hB rP rQ
  go_wp2_with (first | simp only [HV.out] | simp only [HV5.out])
  try simp only [HV.out]
  try simp only [HV5.out]
  refine bodyPost_ret (v := .tuple #[graphV N a n c, graphV N2 a2 n2 c2]) (by simp [results, Try.results19, go_sem, x0, x1, x2, x3]) rfl ⟨N, es, a, c, N2, es2, a2, c2, by rw [HN.out, HN2.out], hN, hN2, by rw [HN.out]; exact hes, by rw [HN2.out]; exact hn2, by rw [HN.out]; exact O1.out, by rw [HN2.out]; exact O2.out, HBB.out⟩

end Go.Proofs.Ytjghcegacgpehaa
