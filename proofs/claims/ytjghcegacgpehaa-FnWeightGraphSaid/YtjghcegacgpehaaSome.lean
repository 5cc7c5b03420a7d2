
/- Drawn graphs: the reference's goodGraph and someGraph. (Printed by gen_some.py.) -/
import Derived.Test.YtjghcegacgpehaaAGraph
namespace Go.Proofs.Ytjghcegacgpehaa
open Go.RowKit

theorem rd_blk {w : World} {b : Nat} {arr : Array Value} {T : TypeId} {f : Nat × Nat} {cs : List Value} (h : w.heap[b]? = some (.cells arr T f)) (hc : arr.toList = cs) : Rd w (some ⟨b, 0, none⟩) cs := by
  intro j u hu
  refine ⟨b, 0, rfl, ?_⟩
  rw [Nat.zero_add]
  refine blk_cell h j u ?_
  rw [← hc] at hu
  simpa using hu
theorem edges_setA (es : List E2) (k : Nat) (hk : k < es.length) (x : Int) : (edges es).set (k * 2) (.int .i64 x) = edges (es.set k (x, (es[k]'hk).2)) := by
  induction es generalizing k with
  | nil => simp at hk
  | cons y l ih =>
    cases k with
    | zero => rfl
    | succ k =>
      rw [edges_cons, show (k + 1) * 2 = k * 2 + 1 + 1 by omega, List.set_cons_succ, List.set_cons_succ, ih k (by simpa using hk)]
      rw [List.set_cons_succ, edges_cons]
      rfl
/-- The first number of an edge is stored into an owned row. -/
theorem own_edgeA {w : World} {B T n c g : Nat} {es : List E2} (ho : w.ownsRow B T 2 (.slice (some ⟨g, 0, none⟩) n c) n (edges es)) (k : Nat) (hk : k < es.length) (x : Int) :
    (w.setCell ⟨g, k * 2, none⟩ (.int .i64 x)).ownsRow B T 2 (.slice (some ⟨g, 0, none⟩) n c) n (edges (es.set k (x, (es[k]'hk).2))) := by
  rw [← edges_setA es k hk]
  exact (ho.stored (k * 2) _).1

set_option maxHeartbeats 2000000 in
theorem goodGraph_any (R p : Nat) (w : World) (h : RdrAt w R p) (hp : p ≤ 1000000) :
    Calls Try.prog 149 #[.pointer (some ⟨R, 0, none⟩)] w fun e w' => ∃ (N : Nat) (es : List E2) (a : Option Addr) (c p' : Nat), e = .returned (graphV N a es.length c) ∧ N ≤ 7 ∧ es.Sublist (pairsL N) ∧
      w'.ownsRow w.heap.size 48 2 (.slice a es.length c) es.length (edges es) ∧ RdrAt w' R p' ∧ p' ≤ p + 60 ∧ w.grownBy w' (some R) := by
  have hB := below_alloc2 w (.cells #[.int .i64 0, .slice none 0 0] 25) (.cells #[.int .i64 5, .int .i64 4, .int .i64 6, .int .i64 3, .int .i64 5, .int .i64 2, .int .i64 7, .int .i64 1, .int .i64 0] 3)
  have q1 := blk_below (heap_alloc_new w (.cells #[.int .i64 0, .slice none 0 0] 25)) (below_alloc _ (.cells #[.int .i64 5, .int .i64 4, .int .i64 6, .int .i64 3, .int .i64 5, .int .i64 2, .int .i64 7, .int .i64 1, .int .i64 0] 3))
  have h0 := heap_alloc_new (w.alloc (.cells #[.int .i64 0, .slice none 0 0] 25)) (.cells #[.int .i64 5, .int .i64 4, .int .i64 6, .int .i64 3, .int .i64 5, .int .i64 2, .int .i64 7, .int .i64 1, .int .i64 0] 3)
  rw [show (w.alloc (.cells #[.int .i64 0, .slice none 0 0] 25)).heap.size = w.heap.size + 1 from by simp] at h0
  generalize hW : (w.alloc (.cells #[.int .i64 0, .slice none 0 0] 25)).alloc (.cells #[.int .i64 5, .int .i64 4, .int .i64 6, .int .i64 3, .int .i64 5, .int .i64 2, .int .i64 7, .int .i64 1, .int .i64 0] 3) = W at *
  have HW := Lib.hid hW
  clear hW
  have hr0 := h.below hB
  have hRw := h.lt
  have HG0 := below_grownby hB (some R)
  clear h
  have hx : Rd W (some ⟨w.heap.size + 1, 0, none⟩) (ints [5, 4, 6, 3, 5, 2, 7, 1, 0]) := rd_blk h0 rfl
  have C1 := one_any R p (some ⟨w.heap.size + 1, 0, none⟩) 9 9 [5, 4, 6, 3, 5, 2, 7, 1, 0] W hr0 (by omega) rfl (by omega) (by omega) hx (by intro x h; cases h; simp; omega)
  clear h0 hx
  go_enter Try.func149, Try.ntmps149
  go_wp2_with (simp only [HW.out])
  refine C1.mono ?_
  rintro e w1 ⟨v, hv, rfl, hr1, hg1⟩
  have hv7 : 0 ≤ v ∧ v ≤ 7 := by
    simp only [List.mem_cons, List.not_mem_nil, or_false] at hv
    omega
  obtain ⟨N, rfl⟩ : ∃ N : Nat, v = N := ⟨v.toNat, by omega⟩
  clear hv
  have hN : N ≤ 7 := by omega
  have q1 := blk_grown q1 hg1 (by simp; omega)
  have HG1 := grown_trans HG0 hg1
  have hpl : (pairsL N).length ≤ 49 := by
    have h1 := pairsUpto_length N N
    have h2 : N * N ≤ 7 * 7 := Nat.mul_le_mul (by omega) (by omega)
    unfold pairsL; omega
  have C2 := aGraph_any R (p + 1) N w1 hr1 (by omega) (by omega)
  clear C1 hg1 HG0 hr0
  go_wp2_with fail
  refine C2.mono ?_
  rintro e w2 ⟨es, a, c, p', rfl, hes, ho, hr2, hp2, hg2⟩
  have q2 := blk_grown q1 hg2 (by simp; omega)
  have ho := own_mono ho HG1.size
  have HG2 := grown_trans HG1 hg2
  have HS := Lib.hid hes
  generalize hL : es.length = L at *
  have HL := Lib.hid hL
  clear hL hes C2 hg2 q1 hr1 HG1
  have z0 := blk_cell q2 0 (.int .i64 0) rfl
  have z1 := blk_cell q2 1 (.slice none 0 0) rfl
  have f0 := blk_free q2 0
  have f1 := blk_free q2 1
  have SO := Lib.hid (own_setOther (own_setOther ho (w.heap.size) 0 (.int .i64 N) (own_ne ho q2 (by decide))) (w.heap.size) 1 (.slice a L c) (own_ne ho q2 (by decide)))
  have SB := Lib.hid (grown_setNew (grown_setNew HG2 (w.heap.size) 0 (.int .i64 N) (Nat.le_refl _)) (w.heap.size) 1 (.slice a L c) (Nat.le_refl _))
  have SR := Lib.hid ((hr2.setOther (w.heap.size) 0 (.int .i64 N) hRw).setOther (w.heap.size) 1 (.slice a L c) hRw)
  clear ho HG2 hr2 q2
  go_wp2
  refine bodyPost_ret (v := graphV N a L c) (by simp [results, Try.results149, go_sem, z0, z1]) rfl ⟨N, es, a, c, p', by rw [HL.out], hN, HS.out, by rw [HL.out]; exact SO.out, SR.out, by omega, SB.out⟩

set_option maxHeartbeats 4000000 in
theorem someGraph_any (R p : Nat) (w : World) (h : RdrAt w R p) (hp : p ≤ 100000) :
    Calls Try.prog 71 #[.pointer (some ⟨R, 0, none⟩)] w fun e w' => ∃ (N : Int) (es : List E2) (a : Option Addr) (c p' : Nat), e = .returned (graphV N a es.length c) ∧ (-1 ≤ N ∧ N ≤ 8) ∧ es.length ≤ 50 ∧
      w'.ownsRow w.heap.size 48 2 (.slice a es.length c) es.length (edges es) ∧ RdrAt w' R p' ∧ p' ≤ p + 70 ∧ w.grownBy w' (some R) := by
  have hB := below_alloc w (.cells #[.int .i64 0, .slice none 0 0] 25)
  have r0 := heap_alloc_new w (.cells #[.int .i64 0, .slice none 0 0] 25)
  have hWs : (w.alloc (.cells #[.int .i64 0, .slice none 0 0] 25)).heap.size = w.heap.size + 1 := by simp
  generalize hW : w.alloc (.cells #[.int .i64 0, .slice none 0 0] 25) = W at *
  have HW := Lib.hid hW
  clear hW
  have hr := h.below hB
  have hRw := h.lt
  have hg := below_grownby hB (some R)
  clear h hB
  have C1 := goodGraph_any R p W hr (by omega)
  go_enter Try.func71, Try.ntmps71
  go_wp2_with (simp only [HW.out])
  refine C1.mono ?_
  rintro e w1 ⟨N, es, a, c, p1, rfl, hN, hes, ho, hr1, hp1, hg1⟩
  have hpl : (pairsL N).length ≤ 49 := by
    have h1 := pairsUpto_length N N
    have h2 : N * N ≤ 7 * 7 := Nat.mul_le_mul (by omega) (by omega)
    unfold pairsL; omega
  have hL := hes.length_le
  have r0 := blk_grown r0 hg1 (by simp; omega)
  have ho := own_mono ho hg.size
  have hg := grown_trans hg hg1
  have hA1 := blk_lt r0
  clear C1 hg1 hr hes
  obtain ⟨n, hn⟩ : ∃ n, n = es.length := ⟨_, rfl⟩
  rw [← hn] at ho hL
  have CN : (graphV N a es.length c) = graphV N a n c := by rw [hn]
  rw [CN]
  have HN := Lib.hid hn
  clear hn CN
  have ho := own_below ho (below_alloc w1 (.cells #[.int .i64 N, .slice a n c] 25))
  have r0 := blk_below r0 (below_alloc w1 (.cells #[.int .i64 N, .slice a n c] 25))
  have rA := heap_alloc_new w1 (.cells #[.int .i64 N, .slice a n c] 25)
  have hr := hr1.below (below_alloc w1 (.cells #[.int .i64 N, .slice a n c] 25))
  have hg := grown_below hg (below_alloc w1 (.cells #[.int .i64 N, .slice a n c] 25))
  generalize hV : w1.alloc (.cells #[.int .i64 N, .slice a n c] 25) = V at *
  have HV := Lib.hid hV
  clear hV hr1
  have y0 := blk_cell rA 0 (.int .i64 N) rfl
  have y1 := blk_cell rA 1 (.slice a n c) rfl
  by_cases hz : n = 0
  · subst hz
    have y0 := blk_cell rA 0 (.int .i64 ((N : Int))) rfl
    have y1 := blk_cell rA 1 (.slice a 0 c) rfl
    have z0 := blk_cell r0 0 (.int .i64 0) rfl
    have z1 := blk_cell r0 1 (.slice none 0 0) rfl
    have f0 := blk_free r0 0
    have f1 := blk_free r0 1
    have SO := Lib.hid (own_setOther (own_setOther ho (w.heap.size) 0 (.int .i64 ((N : Int))) (own_ne ho r0 (by decide))) (w.heap.size) 1 (.slice a 0 c) (own_ne ho r0 (by decide)))
    have SB := Lib.hid (grown_setNew (grown_setNew hg (w.heap.size) 0 (.int .i64 ((N : Int))) (Nat.le_refl _)) (w.heap.size) 1 (.slice a 0 c) (Nat.le_refl _))
    have SR := Lib.hid ((hr.setOther (w.heap.size) 0 (.int .i64 ((N : Int))) hRw).setOther (w.heap.size) 1 (.slice a 0 c) hRw)
    have EL : (es).length = 0 := HN.out.symm
    have EL := Lib.hid EL
    clear ho hg hr rA r0
    go_wp2_with (simp only [HV.out])
    refine bodyPost_ret (v := graphV ((N : Int)) a (0) c) (by simp [results, Try.results71, go_sem, z0, z1]) rfl ⟨(N : Int), es, a, c, p1, by rw [EL.out], by omega, by rw [EL.out]; omega, by rw [EL.out]; exact SO.out, SR.out, by omega, SB.out⟩
  · have CP := pick_any R p1 n V hr (by omega) (by omega)
    have no := hr.ne ho (by decide)
    go_wp2_with (simp only [HV.out])
    refine CP.mono ?_
    rintro e w2 ⟨v2, rfl, hv2, hr', hg'⟩
    have ho := own_grown ho hg' no
    have rA := blk_grown rA hg' (by simp; omega)
    have r0 := blk_grown r0 hg' (by simp; omega)
    have hg := grown_trans hg hg'
    have hr := hr'
    clear hr' hg' no CP
    have y0 := blk_cell rA 0 (.int .i64 N) rfl
    have y1 := blk_cell rA 1 (.slice a n c) rfl
    have hk : v2 < n := by omega
    have CP := pick_any R (p1 + 1) 30 w2 hr (by omega) (by omega)
    have no := hr.ne ho (by decide)
    go_wp2_with fail
    refine CP.mono ?_
    rintro e w3 ⟨v3, rfl, hv3, hr', hg'⟩
    have ho := own_grown ho hg' no
    have rA := blk_grown rA hg' (by simp; omega)
    have r0 := blk_grown r0 hg' (by simp; omega)
    have hg := grown_trans hg hg'
    have hr := hr'
    clear hr' hg' no CP
    have y0 := blk_cell rA 0 (.int .i64 N) rfl
    have y1 := blk_cell rA 1 (.slice a n c) rfl
    obtain ⟨g, rfl, hgB, hgs⟩ := own_head ho (by omega)
    have hkl : v2 < es.length := by rw [← HN.out]; exact hk
    obtain ⟨b1, o1, e1, c1, c2⟩ := (own_rd ho).edge (k := v2) hkl
    cases e1
    simp only [Nat.zero_add] at c1 c2
    by_cases hz0 : v3 = 0
    · subst hz0
      have HE := Lib.hid (fun (u : World) (x : Int) (h : u.ownsRow w.heap.size 48 2 (.slice (some ⟨g, 0, none⟩) n c) n (edges es)) => own_edgeA h v2 hkl x)
      generalize hXY : (es[v2]'hkl) = XY at *
      obtain ⟨X, Y⟩ := XY
      simp only at c1 c2 HE
      have no := hr.ne ho (by decide)
      have no' : some g ≠ some R := fun e => no (by rw [← e]; rfl)
      have y1 := blk_cell rA 1 (.slice (some ⟨g, 0, none⟩) n c) rfl
      have d1 := grow_cell c2 no'
      have d2 := grow_cell y1 (row := some R) (by simp; omega)
      have bd := bel_drew (Below.refl w3.heap.size w3)
      have gd := below_grownby bd (some R)
      have CV := one_any R (p1 + 2) (some ⟨w3.drew.heap.size, 0, none⟩) 3 3 [-1, 7, Y] (w3.drew.alloc (.cells #[.int .i64 (-1), .int .i64 7, .int .i64 Y] 3)) ((hr.below bd).below (below_alloc _ _)) (by omega) rfl (by omega) (by omega) (rd_blk (heap_alloc_new w3.drew (.cells #[.int .i64 (-1), .int .i64 7, .int .i64 Y] 3)) rfl) (by intro x h; cases h; simp; omega)
      have ga := grown_below gd (below_alloc w3.drew (.cells #[.int .i64 (-1), .int .i64 7, .int .i64 Y] 3))
      go_wp2
      refine wp_region_flags [true, true, true, true, true, true, true, true, true, true, false, false, false, false, false] 14 (C := fun w' => ∃ u : Grow w3 (some R), w' = u.val) (by kernel_rfl) (by kernel_rfl) ⟨⟨_, grown_drew (World.grownBy.refl _ _)⟩, rfl⟩ ?_
      simp only [pickT, pickF]
      repeat (go_big_quiet_step (fail))
      refine wpQuiet_nil ?_
      clear d1 d2
      refine tail_step fun K hK => ?_
      go_wp2
      refine hK _ _ ⟨⟨_, ga⟩, rfl⟩ ?_
      clear hK
      refine tail_step fun K hK => ?_
      go_wp2_with fail
      refine CV.mono ?_
      rintro e w4 ⟨v4, hv4, rfl, hr4, hg4⟩
      have hg4 := grown_trans ga hg4
      go_wp2
      refine hK _ _ ⟨⟨_, hg4⟩, rfl⟩ ?_
      clear hK CV ga gd bd
      refine tail_step fun K hK => ?_
      go_wp2
      refine hK _ _ ⟨⟨_, hg4⟩, rfl⟩ ?_
      clear hK
      refine tail_step fun K hK => ?_
      go_wp2
      refine hK _ _ ⟨⟨_, hg4⟩, rfl⟩ ?_
      clear hK
      refine tail_last fun K hK => ?_
      have c1 := hg4.cell c1 no'
      have ho := own_grown ho hg4 no
      have rA := blk_grown rA hg4 (by simp; omega)
      have r0 := blk_grown r0 hg4 (by simp; omega)
      have hg := grown_trans hg hg4
      have hr := hr4
      have x1 := ho.frozenAt (v2 * 2)
      have ne0 := own_ne ho r0 (by decide)
      have neA := own_ne ho rA (by decide)
      simp only [Value.ownBlock, ne_eq, Option.some.injEq] at ne0 neA
      have ho := HE.out w4 v4 ho
      have hr := hr.setOther g (v2 * 2) (.int .i64 v4) (by omega)
      have hg := grown_setNew hg g (v2 * 2) (.int .i64 v4) hgB
      have r0 := blk_set_other r0 (v2 * 2) (.int .i64 v4) (g := g) ne0
      have rA := blk_set_other rA (v2 * 2) (.int .i64 v4) (g := g) neA
      clear hr4 hg4 no no' c2
      have y0 := blk_cell rA 0 (.int .i64 ((N : Int))) rfl
      have y1 := blk_cell rA 1 (.slice (some ⟨g, 0, none⟩) n c) rfl
      have z0 := blk_cell r0 0 (.int .i64 0) rfl
      have z1 := blk_cell r0 1 (.slice none 0 0) rfl
      have f0 := blk_free r0 0
      have f1 := blk_free r0 1
      have SO := Lib.hid (own_setOther (own_setOther ho (w.heap.size) 0 (.int .i64 ((N : Int))) (own_ne ho r0 (by decide))) (w.heap.size) 1 (.slice (some ⟨g, 0, none⟩) n c) (own_ne ho r0 (by decide)))
      have SB := Lib.hid (grown_setNew (grown_setNew hg (w.heap.size) 0 (.int .i64 ((N : Int))) (Nat.le_refl _)) (w.heap.size) 1 (.slice (some ⟨g, 0, none⟩) n c) (Nat.le_refl _))
      have SR := Lib.hid ((hr.setOther (w.heap.size) 0 (.int .i64 ((N : Int))) hRw).setOther (w.heap.size) 1 (.slice (some ⟨g, 0, none⟩) n c) hRw)
      have EL : ((es.set v2 (v4, Y))).length = n := by rw [List.length_set]; exact HN.out.symm
      have EL := Lib.hid EL
      clear ho hg hr rA r0
      go_wp2
      refine bodyPost_ret (v := graphV ((N : Int)) (some ⟨g, 0, none⟩) (n) c) (by simp [results, Try.results71, go_sem, z0, z1]) rfl ⟨(N : Int), (es.set v2 (v4, Y)), (some ⟨g, 0, none⟩), c, p1 + 3, by rw [EL.out], by omega, by rw [EL.out]; omega, by rw [EL.out]; exact SO.out, SR.out, by omega, SB.out⟩
    · by_cases hz1 : v3 = 1
      · subst hz1
        generalize hXY : (es[v2]'hkl) = XY at *
        obtain ⟨X, Y⟩ := XY
        simp only at c1 c2
        have no' : some w1.heap.size ≠ some g := own_ne ho rA (by decide)
        have y1 := blk_cell rA 1 (.slice (some ⟨g, 0, none⟩) n c) rfl
        haveI : Nonempty (GrowK w3 (some g) [(⟨g, v2 * 2, none⟩, .int .i64 X), (⟨g, v2 * 2 + 1, none⟩, .int .i64 Y)]) := ⟨⟨w3, World.grownBy.refl _ _, by simp [c1, c2]⟩⟩
        have d1 : ∀ u : GrowK w3 (some g) [(⟨g, v2 * 2, none⟩, .int .i64 X), (⟨g, v2 * 2 + 1, none⟩, .int .i64 Y)], u.val.cell? ⟨g, v2 * 2, none⟩ = some (.int .i64 X) := growk_keep (by simp)
        have d2 : ∀ u : GrowK w3 (some g) [(⟨g, v2 * 2, none⟩, .int .i64 X), (⟨g, v2 * 2 + 1, none⟩, .int .i64 Y)], u.val.cell? ⟨g, v2 * 2 + 1, none⟩ = some (.int .i64 Y) := growk_keep (by simp)
        have d3 : ∀ u : GrowK w3 (some g) [(⟨g, v2 * 2, none⟩, .int .i64 X), (⟨g, v2 * 2 + 1, none⟩, .int .i64 Y)], u.val.cell? ⟨w1.heap.size, 1, none⟩ = some (.slice (some ⟨g, 0, none⟩) n c) := growk_cell y1 no'
        have hsz := hg.size
        have bd := bel_drew (Below.refl w3.heap.size w3)
        have ba := below_tr' bd (below_alloc w3.drew (.cells #[.int .i64 X, .int .i64 Y] 48))
        have k1 := (ba.cell (p := ⟨g, v2 * 2, none⟩) hgs).trans c1
        have k2 := (ba.cell (p := ⟨g, v2 * 2 + 1, none⟩) hgs).trans c2
        have ck0 : ∀ x ∈ [((⟨g, v2 * 2, none⟩ : Addr), Value.int .i64 X), ((⟨g, v2 * 2 + 1, none⟩ : Addr), Value.int .i64 Y)], (w3.drew.alloc (.cells #[.int .i64 X, .int .i64 Y] 48)).cell? x.1 = some x.2 := by
          intro x hx
          simp only [List.mem_cons, List.not_mem_nil, or_false] at hx
          rcases hx with rfl | rfl
          · exact k1
          · exact k2
        have hj1 : (edges es)[v2 * 2]? = some (.int .i64 X) := by
          obtain ⟨b', o', e', hc⟩ := own_rd ho (v2 * 2) _ (List.getElem?_eq_getElem (by rw [edges_length]; omega))
          cases e'
          rw [Nat.zero_add, c1] at hc
          rw [List.getElem?_eq_getElem (by rw [edges_length]; omega)]
          exact hc.symm
        have hj2 : (edges es)[v2 * 2 + 1]? = some (.int .i64 Y) := by
          obtain ⟨b', o', e', hc⟩ := own_rd ho (v2 * 2 + 1) _ (List.getElem?_eq_getElem (by rw [edges_length]; omega))
          cases e'
          rw [Nat.zero_add, c2] at hc
          rw [List.getElem?_eq_getElem (by rw [edges_length]; omega)]
          exact hc.symm
        go_wp2
        refine wp_region_flags [true, true, true, true, true, true, true, false, false, false, false] 10 (C := fun w' => ∃ u : GrowK w3 (some g) [(⟨g, v2 * 2, none⟩, .int .i64 X), (⟨g, v2 * 2 + 1, none⟩, .int .i64 Y)], w' = u.val) (by kernel_rfl) (by kernel_rfl) ⟨⟨w3.drew, grown_drew (World.grownBy.refl _ _), by simp [c1, c2]⟩, rfl⟩ ?_
        simp only [pickT, pickF]
        repeat (go_big_quiet_step (fail))
        refine wpQuiet_nil ?_
        clear d1 d2 d3
        refine tail_step fun K hK => ?_
        go_wp2
        refine hK _ _ ⟨⟨_, below_grownby ba _, ck0⟩, rfl⟩ ?_
        clear hK
        refine tail_step fun K2 hK2 => ?_
        change wpList _ _ _ _ _ (w3.drew.alloc (.cells #[.int .i64 X, .int .i64 Y] 48))
        refine append1k Try.infoE _ _ rfl rfl ho.drew (grown_drew (World.grownBy.refl w3 _)) hsz rfl rfl rfl (by intro u hu; simp at hu; rcases hu with rfl | rfl <;> rfl) (by omega) ?_
        intro a' c' w4 ho4 hg4 hf4 hkk
        have ck : ∀ x ∈ [((⟨g, v2 * 2, none⟩ : Addr), Value.int .i64 X), ((⟨g, v2 * 2 + 1, none⟩ : Addr), Value.int .i64 Y)], w4.cell? x.1 = some x.2 := by
          intro x hx
          simp only [List.mem_cons, List.not_mem_nil, or_false] at hx
          rcases hx with rfl | rfl
          · exact hkk _ _ hj1
          · exact hkk _ _ hj2
        refine wpList_nil ⟨rfl, hK2 _ _ ⟨⟨_, hg4, ck⟩, rfl⟩ ?_⟩
        clear hK2
        refine tail_step fun K3 hK3 => ?_
        go_wp2
        refine hK3 _ _ ⟨⟨_, hg4, ck⟩, rfl⟩ ?_
        clear hK3 hj1 hj2 k1 k2 c1 c2 hkk ck ba bd y1
        refine tail_last fun K4 hK4 => ?_
        have ne0 := own_ne ho r0 (by decide)
        have rA := blk_grown rA hg4 no'
        have r0 := blk_grown r0 hg4 ne0
        have hr := rdr_row hr ho hg4 hRw
        have hg := grown_row hg ho hg4
        have ho := ho4
        have ho : w4.ownsRow w.heap.size 48 2 (.slice a' (n + 1) c') (n + 1) (edges (es ++ [(X, Y)])) := by rw [edges_append]; exact ho
        have y1 := blk_cell rA 1 (.slice (some ⟨g, 0, none⟩) n c) rfl
        have x1 := blk_free rA 1
        have ho := own_setOther ho w1.heap.size 1 (.slice a' (n + 1) c') (own_ne ho rA (by decide))
        have hr := hr.setOther w1.heap.size 1 (.slice a' (n + 1) c') (by omega)
        have hg := grown_setNew hg w1.heap.size 1 (.slice a' (n + 1) c') (by omega)
        have r0 := blk_set_other r0 1 (.slice a' (n + 1) c') (g := w1.heap.size) (by omega)
        have rA := blk_set rA 1 (.slice a' (n + 1) c')
        clear ho4 hg4 hf4 no' ne0
        have y0 := blk_cell rA 0 (.int .i64 ((N : Int))) rfl
        have y1 := blk_cell rA 1 (.slice a' (n + 1) c') rfl
        have z0 := blk_cell r0 0 (.int .i64 0) rfl
        have z1 := blk_cell r0 1 (.slice none 0 0) rfl
        have f0 := blk_free r0 0
        have f1 := blk_free r0 1
        have SO := Lib.hid (own_setOther (own_setOther ho (w.heap.size) 0 (.int .i64 ((N : Int))) (own_ne ho r0 (by decide))) (w.heap.size) 1 (.slice a' (n + 1) c') (own_ne ho r0 (by decide)))
        have SB := Lib.hid (grown_setNew (grown_setNew hg (w.heap.size) 0 (.int .i64 ((N : Int))) (Nat.le_refl _)) (w.heap.size) 1 (.slice a' (n + 1) c') (Nat.le_refl _))
        have SR := Lib.hid ((hr.setOther (w.heap.size) 0 (.int .i64 ((N : Int))) hRw).setOther (w.heap.size) 1 (.slice a' (n + 1) c') hRw)
        have EL : ((es ++ [(X, Y)])).length = (n + 1) := by rw [List.length_append, ← HN.out]; rfl
        have EL := Lib.hid EL
        clear ho hg hr rA r0
        go_wp2
        refine bodyPost_ret (v := graphV ((N : Int)) a' ((n + 1)) c') (by simp [results, Try.results71, go_sem, z0, z1]) rfl ⟨(N : Int), (es ++ [(X, Y)]), a', c', p1 + 2, by rw [EL.out], by omega, by rw [EL.out]; omega, by rw [EL.out]; exact SO.out, SR.out, by omega, SB.out⟩
      · by_cases hz2 : v3 = 2
        · subst hz2
          have CV := fun (u : World) h1 h2 => one_any R (p1 + 2) (some ⟨w3.heap.size, 0, none⟩) 3 3 [-1, 8, 2] u h1 (by omega) rfl (by omega) (by omega) h2 (by intro x h; cases h; simp; omega)
          have CV := CV (w3.alloc (.cells #[.int .i64 (-1), .int .i64 8, .int .i64 2] 3)) (hr.below (below_alloc _ _)) (rd_blk (heap_alloc_new w3 (.cells #[.int .i64 (-1), .int .i64 8, .int .i64 2] 3)) rfl)
          have ho := own_below ho (below_alloc w3 (.cells #[.int .i64 (-1), .int .i64 8, .int .i64 2] 3))
          have rA := blk_below rA (below_alloc w3 (.cells #[.int .i64 (-1), .int .i64 8, .int .i64 2] 3))
          have r0 := blk_below r0 (below_alloc w3 (.cells #[.int .i64 (-1), .int .i64 8, .int .i64 2] 3))
          have hr := hr.below (below_alloc w3 (.cells #[.int .i64 (-1), .int .i64 8, .int .i64 2] 3))
          have hg := grown_below hg (below_alloc w3 (.cells #[.int .i64 (-1), .int .i64 8, .int .i64 2] 3))
          have no := hr.ne ho (by decide)
          have y0 := blk_cell rA 0 (.int .i64 N) rfl
          have y1 := blk_cell rA 1 (.slice (some ⟨g, 0, none⟩) n c) rfl
          go_wp2_with fail
          refine CV.mono ?_
          rintro e w4 ⟨v4, hv4, rfl, hr4, hg4⟩
          have hv4 : -1 ≤ v4 ∧ v4 ≤ 8 := by
            simp only [List.mem_cons, List.not_mem_nil, or_false] at hv4
            omega
          have ho := own_grown ho hg4 no
          have rA := blk_grown rA hg4 (by simp; omega)
          have r0 := blk_grown r0 hg4 (by simp; omega)
          have hg := grown_trans hg hg4
          have hr := hr4
          clear hr4 hg4 no CV
          have x0 := blk_cell rA 0 (.int .i64 N) rfl
          have x1 := blk_free rA 0
          have ho := own_setOther ho w1.heap.size 0 (.int .i64 v4) (own_ne ho rA (by decide))
          have hr := hr.setOther w1.heap.size 0 (.int .i64 v4) (by omega)
          have hg := grown_setNew hg w1.heap.size 0 (.int .i64 v4) (by omega)
          have r0 := blk_set_other r0 0 (.int .i64 v4) (g := w1.heap.size) (by omega)
          have rA := blk_set rA 0 (.int .i64 v4)
          have y0 := blk_cell rA 0 (.int .i64 (v4)) rfl
          have y1 := blk_cell rA 1 (.slice (some ⟨g, 0, none⟩) n c) rfl
          have z0 := blk_cell r0 0 (.int .i64 0) rfl
          have z1 := blk_cell r0 1 (.slice none 0 0) rfl
          have f0 := blk_free r0 0
          have f1 := blk_free r0 1
          have SO := Lib.hid (own_setOther (own_setOther ho (w.heap.size) 0 (.int .i64 (v4)) (own_ne ho r0 (by decide))) (w.heap.size) 1 (.slice (some ⟨g, 0, none⟩) n c) (own_ne ho r0 (by decide)))
          have SB := Lib.hid (grown_setNew (grown_setNew hg (w.heap.size) 0 (.int .i64 (v4)) (Nat.le_refl _)) (w.heap.size) 1 (.slice (some ⟨g, 0, none⟩) n c) (Nat.le_refl _))
          have SR := Lib.hid ((hr.setOther (w.heap.size) 0 (.int .i64 (v4)) hRw).setOther (w.heap.size) 1 (.slice (some ⟨g, 0, none⟩) n c) hRw)
          have EL : (es).length = n := HN.out.symm
          have EL := Lib.hid EL
          clear ho hg hr rA r0
          go_wp2
          refine bodyPost_ret (v := graphV (v4) (some ⟨g, 0, none⟩) (n) c) (by simp [results, Try.results71, go_sem, z0, z1]) rfl ⟨v4, es, (some ⟨g, 0, none⟩), c, p1 + 3, by rw [EL.out], by omega, by rw [EL.out]; omega, by rw [EL.out]; exact SO.out, SR.out, by omega, SB.out⟩
        · have y0 := blk_cell rA 0 (.int .i64 N) rfl
          have y1 := blk_cell rA 1 (.slice (some ⟨g, 0, none⟩) n c) rfl
          have y0 := blk_cell rA 0 (.int .i64 ((N : Int))) rfl
          have y1 := blk_cell rA 1 (.slice (some ⟨g, 0, none⟩) n c) rfl
          have z0 := blk_cell r0 0 (.int .i64 0) rfl
          have z1 := blk_cell r0 1 (.slice none 0 0) rfl
          have f0 := blk_free r0 0
          have f1 := blk_free r0 1
          have SO := Lib.hid (own_setOther (own_setOther ho (w.heap.size) 0 (.int .i64 ((N : Int))) (own_ne ho r0 (by decide))) (w.heap.size) 1 (.slice (some ⟨g, 0, none⟩) n c) (own_ne ho r0 (by decide)))
          have SB := Lib.hid (grown_setNew (grown_setNew hg (w.heap.size) 0 (.int .i64 ((N : Int))) (Nat.le_refl _)) (w.heap.size) 1 (.slice (some ⟨g, 0, none⟩) n c) (Nat.le_refl _))
          have SR := Lib.hid ((hr.setOther (w.heap.size) 0 (.int .i64 ((N : Int))) hRw).setOther (w.heap.size) 1 (.slice (some ⟨g, 0, none⟩) n c) hRw)
          have EL : (es).length = n := HN.out.symm
          have EL := Lib.hid EL
          clear ho hg hr rA r0
          go_wp2
          refine bodyPost_ret (v := graphV ((N : Int)) (some ⟨g, 0, none⟩) (n) c) (by simp [results, Try.results71, go_sem, z0, z1]) rfl ⟨(N : Int), es, (some ⟨g, 0, none⟩), c, p1 + 2, by rw [EL.out], by omega, by rw [EL.out]; omega, by rw [EL.out]; exact SO.out, SR.out, by omega, SB.out⟩


end Go.Proofs.Ytjghcegacgpehaa
