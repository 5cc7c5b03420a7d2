
/- Two drawn graphs: the reference's twoGraphs, DrawDifferenceOf and DrawUnionOf. (Printed by gen_twod.py.) -/
import Derived.Test.YtjghcegacgpehaaSwS
import Derived.Test.YtjghcegacgpehaaSwT
import Derived.Test.YtjghcegacgpehaaSome
import Derived.Test.YtjghcegacgpehaaCodeOK
import Derived.Test.YtjghcegacgpehaaGrowL
namespace Go.Proofs.Ytjghcegacgpehaa
open Go.RowKit

set_option maxHeartbeats 8000000 in
theorem twoGraphs_any (R p B : Nat) (Ng : Int) (ag : Option Addr) (cg ng : Nat) (gs : List E2) (w : World) (h : RdrAt w R p) (hp : p ≤ 1000) (_hRB : R < B) (hBw : B ≤ w.heap.size) (hng : gs.length = ng) (hl : ng ≤ 50) (hog : w.ownsRow B 48 2 (.slice ag ng cg) ng (edges gs)) (hNg : -1 ≤ Ng ∧ Ng ≤ 8) :
    Calls Try.prog 70 #[.pointer (some ⟨R, 0, none⟩), graphV Ng ag ng cg] w fun e w' => ∃ (N2 : Int) (es2 : List E2) (a2 : Option Addr) (n2 c2 : Nat), e = .returned (.tuple #[graphV Ng ag ng cg, graphV N2 a2 n2 c2]) ∧
      (-1 ≤ N2 ∧ N2 ≤ 8) ∧ n2 ≤ 60 ∧ w'.ownsRow B 48 2 (.slice ag ng cg) ng (edges gs) ∧ w'.ownsRow B 48 2 (.slice a2 n2 c2) n2 (edges es2) ∧ w.grownBy w' (some R) := by
  have hRw := h.lt
  have hnilg : ag = none → ng = 0 ∧ cg = 0 := (own_formD hog).2.2.1
  have hB := below_tr' (below_alloc2 w (.cells #[.int .i64 Ng, .slice ag ng cg] 25) (.cells #[.int .i64 0, .slice none 0 0] 25)) (below_alloc ((w.alloc (.cells #[.int .i64 Ng, .slice ag ng cg] 25)).alloc (.cells #[.int .i64 0, .slice none 0 0] 25)) (.cells #[.int .i64 0, .slice none 0 0] 25))
  have rb := blk_below (blk_below (heap_alloc_new w (.cells #[.int .i64 Ng, .slice ag ng cg] 25)) (below_alloc _ (.cells #[.int .i64 0, .slice none 0 0] 25))) (below_alloc _ (.cells #[.int .i64 0, .slice none 0 0] 25))
  have rP := blk_below (heap_alloc_new (w.alloc (.cells #[.int .i64 Ng, .slice ag ng cg] 25)) (.cells #[.int .i64 0, .slice none 0 0] 25)) (below_alloc _ (.cells #[.int .i64 0, .slice none 0 0] 25))
  have rQ := heap_alloc_new ((w.alloc (.cells #[.int .i64 Ng, .slice ag ng cg] 25)).alloc (.cells #[.int .i64 0, .slice none 0 0] 25)) (.cells #[.int .i64 0, .slice none 0 0] 25)
  rw [show (w.alloc (.cells #[.int .i64 Ng, .slice ag ng cg] 25)).heap.size = w.heap.size + 1 from by simp] at rP
  rw [show ((w.alloc (.cells #[.int .i64 Ng, .slice ag ng cg] 25)).alloc (.cells #[.int .i64 0, .slice none 0 0] 25)).heap.size = w.heap.size + 1 + 1 from by simp] at rQ
  have hWs : (((w.alloc (.cells #[.int .i64 Ng, .slice ag ng cg] 25)).alloc (.cells #[.int .i64 0, .slice none 0 0] 25)).alloc (.cells #[.int .i64 0, .slice none 0 0] 25)).heap.size = w.heap.size + 3 := by simp
  generalize hW : (((w.alloc (.cells #[.int .i64 Ng, .slice ag ng cg] 25)).alloc (.cells #[.int .i64 0, .slice none 0 0] 25)).alloc (.cells #[.int .i64 0, .slice none 0 0] 25)) = w2 at *
  have HW := Lib.hid hW
  clear hW
  have hog := own_below hog hB
  have hr := h.below hB
  have hg := below_grownby hB (some R)
  clear h hB
  have xg2 := own_rd hog
  have p0 := later_cell (blk_cell rb 0 (.int .i64 Ng) rfl)
  have p1 := later_cell (blk_cell rb 1 (.slice ag ng cg) rfl)
  have bd := bel_drew (Below.refl w2.heap.size w2)
  go_enter Try.func70, Try.ntmps70
  go_wp2_with (simp only [HW.out])
  refine wp_region_heads [true, true, false, true, true, false, false, false, false] 8 5 (C := fun w' => ∃ u : Later w2, w' = u.val) (by kernel_rfl) (by kernel_rfl) ⟨⟨_, bd⟩, rfl⟩ ?_
  simp only [pickT]
  repeat (go_big_quiet_step (fail))
  refine wpQuiet_nil ?_
  clear p0 p1
  generalize hD : w2.drew = D at *
  clear hD
  apply merge5 (F := fun (A _S : Nat) (a3 : Option Addr) (c3 : Nat) (V : World) => V.heap[A]? = some (.cells #[.int .i64 Ng, .slice a3 ng c3] 25 (0, 0)) ∧ V.ownsRow w2.heap.size 48 2 (.slice a3 ng c3) ng (edges gs) ∧ Below w2.heap.size w2 V ∧ w2.heap.size ≤ A)
  case main =>
    intro TAIL
    refine any_two (i := 2) (j := 7) (by kernel_rfl) rfl rfl ?_ ?_
    · intro K hK
      go_wp2
      have hb1 := bd.trans ((below_alloc D (.cells #[] 48)).mono bd.size)
      refine hK _ _ (fun _ => ⟨⟨_, hb1⟩, rfl⟩) ?_
      clear hK
      have ho : (D.alloc (.cells #[] 48)).ownsRow w2.heap.size 48 2 (.slice (some ⟨D.heap.size, 0, none⟩) 0 0) 0 (edges []) := World.ownsRow_made D #[] 0 bd.size (by decide) rfl
      generalize hV : D.alloc (.cells #[] 48) = v1 at *
      clear hV
      obtain ⟨S, hS⟩ : ∃ S, S = D.heap.size := ⟨_, rfl⟩
      simp only [← hS] at *
      clear hS
      refine any_two (i := 5) (j := 7) (by kernel_rfl) rfl rfl ?_ ?_
      · intro K hK
        refine appendAllg Try.infoE _ _ rfl rfl (m := ng) ho (xg2.below hb1) (by rw [edges_length, hng]) (edges_one _) hnilg (World.grownBy.refl v1 _) hb1.size rfl rfl (by omega) ?_
        intro a3 c3 v2 ho3 hg3
        have hb2 := below_row hb1 (Nat.le_refl _) ho hg3
        have ho : v2.ownsRow w2.heap.size 48 2 (.slice a3 ng c3) ng (edges gs) := by have h := ho3; rw [Nat.zero_add] at h; exact h
        refine wpList_nil ⟨rfl, hK _ _ (fun _ => ⟨⟨_, hb2⟩, rfl⟩) ?_⟩
        clear hK ho3 hg3
        try simp only [Nat.zero_add]
        refine any_two (i := 6) (j := 7) (by kernel_rfl) rfl rfl ?_ ?_
        · intro K hK
          go_wp2
          refine hK _ _ (fun _ => ⟨⟨_, hb2⟩, rfl⟩) ?_
          clear hK
          have hb3 := hb2
          refine any_one (i := 7) (by kernel_rfl) rfl ?_
          intro K hK
          go_wp2
          have hb4 := hb3.trans ((below_alloc v2 (.cells #[.int .i64 0, .slice none 0 0] 25)).mono hb3.size)
          refine hK _ _ (fun _ => ⟨⟨_, hb4⟩, rfl⟩) ?_
          clear hK
          have qo := heap_alloc_new v2 (.cells #[.int .i64 0, .slice none 0 0] 25)
          have hAge : w2.heap.size ≤ v2.heap.size := hb3.size
          have ho := own_below ho (below_alloc v2 (.cells #[.int .i64 0, .slice none 0 0] 25))
          generalize hV : v2.alloc (.cells #[.int .i64 0, .slice none 0 0] 25) = v4 at *
          clear hV
          obtain ⟨A, hA⟩ : ∃ A, A = v2.heap.size := ⟨_, rfl⟩
          simp only [← hA] at *
          clear hA
          refine any_one (i := 8) (by kernel_rfl) rfl ?_
          intro K hK
          have z0 := blk_cell qo 0 (.int .i64 0) rfl
          have z1 := blk_cell qo 1 (.slice none 0 0) rfl
          have f0 := blk_free qo 0
          have f1 := blk_free qo 1
          have SQ := Lib.hid (blk_set (blk_set qo 0 (.int .i64 Ng)) 1 (.slice a3 ng c3))
          have SO := Lib.hid (own_setOther (own_setOther ho A 0 (.int .i64 Ng) (own_ne ho qo (by decide))) A 1 (.slice a3 ng c3) (own_ne ho qo (by decide)))
          have SB := Lib.hid ((hb4.setCell (p := ⟨A, 0, none⟩) hAge (.int .i64 Ng)).setCell (p := ⟨A, 1, none⟩) hAge (.slice a3 ng c3))
          go_wp2
          refine hK _ _ (fun h => absurd rfl h) ?_
          clear hK
          refine any_end (by kernel_rfl) ?_
          clear z0 z1 f0 f1
          have SQ := SQ.out
          have SO := SO.out
          have SB := SB.out
          generalize hV : (v4.setCell ⟨A, 0, none⟩ (.int .i64 Ng)).setCell ⟨A, 1, none⟩ (.slice a3 ng c3) = V at *
          clear hV qo ho hb4
          exact TAIL A S a3 c3 V ⟨SQ, SO, SB, hAge⟩
        · intro K hK
          go_wp2
          have hb3 := hb2.trans ((below_alloc v2 (.cells #[.int .i64 0, .slice none 0 0] 25)).mono hb2.size)
          refine hK _ _ (fun _ => ⟨⟨_, hb3⟩, rfl⟩) ?_
          clear hK
          have qo := heap_alloc_new v2 (.cells #[.int .i64 0, .slice none 0 0] 25)
          have hAge : w2.heap.size ≤ v2.heap.size := hb2.size
          have ho := own_below ho (below_alloc v2 (.cells #[.int .i64 0, .slice none 0 0] 25))
          generalize hV : v2.alloc (.cells #[.int .i64 0, .slice none 0 0] 25) = v3 at *
          clear hV
          obtain ⟨A, hA⟩ : ∃ A, A = v2.heap.size := ⟨_, rfl⟩
          simp only [← hA] at *
          clear hA
          refine any_one (i := 6) (by kernel_rfl) rfl ?_
          intro K hK
          go_wp2
          refine hK _ _ (fun _ => ⟨⟨_, hb3⟩, rfl⟩) ?_
          clear hK
          have hb4 := hb3
          refine any_one (i := 8) (by kernel_rfl) rfl ?_
          intro K hK
          have z0 := blk_cell qo 0 (.int .i64 0) rfl
          have z1 := blk_cell qo 1 (.slice none 0 0) rfl
          have f0 := blk_free qo 0
          have f1 := blk_free qo 1
          have SQ := Lib.hid (blk_set (blk_set qo 0 (.int .i64 Ng)) 1 (.slice a3 ng c3))
          have SO := Lib.hid (own_setOther (own_setOther ho A 0 (.int .i64 Ng) (own_ne ho qo (by decide))) A 1 (.slice a3 ng c3) (own_ne ho qo (by decide)))
          have SB := Lib.hid ((hb4.setCell (p := ⟨A, 0, none⟩) hAge (.int .i64 Ng)).setCell (p := ⟨A, 1, none⟩) hAge (.slice a3 ng c3))
          go_wp2
          refine hK _ _ (fun h => absurd rfl h) ?_
          clear hK
          refine any_end (by kernel_rfl) ?_
          clear z0 z1 f0 f1
          have SQ := SQ.out
          have SO := SO.out
          have SB := SB.out
          generalize hV : (v3.setCell ⟨A, 0, none⟩ (.int .i64 Ng)).setCell ⟨A, 1, none⟩ (.slice a3 ng c3) = V at *
          clear hV qo ho hb4
          exact TAIL A S a3 c3 V ⟨SQ, SO, SB, hAge⟩
      · intro K hK
        go_wp2
        have hb2 := hb1.trans ((below_alloc v1 (.cells #[.int .i64 0, .slice none 0 0] 25)).mono hb1.size)
        refine hK _ _ (fun _ => ⟨⟨_, hb2⟩, rfl⟩) ?_
        clear hK
        have qo := heap_alloc_new v1 (.cells #[.int .i64 0, .slice none 0 0] 25)
        have hAge : w2.heap.size ≤ v1.heap.size := hb1.size
        have ho := own_below ho (below_alloc v1 (.cells #[.int .i64 0, .slice none 0 0] 25))
        generalize hV : v1.alloc (.cells #[.int .i64 0, .slice none 0 0] 25) = v2 at *
        clear hV
        obtain ⟨A, hA⟩ : ∃ A, A = v1.heap.size := ⟨_, rfl⟩
        simp only [← hA] at *
        clear hA
        refine any_one (i := 5) (by kernel_rfl) rfl ?_
        intro K hK
        refine appendAllg Try.infoE _ _ rfl rfl (m := ng) ho (xg2.below hb2) (by rw [edges_length, hng]) (edges_one _) hnilg (World.grownBy.refl v2 _) hb2.size rfl rfl (by omega) ?_
        intro a3 c3 v3 ho3 hg3
        have hb3 := below_row hb2 (Nat.le_refl _) ho hg3
        have qo := blk_grown qo hg3 (own_ne ho qo (by decide))
        have ho : v3.ownsRow w2.heap.size 48 2 (.slice a3 ng c3) ng (edges gs) := by have h := ho3; rw [Nat.zero_add] at h; exact h
        refine wpList_nil ⟨rfl, hK _ _ (fun _ => ⟨⟨_, hb3⟩, rfl⟩) ?_⟩
        clear hK ho3 hg3
        try simp only [Nat.zero_add]
        refine any_one (i := 6) (by kernel_rfl) rfl ?_
        intro K hK
        go_wp2
        refine hK _ _ (fun _ => ⟨⟨_, hb3⟩, rfl⟩) ?_
        clear hK
        have hb4 := hb3
        refine any_one (i := 8) (by kernel_rfl) rfl ?_
        intro K hK
        have z0 := blk_cell qo 0 (.int .i64 0) rfl
        have z1 := blk_cell qo 1 (.slice none 0 0) rfl
        have f0 := blk_free qo 0
        have f1 := blk_free qo 1
        have SQ := Lib.hid (blk_set (blk_set qo 0 (.int .i64 Ng)) 1 (.slice a3 ng c3))
        have SO := Lib.hid (own_setOther (own_setOther ho A 0 (.int .i64 Ng) (own_ne ho qo (by decide))) A 1 (.slice a3 ng c3) (own_ne ho qo (by decide)))
        have SB := Lib.hid ((hb4.setCell (p := ⟨A, 0, none⟩) hAge (.int .i64 Ng)).setCell (p := ⟨A, 1, none⟩) hAge (.slice a3 ng c3))
        go_wp2
        refine hK _ _ (fun h => absurd rfl h) ?_
        clear hK
        refine any_end (by kernel_rfl) ?_
        clear z0 z1 f0 f1
        have SQ := SQ.out
        have SO := SO.out
        have SB := SB.out
        generalize hV : (v3.setCell ⟨A, 0, none⟩ (.int .i64 Ng)).setCell ⟨A, 1, none⟩ (.slice a3 ng c3) = V at *
        clear hV qo ho hb4
        exact TAIL A S a3 c3 V ⟨SQ, SO, SB, hAge⟩
    · intro K hK
      go_wp2
      have hb1 := bd.trans ((below_alloc D (.cells #[.int .i64 0, .slice none 0 0] 25)).mono bd.size)
      refine hK _ _ (fun _ => ⟨⟨_, hb1⟩, rfl⟩) ?_
      clear hK
      have qo := heap_alloc_new D (.cells #[.int .i64 0, .slice none 0 0] 25)
      have hAge : w2.heap.size ≤ D.heap.size := bd.size
      generalize hV : D.alloc (.cells #[.int .i64 0, .slice none 0 0] 25) = v1 at *
      clear hV
      obtain ⟨A, hA⟩ : ∃ A, A = D.heap.size := ⟨_, rfl⟩
      simp only [← hA] at *
      clear hA
      refine any_one (i := 2) (by kernel_rfl) rfl ?_
      intro K hK
      go_wp2
      have hb2 := hb1.trans ((below_alloc v1 (.cells #[] 48)).mono hb1.size)
      refine hK _ _ (fun _ => ⟨⟨_, hb2⟩, rfl⟩) ?_
      clear hK
      have ho : (v1.alloc (.cells #[] 48)).ownsRow w2.heap.size 48 2 (.slice (some ⟨v1.heap.size, 0, none⟩) 0 0) 0 (edges []) := World.ownsRow_made v1 #[] 0 hb1.size (by decide) rfl
      have qo := blk_below qo (below_alloc v1 (.cells #[] 48))
      generalize hV : v1.alloc (.cells #[] 48) = v2 at *
      clear hV
      obtain ⟨S, hS⟩ : ∃ S, S = v1.heap.size := ⟨_, rfl⟩
      simp only [← hS] at *
      clear hS
      refine any_one (i := 5) (by kernel_rfl) rfl ?_
      intro K hK
      refine appendAllg Try.infoE _ _ rfl rfl (m := ng) ho (xg2.below hb2) (by rw [edges_length, hng]) (edges_one _) hnilg (World.grownBy.refl v2 _) hb2.size rfl rfl (by omega) ?_
      intro a3 c3 v3 ho3 hg3
      have hb3 := below_row hb2 (Nat.le_refl _) ho hg3
      have qo := blk_grown qo hg3 (own_ne ho qo (by decide))
      have ho : v3.ownsRow w2.heap.size 48 2 (.slice a3 ng c3) ng (edges gs) := by have h := ho3; rw [Nat.zero_add] at h; exact h
      refine wpList_nil ⟨rfl, hK _ _ (fun _ => ⟨⟨_, hb3⟩, rfl⟩) ?_⟩
      clear hK ho3 hg3
      try simp only [Nat.zero_add]
      refine any_one (i := 6) (by kernel_rfl) rfl ?_
      intro K hK
      go_wp2
      refine hK _ _ (fun _ => ⟨⟨_, hb3⟩, rfl⟩) ?_
      clear hK
      have hb4 := hb3
      refine any_one (i := 8) (by kernel_rfl) rfl ?_
      intro K hK
      have z0 := blk_cell qo 0 (.int .i64 0) rfl
      have z1 := blk_cell qo 1 (.slice none 0 0) rfl
      have f0 := blk_free qo 0
      have f1 := blk_free qo 1
      have SQ := Lib.hid (blk_set (blk_set qo 0 (.int .i64 Ng)) 1 (.slice a3 ng c3))
      have SO := Lib.hid (own_setOther (own_setOther ho A 0 (.int .i64 Ng) (own_ne ho qo (by decide))) A 1 (.slice a3 ng c3) (own_ne ho qo (by decide)))
      have SB := Lib.hid ((hb4.setCell (p := ⟨A, 0, none⟩) hAge (.int .i64 Ng)).setCell (p := ⟨A, 1, none⟩) hAge (.slice a3 ng c3))
      go_wp2
      refine hK _ _ (fun h => absurd rfl h) ?_
      clear hK
      refine any_end (by kernel_rfl) ?_
      clear z0 z1 f0 f1
      have SQ := SQ.out
      have SO := SO.out
      have SB := SB.out
      generalize hV : (v3.setCell ⟨A, 0, none⟩ (.int .i64 Ng)).setCell ⟨A, 1, none⟩ (.slice a3 ng c3) = V at *
      clear hV qo ho hb4
      exact TAIL A S a3 c3 V ⟨SQ, SO, SB, hAge⟩
  case tail =>
    rintro A S a3 c3 V ⟨qA, o3, hb, hAge⟩
    have hog := own_below hog hb
    have rb := blk_below rb hb
    have rP := blk_below rP hb
    have rQ := blk_below rQ hb
    have hr := hr.below hb
    have hg := grown_below hg hb
    have o3 := own_mono o3 (show w.heap.size ≤ w2.heap.size by omega)
    have hA3 : w.heap.size + 3 ≤ A := by omega
    clear hb hAge xg2
    have g0 := blk_cell rb 0 (.int .i64 Ng) rfl
    have g1 := blk_cell rb 1 (.slice ag ng cg) rfl
    have CV := specValidGraph_any Ng ag cg ng gs V hng (own_rd hog) (by omega)
    have HG := Lib.hid hog
    have H3 := Lib.hid o3
    clear hog o3
    go_wp2_with fail
    refine CV.mono ?_
    rintro e v1 ⟨rfl, hb1⟩
    clear CV g0 g1
    have hog := own_below HG.out hb1
    have o3 := own_below H3.out hb1
    have rb := blk_below rb hb1
    have rP := blk_below rP hb1
    have rQ := blk_below rQ hb1
    have qA := blk_below qA hb1
    have hr := hr.below hb1
    have hg := grown_below hg hb1
    clear HG H3 hb1
    cases hv : validG Ng gs
    · have bd := bel_drew (Below.refl v1.heap.size v1)
      have il := (InL.refl v1 [R, w.heap.size + 1, w.heap.size + 1 + 1]).below bd
      have d0 := growl_cell (blk_cell rb 0 (.int .i64 Ng) rfl) (l := [R, w.heap.size + 1, w.heap.size + 1 + 1]) (by simp; omega)
      have d1 := growl_cell (blk_cell rb 1 (.slice ag ng cg) rfl) (l := [R, w.heap.size + 1, w.heap.size + 1 + 1]) (by simp; omega)
      have d2 := growl_cell (blk_cell qA 0 (.int .i64 Ng) rfl) (l := [R, w.heap.size + 1, w.heap.size + 1 + 1]) (by simp; omega)
      have d3 := growl_cell (blk_cell qA 1 (.slice a3 ng c3) rfl) (l := [R, w.heap.size + 1, w.heap.size + 1 + 1]) (by simp; omega)
      go_wp2
      refine wp_region_heads [true, true, false, false] 3 2 (C := fun w' => ∃ u : GrowL v1 [R, w.heap.size + 1, w.heap.size + 1 + 1], w' = u.val) (by kernel_rfl) (by kernel_rfl) ⟨⟨_, il⟩, rfl⟩ ?_
      simp only [pickT]
      repeat (go_big_quiet_step (fail))
      refine wpQuiet_nil ?_
      clear d0 d1 d2 d3
      have bd : Below v1.heap.size v1 v1.drew := bd
      generalize hDD : v1.drew = DD at *
      clear hDD
      have hog := own_below hog bd
      have o3 := own_below o3 bd
      have rP := blk_below rP bd
      have rQ := blk_below rQ bd
      have hr := hr.below bd
      have hg := grown_below hg bd
      clear bd
      clear hr
      refine any_one (i := 2) (by kernel_rfl) rfl ?_
      intro K hK
      have z0 := blk_cell rP 0 (.int .i64 0) rfl
      have z1 := blk_cell rP 1 (.slice none 0 0) rfl
      have f0 := blk_free rP 0
      have f1 := blk_free rP 1
      have S_hog := Lib.hid (own_setOther (own_setOther hog (w.heap.size + 1) 0 (.int .i64 Ng) (own_ne hog rP (by decide))) (w.heap.size + 1) 1 (.slice ag ng cg) (own_ne hog rP (by decide)))
      have S_o3 := Lib.hid (own_setOther (own_setOther o3 (w.heap.size + 1) 0 (.int .i64 Ng) (own_ne o3 rP (by decide))) (w.heap.size + 1) 1 (.slice ag ng cg) (own_ne o3 rP (by decide)))
      have S_rP := Lib.hid (blk_set (blk_set rP 0 (.int .i64 Ng)) 1 (.slice ag ng cg))
      have S_rQ := Lib.hid (blk_set_other (blk_set_other rQ 0 (.int .i64 Ng) (g := w.heap.size + 1) (by omega)) 1 (.slice ag ng cg) (g := w.heap.size + 1) (by omega))
      have SG := Lib.hid (grown_setNew (grown_setNew hg (w.heap.size + 1) 0 (.int .i64 Ng) (by omega)) (w.heap.size + 1) 1 (.slice ag ng cg) (by omega))
      have SI := Lib.hid ((il.set (w.heap.size + 1) 0 (.int .i64 Ng) (.inl (by simp))).set (w.heap.size + 1) 1 (.slice ag ng cg) (.inl (by simp)))
      clear hog o3 rP rQ hg il
      go_wp2
      refine hK _ _ (fun _ => ⟨⟨_, SI.out⟩, rfl⟩) ?_
      clear hK z0 z1 f0 f1
      have hog := S_hog.out
      clear S_hog
      have o3 := S_o3.out
      clear S_o3
      have rP := S_rP.out
      clear S_rP
      have rQ := S_rQ.out
      clear S_rQ
      have hg := SG.out
      have il := SI.out
      clear SG SI
      generalize hVV : (DD.setCell ⟨w.heap.size + 1, 0, none⟩ (.int .i64 Ng)).setCell ⟨w.heap.size + 1, 1, none⟩ (.slice ag ng cg) = y1 at *
      clear hVV
      refine any_one (i := 3) (by kernel_rfl) rfl ?_
      intro K hK
      have z0 := blk_cell rQ 0 (.int .i64 0) rfl
      have z1 := blk_cell rQ 1 (.slice none 0 0) rfl
      have f0 := blk_free rQ 0
      have f1 := blk_free rQ 1
      have S_hog := Lib.hid (own_setOther (own_setOther hog (w.heap.size + 1 + 1) 0 (.int .i64 Ng) (own_ne hog rQ (by decide))) (w.heap.size + 1 + 1) 1 (.slice a3 ng c3) (own_ne hog rQ (by decide)))
      have S_o3 := Lib.hid (own_setOther (own_setOther o3 (w.heap.size + 1 + 1) 0 (.int .i64 Ng) (own_ne o3 rQ (by decide))) (w.heap.size + 1 + 1) 1 (.slice a3 ng c3) (own_ne o3 rQ (by decide)))
      have S_rP := Lib.hid (blk_set_other (blk_set_other rP 0 (.int .i64 Ng) (g := w.heap.size + 1 + 1) (by omega)) 1 (.slice a3 ng c3) (g := w.heap.size + 1 + 1) (by omega))
      have S_rQ := Lib.hid (blk_set (blk_set rQ 0 (.int .i64 Ng)) 1 (.slice a3 ng c3))
      have SG := Lib.hid (grown_setNew (grown_setNew hg (w.heap.size + 1 + 1) 0 (.int .i64 Ng) (by omega)) (w.heap.size + 1 + 1) 1 (.slice a3 ng c3) (by omega))
      have SI := Lib.hid ((il.set (w.heap.size + 1 + 1) 0 (.int .i64 Ng) (.inl (by simp))).set (w.heap.size + 1 + 1) 1 (.slice a3 ng c3) (.inl (by simp)))
      clear hog o3 rP rQ hg il
      go_wp2
      refine hK _ _ (fun h => absurd rfl h) ?_
      clear hK z0 z1 f0 f1
      have hog := S_hog.out
      clear S_hog
      have o3 := S_o3.out
      clear S_o3
      have rP := S_rP.out
      clear S_rP
      have rQ := S_rQ.out
      clear S_rQ
      have hg := SG.out
      have il := SI.out
      clear SG SI
      generalize hVV : (y1.setCell ⟨w.heap.size + 1 + 1, 0, none⟩ (.int .i64 Ng)).setCell ⟨w.heap.size + 1 + 1, 1, none⟩ (.slice a3 ng c3) = y2 at *
      clear hVV
      have z0 := blk_cell rP 0 (.int .i64 Ng) rfl
      have z1 := blk_cell rP 1 (.slice ag ng cg) rfl
      have z2 := blk_cell rQ 0 (.int .i64 Ng) rfl
      have z3 := blk_cell rQ 1 (.slice a3 ng c3) rfl
      refine any_end (by kernel_rfl) ?_
      have O1 := Lib.hid hog
      have O2 := Lib.hid o3
      have HGG := Lib.hid hg
      clear hog o3 hg il
      go_wp2
      refine bodyPost_ret (v := .tuple #[graphV Ng ag ng cg, graphV Ng a3 ng c3]) (by simp [results, Try.results70, go_sem, z0, z1, z2, z3]) rfl ⟨Ng, gs, a3, ng, c3, rfl, hNg, by omega, O1.out, own_mono O2.out hBw, HGG.out⟩
    · have C1 := pick_any R p 4 v1 hr (by omega) (by omega)
      have HG := Lib.hid hog
      have H3 := Lib.hid o3
      clear hog o3
      go_wp2_with fail
      refine C1.mono ?_
      rintro e v2 ⟨t, rfl, ht, hr1, hg1⟩
      clear C1
      have hog := own_grown HG.out hg1 (hr.ne HG.out (by decide))
      have o3 := own_grown H3.out hg1 (hr.ne H3.out (by decide))
      have rb := blk_grown rb hg1 (by simp; omega)
      have rP := blk_grown rP hg1 (by simp; omega)
      have rQ := blk_grown rQ hg1 (by simp; omega)
      have qA := blk_grown qA hg1 (by simp; omega)
      have hg := grown_trans hg hg1
      have hr := hr1
      clear hr1 hg1 HG H3
      have hv := Lib.hid hv
      have HO := Lib.hid (And.intro hog o3)
      clear hog o3
      go_wp2
      obtain ⟨hog, o3⟩ := HO.out
      clear HO
      go_loopw [7, 8] (fun i _ wr => ∃ (k q m : Nat) (a3 : Option Addr) (c3 : Nat) (F : List E2), k ≤ 3 ∧ i = .int .i64 k ∧ q + k ≤ p + 4 ∧ m + 2 * k ≤ ng + 6 ∧ wr.heap[A]? = some (.cells #[.int .i64 Ng, .slice a3 m c3] 25 (0, 0)) ∧ wr.ownsRow w.heap.size 48 2 (.slice a3 m c3) m (edges F) ∧ wr.ownsRow B 48 2 (.slice ag ng cg) ng (edges gs) ∧ wr.heap[w.heap.size]? = some (.cells #[.int .i64 Ng, .slice ag ng cg] 25 (0, 0)) ∧ wr.heap[w.heap.size + 1]? = some (.cells #[.int .i64 0, .slice none 0 0] 25 (0, 0)) ∧ wr.heap[w.heap.size + 1 + 1]? = some (.cells #[.int .i64 0, .slice none 0 0] 25 (0, 0)) ∧ RdrAt wr R q ∧ w.grownBy wr (some R)) (fun i _ _ => (intOf i).toNat)
      case atStart => exact ⟨t, p + 1, ng, a3, c3, gs, by omega, rfl, by omega, by omega, qA, o3, hog, rb, rP, rQ, hr, hg⟩
      case round =>
        clear qA o3 hog rb rP rQ hr hg
        obtain ⟨k, q, m, a3, c3, F, hk, rfl, hq, hm, qA, o3, hog, rb, rP, rQ, hr, hg⟩ := hrel
        by_cases hlt : 0 < k
        · have g0 := blk_cell qA 0 (.int .i64 Ng) rfl
          have g1 := blk_cell qA 1 (.slice a3 m c3) rfl
          have C1 := switches_some Ng a3 c3 m F wr (own_edgeLen o3) (own_rd o3) (by omega)
          have HG := Lib.hid hog
          have H3 := Lib.hid o3
          clear hog o3
          go_wp2_with fail
          refine C1.mono ?_
          rintro e v3 ⟨l, al, ml, cl, rfl, hml, hgs, oS, hb1⟩
          clear C1 g0 g1
          have hog := own_below HG.out hb1
          have o3 := own_below H3.out hb1
          have rb := blk_below rb hb1
          have rP := blk_below rP hb1
          have rQ := blk_below rQ hb1
          have qA := blk_below qA hb1
          have hr := hr.below hb1
          have hgsz := hg.size
          have hg := grown_below hg hb1
          clear HG H3 hb1
          by_cases hz : ml = 0
          · subst hz
            have HO := Lib.hid (And.intro hog o3)
            clear hog o3 oS
            go_wp2
            go_roundw
            case rel => exact ⟨k - 1, q, m, a3, c3, F, by omega, by go_num, by omega, by omega, qA, HO.out.2, HO.out.1, rb, rP, rQ, hr, hg⟩
            case measure => simp [intOf]; omega
          · have bd := bel_drew (Below.refl v3.heap.size v3)
            have il := (InL.refl v3 [R]).below bd
            have d0 := growl_cell (blk_cell qA 0 (.int .i64 Ng) rfl) (l := [R]) (by simp; omega)
            have d1 := growl_cell (blk_cell qA 1 (.slice a3 m c3) rfl) (l := [R]) (by simp; omega)
            have HO := Lib.hid (And.intro hog (And.intro o3 oS))
            clear hog o3 oS
            go_wp2
            refine wp_region_heads [true, true, true, true, true, false, false, false, false, false] 9 5 (C := fun w' => ∃ u : GrowL v3 [R], w' = u.val) (by kernel_rfl) (by kernel_rfl) ⟨⟨_, il⟩, rfl⟩ ?_
            simp only [pickT]
            repeat (go_big_quiet_step (fail))
            refine wpQuiet_nil ?_
            clear d0 d1
            obtain ⟨hog, o3, oS⟩ := HO.out
            clear HO
            have bd : Below v3.heap.size v3 v3.drew := bd
            generalize hDD : v3.drew = DD at *
            clear hDD
            have hog := own_below hog bd
            have o3 := own_below o3 bd
            have oS := own_below oS bd
            have rb := blk_below rb bd
            have rP := blk_below rP bd
            have rQ := blk_below rQ bd
            have qA := blk_below qA bd
            have hr := hr.below bd
            have hg := grown_below hg bd
            clear bd
            refine any_one (i := 5) (by kernel_rfl) rfl ?_
            intro K hK
            have CP := pick_any R q ml DD hr (by omega) (by omega)
            have HG := Lib.hid hog
            have H3 := Lib.hid o3
            have HS := Lib.hid oS
            clear hog o3 oS
            go_wp2_with fail
            refine CP.mono ?_
            rintro e x1 ⟨v, rfl, hv7, hr1, hg1⟩
            clear CP
            have oS := own_grown HS.out hg1 (hr.ne HS.out (by decide))
            have il := il.grown hg1 (.inl (by simp))
            have hog := own_grown HG.out hg1 (hr.ne HG.out (by decide))
            have o3 := own_grown H3.out hg1 (hr.ne H3.out (by decide))
            have rb := blk_grown rb hg1 (by simp; omega)
            have rP := blk_grown rP hg1 (by simp; omega)
            have rQ := blk_grown rQ hg1 (by simp; omega)
            have qA := blk_grown qA hg1 (by simp; omega)
            have hg := grown_trans hg hg1
            have hr := hr1
            clear hr1 hg1 HG H3
            clear HS
            have hvl : v < ml := by omega
            have hll : l.length = ml := own_swLen oS
            obtain ⟨b9, o9, rfl, s0, s1, s2, s3⟩ := (own_rd oS).sw (k := v) (by omega)
            have hG := hgs _ (List.getElem_mem (show v < l.length by omega))
            generalize (l[v]'(by omega)) = SS at *
            obtain ⟨s_a, s_b, s_c, s_d⟩ := SS
            simp only at s0 s1 s2 s3 hG
            have HO := Lib.hid (And.intro hog o3)
            clear hog o3 oS
            go_wp2
            refine hK _ _ (fun _ => ⟨⟨_, il⟩, rfl⟩) ?_
            clear hK
            refine any_one (i := 6) (by kernel_rfl) rfl ?_
            intro K hK
            go_wp2
            refine hK _ _ (fun _ => ⟨⟨_, il⟩, rfl⟩) ?_
            clear hK
            refine any_one (i := 7) (by kernel_rfl) rfl ?_
            intro K hK
            go_wp2
            refine hK _ _ (fun _ => ⟨⟨_, il⟩, rfl⟩) ?_
            clear hK
            clear s0 s1 s2 s3
            obtain ⟨hog, o3⟩ := HO.out
            clear HO
            refine any_one (i := 8) (by kernel_rfl) rfl ?_
            intro K hK
            have CP := switched_some Ng a3 c3 m F s_a s_b s_c s_d x1 (own_edgeLen o3) (own_rd o3) (by omega) hG.1 hG.2
            have HG := Lib.hid hog
            have hsx := hg.size
            clear hog o3
            go_wp2_with fail
            refine CP.mono ?_
            rintro e x2 ⟨F5, a5, m5, c5, rfl, hm5, o5, hb5⟩
            clear CP
            have hog := own_below HG.out hb5
            have o5 := own_mono o5 hsx
            have il := il.below hb5
            have rb := blk_below rb hb5
            have rP := blk_below rP hb5
            have rQ := blk_below rQ hb5
            have qA := blk_below qA hb5
            have hr := hr.below hb5
            have hg := grown_below hg hb5
            clear HG hb5
            have HO := Lib.hid (And.intro hog o5)
            clear hog o5
            go_wp2
            refine hK _ _ (fun _ => ⟨⟨_, il⟩, rfl⟩) ?_
            clear hK
            obtain ⟨hog, o5⟩ := HO.out
            clear HO
            refine any_one (i := 9) (by kernel_rfl) rfl ?_
            intro K hK
            have z0 := blk_cell qA 0 (.int .i64 Ng) rfl
            have z1 := blk_cell qA 1 (.slice a3 m c3) rfl
            have f0 := blk_free qA 0
            have f1 := blk_free qA 1
            have S_hog := Lib.hid (own_setOther (own_setOther hog A 0 (.int .i64 Ng) (own_ne hog qA (by decide))) A 1 (.slice a5 m5 c5) (own_ne hog qA (by decide)))
            have S_o5 := Lib.hid (own_setOther (own_setOther o5 A 0 (.int .i64 Ng) (own_ne o5 qA (by decide))) A 1 (.slice a5 m5 c5) (own_ne o5 qA (by decide)))
            have S_rb := Lib.hid (blk_set_other (blk_set_other rb 0 (.int .i64 Ng) (g := A) (by omega)) 1 (.slice a5 m5 c5) (g := A) (by omega))
            have S_rP := Lib.hid (blk_set_other (blk_set_other rP 0 (.int .i64 Ng) (g := A) (by omega)) 1 (.slice a5 m5 c5) (g := A) (by omega))
            have S_rQ := Lib.hid (blk_set_other (blk_set_other rQ 0 (.int .i64 Ng) (g := A) (by omega)) 1 (.slice a5 m5 c5) (g := A) (by omega))
            have S_qA := Lib.hid (blk_set (blk_set qA 0 (.int .i64 Ng)) 1 (.slice a5 m5 c5))
            have S_hg := Lib.hid (grown_setNew (grown_setNew hg A 0 (.int .i64 Ng) (by omega)) A 1 (.slice a5 m5 c5) (by omega))
            have S_hr := Lib.hid ((hr.setOther A 0 (.int .i64 Ng) (by omega)).setOther A 1 (.slice a5 m5 c5) (by omega))
            clear hog o5 rb rP rQ qA hg hr il
            go_wp2
            refine hK _ _ (fun h => absurd rfl h) ?_
            clear hK z0 z1 f0 f1
            refine any_end (by kernel_rfl) ?_
            go_wp2
            go_roundw
            case rel => exact ⟨k - 1, q + 1, m5, a5, c5, F5, by omega, by go_num, by omega, by omega, S_qA.out, S_o5.out, S_hog.out, S_rb.out, S_rP.out, S_rQ.out, S_hr.out, S_hg.out⟩
            case measure => simp [intOf]; omega
        · have C1 := pick_any R q 8 wr hr (by omega) (by omega)
          have HG := Lib.hid hog
          have H3 := Lib.hid o3
          clear hog o3
          go_wp2_with fail
          refine C1.mono ?_
          rintro e v3 ⟨t3, rfl, ht3, hr1, hg1⟩
          clear C1
          have hog := own_grown HG.out hg1 (hr.ne HG.out (by decide))
          have o3 := own_grown H3.out hg1 (hr.ne H3.out (by decide))
          have rb := blk_grown rb hg1 (by simp; omega)
          have rP := blk_grown rP hg1 (by simp; omega)
          have rQ := blk_grown rQ hg1 (by simp; omega)
          have qA := blk_grown qA hg1 (by simp; omega)
          have hg := grown_trans hg hg1
          have hr := hr1
          clear hr1 hg1 HG H3
          have hm : m ≤ 56 := by omega
          have hq : q + 1 ≤ 2000 := by omega
          clear hlt hk
          by_cases hz : t3 = 0
          · subst hz
            have hN7 := (validG_true.1 hv.out).2
            obtain ⟨N, rfl⟩ : ∃ N : Nat, Ng = N := ⟨Ng.toNat, by omega⟩
            have hpl : (pairsL N).length ≤ 49 := by
              have h1 := pairsUpto_length N N
              have h2 : N * N ≤ 7 * 7 := Nat.mul_le_mul (by omega) (by omega)
              unfold pairsL; omega
            have bd := bel_drew (Below.refl v3.heap.size v3)
            have il := (InL.refl v3 [R, w.heap.size + 1, w.heap.size + 1 + 1]).below bd
            have d0 := growl_cell (blk_cell rb 0 (.int .i64 (N : Int)) rfl) (l := [R, w.heap.size + 1, w.heap.size + 1 + 1]) (by simp; omega)
            have d1 := growl_cell (blk_cell rb 1 (.slice ag ng cg) rfl) (l := [R, w.heap.size + 1, w.heap.size + 1 + 1]) (by simp; omega)
            go_wp2
            refine wp_region_heads [true, true, true, true, false, false, false] 6 3 (C := fun w' => ∃ u : GrowL v3 [R, w.heap.size + 1, w.heap.size + 1 + 1], w' = u.val) (by kernel_rfl) (by kernel_rfl) ⟨⟨_, il⟩, rfl⟩ ?_
            simp only [pickT]
            repeat (go_big_quiet_step (fail))
            refine wpQuiet_nil ?_
            clear d0 d1
            have bd : Below v3.heap.size v3 v3.drew := bd
            generalize hDD : v3.drew = DD at *
            clear hDD
            clear o3
            have hog := own_below hog bd
            have rP := blk_below rP bd
            have rQ := blk_below rQ bd
            have hr := hr.below bd
            have hg := grown_below hg bd
            clear bd
            refine any_one (i := 4) (by kernel_rfl) rfl ?_
            intro K hK
            have CP := aGraph_any R (q + 1) N DD hr (by omega) (by omega)
            have HG := Lib.hid hog
            clear hog
            go_wp2_with fail
            refine CP.mono ?_
            rintro e x1 ⟨es4, a4, c4, p4, rfl, hes, o4, hr1, hp4, hg1⟩
            clear CP
            have hog := own_grown HG.out hg1 (hr.ne HG.out (by decide))
            clear HG
            have rP := blk_grown rP hg1 (by simp; omega)
            have rQ := blk_grown rQ hg1 (by simp; omega)
            have hsz := hg.size
            have il := il.grown hg1 (.inl (by simp))
            have hg := grown_trans hg hg1
            have hr := hr1
            clear hr1 hg1
            have hlen4 := hes.length_le
            clear hes
            have o4 := own_mono o4 hsz
            obtain ⟨n4, hn4⟩ : ∃ n, es4.length = n := ⟨_, rfl⟩
            have CN4 : graphV N a4 es4.length c4 = graphV N a4 n4 c4 := by rw [hn4]
            rw [CN4]
            rw [hn4] at o4 hlen4
            clear hn4 CN4
            have HG := Lib.hid hog
            have H4 := Lib.hid o4
            clear hog o4
            go_wp2
            refine hK _ _ (fun _ => ⟨⟨_, il⟩, rfl⟩) ?_
            clear hK
            have hog := HG.out
            have o4 := H4.out
            clear HG H4
            clear hr
            refine any_one (i := 5) (by kernel_rfl) rfl ?_
            intro K hK
            have z0 := blk_cell rP 0 (.int .i64 0) rfl
            have z1 := blk_cell rP 1 (.slice none 0 0) rfl
            have f0 := blk_free rP 0
            have f1 := blk_free rP 1
            have S_hog := Lib.hid (own_setOther (own_setOther hog (w.heap.size + 1) 0 (.int .i64 (N : Int)) (own_ne hog rP (by decide))) (w.heap.size + 1) 1 (.slice ag ng cg) (own_ne hog rP (by decide)))
            have S_o4 := Lib.hid (own_setOther (own_setOther o4 (w.heap.size + 1) 0 (.int .i64 (N : Int)) (own_ne o4 rP (by decide))) (w.heap.size + 1) 1 (.slice ag ng cg) (own_ne o4 rP (by decide)))
            have S_rP := Lib.hid (blk_set (blk_set rP 0 (.int .i64 (N : Int))) 1 (.slice ag ng cg))
            have S_rQ := Lib.hid (blk_set_other (blk_set_other rQ 0 (.int .i64 (N : Int)) (g := w.heap.size + 1) (by omega)) 1 (.slice ag ng cg) (g := w.heap.size + 1) (by omega))
            have SG := Lib.hid (grown_setNew (grown_setNew hg (w.heap.size + 1) 0 (.int .i64 (N : Int)) (by omega)) (w.heap.size + 1) 1 (.slice ag ng cg) (by omega))
            have SI := Lib.hid ((il.set (w.heap.size + 1) 0 (.int .i64 (N : Int)) (.inl (by simp))).set (w.heap.size + 1) 1 (.slice ag ng cg) (.inl (by simp)))
            clear hog o4 rP rQ hg il
            go_wp2
            refine hK _ _ (fun _ => ⟨⟨_, SI.out⟩, rfl⟩) ?_
            clear hK z0 z1 f0 f1
            have hog := S_hog.out
            clear S_hog
            have o4 := S_o4.out
            clear S_o4
            have rP := S_rP.out
            clear S_rP
            have rQ := S_rQ.out
            clear S_rQ
            have hg := SG.out
            have il := SI.out
            clear SG SI
            generalize hVV : (x1.setCell ⟨w.heap.size + 1, 0, none⟩ (.int .i64 (N : Int))).setCell ⟨w.heap.size + 1, 1, none⟩ (.slice ag ng cg) = y1 at *
            clear hVV
            refine any_one (i := 6) (by kernel_rfl) rfl ?_
            intro K hK
            have z0 := blk_cell rQ 0 (.int .i64 0) rfl
            have z1 := blk_cell rQ 1 (.slice none 0 0) rfl
            have f0 := blk_free rQ 0
            have f1 := blk_free rQ 1
            have S_hog := Lib.hid (own_setOther (own_setOther hog (w.heap.size + 1 + 1) 0 (.int .i64 (N : Int)) (own_ne hog rQ (by decide))) (w.heap.size + 1 + 1) 1 (.slice a4 n4 c4) (own_ne hog rQ (by decide)))
            have S_o4 := Lib.hid (own_setOther (own_setOther o4 (w.heap.size + 1 + 1) 0 (.int .i64 (N : Int)) (own_ne o4 rQ (by decide))) (w.heap.size + 1 + 1) 1 (.slice a4 n4 c4) (own_ne o4 rQ (by decide)))
            have S_rP := Lib.hid (blk_set_other (blk_set_other rP 0 (.int .i64 (N : Int)) (g := w.heap.size + 1 + 1) (by omega)) 1 (.slice a4 n4 c4) (g := w.heap.size + 1 + 1) (by omega))
            have S_rQ := Lib.hid (blk_set (blk_set rQ 0 (.int .i64 (N : Int))) 1 (.slice a4 n4 c4))
            have SG := Lib.hid (grown_setNew (grown_setNew hg (w.heap.size + 1 + 1) 0 (.int .i64 (N : Int)) (by omega)) (w.heap.size + 1 + 1) 1 (.slice a4 n4 c4) (by omega))
            have SI := Lib.hid ((il.set (w.heap.size + 1 + 1) 0 (.int .i64 (N : Int)) (.inl (by simp))).set (w.heap.size + 1 + 1) 1 (.slice a4 n4 c4) (.inl (by simp)))
            clear hog o4 rP rQ hg il
            go_wp2
            refine hK _ _ (fun h => absurd rfl h) ?_
            clear hK z0 z1 f0 f1
            have hog := S_hog.out
            clear S_hog
            have o4 := S_o4.out
            clear S_o4
            have rP := S_rP.out
            clear S_rP
            have rQ := S_rQ.out
            clear S_rQ
            have hg := SG.out
            have il := SI.out
            clear SG SI
            generalize hVV : (y1.setCell ⟨w.heap.size + 1 + 1, 0, none⟩ (.int .i64 (N : Int))).setCell ⟨w.heap.size + 1 + 1, 1, none⟩ (.slice a4 n4 c4) = y2 at *
            clear hVV
            have z0 := blk_cell rP 0 (.int .i64 (N : Int)) rfl
            have z1 := blk_cell rP 1 (.slice ag ng cg) rfl
            have z2 := blk_cell rQ 0 (.int .i64 (N : Int)) rfl
            have z3 := blk_cell rQ 1 (.slice a4 n4 c4) rfl
            refine any_end (by kernel_rfl) ?_
            have O1 := Lib.hid hog
            have O2 := Lib.hid o4
            have HGG := Lib.hid hg
            clear hog o4 hg il
            go_wp2
            refine bodyPost_ret (v := .tuple #[graphV (N : Int) ag ng cg, graphV (N : Int) a4 n4 c4]) (by simp [results, Try.results70, go_sem, z0, z1, z2, z3]) rfl ⟨(N : Int), es4, a4, n4, c4, rfl, by omega, by omega, O1.out, own_mono O2.out hBw, HGG.out⟩
          · by_cases hz1 : t3 = 1
            · subst hz1
              have bd := bel_drew (Below.refl v3.heap.size v3)
              have il := (InL.refl v3 [R, w.heap.size + 1, w.heap.size + 1 + 1]).below bd
              have d0 := growl_cell (blk_cell rb 0 (.int .i64 Ng) rfl) (l := [R, w.heap.size + 1, w.heap.size + 1 + 1]) (by simp; omega)
              have d1 := growl_cell (blk_cell rb 1 (.slice ag ng cg) rfl) (l := [R, w.heap.size + 1, w.heap.size + 1 + 1]) (by simp; omega)
              go_wp2
              refine wp_region_heads [true, true, false, false, false] 4 3 (C := fun w' => ∃ u : GrowL v3 [R, w.heap.size + 1, w.heap.size + 1 + 1], w' = u.val) (by kernel_rfl) (by kernel_rfl) ⟨⟨_, il⟩, rfl⟩ ?_
              simp only [pickT]
              repeat (go_big_quiet_step (fail))
              refine wpQuiet_nil ?_
              clear d0 d1
              have bd : Below v3.heap.size v3 v3.drew := bd
              generalize hDD : v3.drew = DD at *
              clear hDD
              clear o3
              have hog := own_below hog bd
              have rP := blk_below rP bd
              have rQ := blk_below rQ bd
              have hr := hr.below bd
              have hg := grown_below hg bd
              clear bd
              refine any_one (i := 2) (by kernel_rfl) rfl ?_
              intro K hK
              have CP := someGraph_any R (q + 1) DD hr (by omega)
              have HG := Lib.hid hog
              clear hog
              go_wp2_with fail
              refine CP.mono ?_
              rintro e x1 ⟨N4, es4, a4, c4, p4, rfl, hN4, hlen4, o4, hr1, hp4, hg1⟩
              clear CP
              have hog := own_grown HG.out hg1 (hr.ne HG.out (by decide))
              clear HG
              have rP := blk_grown rP hg1 (by simp; omega)
              have rQ := blk_grown rQ hg1 (by simp; omega)
              have hsz := hg.size
              have il := il.grown hg1 (.inl (by simp))
              have hg := grown_trans hg hg1
              have hr := hr1
              clear hr1 hg1
              have o4 := own_mono o4 hsz
              obtain ⟨n4, hn4⟩ : ∃ n, es4.length = n := ⟨_, rfl⟩
              have CN4 : graphV N4 a4 es4.length c4 = graphV N4 a4 n4 c4 := by rw [hn4]
              rw [CN4]
              rw [hn4] at o4 hlen4
              clear hn4 CN4
              have HG := Lib.hid hog
              have H4 := Lib.hid o4
              clear hog o4
              go_wp2
              refine hK _ _ (fun _ => ⟨⟨_, il⟩, rfl⟩) ?_
              clear hK
              have hog := HG.out
              have o4 := H4.out
              clear HG H4
              clear hr
              refine any_one (i := 3) (by kernel_rfl) rfl ?_
              intro K hK
              have z0 := blk_cell rP 0 (.int .i64 0) rfl
              have z1 := blk_cell rP 1 (.slice none 0 0) rfl
              have f0 := blk_free rP 0
              have f1 := blk_free rP 1
              have S_hog := Lib.hid (own_setOther (own_setOther hog (w.heap.size + 1) 0 (.int .i64 Ng) (own_ne hog rP (by decide))) (w.heap.size + 1) 1 (.slice ag ng cg) (own_ne hog rP (by decide)))
              have S_o4 := Lib.hid (own_setOther (own_setOther o4 (w.heap.size + 1) 0 (.int .i64 Ng) (own_ne o4 rP (by decide))) (w.heap.size + 1) 1 (.slice ag ng cg) (own_ne o4 rP (by decide)))
              have S_rP := Lib.hid (blk_set (blk_set rP 0 (.int .i64 Ng)) 1 (.slice ag ng cg))
              have S_rQ := Lib.hid (blk_set_other (blk_set_other rQ 0 (.int .i64 Ng) (g := w.heap.size + 1) (by omega)) 1 (.slice ag ng cg) (g := w.heap.size + 1) (by omega))
              have SG := Lib.hid (grown_setNew (grown_setNew hg (w.heap.size + 1) 0 (.int .i64 Ng) (by omega)) (w.heap.size + 1) 1 (.slice ag ng cg) (by omega))
              have SI := Lib.hid ((il.set (w.heap.size + 1) 0 (.int .i64 Ng) (.inl (by simp))).set (w.heap.size + 1) 1 (.slice ag ng cg) (.inl (by simp)))
              clear hog o4 rP rQ hg il
              go_wp2
              refine hK _ _ (fun _ => ⟨⟨_, SI.out⟩, rfl⟩) ?_
              clear hK z0 z1 f0 f1
              have hog := S_hog.out
              clear S_hog
              have o4 := S_o4.out
              clear S_o4
              have rP := S_rP.out
              clear S_rP
              have rQ := S_rQ.out
              clear S_rQ
              have hg := SG.out
              have il := SI.out
              clear SG SI
              generalize hVV : (x1.setCell ⟨w.heap.size + 1, 0, none⟩ (.int .i64 Ng)).setCell ⟨w.heap.size + 1, 1, none⟩ (.slice ag ng cg) = y1 at *
              clear hVV
              refine any_one (i := 4) (by kernel_rfl) rfl ?_
              intro K hK
              have z0 := blk_cell rQ 0 (.int .i64 0) rfl
              have z1 := blk_cell rQ 1 (.slice none 0 0) rfl
              have f0 := blk_free rQ 0
              have f1 := blk_free rQ 1
              have S_hog := Lib.hid (own_setOther (own_setOther hog (w.heap.size + 1 + 1) 0 (.int .i64 N4) (own_ne hog rQ (by decide))) (w.heap.size + 1 + 1) 1 (.slice a4 n4 c4) (own_ne hog rQ (by decide)))
              have S_o4 := Lib.hid (own_setOther (own_setOther o4 (w.heap.size + 1 + 1) 0 (.int .i64 N4) (own_ne o4 rQ (by decide))) (w.heap.size + 1 + 1) 1 (.slice a4 n4 c4) (own_ne o4 rQ (by decide)))
              have S_rP := Lib.hid (blk_set_other (blk_set_other rP 0 (.int .i64 N4) (g := w.heap.size + 1 + 1) (by omega)) 1 (.slice a4 n4 c4) (g := w.heap.size + 1 + 1) (by omega))
              have S_rQ := Lib.hid (blk_set (blk_set rQ 0 (.int .i64 N4)) 1 (.slice a4 n4 c4))
              have SG := Lib.hid (grown_setNew (grown_setNew hg (w.heap.size + 1 + 1) 0 (.int .i64 N4) (by omega)) (w.heap.size + 1 + 1) 1 (.slice a4 n4 c4) (by omega))
              have SI := Lib.hid ((il.set (w.heap.size + 1 + 1) 0 (.int .i64 N4) (.inl (by simp))).set (w.heap.size + 1 + 1) 1 (.slice a4 n4 c4) (.inl (by simp)))
              clear hog o4 rP rQ hg il
              go_wp2
              refine hK _ _ (fun h => absurd rfl h) ?_
              clear hK z0 z1 f0 f1
              have hog := S_hog.out
              clear S_hog
              have o4 := S_o4.out
              clear S_o4
              have rP := S_rP.out
              clear S_rP
              have rQ := S_rQ.out
              clear S_rQ
              have hg := SG.out
              have il := SI.out
              clear SG SI
              generalize hVV : (y1.setCell ⟨w.heap.size + 1 + 1, 0, none⟩ (.int .i64 N4)).setCell ⟨w.heap.size + 1 + 1, 1, none⟩ (.slice a4 n4 c4) = y2 at *
              clear hVV
              have z0 := blk_cell rP 0 (.int .i64 Ng) rfl
              have z1 := blk_cell rP 1 (.slice ag ng cg) rfl
              have z2 := blk_cell rQ 0 (.int .i64 N4) rfl
              have z3 := blk_cell rQ 1 (.slice a4 n4 c4) rfl
              refine any_end (by kernel_rfl) ?_
              have O1 := Lib.hid hog
              have O2 := Lib.hid o4
              have HGG := Lib.hid hg
              clear hog o4 hg il
              go_wp2
              refine bodyPost_ret (v := .tuple #[graphV Ng ag ng cg, graphV N4 a4 n4 c4]) (by simp [results, Try.results70, go_sem, z0, z1, z2, z3]) rfl ⟨N4, es4, a4, n4, c4, rfl, hN4, by omega, O1.out, own_mono O2.out hBw, HGG.out⟩
            · have bd := bel_drew (Below.refl v3.heap.size v3)
              have il := (InL.refl v3 [R, w.heap.size + 1, w.heap.size + 1 + 1]).below bd
              have d0 := growl_cell (blk_cell rb 0 (.int .i64 Ng) rfl) (l := [R, w.heap.size + 1, w.heap.size + 1 + 1]) (by simp; omega)
              have d1 := growl_cell (blk_cell rb 1 (.slice ag ng cg) rfl) (l := [R, w.heap.size + 1, w.heap.size + 1 + 1]) (by simp; omega)
              have d2 := growl_cell (blk_cell qA 0 (.int .i64 Ng) rfl) (l := [R, w.heap.size + 1, w.heap.size + 1 + 1]) (by simp; omega)
              have d3 := growl_cell (blk_cell qA 1 (.slice a3 m c3) rfl) (l := [R, w.heap.size + 1, w.heap.size + 1 + 1]) (by simp; omega)
              go_wp2
              refine wp_region_heads [true, true, false, false] 3 2 (C := fun w' => ∃ u : GrowL v3 [R, w.heap.size + 1, w.heap.size + 1 + 1], w' = u.val) (by kernel_rfl) (by kernel_rfl) ⟨⟨_, il⟩, rfl⟩ ?_
              simp only [pickT]
              repeat (go_big_quiet_step (fail))
              refine wpQuiet_nil ?_
              clear d0 d1 d2 d3
              have bd : Below v3.heap.size v3 v3.drew := bd
              generalize hDD : v3.drew = DD at *
              clear hDD
              have hog := own_below hog bd
              have o3 := own_below o3 bd
              have rP := blk_below rP bd
              have rQ := blk_below rQ bd
              have hr := hr.below bd
              have hg := grown_below hg bd
              clear bd
              clear hr
              refine any_one (i := 2) (by kernel_rfl) rfl ?_
              intro K hK
              have z0 := blk_cell rP 0 (.int .i64 0) rfl
              have z1 := blk_cell rP 1 (.slice none 0 0) rfl
              have f0 := blk_free rP 0
              have f1 := blk_free rP 1
              have S_hog := Lib.hid (own_setOther (own_setOther hog (w.heap.size + 1) 0 (.int .i64 Ng) (own_ne hog rP (by decide))) (w.heap.size + 1) 1 (.slice ag ng cg) (own_ne hog rP (by decide)))
              have S_o3 := Lib.hid (own_setOther (own_setOther o3 (w.heap.size + 1) 0 (.int .i64 Ng) (own_ne o3 rP (by decide))) (w.heap.size + 1) 1 (.slice ag ng cg) (own_ne o3 rP (by decide)))
              have S_rP := Lib.hid (blk_set (blk_set rP 0 (.int .i64 Ng)) 1 (.slice ag ng cg))
              have S_rQ := Lib.hid (blk_set_other (blk_set_other rQ 0 (.int .i64 Ng) (g := w.heap.size + 1) (by omega)) 1 (.slice ag ng cg) (g := w.heap.size + 1) (by omega))
              have SG := Lib.hid (grown_setNew (grown_setNew hg (w.heap.size + 1) 0 (.int .i64 Ng) (by omega)) (w.heap.size + 1) 1 (.slice ag ng cg) (by omega))
              have SI := Lib.hid ((il.set (w.heap.size + 1) 0 (.int .i64 Ng) (.inl (by simp))).set (w.heap.size + 1) 1 (.slice ag ng cg) (.inl (by simp)))
              clear hog o3 rP rQ hg il
              go_wp2
              refine hK _ _ (fun _ => ⟨⟨_, SI.out⟩, rfl⟩) ?_
              clear hK z0 z1 f0 f1
              have hog := S_hog.out
              clear S_hog
              have o3 := S_o3.out
              clear S_o3
              have rP := S_rP.out
              clear S_rP
              have rQ := S_rQ.out
              clear S_rQ
              have hg := SG.out
              have il := SI.out
              clear SG SI
              generalize hVV : (DD.setCell ⟨w.heap.size + 1, 0, none⟩ (.int .i64 Ng)).setCell ⟨w.heap.size + 1, 1, none⟩ (.slice ag ng cg) = y1 at *
              clear hVV
              refine any_one (i := 3) (by kernel_rfl) rfl ?_
              intro K hK
              have z0 := blk_cell rQ 0 (.int .i64 0) rfl
              have z1 := blk_cell rQ 1 (.slice none 0 0) rfl
              have f0 := blk_free rQ 0
              have f1 := blk_free rQ 1
              have S_hog := Lib.hid (own_setOther (own_setOther hog (w.heap.size + 1 + 1) 0 (.int .i64 Ng) (own_ne hog rQ (by decide))) (w.heap.size + 1 + 1) 1 (.slice a3 m c3) (own_ne hog rQ (by decide)))
              have S_o3 := Lib.hid (own_setOther (own_setOther o3 (w.heap.size + 1 + 1) 0 (.int .i64 Ng) (own_ne o3 rQ (by decide))) (w.heap.size + 1 + 1) 1 (.slice a3 m c3) (own_ne o3 rQ (by decide)))
              have S_rP := Lib.hid (blk_set_other (blk_set_other rP 0 (.int .i64 Ng) (g := w.heap.size + 1 + 1) (by omega)) 1 (.slice a3 m c3) (g := w.heap.size + 1 + 1) (by omega))
              have S_rQ := Lib.hid (blk_set (blk_set rQ 0 (.int .i64 Ng)) 1 (.slice a3 m c3))
              have SG := Lib.hid (grown_setNew (grown_setNew hg (w.heap.size + 1 + 1) 0 (.int .i64 Ng) (by omega)) (w.heap.size + 1 + 1) 1 (.slice a3 m c3) (by omega))
              have SI := Lib.hid ((il.set (w.heap.size + 1 + 1) 0 (.int .i64 Ng) (.inl (by simp))).set (w.heap.size + 1 + 1) 1 (.slice a3 m c3) (.inl (by simp)))
              clear hog o3 rP rQ hg il
              go_wp2
              refine hK _ _ (fun h => absurd rfl h) ?_
              clear hK z0 z1 f0 f1
              have hog := S_hog.out
              clear S_hog
              have o3 := S_o3.out
              clear S_o3
              have rP := S_rP.out
              clear S_rP
              have rQ := S_rQ.out
              clear S_rQ
              have hg := SG.out
              have il := SI.out
              clear SG SI
              generalize hVV : (y1.setCell ⟨w.heap.size + 1 + 1, 0, none⟩ (.int .i64 Ng)).setCell ⟨w.heap.size + 1 + 1, 1, none⟩ (.slice a3 m c3) = y2 at *
              clear hVV
              have z0 := blk_cell rP 0 (.int .i64 Ng) rfl
              have z1 := blk_cell rP 1 (.slice ag ng cg) rfl
              have z2 := blk_cell rQ 0 (.int .i64 Ng) rfl
              have z3 := blk_cell rQ 1 (.slice a3 m c3) rfl
              refine any_end (by kernel_rfl) ?_
              have O1 := Lib.hid hog
              have O2 := Lib.hid o3
              have HGG := Lib.hid hg
              clear hog o3 hg il
              go_wp2
              refine bodyPost_ret (v := .tuple #[graphV Ng ag ng cg, graphV Ng a3 m c3]) (by simp [results, Try.results70, go_sem, z0, z1, z2, z3]) rfl ⟨Ng, F, a3, m, c3, rfl, hNg, by omega, O1.out, own_mono O2.out hBw, HGG.out⟩

end Go.Proofs.Ytjghcegacgpehaa
