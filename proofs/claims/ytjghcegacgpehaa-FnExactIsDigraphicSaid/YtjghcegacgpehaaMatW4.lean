
/- The program's matrices as a whole. (Printed by gen_matw4.py.) -/
import Derived.Test.YtjghcegacgpehaaMatW3
import Derived.Test.YtjghcegacgpehaaTable
import Derived.Test.YtjghcegacgpehaaClone
namespace Go.Proofs.Ytjghcegacgpehaa
open Go.RowKit

theorem enters_mzero : Enters Try.prog 161 := enters Try.func161 (by kernel_rfl) rfl
theorem mzero_any (w : World) (i k : Nat) : Calls Try.prog 161 #[.int .i64 i, .int .i64 k] w fun e w' => e = .returned (.int .i64 0) ∧ w' = w := by
  go_enter Try.func161, Try.ntmps161
  go_wp2
  go_ret
  exact ⟨rfl, rfl⟩
theorem zero_tbl (n cl : Nat) : tbl n cl (fun _ _ => 0) = zeroM n cl := by
  simp only [tbl, rowF, zeroM, List.map_const', List.length_range]
theorem zero_valid {n cl : Nat} (hn : 1 ≤ n ∧ n ≤ 5) (hc : 1 ≤ cl ∧ cl ≤ 5) : validM (zeroM n cl) = true ∧ colsOf (zeroM n cl) = cl := by
  refine ⟨?_, ?_⟩
  · rw [← zero_tbl]; exact valid_tbl hn hc fun _ _ _ _ => by omega
  · unfold colsOf zeroM
    rw [List.getD_eq_getElem?_getD, List.getElem?_replicate, if_pos (by omega), Option.getD_some, List.length_replicate]
theorem zero_at {n cl i j : Nat} (hi : i < n) (hj : j < cl) : at2 (zeroM n cl) i j = 0 := by
  rw [← zero_tbl, at2_tbl hi hj]

section
variable {σ : Type} {St : σ → List Nat → World → Prop} {go : σ → List (List Int) → σ × Bool} {sz : σ → Nat} {M : Nat}
set_option maxHeartbeats 8000000 in
theorem matrices_any (ar : Option Addr) (n cr : Nat) (ac : Option Addr) (cl cc K : Nat) (cap : Array Value) (KM : Nat) (capM : Array Value) (may : Nat → Nat → Bool) (R C : List Nat) (s : σ) (l : List Nat) (w : World) (hK : Keeps St) (hT : TakesM K cap n cl M sz St go) (hMay : MayM KM capM n cl may) (hgo : ∀ s x, sz (go s x).1 ≤ sz s + 1)
    (hn : 1 ≤ n ∧ n ≤ 5) (hc : 1 ≤ cl ∧ cl ≤ 5) (hR : R.length = n) (hC : C.length = cl) (hRb : ∀ v, R.getD v 0 ≤ 900) (hCb : ∀ v, C.getD v 0 ≤ 900) (hM : sz s + (matsX may R C).length ≤ M)
    (hxr : Rd w ar (ints (intsN R))) (hxc : Rd w ac (ints (intsN C))) (hS : St s l w) :
    Calls Try.prog 94 #[.slice ar n cr, .slice ac cl cc, .func (.func KM) #[] capM, .func (.func K) #[] cap] w fun e w' => (∃ v, e = .returned v) ∧ ∃ l', St (foldX go s (matsX may R C)).1 l' w' ∧ (∀ j ∈ l', j ∈ l ∨ w.heap.size ≤ j) ∧ FrL l w w' := by
  have hlt := hK.lt _ _ _ hS
  have hnr : ar = none → n = 0 ∧ cr = 0 := fun h => by
    exfalso
    obtain ⟨x, X, hX⟩ : ∃ x X, R = x :: X := by cases R with | nil => simp at hR; omega | cons x X => exact ⟨x, X, rfl⟩
    rw [hX] at hxr
    obtain ⟨b, off, h2, _⟩ := hxr 0 (.int .i64 (x : Int)) rfl
    rw [h] at h2; cases h2
  have hnc : ac = none → cl = 0 ∧ cc = 0 := fun h => by
    exfalso
    obtain ⟨x, X, hX⟩ : ∃ x X, C = x :: X := by cases C with | nil => simp at hC; omega | cons x X => exact ⟨x, X, rfl⟩
    rw [hX] at hxc
    obtain ⟨b, off, h2, _⟩ := hxc 0 (.int .i64 (x : Int)) rfl
    rw [h] at h2; cases h2

  obtain ⟨W, hW⟩ : ∃ W, W = ((((w.alloc (.cells #[.slice ar n cr] 38)).alloc (.cells #[.slice ac cl cc] 38)).alloc (.cells #[.func (.func KM) #[] capM] 79)).alloc (.cells #[.func (.func K) #[] cap] 36)) := ⟨_, rfl⟩
  have hB : Below w.heap.size w W := by rw [hW]; exact below_tr' (below_tr' (below_alloc2 w _ _) (below_alloc _ _)) (below_alloc _ _)
  have hsW : W.heap.size = w.heap.size + 1 + 1 + 1 + 1 := by rw [hW]; simp
  have q0 : W.heap[w.heap.size]? = some (.cells #[.slice ar n cr] 38 (0, 0)) := by
    rw [hW, heap_alloc_old _ _ (by simp <;> omega), heap_alloc_old _ _ (by simp <;> omega), heap_alloc_old _ _ (by simp), heap_alloc_new]
  have q1 : W.heap[w.heap.size + 1]? = some (.cells #[.slice ac cl cc] 38 (0, 0)) := by
    rw [hW, heap_alloc_old _ _ (by simp <;> omega), heap_alloc_old _ _ (by simp), show w.heap.size + 1 = (w.alloc (.cells #[.slice ar n cr] 38)).heap.size from by simp, heap_alloc_new]
  have q2 : W.heap[w.heap.size + 1 + 1]? = some (.cells #[.func (.func KM) #[] capM] 79 (0, 0)) := by
    rw [hW, heap_alloc_old _ _ (by simp), show w.heap.size + 1 + 1 = ((w.alloc (.cells #[.slice ar n cr] 38)).alloc (.cells #[.slice ac cl cc] 38)).heap.size from by simp, heap_alloc_new]
  have q3 : W.heap[w.heap.size + 1 + 1 + 1]? = some (.cells #[.func (.func K) #[] cap] 36 (0, 0)) := by
    rw [hW, show w.heap.size + 1 + 1 + 1 = (((w.alloc (.cells #[.slice ar n cr] 38)).alloc (.cells #[.slice ac cl cc] 38)).alloc (.cells #[.func (.func KM) #[] capM] 79)).heap.size from by simp, heap_alloc_new]
  have HW := Lib.hid hW
  have xr := hxr.below hB
  have xc := hxc.below hB
  clear hW hxr hxc
  have d0 := later_cell (blk_cell q0 0 (.slice ar n cr) rfl)
  have d1 := later_cell (blk_cell q1 0 (.slice ac cl cc) rfl)
  have bd := bel_drew (Below.refl W.heap.size W)
  have HX1 := Lib.hid (fun (v : World) (h : Below W.heap.size W v) => clone_any ar cr n (intsN R) v (by rw [intsN_length]; exact hR) (xr.below h) (by omega) hnr)
  have HX2 := Lib.hid (fun (v : World) (h : Below W.heap.size W v) => clone_any ac cc cl (intsN C) v (by rw [intsN_length]; exact hC) (xc.below h) (by omega) hnc)
  have HR := Lib.hid hR
  have HC := Lib.hid hC
  have HT := Lib.hid hT
  have HMY := Lib.hid hMay
  have HRB := Lib.hid hRb
  have HCB := Lib.hid hCb
  have HM := Lib.hid hM
  have HS := Lib.hid hS
  have HSW := Lib.hid hsW
  have HB := Lib.hid hB
  have HLT := Lib.hid hlt
  have Q0 := Lib.hid q0
  have Q1 := Lib.hid q1
  have Q2 := Lib.hid q2
  have Q3 := Lib.hid q3
  clear hR hC hT hMay hRb hCb hM hS hsW hB hlt q0 q1 q2 q3 xr xc hnr hnc
  go_enter Try.func94, Try.ntmps94
  go_wp2_with (simp only [HW.out])
  try rw [← HW.out]
  refine wp_region_heads [true, false, true, false, false, false, false, false] 7 6 (C := fun w' => ∃ u : Later W, w' = u.val) (by kernel_rfl) (by kernel_rfl) ⟨⟨_, bd⟩, rfl⟩ ?_
  simp only [pickT]
  repeat (go_big_quiet_step (fail))
  refine wpQuiet_nil ?_
  clear d0 d1
  generalize hD : W.drew = v0 at *
  clear hD
  have hb0 := bd
  clear bd
  apply merge7 (F := fun (A Bc : Nat) (ra : Option Addr) (rc : Nat) (ca : Option Addr) (cd : Nat) (V : World) => V.heap[A]? = some (.cells #[.slice ra n n] 38 (0, 0)) ∧ V.heap[Bc]? = some (.cells #[.slice ca cl cl] 38 (0, 0)) ∧ V.ownsRow W.heap.size 3 1 (.slice ra n rc) n (ints (intsN R)) ∧ V.ownsRow W.heap.size 3 1 (.slice ca cl cd) cl (ints (intsN C)) ∧ Below W.heap.size W V ∧ (W.heap.size ≤ A ∧ W.heap.size ≤ Bc ∧ A ≠ Bc) ∧ (A ∉ blks ra ∧ A ∉ blks ca ∧ Bc ∉ blks ra ∧ Bc ∉ blks ca) ∧ (∀ i ∈ blks ra, i ∉ blks ca))
  case main =>
    intro TAIL
    refine any_three (i := 1) (j := 4) (k := 5) (by kernel_rfl) rfl rfl rfl ?_ ?_ ?_
    · intro K hK
      have CC := HX1.out v0 hb0
      go_wp2_with fail
      refine CC.mono ?_
      rintro e v1 ⟨ra, rc, rfl, o1, hbb⟩
      clear CC
      have l1 := Lib.hid (own_blks o1)
      have o1 := own_mono o1 hb0.size
      have hb1 := below_tr' hb0 hbb
      have hz1 := hbb.size
      clear hbb
      go_wp2
      refine hK _ _ (fun _ => ⟨⟨_, hb1⟩, rfl⟩) ?_
      clear hK
      refine any_three (i := 3) (j := 4) (k := 5) (by kernel_rfl) rfl rfl rfl ?_ ?_ ?_
      · intro K hK
        have CC := HX2.out v1 hb1
        go_wp2_with fail
        refine CC.mono ?_
        rintro e v2 ⟨ca, cd, rfl, o2, hbb⟩
        clear CC
        have l2 := Lib.hid (own_blks o2)
        have o2 := own_mono o2 hb1.size
        have o1 := own_below o1 hbb
        have hb2 := below_tr' hb1 hbb
        have hz2 := hbb.size
        clear hbb
        go_wp2
        refine hK _ _ (fun _ => ⟨⟨_, hb2⟩, rfl⟩) ?_
        clear hK
        refine any_two (i := 4) (j := 5) (by kernel_rfl) rfl rfl ?_ ?_
        · intro K hK
          go_wp2
          have hbb := below_alloc v2 (.cells #[.slice none 0 0] 38)
          have e8 := heap_alloc_new v2 (.cells #[.slice none 0 0] 38)
          have o1 := own_below o1 hbb
          have o2 := own_below o2 hbb
          have hb3 := below_tr' hb2 hbb
          have hz3 : v2.heap.size + 1 ≤ (v2.alloc (.cells #[.slice none 0 0] 38)).heap.size := by simp
          refine hK _ _ (fun _ => ⟨⟨_, hb3⟩, rfl⟩) ?_
          clear hK hbb
          generalize hV : v2.alloc (.cells #[.slice none 0 0] 38) = v3 at *
          clear hV
          obtain ⟨A, hA⟩ : ∃ A, A = v2.heap.size := ⟨_, rfl⟩
          simp only [← hA] at e8 ⊢
          have HA := Lib.hid hA
          clear hA
          refine any_one (i := 5) (by kernel_rfl) rfl ?_
          intro K hK
          go_wp2
          have hbb := below_alloc v3 (.cells #[.slice none 0 0] 38)
          have e9 := heap_alloc_new v3 (.cells #[.slice none 0 0] 38)
          have o1 := own_below o1 hbb
          have o2 := own_below o2 hbb
          have e8 := blk_below e8 hbb
          have hb4 := below_tr' hb3 hbb
          have hz4 : v3.heap.size + 1 ≤ (v3.alloc (.cells #[.slice none 0 0] 38)).heap.size := by simp
          refine hK _ _ (fun _ => ⟨⟨_, hb4⟩, rfl⟩) ?_
          clear hK hbb
          generalize hV : v3.alloc (.cells #[.slice none 0 0] 38) = v4 at *
          clear hV
          obtain ⟨Bc, hA⟩ : ∃ A, A = v3.heap.size := ⟨_, rfl⟩
          simp only [← hA] at e9 ⊢
          have HBc := Lib.hid hA
          clear hA
          have hs0 := hb0.size
          have hAB : A ≠ Bc := by have h1 := HA.out; have h2 := HBc.out; omega
          have hAW : W.heap.size ≤ A := by have h1 := HA.out; omega
          have hBW : W.heap.size ≤ Bc := by have h1 := HBc.out; omega
          have nA1 : A ∉ blks ra := fun h => by have h1 := HA.out; have h2 := l1.out _ h; omega
          have nA2 : A ∉ blks ca := fun h => by have h1 := HA.out; have h2 := l2.out _ h; omega
          have nB1 : Bc ∉ blks ra := fun h => by have h1 := HBc.out; have h2 := l1.out _ h; omega
          have nB2 : Bc ∉ blks ca := fun h => by have h1 := HBc.out; have h2 := l2.out _ h; omega
          have nrc : ∀ i ∈ blks ra, i ∉ blks ca := fun i h h' => by have h1 := l1.out _ h; have h2 := l2.out _ h'; omega
          have HN := Lib.hid (And.intro (And.intro hAW (And.intro hBW hAB)) (And.intro (And.intro nA1 (And.intro nA2 (And.intro nB1 nB2))) nrc))
          clear hAB hAW hBW nA1 nA2 nB1 nB2 nrc hs0 hz1 hz2 hz3 hz4
          refine any_one (i := 6) (by kernel_rfl) rfl ?_
          intro K hK
          have f8 := blk_free e8 0
          have z8 := blk_cell e8 0 (.slice none 0 0) rfl
          have g8 := Lib.hid (blk_set e8 0 (.slice ra n n))
          have g9 := Lib.hid (blk_set_other (g := A) e9 0 (.slice ra n n) (Ne.symm HN.out.1.2.2))
          have p1 := Lib.hid (own_setOther o1 A 0 (.slice ra n n) (own_ne o1 e8 (by decide)))
          have p2 := Lib.hid (own_setOther o2 A 0 (.slice ra n n) (own_ne o2 e8 (by decide)))
          have hb5 := hb4.setCell (p := ⟨A, 0, none⟩) HN.out.1.1 (.slice ra n n)
          clear e9 o1 o2
          go_wp2
          refine hK _ _ (fun _ => ⟨⟨_, hb5⟩, rfl⟩) ?_
          clear hK f8 e8 z8
          have e8 := g8.out
          have e9 := g9.out
          have o1 := p1.out
          have o2 := p2.out
          clear g8 g9 p1 p2
          generalize hV : v4.setCell ⟨A, 0, none⟩ (.slice ra n n) = v5 at *
          clear hV
          refine any_one (i := 7) (by kernel_rfl) rfl ?_
          intro K hK
          have f9 := blk_free e9 0
          have z9 := blk_cell e9 0 (.slice none 0 0) rfl
          have g9 := Lib.hid (blk_set e9 0 (.slice ca cl cl))
          have g8 := Lib.hid (blk_set_other (g := Bc) e8 0 (.slice ca cl cl) HN.out.1.2.2)
          have p1 := Lib.hid (own_setOther o1 Bc 0 (.slice ca cl cl) (own_ne o1 e9 (by decide)))
          have p2 := Lib.hid (own_setOther o2 Bc 0 (.slice ca cl cl) (own_ne o2 e9 (by decide)))
          have hb6 := hb5.setCell (p := ⟨Bc, 0, none⟩) HN.out.1.2.1 (.slice ca cl cl)
          clear e8 o1 o2
          go_wp2
          refine hK _ _ (fun h => absurd rfl h) ?_
          clear hK f9 e9 z9
          refine any_end (by kernel_rfl) ?_
          generalize hV : v5.setCell ⟨Bc, 0, none⟩ (.slice ca cl cl) = v6 at *
          clear hV
          exact TAIL A Bc ra rc ca cd v6 ⟨g8.out, g9.out, p1.out, p2.out, hb6, HN.out.1, HN.out.2.1, HN.out.2.2⟩
        · intro K hK
          go_wp2
          have hbb := below_alloc v2 (.cells #[.slice none 0 0] 38)
          have e9 := heap_alloc_new v2 (.cells #[.slice none 0 0] 38)
          have o1 := own_below o1 hbb
          have o2 := own_below o2 hbb
          have hb3 := below_tr' hb2 hbb
          have hz3 : v2.heap.size + 1 ≤ (v2.alloc (.cells #[.slice none 0 0] 38)).heap.size := by simp
          refine hK _ _ (fun _ => ⟨⟨_, hb3⟩, rfl⟩) ?_
          clear hK hbb
          generalize hV : v2.alloc (.cells #[.slice none 0 0] 38) = v3 at *
          clear hV
          obtain ⟨Bc, hA⟩ : ∃ A, A = v2.heap.size := ⟨_, rfl⟩
          simp only [← hA] at e9 ⊢
          have HBc := Lib.hid hA
          clear hA
          refine any_one (i := 4) (by kernel_rfl) rfl ?_
          intro K hK
          go_wp2
          have hbb := below_alloc v3 (.cells #[.slice none 0 0] 38)
          have e8 := heap_alloc_new v3 (.cells #[.slice none 0 0] 38)
          have o1 := own_below o1 hbb
          have o2 := own_below o2 hbb
          have e9 := blk_below e9 hbb
          have hb4 := below_tr' hb3 hbb
          have hz4 : v3.heap.size + 1 ≤ (v3.alloc (.cells #[.slice none 0 0] 38)).heap.size := by simp
          refine hK _ _ (fun _ => ⟨⟨_, hb4⟩, rfl⟩) ?_
          clear hK hbb
          generalize hV : v3.alloc (.cells #[.slice none 0 0] 38) = v4 at *
          clear hV
          obtain ⟨A, hA⟩ : ∃ A, A = v3.heap.size := ⟨_, rfl⟩
          simp only [← hA] at e8 ⊢
          have HA := Lib.hid hA
          clear hA
          have hs0 := hb0.size
          have hAB : A ≠ Bc := by have h1 := HA.out; have h2 := HBc.out; omega
          have hAW : W.heap.size ≤ A := by have h1 := HA.out; omega
          have hBW : W.heap.size ≤ Bc := by have h1 := HBc.out; omega
          have nA1 : A ∉ blks ra := fun h => by have h1 := HA.out; have h2 := l1.out _ h; omega
          have nA2 : A ∉ blks ca := fun h => by have h1 := HA.out; have h2 := l2.out _ h; omega
          have nB1 : Bc ∉ blks ra := fun h => by have h1 := HBc.out; have h2 := l1.out _ h; omega
          have nB2 : Bc ∉ blks ca := fun h => by have h1 := HBc.out; have h2 := l2.out _ h; omega
          have nrc : ∀ i ∈ blks ra, i ∉ blks ca := fun i h h' => by have h1 := l1.out _ h; have h2 := l2.out _ h'; omega
          have HN := Lib.hid (And.intro (And.intro hAW (And.intro hBW hAB)) (And.intro (And.intro nA1 (And.intro nA2 (And.intro nB1 nB2))) nrc))
          clear hAB hAW hBW nA1 nA2 nB1 nB2 nrc hs0 hz1 hz2 hz3 hz4
          refine any_one (i := 6) (by kernel_rfl) rfl ?_
          intro K hK
          have f8 := blk_free e8 0
          have z8 := blk_cell e8 0 (.slice none 0 0) rfl
          have g8 := Lib.hid (blk_set e8 0 (.slice ra n n))
          have g9 := Lib.hid (blk_set_other (g := A) e9 0 (.slice ra n n) (Ne.symm HN.out.1.2.2))
          have p1 := Lib.hid (own_setOther o1 A 0 (.slice ra n n) (own_ne o1 e8 (by decide)))
          have p2 := Lib.hid (own_setOther o2 A 0 (.slice ra n n) (own_ne o2 e8 (by decide)))
          have hb5 := hb4.setCell (p := ⟨A, 0, none⟩) HN.out.1.1 (.slice ra n n)
          clear e9 o1 o2
          go_wp2
          refine hK _ _ (fun _ => ⟨⟨_, hb5⟩, rfl⟩) ?_
          clear hK f8 e8 z8
          have e8 := g8.out
          have e9 := g9.out
          have o1 := p1.out
          have o2 := p2.out
          clear g8 g9 p1 p2
          generalize hV : v4.setCell ⟨A, 0, none⟩ (.slice ra n n) = v5 at *
          clear hV
          refine any_one (i := 7) (by kernel_rfl) rfl ?_
          intro K hK
          have f9 := blk_free e9 0
          have z9 := blk_cell e9 0 (.slice none 0 0) rfl
          have g9 := Lib.hid (blk_set e9 0 (.slice ca cl cl))
          have g8 := Lib.hid (blk_set_other (g := Bc) e8 0 (.slice ca cl cl) HN.out.1.2.2)
          have p1 := Lib.hid (own_setOther o1 Bc 0 (.slice ca cl cl) (own_ne o1 e9 (by decide)))
          have p2 := Lib.hid (own_setOther o2 Bc 0 (.slice ca cl cl) (own_ne o2 e9 (by decide)))
          have hb6 := hb5.setCell (p := ⟨Bc, 0, none⟩) HN.out.1.2.1 (.slice ca cl cl)
          clear e8 o1 o2
          go_wp2
          refine hK _ _ (fun h => absurd rfl h) ?_
          clear hK f9 e9 z9
          refine any_end (by kernel_rfl) ?_
          generalize hV : v5.setCell ⟨Bc, 0, none⟩ (.slice ca cl cl) = v6 at *
          clear hV
          exact TAIL A Bc ra rc ca cd v6 ⟨g8.out, g9.out, p1.out, p2.out, hb6, HN.out.1, HN.out.2.1, HN.out.2.2⟩
      · intro K hK
        go_wp2
        have hbb := below_alloc v1 (.cells #[.slice none 0 0] 38)
        have e8 := heap_alloc_new v1 (.cells #[.slice none 0 0] 38)
        have o1 := own_below o1 hbb
        have hb2 := below_tr' hb1 hbb
        have hz2 : v1.heap.size + 1 ≤ (v1.alloc (.cells #[.slice none 0 0] 38)).heap.size := by simp
        refine hK _ _ (fun _ => ⟨⟨_, hb2⟩, rfl⟩) ?_
        clear hK hbb
        generalize hV : v1.alloc (.cells #[.slice none 0 0] 38) = v2 at *
        clear hV
        obtain ⟨A, hA⟩ : ∃ A, A = v1.heap.size := ⟨_, rfl⟩
        simp only [← hA] at e8 ⊢
        have HA := Lib.hid hA
        clear hA
        refine any_two (i := 3) (j := 5) (by kernel_rfl) rfl rfl ?_ ?_
        · intro K hK
          have CC := HX2.out v2 hb2
          go_wp2_with fail
          refine CC.mono ?_
          rintro e v3 ⟨ca, cd, rfl, o2, hbb⟩
          clear CC
          have l2 := Lib.hid (own_blks o2)
          have o2 := own_mono o2 hb2.size
          have o1 := own_below o1 hbb
          have e8 := blk_below e8 hbb
          have hb3 := below_tr' hb2 hbb
          have hz3 := hbb.size
          clear hbb
          go_wp2
          refine hK _ _ (fun _ => ⟨⟨_, hb3⟩, rfl⟩) ?_
          clear hK
          refine any_one (i := 5) (by kernel_rfl) rfl ?_
          intro K hK
          go_wp2
          have hbb := below_alloc v3 (.cells #[.slice none 0 0] 38)
          have e9 := heap_alloc_new v3 (.cells #[.slice none 0 0] 38)
          have o1 := own_below o1 hbb
          have o2 := own_below o2 hbb
          have e8 := blk_below e8 hbb
          have hb4 := below_tr' hb3 hbb
          have hz4 : v3.heap.size + 1 ≤ (v3.alloc (.cells #[.slice none 0 0] 38)).heap.size := by simp
          refine hK _ _ (fun _ => ⟨⟨_, hb4⟩, rfl⟩) ?_
          clear hK hbb
          generalize hV : v3.alloc (.cells #[.slice none 0 0] 38) = v4 at *
          clear hV
          obtain ⟨Bc, hA⟩ : ∃ A, A = v3.heap.size := ⟨_, rfl⟩
          simp only [← hA] at e9 ⊢
          have HBc := Lib.hid hA
          clear hA
          have hs0 := hb0.size
          have hAB : A ≠ Bc := by have h1 := HA.out; have h2 := HBc.out; omega
          have hAW : W.heap.size ≤ A := by have h1 := HA.out; omega
          have hBW : W.heap.size ≤ Bc := by have h1 := HBc.out; omega
          have nA1 : A ∉ blks ra := fun h => by have h1 := HA.out; have h2 := l1.out _ h; omega
          have nA2 : A ∉ blks ca := fun h => by have h1 := HA.out; have h2 := l2.out _ h; omega
          have nB1 : Bc ∉ blks ra := fun h => by have h1 := HBc.out; have h2 := l1.out _ h; omega
          have nB2 : Bc ∉ blks ca := fun h => by have h1 := HBc.out; have h2 := l2.out _ h; omega
          have nrc : ∀ i ∈ blks ra, i ∉ blks ca := fun i h h' => by have h1 := l1.out _ h; have h2 := l2.out _ h'; omega
          have HN := Lib.hid (And.intro (And.intro hAW (And.intro hBW hAB)) (And.intro (And.intro nA1 (And.intro nA2 (And.intro nB1 nB2))) nrc))
          clear hAB hAW hBW nA1 nA2 nB1 nB2 nrc hs0 hz1 hz2 hz3 hz4
          refine any_one (i := 6) (by kernel_rfl) rfl ?_
          intro K hK
          have f8 := blk_free e8 0
          have z8 := blk_cell e8 0 (.slice none 0 0) rfl
          have g8 := Lib.hid (blk_set e8 0 (.slice ra n n))
          have g9 := Lib.hid (blk_set_other (g := A) e9 0 (.slice ra n n) (Ne.symm HN.out.1.2.2))
          have p1 := Lib.hid (own_setOther o1 A 0 (.slice ra n n) (own_ne o1 e8 (by decide)))
          have p2 := Lib.hid (own_setOther o2 A 0 (.slice ra n n) (own_ne o2 e8 (by decide)))
          have hb5 := hb4.setCell (p := ⟨A, 0, none⟩) HN.out.1.1 (.slice ra n n)
          clear e9 o1 o2
          go_wp2
          refine hK _ _ (fun _ => ⟨⟨_, hb5⟩, rfl⟩) ?_
          clear hK f8 e8 z8
          have e8 := g8.out
          have e9 := g9.out
          have o1 := p1.out
          have o2 := p2.out
          clear g8 g9 p1 p2
          generalize hV : v4.setCell ⟨A, 0, none⟩ (.slice ra n n) = v5 at *
          clear hV
          refine any_one (i := 7) (by kernel_rfl) rfl ?_
          intro K hK
          have f9 := blk_free e9 0
          have z9 := blk_cell e9 0 (.slice none 0 0) rfl
          have g9 := Lib.hid (blk_set e9 0 (.slice ca cl cl))
          have g8 := Lib.hid (blk_set_other (g := Bc) e8 0 (.slice ca cl cl) HN.out.1.2.2)
          have p1 := Lib.hid (own_setOther o1 Bc 0 (.slice ca cl cl) (own_ne o1 e9 (by decide)))
          have p2 := Lib.hid (own_setOther o2 Bc 0 (.slice ca cl cl) (own_ne o2 e9 (by decide)))
          have hb6 := hb5.setCell (p := ⟨Bc, 0, none⟩) HN.out.1.2.1 (.slice ca cl cl)
          clear e8 o1 o2
          go_wp2
          refine hK _ _ (fun h => absurd rfl h) ?_
          clear hK f9 e9 z9
          refine any_end (by kernel_rfl) ?_
          generalize hV : v5.setCell ⟨Bc, 0, none⟩ (.slice ca cl cl) = v6 at *
          clear hV
          exact TAIL A Bc ra rc ca cd v6 ⟨g8.out, g9.out, p1.out, p2.out, hb6, HN.out.1, HN.out.2.1, HN.out.2.2⟩
        · intro K hK
          go_wp2
          have hbb := below_alloc v2 (.cells #[.slice none 0 0] 38)
          have e9 := heap_alloc_new v2 (.cells #[.slice none 0 0] 38)
          have o1 := own_below o1 hbb
          have e8 := blk_below e8 hbb
          have hb3 := below_tr' hb2 hbb
          have hz3 : v2.heap.size + 1 ≤ (v2.alloc (.cells #[.slice none 0 0] 38)).heap.size := by simp
          refine hK _ _ (fun _ => ⟨⟨_, hb3⟩, rfl⟩) ?_
          clear hK hbb
          generalize hV : v2.alloc (.cells #[.slice none 0 0] 38) = v3 at *
          clear hV
          obtain ⟨Bc, hA⟩ : ∃ A, A = v2.heap.size := ⟨_, rfl⟩
          simp only [← hA] at e9 ⊢
          have HBc := Lib.hid hA
          clear hA
          refine any_one (i := 3) (by kernel_rfl) rfl ?_
          intro K hK
          have CC := HX2.out v3 hb3
          go_wp2_with fail
          refine CC.mono ?_
          rintro e v4 ⟨ca, cd, rfl, o2, hbb⟩
          clear CC
          have l2 := Lib.hid (own_blks o2)
          have o2 := own_mono o2 hb3.size
          have o1 := own_below o1 hbb
          have e8 := blk_below e8 hbb
          have e9 := blk_below e9 hbb
          have hb4 := below_tr' hb3 hbb
          have hz4 := hbb.size
          clear hbb
          go_wp2
          refine hK _ _ (fun _ => ⟨⟨_, hb4⟩, rfl⟩) ?_
          clear hK
          have hs0 := hb0.size
          have hAB : A ≠ Bc := by have h1 := HA.out; have h2 := HBc.out; omega
          have hAW : W.heap.size ≤ A := by have h1 := HA.out; omega
          have hBW : W.heap.size ≤ Bc := by have h1 := HBc.out; omega
          have nA1 : A ∉ blks ra := fun h => by have h1 := HA.out; have h2 := l1.out _ h; omega
          have nA2 : A ∉ blks ca := fun h => by have h1 := HA.out; have h2 := l2.out _ h; omega
          have nB1 : Bc ∉ blks ra := fun h => by have h1 := HBc.out; have h2 := l1.out _ h; omega
          have nB2 : Bc ∉ blks ca := fun h => by have h1 := HBc.out; have h2 := l2.out _ h; omega
          have nrc : ∀ i ∈ blks ra, i ∉ blks ca := fun i h h' => by have h1 := l1.out _ h; have h2 := l2.out _ h'; omega
          have HN := Lib.hid (And.intro (And.intro hAW (And.intro hBW hAB)) (And.intro (And.intro nA1 (And.intro nA2 (And.intro nB1 nB2))) nrc))
          clear hAB hAW hBW nA1 nA2 nB1 nB2 nrc hs0 hz1 hz2 hz3 hz4
          refine any_one (i := 6) (by kernel_rfl) rfl ?_
          intro K hK
          have f8 := blk_free e8 0
          have z8 := blk_cell e8 0 (.slice none 0 0) rfl
          have g8 := Lib.hid (blk_set e8 0 (.slice ra n n))
          have g9 := Lib.hid (blk_set_other (g := A) e9 0 (.slice ra n n) (Ne.symm HN.out.1.2.2))
          have p1 := Lib.hid (own_setOther o1 A 0 (.slice ra n n) (own_ne o1 e8 (by decide)))
          have p2 := Lib.hid (own_setOther o2 A 0 (.slice ra n n) (own_ne o2 e8 (by decide)))
          have hb5 := hb4.setCell (p := ⟨A, 0, none⟩) HN.out.1.1 (.slice ra n n)
          clear e9 o1 o2
          go_wp2
          refine hK _ _ (fun _ => ⟨⟨_, hb5⟩, rfl⟩) ?_
          clear hK f8 e8 z8
          have e8 := g8.out
          have e9 := g9.out
          have o1 := p1.out
          have o2 := p2.out
          clear g8 g9 p1 p2
          generalize hV : v4.setCell ⟨A, 0, none⟩ (.slice ra n n) = v5 at *
          clear hV
          refine any_one (i := 7) (by kernel_rfl) rfl ?_
          intro K hK
          have f9 := blk_free e9 0
          have z9 := blk_cell e9 0 (.slice none 0 0) rfl
          have g9 := Lib.hid (blk_set e9 0 (.slice ca cl cl))
          have g8 := Lib.hid (blk_set_other (g := Bc) e8 0 (.slice ca cl cl) HN.out.1.2.2)
          have p1 := Lib.hid (own_setOther o1 Bc 0 (.slice ca cl cl) (own_ne o1 e9 (by decide)))
          have p2 := Lib.hid (own_setOther o2 Bc 0 (.slice ca cl cl) (own_ne o2 e9 (by decide)))
          have hb6 := hb5.setCell (p := ⟨Bc, 0, none⟩) HN.out.1.2.1 (.slice ca cl cl)
          clear e8 o1 o2
          go_wp2
          refine hK _ _ (fun h => absurd rfl h) ?_
          clear hK f9 e9 z9
          refine any_end (by kernel_rfl) ?_
          generalize hV : v5.setCell ⟨Bc, 0, none⟩ (.slice ca cl cl) = v6 at *
          clear hV
          exact TAIL A Bc ra rc ca cd v6 ⟨g8.out, g9.out, p1.out, p2.out, hb6, HN.out.1, HN.out.2.1, HN.out.2.2⟩
      · intro K hK
        go_wp2
        have hbb := below_alloc v1 (.cells #[.slice none 0 0] 38)
        have e9 := heap_alloc_new v1 (.cells #[.slice none 0 0] 38)
        have o1 := own_below o1 hbb
        have hb2 := below_tr' hb1 hbb
        have hz2 : v1.heap.size + 1 ≤ (v1.alloc (.cells #[.slice none 0 0] 38)).heap.size := by simp
        refine hK _ _ (fun _ => ⟨⟨_, hb2⟩, rfl⟩) ?_
        clear hK hbb
        generalize hV : v1.alloc (.cells #[.slice none 0 0] 38) = v2 at *
        clear hV
        obtain ⟨Bc, hA⟩ : ∃ A, A = v1.heap.size := ⟨_, rfl⟩
        simp only [← hA] at e9 ⊢
        have HBc := Lib.hid hA
        clear hA
        refine any_two (i := 3) (j := 4) (by kernel_rfl) rfl rfl ?_ ?_
        · intro K hK
          have CC := HX2.out v2 hb2
          go_wp2_with fail
          refine CC.mono ?_
          rintro e v3 ⟨ca, cd, rfl, o2, hbb⟩
          clear CC
          have l2 := Lib.hid (own_blks o2)
          have o2 := own_mono o2 hb2.size
          have o1 := own_below o1 hbb
          have e9 := blk_below e9 hbb
          have hb3 := below_tr' hb2 hbb
          have hz3 := hbb.size
          clear hbb
          go_wp2
          refine hK _ _ (fun _ => ⟨⟨_, hb3⟩, rfl⟩) ?_
          clear hK
          refine any_one (i := 4) (by kernel_rfl) rfl ?_
          intro K hK
          go_wp2
          have hbb := below_alloc v3 (.cells #[.slice none 0 0] 38)
          have e8 := heap_alloc_new v3 (.cells #[.slice none 0 0] 38)
          have o1 := own_below o1 hbb
          have o2 := own_below o2 hbb
          have e9 := blk_below e9 hbb
          have hb4 := below_tr' hb3 hbb
          have hz4 : v3.heap.size + 1 ≤ (v3.alloc (.cells #[.slice none 0 0] 38)).heap.size := by simp
          refine hK _ _ (fun _ => ⟨⟨_, hb4⟩, rfl⟩) ?_
          clear hK hbb
          generalize hV : v3.alloc (.cells #[.slice none 0 0] 38) = v4 at *
          clear hV
          obtain ⟨A, hA⟩ : ∃ A, A = v3.heap.size := ⟨_, rfl⟩
          simp only [← hA] at e8 ⊢
          have HA := Lib.hid hA
          clear hA
          have hs0 := hb0.size
          have hAB : A ≠ Bc := by have h1 := HA.out; have h2 := HBc.out; omega
          have hAW : W.heap.size ≤ A := by have h1 := HA.out; omega
          have hBW : W.heap.size ≤ Bc := by have h1 := HBc.out; omega
          have nA1 : A ∉ blks ra := fun h => by have h1 := HA.out; have h2 := l1.out _ h; omega
          have nA2 : A ∉ blks ca := fun h => by have h1 := HA.out; have h2 := l2.out _ h; omega
          have nB1 : Bc ∉ blks ra := fun h => by have h1 := HBc.out; have h2 := l1.out _ h; omega
          have nB2 : Bc ∉ blks ca := fun h => by have h1 := HBc.out; have h2 := l2.out _ h; omega
          have nrc : ∀ i ∈ blks ra, i ∉ blks ca := fun i h h' => by have h1 := l1.out _ h; have h2 := l2.out _ h'; omega
          have HN := Lib.hid (And.intro (And.intro hAW (And.intro hBW hAB)) (And.intro (And.intro nA1 (And.intro nA2 (And.intro nB1 nB2))) nrc))
          clear hAB hAW hBW nA1 nA2 nB1 nB2 nrc hs0 hz1 hz2 hz3 hz4
          refine any_one (i := 6) (by kernel_rfl) rfl ?_
          intro K hK
          have f8 := blk_free e8 0
          have z8 := blk_cell e8 0 (.slice none 0 0) rfl
          have g8 := Lib.hid (blk_set e8 0 (.slice ra n n))
          have g9 := Lib.hid (blk_set_other (g := A) e9 0 (.slice ra n n) (Ne.symm HN.out.1.2.2))
          have p1 := Lib.hid (own_setOther o1 A 0 (.slice ra n n) (own_ne o1 e8 (by decide)))
          have p2 := Lib.hid (own_setOther o2 A 0 (.slice ra n n) (own_ne o2 e8 (by decide)))
          have hb5 := hb4.setCell (p := ⟨A, 0, none⟩) HN.out.1.1 (.slice ra n n)
          clear e9 o1 o2
          go_wp2
          refine hK _ _ (fun _ => ⟨⟨_, hb5⟩, rfl⟩) ?_
          clear hK f8 e8 z8
          have e8 := g8.out
          have e9 := g9.out
          have o1 := p1.out
          have o2 := p2.out
          clear g8 g9 p1 p2
          generalize hV : v4.setCell ⟨A, 0, none⟩ (.slice ra n n) = v5 at *
          clear hV
          refine any_one (i := 7) (by kernel_rfl) rfl ?_
          intro K hK
          have f9 := blk_free e9 0
          have z9 := blk_cell e9 0 (.slice none 0 0) rfl
          have g9 := Lib.hid (blk_set e9 0 (.slice ca cl cl))
          have g8 := Lib.hid (blk_set_other (g := Bc) e8 0 (.slice ca cl cl) HN.out.1.2.2)
          have p1 := Lib.hid (own_setOther o1 Bc 0 (.slice ca cl cl) (own_ne o1 e9 (by decide)))
          have p2 := Lib.hid (own_setOther o2 Bc 0 (.slice ca cl cl) (own_ne o2 e9 (by decide)))
          have hb6 := hb5.setCell (p := ⟨Bc, 0, none⟩) HN.out.1.2.1 (.slice ca cl cl)
          clear e8 o1 o2
          go_wp2
          refine hK _ _ (fun h => absurd rfl h) ?_
          clear hK f9 e9 z9
          refine any_end (by kernel_rfl) ?_
          generalize hV : v5.setCell ⟨Bc, 0, none⟩ (.slice ca cl cl) = v6 at *
          clear hV
          exact TAIL A Bc ra rc ca cd v6 ⟨g8.out, g9.out, p1.out, p2.out, hb6, HN.out.1, HN.out.2.1, HN.out.2.2⟩
        · intro K hK
          go_wp2
          have hbb := below_alloc v2 (.cells #[.slice none 0 0] 38)
          have e8 := heap_alloc_new v2 (.cells #[.slice none 0 0] 38)
          have o1 := own_below o1 hbb
          have e9 := blk_below e9 hbb
          have hb3 := below_tr' hb2 hbb
          have hz3 : v2.heap.size + 1 ≤ (v2.alloc (.cells #[.slice none 0 0] 38)).heap.size := by simp
          refine hK _ _ (fun _ => ⟨⟨_, hb3⟩, rfl⟩) ?_
          clear hK hbb
          generalize hV : v2.alloc (.cells #[.slice none 0 0] 38) = v3 at *
          clear hV
          obtain ⟨A, hA⟩ : ∃ A, A = v2.heap.size := ⟨_, rfl⟩
          simp only [← hA] at e8 ⊢
          have HA := Lib.hid hA
          clear hA
          refine any_one (i := 3) (by kernel_rfl) rfl ?_
          intro K hK
          have CC := HX2.out v3 hb3
          go_wp2_with fail
          refine CC.mono ?_
          rintro e v4 ⟨ca, cd, rfl, o2, hbb⟩
          clear CC
          have l2 := Lib.hid (own_blks o2)
          have o2 := own_mono o2 hb3.size
          have o1 := own_below o1 hbb
          have e8 := blk_below e8 hbb
          have e9 := blk_below e9 hbb
          have hb4 := below_tr' hb3 hbb
          have hz4 := hbb.size
          clear hbb
          go_wp2
          refine hK _ _ (fun _ => ⟨⟨_, hb4⟩, rfl⟩) ?_
          clear hK
          have hs0 := hb0.size
          have hAB : A ≠ Bc := by have h1 := HA.out; have h2 := HBc.out; omega
          have hAW : W.heap.size ≤ A := by have h1 := HA.out; omega
          have hBW : W.heap.size ≤ Bc := by have h1 := HBc.out; omega
          have nA1 : A ∉ blks ra := fun h => by have h1 := HA.out; have h2 := l1.out _ h; omega
          have nA2 : A ∉ blks ca := fun h => by have h1 := HA.out; have h2 := l2.out _ h; omega
          have nB1 : Bc ∉ blks ra := fun h => by have h1 := HBc.out; have h2 := l1.out _ h; omega
          have nB2 : Bc ∉ blks ca := fun h => by have h1 := HBc.out; have h2 := l2.out _ h; omega
          have nrc : ∀ i ∈ blks ra, i ∉ blks ca := fun i h h' => by have h1 := l1.out _ h; have h2 := l2.out _ h'; omega
          have HN := Lib.hid (And.intro (And.intro hAW (And.intro hBW hAB)) (And.intro (And.intro nA1 (And.intro nA2 (And.intro nB1 nB2))) nrc))
          clear hAB hAW hBW nA1 nA2 nB1 nB2 nrc hs0 hz1 hz2 hz3 hz4
          refine any_one (i := 6) (by kernel_rfl) rfl ?_
          intro K hK
          have f8 := blk_free e8 0
          have z8 := blk_cell e8 0 (.slice none 0 0) rfl
          have g8 := Lib.hid (blk_set e8 0 (.slice ra n n))
          have g9 := Lib.hid (blk_set_other (g := A) e9 0 (.slice ra n n) (Ne.symm HN.out.1.2.2))
          have p1 := Lib.hid (own_setOther o1 A 0 (.slice ra n n) (own_ne o1 e8 (by decide)))
          have p2 := Lib.hid (own_setOther o2 A 0 (.slice ra n n) (own_ne o2 e8 (by decide)))
          have hb5 := hb4.setCell (p := ⟨A, 0, none⟩) HN.out.1.1 (.slice ra n n)
          clear e9 o1 o2
          go_wp2
          refine hK _ _ (fun _ => ⟨⟨_, hb5⟩, rfl⟩) ?_
          clear hK f8 e8 z8
          have e8 := g8.out
          have e9 := g9.out
          have o1 := p1.out
          have o2 := p2.out
          clear g8 g9 p1 p2
          generalize hV : v4.setCell ⟨A, 0, none⟩ (.slice ra n n) = v5 at *
          clear hV
          refine any_one (i := 7) (by kernel_rfl) rfl ?_
          intro K hK
          have f9 := blk_free e9 0
          have z9 := blk_cell e9 0 (.slice none 0 0) rfl
          have g9 := Lib.hid (blk_set e9 0 (.slice ca cl cl))
          have g8 := Lib.hid (blk_set_other (g := Bc) e8 0 (.slice ca cl cl) HN.out.1.2.2)
          have p1 := Lib.hid (own_setOther o1 Bc 0 (.slice ca cl cl) (own_ne o1 e9 (by decide)))
          have p2 := Lib.hid (own_setOther o2 Bc 0 (.slice ca cl cl) (own_ne o2 e9 (by decide)))
          have hb6 := hb5.setCell (p := ⟨Bc, 0, none⟩) HN.out.1.2.1 (.slice ca cl cl)
          clear e8 o1 o2
          go_wp2
          refine hK _ _ (fun h => absurd rfl h) ?_
          clear hK f9 e9 z9
          refine any_end (by kernel_rfl) ?_
          generalize hV : v5.setCell ⟨Bc, 0, none⟩ (.slice ca cl cl) = v6 at *
          clear hV
          exact TAIL A Bc ra rc ca cd v6 ⟨g8.out, g9.out, p1.out, p2.out, hb6, HN.out.1, HN.out.2.1, HN.out.2.2⟩
    · intro K hK
      go_wp2
      have hbb := below_alloc v0 (.cells #[.slice none 0 0] 38)
      have e8 := heap_alloc_new v0 (.cells #[.slice none 0 0] 38)
      have hb1 := below_tr' hb0 hbb
      have hz1 : v0.heap.size + 1 ≤ (v0.alloc (.cells #[.slice none 0 0] 38)).heap.size := by simp
      refine hK _ _ (fun _ => ⟨⟨_, hb1⟩, rfl⟩) ?_
      clear hK hbb
      generalize hV : v0.alloc (.cells #[.slice none 0 0] 38) = v1 at *
      clear hV
      obtain ⟨A, hA⟩ : ∃ A, A = v0.heap.size := ⟨_, rfl⟩
      simp only [← hA] at e8 ⊢
      have HA := Lib.hid hA
      clear hA
      refine any_two (i := 1) (j := 5) (by kernel_rfl) rfl rfl ?_ ?_
      · intro K hK
        have CC := HX1.out v1 hb1
        go_wp2_with fail
        refine CC.mono ?_
        rintro e v2 ⟨ra, rc, rfl, o1, hbb⟩
        clear CC
        have l1 := Lib.hid (own_blks o1)
        have o1 := own_mono o1 hb1.size
        have e8 := blk_below e8 hbb
        have hb2 := below_tr' hb1 hbb
        have hz2 := hbb.size
        clear hbb
        go_wp2
        refine hK _ _ (fun _ => ⟨⟨_, hb2⟩, rfl⟩) ?_
        clear hK
        refine any_two (i := 3) (j := 5) (by kernel_rfl) rfl rfl ?_ ?_
        · intro K hK
          have CC := HX2.out v2 hb2
          go_wp2_with fail
          refine CC.mono ?_
          rintro e v3 ⟨ca, cd, rfl, o2, hbb⟩
          clear CC
          have l2 := Lib.hid (own_blks o2)
          have o2 := own_mono o2 hb2.size
          have o1 := own_below o1 hbb
          have e8 := blk_below e8 hbb
          have hb3 := below_tr' hb2 hbb
          have hz3 := hbb.size
          clear hbb
          go_wp2
          refine hK _ _ (fun _ => ⟨⟨_, hb3⟩, rfl⟩) ?_
          clear hK
          refine any_one (i := 5) (by kernel_rfl) rfl ?_
          intro K hK
          go_wp2
          have hbb := below_alloc v3 (.cells #[.slice none 0 0] 38)
          have e9 := heap_alloc_new v3 (.cells #[.slice none 0 0] 38)
          have o1 := own_below o1 hbb
          have o2 := own_below o2 hbb
          have e8 := blk_below e8 hbb
          have hb4 := below_tr' hb3 hbb
          have hz4 : v3.heap.size + 1 ≤ (v3.alloc (.cells #[.slice none 0 0] 38)).heap.size := by simp
          refine hK _ _ (fun _ => ⟨⟨_, hb4⟩, rfl⟩) ?_
          clear hK hbb
          generalize hV : v3.alloc (.cells #[.slice none 0 0] 38) = v4 at *
          clear hV
          obtain ⟨Bc, hA⟩ : ∃ A, A = v3.heap.size := ⟨_, rfl⟩
          simp only [← hA] at e9 ⊢
          have HBc := Lib.hid hA
          clear hA
          have hs0 := hb0.size
          have hAB : A ≠ Bc := by have h1 := HA.out; have h2 := HBc.out; omega
          have hAW : W.heap.size ≤ A := by have h1 := HA.out; omega
          have hBW : W.heap.size ≤ Bc := by have h1 := HBc.out; omega
          have nA1 : A ∉ blks ra := fun h => by have h1 := HA.out; have h2 := l1.out _ h; omega
          have nA2 : A ∉ blks ca := fun h => by have h1 := HA.out; have h2 := l2.out _ h; omega
          have nB1 : Bc ∉ blks ra := fun h => by have h1 := HBc.out; have h2 := l1.out _ h; omega
          have nB2 : Bc ∉ blks ca := fun h => by have h1 := HBc.out; have h2 := l2.out _ h; omega
          have nrc : ∀ i ∈ blks ra, i ∉ blks ca := fun i h h' => by have h1 := l1.out _ h; have h2 := l2.out _ h'; omega
          have HN := Lib.hid (And.intro (And.intro hAW (And.intro hBW hAB)) (And.intro (And.intro nA1 (And.intro nA2 (And.intro nB1 nB2))) nrc))
          clear hAB hAW hBW nA1 nA2 nB1 nB2 nrc hs0 hz1 hz2 hz3 hz4
          refine any_one (i := 6) (by kernel_rfl) rfl ?_
          intro K hK
          have f8 := blk_free e8 0
          have z8 := blk_cell e8 0 (.slice none 0 0) rfl
          have g8 := Lib.hid (blk_set e8 0 (.slice ra n n))
          have g9 := Lib.hid (blk_set_other (g := A) e9 0 (.slice ra n n) (Ne.symm HN.out.1.2.2))
          have p1 := Lib.hid (own_setOther o1 A 0 (.slice ra n n) (own_ne o1 e8 (by decide)))
          have p2 := Lib.hid (own_setOther o2 A 0 (.slice ra n n) (own_ne o2 e8 (by decide)))
          have hb5 := hb4.setCell (p := ⟨A, 0, none⟩) HN.out.1.1 (.slice ra n n)
          clear e9 o1 o2
          go_wp2
          refine hK _ _ (fun _ => ⟨⟨_, hb5⟩, rfl⟩) ?_
          clear hK f8 e8 z8
          have e8 := g8.out
          have e9 := g9.out
          have o1 := p1.out
          have o2 := p2.out
          clear g8 g9 p1 p2
          generalize hV : v4.setCell ⟨A, 0, none⟩ (.slice ra n n) = v5 at *
          clear hV
          refine any_one (i := 7) (by kernel_rfl) rfl ?_
          intro K hK
          have f9 := blk_free e9 0
          have z9 := blk_cell e9 0 (.slice none 0 0) rfl
          have g9 := Lib.hid (blk_set e9 0 (.slice ca cl cl))
          have g8 := Lib.hid (blk_set_other (g := Bc) e8 0 (.slice ca cl cl) HN.out.1.2.2)
          have p1 := Lib.hid (own_setOther o1 Bc 0 (.slice ca cl cl) (own_ne o1 e9 (by decide)))
          have p2 := Lib.hid (own_setOther o2 Bc 0 (.slice ca cl cl) (own_ne o2 e9 (by decide)))
          have hb6 := hb5.setCell (p := ⟨Bc, 0, none⟩) HN.out.1.2.1 (.slice ca cl cl)
          clear e8 o1 o2
          go_wp2
          refine hK _ _ (fun h => absurd rfl h) ?_
          clear hK f9 e9 z9
          refine any_end (by kernel_rfl) ?_
          generalize hV : v5.setCell ⟨Bc, 0, none⟩ (.slice ca cl cl) = v6 at *
          clear hV
          exact TAIL A Bc ra rc ca cd v6 ⟨g8.out, g9.out, p1.out, p2.out, hb6, HN.out.1, HN.out.2.1, HN.out.2.2⟩
        · intro K hK
          go_wp2
          have hbb := below_alloc v2 (.cells #[.slice none 0 0] 38)
          have e9 := heap_alloc_new v2 (.cells #[.slice none 0 0] 38)
          have o1 := own_below o1 hbb
          have e8 := blk_below e8 hbb
          have hb3 := below_tr' hb2 hbb
          have hz3 : v2.heap.size + 1 ≤ (v2.alloc (.cells #[.slice none 0 0] 38)).heap.size := by simp
          refine hK _ _ (fun _ => ⟨⟨_, hb3⟩, rfl⟩) ?_
          clear hK hbb
          generalize hV : v2.alloc (.cells #[.slice none 0 0] 38) = v3 at *
          clear hV
          obtain ⟨Bc, hA⟩ : ∃ A, A = v2.heap.size := ⟨_, rfl⟩
          simp only [← hA] at e9 ⊢
          have HBc := Lib.hid hA
          clear hA
          refine any_one (i := 3) (by kernel_rfl) rfl ?_
          intro K hK
          have CC := HX2.out v3 hb3
          go_wp2_with fail
          refine CC.mono ?_
          rintro e v4 ⟨ca, cd, rfl, o2, hbb⟩
          clear CC
          have l2 := Lib.hid (own_blks o2)
          have o2 := own_mono o2 hb3.size
          have o1 := own_below o1 hbb
          have e8 := blk_below e8 hbb
          have e9 := blk_below e9 hbb
          have hb4 := below_tr' hb3 hbb
          have hz4 := hbb.size
          clear hbb
          go_wp2
          refine hK _ _ (fun _ => ⟨⟨_, hb4⟩, rfl⟩) ?_
          clear hK
          have hs0 := hb0.size
          have hAB : A ≠ Bc := by have h1 := HA.out; have h2 := HBc.out; omega
          have hAW : W.heap.size ≤ A := by have h1 := HA.out; omega
          have hBW : W.heap.size ≤ Bc := by have h1 := HBc.out; omega
          have nA1 : A ∉ blks ra := fun h => by have h1 := HA.out; have h2 := l1.out _ h; omega
          have nA2 : A ∉ blks ca := fun h => by have h1 := HA.out; have h2 := l2.out _ h; omega
          have nB1 : Bc ∉ blks ra := fun h => by have h1 := HBc.out; have h2 := l1.out _ h; omega
          have nB2 : Bc ∉ blks ca := fun h => by have h1 := HBc.out; have h2 := l2.out _ h; omega
          have nrc : ∀ i ∈ blks ra, i ∉ blks ca := fun i h h' => by have h1 := l1.out _ h; have h2 := l2.out _ h'; omega
          have HN := Lib.hid (And.intro (And.intro hAW (And.intro hBW hAB)) (And.intro (And.intro nA1 (And.intro nA2 (And.intro nB1 nB2))) nrc))
          clear hAB hAW hBW nA1 nA2 nB1 nB2 nrc hs0 hz1 hz2 hz3 hz4
          refine any_one (i := 6) (by kernel_rfl) rfl ?_
          intro K hK
          have f8 := blk_free e8 0
          have z8 := blk_cell e8 0 (.slice none 0 0) rfl
          have g8 := Lib.hid (blk_set e8 0 (.slice ra n n))
          have g9 := Lib.hid (blk_set_other (g := A) e9 0 (.slice ra n n) (Ne.symm HN.out.1.2.2))
          have p1 := Lib.hid (own_setOther o1 A 0 (.slice ra n n) (own_ne o1 e8 (by decide)))
          have p2 := Lib.hid (own_setOther o2 A 0 (.slice ra n n) (own_ne o2 e8 (by decide)))
          have hb5 := hb4.setCell (p := ⟨A, 0, none⟩) HN.out.1.1 (.slice ra n n)
          clear e9 o1 o2
          go_wp2
          refine hK _ _ (fun _ => ⟨⟨_, hb5⟩, rfl⟩) ?_
          clear hK f8 e8 z8
          have e8 := g8.out
          have e9 := g9.out
          have o1 := p1.out
          have o2 := p2.out
          clear g8 g9 p1 p2
          generalize hV : v4.setCell ⟨A, 0, none⟩ (.slice ra n n) = v5 at *
          clear hV
          refine any_one (i := 7) (by kernel_rfl) rfl ?_
          intro K hK
          have f9 := blk_free e9 0
          have z9 := blk_cell e9 0 (.slice none 0 0) rfl
          have g9 := Lib.hid (blk_set e9 0 (.slice ca cl cl))
          have g8 := Lib.hid (blk_set_other (g := Bc) e8 0 (.slice ca cl cl) HN.out.1.2.2)
          have p1 := Lib.hid (own_setOther o1 Bc 0 (.slice ca cl cl) (own_ne o1 e9 (by decide)))
          have p2 := Lib.hid (own_setOther o2 Bc 0 (.slice ca cl cl) (own_ne o2 e9 (by decide)))
          have hb6 := hb5.setCell (p := ⟨Bc, 0, none⟩) HN.out.1.2.1 (.slice ca cl cl)
          clear e8 o1 o2
          go_wp2
          refine hK _ _ (fun h => absurd rfl h) ?_
          clear hK f9 e9 z9
          refine any_end (by kernel_rfl) ?_
          generalize hV : v5.setCell ⟨Bc, 0, none⟩ (.slice ca cl cl) = v6 at *
          clear hV
          exact TAIL A Bc ra rc ca cd v6 ⟨g8.out, g9.out, p1.out, p2.out, hb6, HN.out.1, HN.out.2.1, HN.out.2.2⟩
      · intro K hK
        go_wp2
        have hbb := below_alloc v1 (.cells #[.slice none 0 0] 38)
        have e9 := heap_alloc_new v1 (.cells #[.slice none 0 0] 38)
        have e8 := blk_below e8 hbb
        have hb2 := below_tr' hb1 hbb
        have hz2 : v1.heap.size + 1 ≤ (v1.alloc (.cells #[.slice none 0 0] 38)).heap.size := by simp
        refine hK _ _ (fun _ => ⟨⟨_, hb2⟩, rfl⟩) ?_
        clear hK hbb
        generalize hV : v1.alloc (.cells #[.slice none 0 0] 38) = v2 at *
        clear hV
        obtain ⟨Bc, hA⟩ : ∃ A, A = v1.heap.size := ⟨_, rfl⟩
        simp only [← hA] at e9 ⊢
        have HBc := Lib.hid hA
        clear hA
        refine any_one (i := 1) (by kernel_rfl) rfl ?_
        intro K hK
        have CC := HX1.out v2 hb2
        go_wp2_with fail
        refine CC.mono ?_
        rintro e v3 ⟨ra, rc, rfl, o1, hbb⟩
        clear CC
        have l1 := Lib.hid (own_blks o1)
        have o1 := own_mono o1 hb2.size
        have e8 := blk_below e8 hbb
        have e9 := blk_below e9 hbb
        have hb3 := below_tr' hb2 hbb
        have hz3 := hbb.size
        clear hbb
        go_wp2
        refine hK _ _ (fun _ => ⟨⟨_, hb3⟩, rfl⟩) ?_
        clear hK
        refine any_one (i := 3) (by kernel_rfl) rfl ?_
        intro K hK
        have CC := HX2.out v3 hb3
        go_wp2_with fail
        refine CC.mono ?_
        rintro e v4 ⟨ca, cd, rfl, o2, hbb⟩
        clear CC
        have l2 := Lib.hid (own_blks o2)
        have o2 := own_mono o2 hb3.size
        have o1 := own_below o1 hbb
        have e8 := blk_below e8 hbb
        have e9 := blk_below e9 hbb
        have hb4 := below_tr' hb3 hbb
        have hz4 := hbb.size
        clear hbb
        go_wp2
        refine hK _ _ (fun _ => ⟨⟨_, hb4⟩, rfl⟩) ?_
        clear hK
        have hs0 := hb0.size
        have hAB : A ≠ Bc := by have h1 := HA.out; have h2 := HBc.out; omega
        have hAW : W.heap.size ≤ A := by have h1 := HA.out; omega
        have hBW : W.heap.size ≤ Bc := by have h1 := HBc.out; omega
        have nA1 : A ∉ blks ra := fun h => by have h1 := HA.out; have h2 := l1.out _ h; omega
        have nA2 : A ∉ blks ca := fun h => by have h1 := HA.out; have h2 := l2.out _ h; omega
        have nB1 : Bc ∉ blks ra := fun h => by have h1 := HBc.out; have h2 := l1.out _ h; omega
        have nB2 : Bc ∉ blks ca := fun h => by have h1 := HBc.out; have h2 := l2.out _ h; omega
        have nrc : ∀ i ∈ blks ra, i ∉ blks ca := fun i h h' => by have h1 := l1.out _ h; have h2 := l2.out _ h'; omega
        have HN := Lib.hid (And.intro (And.intro hAW (And.intro hBW hAB)) (And.intro (And.intro nA1 (And.intro nA2 (And.intro nB1 nB2))) nrc))
        clear hAB hAW hBW nA1 nA2 nB1 nB2 nrc hs0 hz1 hz2 hz3 hz4
        refine any_one (i := 6) (by kernel_rfl) rfl ?_
        intro K hK
        have f8 := blk_free e8 0
        have z8 := blk_cell e8 0 (.slice none 0 0) rfl
        have g8 := Lib.hid (blk_set e8 0 (.slice ra n n))
        have g9 := Lib.hid (blk_set_other (g := A) e9 0 (.slice ra n n) (Ne.symm HN.out.1.2.2))
        have p1 := Lib.hid (own_setOther o1 A 0 (.slice ra n n) (own_ne o1 e8 (by decide)))
        have p2 := Lib.hid (own_setOther o2 A 0 (.slice ra n n) (own_ne o2 e8 (by decide)))
        have hb5 := hb4.setCell (p := ⟨A, 0, none⟩) HN.out.1.1 (.slice ra n n)
        clear e9 o1 o2
        go_wp2
        refine hK _ _ (fun _ => ⟨⟨_, hb5⟩, rfl⟩) ?_
        clear hK f8 e8 z8
        have e8 := g8.out
        have e9 := g9.out
        have o1 := p1.out
        have o2 := p2.out
        clear g8 g9 p1 p2
        generalize hV : v4.setCell ⟨A, 0, none⟩ (.slice ra n n) = v5 at *
        clear hV
        refine any_one (i := 7) (by kernel_rfl) rfl ?_
        intro K hK
        have f9 := blk_free e9 0
        have z9 := blk_cell e9 0 (.slice none 0 0) rfl
        have g9 := Lib.hid (blk_set e9 0 (.slice ca cl cl))
        have g8 := Lib.hid (blk_set_other (g := Bc) e8 0 (.slice ca cl cl) HN.out.1.2.2)
        have p1 := Lib.hid (own_setOther o1 Bc 0 (.slice ca cl cl) (own_ne o1 e9 (by decide)))
        have p2 := Lib.hid (own_setOther o2 Bc 0 (.slice ca cl cl) (own_ne o2 e9 (by decide)))
        have hb6 := hb5.setCell (p := ⟨Bc, 0, none⟩) HN.out.1.2.1 (.slice ca cl cl)
        clear e8 o1 o2
        go_wp2
        refine hK _ _ (fun h => absurd rfl h) ?_
        clear hK f9 e9 z9
        refine any_end (by kernel_rfl) ?_
        generalize hV : v5.setCell ⟨Bc, 0, none⟩ (.slice ca cl cl) = v6 at *
        clear hV
        exact TAIL A Bc ra rc ca cd v6 ⟨g8.out, g9.out, p1.out, p2.out, hb6, HN.out.1, HN.out.2.1, HN.out.2.2⟩
    · intro K hK
      go_wp2
      have hbb := below_alloc v0 (.cells #[.slice none 0 0] 38)
      have e9 := heap_alloc_new v0 (.cells #[.slice none 0 0] 38)
      have hb1 := below_tr' hb0 hbb
      have hz1 : v0.heap.size + 1 ≤ (v0.alloc (.cells #[.slice none 0 0] 38)).heap.size := by simp
      refine hK _ _ (fun _ => ⟨⟨_, hb1⟩, rfl⟩) ?_
      clear hK hbb
      generalize hV : v0.alloc (.cells #[.slice none 0 0] 38) = v1 at *
      clear hV
      obtain ⟨Bc, hA⟩ : ∃ A, A = v0.heap.size := ⟨_, rfl⟩
      simp only [← hA] at e9 ⊢
      have HBc := Lib.hid hA
      clear hA
      refine any_two (i := 1) (j := 4) (by kernel_rfl) rfl rfl ?_ ?_
      · intro K hK
        have CC := HX1.out v1 hb1
        go_wp2_with fail
        refine CC.mono ?_
        rintro e v2 ⟨ra, rc, rfl, o1, hbb⟩
        clear CC
        have l1 := Lib.hid (own_blks o1)
        have o1 := own_mono o1 hb1.size
        have e9 := blk_below e9 hbb
        have hb2 := below_tr' hb1 hbb
        have hz2 := hbb.size
        clear hbb
        go_wp2
        refine hK _ _ (fun _ => ⟨⟨_, hb2⟩, rfl⟩) ?_
        clear hK
        refine any_two (i := 3) (j := 4) (by kernel_rfl) rfl rfl ?_ ?_
        · intro K hK
          have CC := HX2.out v2 hb2
          go_wp2_with fail
          refine CC.mono ?_
          rintro e v3 ⟨ca, cd, rfl, o2, hbb⟩
          clear CC
          have l2 := Lib.hid (own_blks o2)
          have o2 := own_mono o2 hb2.size
          have o1 := own_below o1 hbb
          have e9 := blk_below e9 hbb
          have hb3 := below_tr' hb2 hbb
          have hz3 := hbb.size
          clear hbb
          go_wp2
          refine hK _ _ (fun _ => ⟨⟨_, hb3⟩, rfl⟩) ?_
          clear hK
          refine any_one (i := 4) (by kernel_rfl) rfl ?_
          intro K hK
          go_wp2
          have hbb := below_alloc v3 (.cells #[.slice none 0 0] 38)
          have e8 := heap_alloc_new v3 (.cells #[.slice none 0 0] 38)
          have o1 := own_below o1 hbb
          have o2 := own_below o2 hbb
          have e9 := blk_below e9 hbb
          have hb4 := below_tr' hb3 hbb
          have hz4 : v3.heap.size + 1 ≤ (v3.alloc (.cells #[.slice none 0 0] 38)).heap.size := by simp
          refine hK _ _ (fun _ => ⟨⟨_, hb4⟩, rfl⟩) ?_
          clear hK hbb
          generalize hV : v3.alloc (.cells #[.slice none 0 0] 38) = v4 at *
          clear hV
          obtain ⟨A, hA⟩ : ∃ A, A = v3.heap.size := ⟨_, rfl⟩
          simp only [← hA] at e8 ⊢
          have HA := Lib.hid hA
          clear hA
          have hs0 := hb0.size
          have hAB : A ≠ Bc := by have h1 := HA.out; have h2 := HBc.out; omega
          have hAW : W.heap.size ≤ A := by have h1 := HA.out; omega
          have hBW : W.heap.size ≤ Bc := by have h1 := HBc.out; omega
          have nA1 : A ∉ blks ra := fun h => by have h1 := HA.out; have h2 := l1.out _ h; omega
          have nA2 : A ∉ blks ca := fun h => by have h1 := HA.out; have h2 := l2.out _ h; omega
          have nB1 : Bc ∉ blks ra := fun h => by have h1 := HBc.out; have h2 := l1.out _ h; omega
          have nB2 : Bc ∉ blks ca := fun h => by have h1 := HBc.out; have h2 := l2.out _ h; omega
          have nrc : ∀ i ∈ blks ra, i ∉ blks ca := fun i h h' => by have h1 := l1.out _ h; have h2 := l2.out _ h'; omega
          have HN := Lib.hid (And.intro (And.intro hAW (And.intro hBW hAB)) (And.intro (And.intro nA1 (And.intro nA2 (And.intro nB1 nB2))) nrc))
          clear hAB hAW hBW nA1 nA2 nB1 nB2 nrc hs0 hz1 hz2 hz3 hz4
          refine any_one (i := 6) (by kernel_rfl) rfl ?_
          intro K hK
          have f8 := blk_free e8 0
          have z8 := blk_cell e8 0 (.slice none 0 0) rfl
          have g8 := Lib.hid (blk_set e8 0 (.slice ra n n))
          have g9 := Lib.hid (blk_set_other (g := A) e9 0 (.slice ra n n) (Ne.symm HN.out.1.2.2))
          have p1 := Lib.hid (own_setOther o1 A 0 (.slice ra n n) (own_ne o1 e8 (by decide)))
          have p2 := Lib.hid (own_setOther o2 A 0 (.slice ra n n) (own_ne o2 e8 (by decide)))
          have hb5 := hb4.setCell (p := ⟨A, 0, none⟩) HN.out.1.1 (.slice ra n n)
          clear e9 o1 o2
          go_wp2
          refine hK _ _ (fun _ => ⟨⟨_, hb5⟩, rfl⟩) ?_
          clear hK f8 e8 z8
          have e8 := g8.out
          have e9 := g9.out
          have o1 := p1.out
          have o2 := p2.out
          clear g8 g9 p1 p2
          generalize hV : v4.setCell ⟨A, 0, none⟩ (.slice ra n n) = v5 at *
          clear hV
          refine any_one (i := 7) (by kernel_rfl) rfl ?_
          intro K hK
          have f9 := blk_free e9 0
          have z9 := blk_cell e9 0 (.slice none 0 0) rfl
          have g9 := Lib.hid (blk_set e9 0 (.slice ca cl cl))
          have g8 := Lib.hid (blk_set_other (g := Bc) e8 0 (.slice ca cl cl) HN.out.1.2.2)
          have p1 := Lib.hid (own_setOther o1 Bc 0 (.slice ca cl cl) (own_ne o1 e9 (by decide)))
          have p2 := Lib.hid (own_setOther o2 Bc 0 (.slice ca cl cl) (own_ne o2 e9 (by decide)))
          have hb6 := hb5.setCell (p := ⟨Bc, 0, none⟩) HN.out.1.2.1 (.slice ca cl cl)
          clear e8 o1 o2
          go_wp2
          refine hK _ _ (fun h => absurd rfl h) ?_
          clear hK f9 e9 z9
          refine any_end (by kernel_rfl) ?_
          generalize hV : v5.setCell ⟨Bc, 0, none⟩ (.slice ca cl cl) = v6 at *
          clear hV
          exact TAIL A Bc ra rc ca cd v6 ⟨g8.out, g9.out, p1.out, p2.out, hb6, HN.out.1, HN.out.2.1, HN.out.2.2⟩
        · intro K hK
          go_wp2
          have hbb := below_alloc v2 (.cells #[.slice none 0 0] 38)
          have e8 := heap_alloc_new v2 (.cells #[.slice none 0 0] 38)
          have o1 := own_below o1 hbb
          have e9 := blk_below e9 hbb
          have hb3 := below_tr' hb2 hbb
          have hz3 : v2.heap.size + 1 ≤ (v2.alloc (.cells #[.slice none 0 0] 38)).heap.size := by simp
          refine hK _ _ (fun _ => ⟨⟨_, hb3⟩, rfl⟩) ?_
          clear hK hbb
          generalize hV : v2.alloc (.cells #[.slice none 0 0] 38) = v3 at *
          clear hV
          obtain ⟨A, hA⟩ : ∃ A, A = v2.heap.size := ⟨_, rfl⟩
          simp only [← hA] at e8 ⊢
          have HA := Lib.hid hA
          clear hA
          refine any_one (i := 3) (by kernel_rfl) rfl ?_
          intro K hK
          have CC := HX2.out v3 hb3
          go_wp2_with fail
          refine CC.mono ?_
          rintro e v4 ⟨ca, cd, rfl, o2, hbb⟩
          clear CC
          have l2 := Lib.hid (own_blks o2)
          have o2 := own_mono o2 hb3.size
          have o1 := own_below o1 hbb
          have e8 := blk_below e8 hbb
          have e9 := blk_below e9 hbb
          have hb4 := below_tr' hb3 hbb
          have hz4 := hbb.size
          clear hbb
          go_wp2
          refine hK _ _ (fun _ => ⟨⟨_, hb4⟩, rfl⟩) ?_
          clear hK
          have hs0 := hb0.size
          have hAB : A ≠ Bc := by have h1 := HA.out; have h2 := HBc.out; omega
          have hAW : W.heap.size ≤ A := by have h1 := HA.out; omega
          have hBW : W.heap.size ≤ Bc := by have h1 := HBc.out; omega
          have nA1 : A ∉ blks ra := fun h => by have h1 := HA.out; have h2 := l1.out _ h; omega
          have nA2 : A ∉ blks ca := fun h => by have h1 := HA.out; have h2 := l2.out _ h; omega
          have nB1 : Bc ∉ blks ra := fun h => by have h1 := HBc.out; have h2 := l1.out _ h; omega
          have nB2 : Bc ∉ blks ca := fun h => by have h1 := HBc.out; have h2 := l2.out _ h; omega
          have nrc : ∀ i ∈ blks ra, i ∉ blks ca := fun i h h' => by have h1 := l1.out _ h; have h2 := l2.out _ h'; omega
          have HN := Lib.hid (And.intro (And.intro hAW (And.intro hBW hAB)) (And.intro (And.intro nA1 (And.intro nA2 (And.intro nB1 nB2))) nrc))
          clear hAB hAW hBW nA1 nA2 nB1 nB2 nrc hs0 hz1 hz2 hz3 hz4
          refine any_one (i := 6) (by kernel_rfl) rfl ?_
          intro K hK
          have f8 := blk_free e8 0
          have z8 := blk_cell e8 0 (.slice none 0 0) rfl
          have g8 := Lib.hid (blk_set e8 0 (.slice ra n n))
          have g9 := Lib.hid (blk_set_other (g := A) e9 0 (.slice ra n n) (Ne.symm HN.out.1.2.2))
          have p1 := Lib.hid (own_setOther o1 A 0 (.slice ra n n) (own_ne o1 e8 (by decide)))
          have p2 := Lib.hid (own_setOther o2 A 0 (.slice ra n n) (own_ne o2 e8 (by decide)))
          have hb5 := hb4.setCell (p := ⟨A, 0, none⟩) HN.out.1.1 (.slice ra n n)
          clear e9 o1 o2
          go_wp2
          refine hK _ _ (fun _ => ⟨⟨_, hb5⟩, rfl⟩) ?_
          clear hK f8 e8 z8
          have e8 := g8.out
          have e9 := g9.out
          have o1 := p1.out
          have o2 := p2.out
          clear g8 g9 p1 p2
          generalize hV : v4.setCell ⟨A, 0, none⟩ (.slice ra n n) = v5 at *
          clear hV
          refine any_one (i := 7) (by kernel_rfl) rfl ?_
          intro K hK
          have f9 := blk_free e9 0
          have z9 := blk_cell e9 0 (.slice none 0 0) rfl
          have g9 := Lib.hid (blk_set e9 0 (.slice ca cl cl))
          have g8 := Lib.hid (blk_set_other (g := Bc) e8 0 (.slice ca cl cl) HN.out.1.2.2)
          have p1 := Lib.hid (own_setOther o1 Bc 0 (.slice ca cl cl) (own_ne o1 e9 (by decide)))
          have p2 := Lib.hid (own_setOther o2 Bc 0 (.slice ca cl cl) (own_ne o2 e9 (by decide)))
          have hb6 := hb5.setCell (p := ⟨Bc, 0, none⟩) HN.out.1.2.1 (.slice ca cl cl)
          clear e8 o1 o2
          go_wp2
          refine hK _ _ (fun h => absurd rfl h) ?_
          clear hK f9 e9 z9
          refine any_end (by kernel_rfl) ?_
          generalize hV : v5.setCell ⟨Bc, 0, none⟩ (.slice ca cl cl) = v6 at *
          clear hV
          exact TAIL A Bc ra rc ca cd v6 ⟨g8.out, g9.out, p1.out, p2.out, hb6, HN.out.1, HN.out.2.1, HN.out.2.2⟩
      · intro K hK
        go_wp2
        have hbb := below_alloc v1 (.cells #[.slice none 0 0] 38)
        have e8 := heap_alloc_new v1 (.cells #[.slice none 0 0] 38)
        have e9 := blk_below e9 hbb
        have hb2 := below_tr' hb1 hbb
        have hz2 : v1.heap.size + 1 ≤ (v1.alloc (.cells #[.slice none 0 0] 38)).heap.size := by simp
        refine hK _ _ (fun _ => ⟨⟨_, hb2⟩, rfl⟩) ?_
        clear hK hbb
        generalize hV : v1.alloc (.cells #[.slice none 0 0] 38) = v2 at *
        clear hV
        obtain ⟨A, hA⟩ : ∃ A, A = v1.heap.size := ⟨_, rfl⟩
        simp only [← hA] at e8 ⊢
        have HA := Lib.hid hA
        clear hA
        refine any_one (i := 1) (by kernel_rfl) rfl ?_
        intro K hK
        have CC := HX1.out v2 hb2
        go_wp2_with fail
        refine CC.mono ?_
        rintro e v3 ⟨ra, rc, rfl, o1, hbb⟩
        clear CC
        have l1 := Lib.hid (own_blks o1)
        have o1 := own_mono o1 hb2.size
        have e8 := blk_below e8 hbb
        have e9 := blk_below e9 hbb
        have hb3 := below_tr' hb2 hbb
        have hz3 := hbb.size
        clear hbb
        go_wp2
        refine hK _ _ (fun _ => ⟨⟨_, hb3⟩, rfl⟩) ?_
        clear hK
        refine any_one (i := 3) (by kernel_rfl) rfl ?_
        intro K hK
        have CC := HX2.out v3 hb3
        go_wp2_with fail
        refine CC.mono ?_
        rintro e v4 ⟨ca, cd, rfl, o2, hbb⟩
        clear CC
        have l2 := Lib.hid (own_blks o2)
        have o2 := own_mono o2 hb3.size
        have o1 := own_below o1 hbb
        have e8 := blk_below e8 hbb
        have e9 := blk_below e9 hbb
        have hb4 := below_tr' hb3 hbb
        have hz4 := hbb.size
        clear hbb
        go_wp2
        refine hK _ _ (fun _ => ⟨⟨_, hb4⟩, rfl⟩) ?_
        clear hK
        have hs0 := hb0.size
        have hAB : A ≠ Bc := by have h1 := HA.out; have h2 := HBc.out; omega
        have hAW : W.heap.size ≤ A := by have h1 := HA.out; omega
        have hBW : W.heap.size ≤ Bc := by have h1 := HBc.out; omega
        have nA1 : A ∉ blks ra := fun h => by have h1 := HA.out; have h2 := l1.out _ h; omega
        have nA2 : A ∉ blks ca := fun h => by have h1 := HA.out; have h2 := l2.out _ h; omega
        have nB1 : Bc ∉ blks ra := fun h => by have h1 := HBc.out; have h2 := l1.out _ h; omega
        have nB2 : Bc ∉ blks ca := fun h => by have h1 := HBc.out; have h2 := l2.out _ h; omega
        have nrc : ∀ i ∈ blks ra, i ∉ blks ca := fun i h h' => by have h1 := l1.out _ h; have h2 := l2.out _ h'; omega
        have HN := Lib.hid (And.intro (And.intro hAW (And.intro hBW hAB)) (And.intro (And.intro nA1 (And.intro nA2 (And.intro nB1 nB2))) nrc))
        clear hAB hAW hBW nA1 nA2 nB1 nB2 nrc hs0 hz1 hz2 hz3 hz4
        refine any_one (i := 6) (by kernel_rfl) rfl ?_
        intro K hK
        have f8 := blk_free e8 0
        have z8 := blk_cell e8 0 (.slice none 0 0) rfl
        have g8 := Lib.hid (blk_set e8 0 (.slice ra n n))
        have g9 := Lib.hid (blk_set_other (g := A) e9 0 (.slice ra n n) (Ne.symm HN.out.1.2.2))
        have p1 := Lib.hid (own_setOther o1 A 0 (.slice ra n n) (own_ne o1 e8 (by decide)))
        have p2 := Lib.hid (own_setOther o2 A 0 (.slice ra n n) (own_ne o2 e8 (by decide)))
        have hb5 := hb4.setCell (p := ⟨A, 0, none⟩) HN.out.1.1 (.slice ra n n)
        clear e9 o1 o2
        go_wp2
        refine hK _ _ (fun _ => ⟨⟨_, hb5⟩, rfl⟩) ?_
        clear hK f8 e8 z8
        have e8 := g8.out
        have e9 := g9.out
        have o1 := p1.out
        have o2 := p2.out
        clear g8 g9 p1 p2
        generalize hV : v4.setCell ⟨A, 0, none⟩ (.slice ra n n) = v5 at *
        clear hV
        refine any_one (i := 7) (by kernel_rfl) rfl ?_
        intro K hK
        have f9 := blk_free e9 0
        have z9 := blk_cell e9 0 (.slice none 0 0) rfl
        have g9 := Lib.hid (blk_set e9 0 (.slice ca cl cl))
        have g8 := Lib.hid (blk_set_other (g := Bc) e8 0 (.slice ca cl cl) HN.out.1.2.2)
        have p1 := Lib.hid (own_setOther o1 Bc 0 (.slice ca cl cl) (own_ne o1 e9 (by decide)))
        have p2 := Lib.hid (own_setOther o2 Bc 0 (.slice ca cl cl) (own_ne o2 e9 (by decide)))
        have hb6 := hb5.setCell (p := ⟨Bc, 0, none⟩) HN.out.1.2.1 (.slice ca cl cl)
        clear e8 o1 o2
        go_wp2
        refine hK _ _ (fun h => absurd rfl h) ?_
        clear hK f9 e9 z9
        refine any_end (by kernel_rfl) ?_
        generalize hV : v5.setCell ⟨Bc, 0, none⟩ (.slice ca cl cl) = v6 at *
        clear hV
        exact TAIL A Bc ra rc ca cd v6 ⟨g8.out, g9.out, p1.out, p2.out, hb6, HN.out.1, HN.out.2.1, HN.out.2.2⟩
  case tail =>
    rintro A Bc ra rc ca cd V ⟨qA, qB, o1, o2, hbV, ⟨hAW, hBW, hAB⟩, ⟨nA1, nA2, nB1, nB2⟩, nrc⟩
    have hsW := HSW.out
    have hBV := below_tr' HB.out hbV
    have q0 := blk_below Q0.out hbV
    have q1 := blk_below Q1.out hbV
    have q2 := blk_below Q2.out hbV
    have q3 := blk_below Q3.out hbV
    have hsV := hbV.size
    have hA2 := blk_lt qA
    have hB2 := blk_lt qB
    obtain ⟨gR, rfl, hgR1, hgR⟩ := own_head o1 (by omega)
    obtain ⟨gC, rfl, hgC1, hgC⟩ := own_head o2 (by omega)
    simp only [blks, List.mem_singleton] at nA1 nA2 nB1 nB2 nrc
    have hRC : gR ≠ gC := nrc gR rfl
    have CT := table_any n cl 161 #[] (fun _ _ => 0) V (by omega) (by omega) ⟨enters_mzero, fun w' i k _ _ _ => same_below (mzero_any w' i k)⟩
    rw [zero_tbl] at CT
    have t0 := blk_cell q0 0 (.slice ar n cr) rfl
    have t1 := blk_cell q1 0 (.slice ac cl cc) rfl
    have HN := Lib.hid (And.intro hAW (And.intro hBW (And.intro hAB (And.intro nA1 (And.intro nA2 (And.intro nB1 (And.intro nB2 (And.intro hRC (And.intro hgR1 hgC1)))))))))
    have HO := Lib.hid (And.intro o1 o2)
    have HQ := Lib.hid (And.intro q0 (And.intro q1 (And.intro q2 (And.intro q3 (And.intro qA qB)))))
    have HZZ := Lib.hid (And.intro hsW (And.intro hsV (And.intro hA2 (And.intro hB2 (And.intro hgR hgC)))))
    have HBV := Lib.hid hBV
    clear hAW hBW hAB nA1 nA2 nB1 nB2 nrc hRC hgR1 hgC1 o1 o2 q0 q1 q2 q3 qA qB hsW hsV hA2 hB2 hgR hgC hBV
    go_wp2_with fail
    refine CT.mono ?_
    rintro e v2 ⟨rs, rfl, hOM, hbm⟩
    clear CT t0 t1
    have HOM := Lib.hid hOM
    have HBM := Lib.hid hbm
    have hB6 : Below v2.heap.size v2 ((v2.alloc (.cells #[.slice (some ⟨V.heap.size, 0, none⟩) n n] 34)).alloc (.cells #[.nilFunc] 106)) := below_alloc2 v2 _ _
    have q4 : ((v2.alloc (.cells #[.slice (some ⟨V.heap.size, 0, none⟩) n n] 34)).alloc (.cells #[.nilFunc] 106)).heap[v2.heap.size]? = some (.cells #[.slice (some ⟨V.heap.size, 0, none⟩) n n] 34 (0, 0)) := by
      rw [heap_alloc_old _ _ (by simp), heap_alloc_new]
    have q5 : ((v2.alloc (.cells #[.slice (some ⟨V.heap.size, 0, none⟩) n n] 34)).alloc (.cells #[.nilFunc] 106)).heap[v2.heap.size + 1]? = some (.cells #[.nilFunc] 106 (0, 0)) := by
      rw [show v2.heap.size + 1 = (v2.alloc (.cells #[.slice (some ⟨V.heap.size, 0, none⟩) n n] 34)).heap.size from by simp, heap_alloc_new]
    clear hOM hbm
    generalize hW6 : (v2.alloc (.cells #[.slice (some ⟨V.heap.size, 0, none⟩) n n] 34)).alloc (.cells #[.nilFunc] 106) = W6 at *
    have HW6 := Lib.hid hW6
    have z5 := blk_cell q5 0 .nilFunc rfl
    have f5 := blk_free q5 0
    clear hW6
    go_upto_region 5 with (simp only [HW6.out])
    have hB7 : Below v2.heap.size v2 (W6.setCell ⟨v2.heap.size + 1, 0, none⟩ (MP.fn (MP.mk W.heap.size w.heap.size (w.heap.size + 1) A Bc (w.heap.size + 1 + 1 + 1) v2.heap.size (w.heap.size + 1 + 1) (v2.heap.size + 1) n cl K cap KM capM ar cr ac cc gR n rc gC cl cd V.heap.size n rs))) := hB6.setCell (p := ⟨v2.heap.size + 1, 0, none⟩) (by simp) _
    have r4 : (W6.setCell ⟨v2.heap.size + 1, 0, none⟩ (MP.fn (MP.mk W.heap.size w.heap.size (w.heap.size + 1) A Bc (w.heap.size + 1 + 1 + 1) v2.heap.size (w.heap.size + 1 + 1) (v2.heap.size + 1) n cl K cap KM capM ar cr ac cc gR n rc gC cl cd V.heap.size n rs))).heap[v2.heap.size]? = some (.cells #[.slice (some ⟨V.heap.size, 0, none⟩) n n] 34 (0, 0)) := blk_set_other q4 0 _ (by omega)
    have r5 : (W6.setCell ⟨v2.heap.size + 1, 0, none⟩ (MP.fn (MP.mk W.heap.size w.heap.size (w.heap.size + 1) A Bc (w.heap.size + 1 + 1 + 1) v2.heap.size (w.heap.size + 1 + 1) (v2.heap.size + 1) n cl K cap KM capM ar cr ac cc gR n rc gC cl cd V.heap.size n rs))).heap[v2.heap.size + 1]? = some (.cells #[MP.fn (MP.mk W.heap.size w.heap.size (w.heap.size + 1) A Bc (w.heap.size + 1 + 1 + 1) v2.heap.size (w.heap.size + 1 + 1) (v2.heap.size + 1) n cl K cap KM capM ar cr ac cc gR n rc gC cl cd V.heap.size n rs)] 106 (0, 0)) := blk_set q5 0 _
    simp only [MP.fn] at hB7 r4 r5
    generalize hV7 : W6.setCell ⟨v2.heap.size + 1, 0, none⟩ (.func (.func 162) #[] #[.pointer (some ⟨w.heap.size, 0, none⟩), .pointer (some ⟨w.heap.size + 1, 0, none⟩), .pointer (some ⟨A, 0, none⟩), .pointer (some ⟨Bc, 0, none⟩), .pointer (some ⟨w.heap.size + 1 + 1 + 1, 0, none⟩), .pointer (some ⟨v2.heap.size, 0, none⟩), .pointer (some ⟨w.heap.size + 1 + 1, 0, none⟩), .pointer (some ⟨v2.heap.size + 1, 0, none⟩)]) = W7 at *
    clear hV7 q4 q5 z5 f5 hB6 HW6 HW
    obtain ⟨hAW, hBW, hAB, nA1, nA2, nB1, nB2, hRC, hgR1, hgC1⟩ := HN.out
    obtain ⟨o1, o2⟩ := HO.out
    obtain ⟨q0, q1, q2, q3, qA, qB⟩ := HQ.out
    obtain ⟨hsW, hsV, hA2, hB2, hgR, hgC⟩ := HZZ.out
    have hOM := HOM.out
    have hbm := HBM.out
    have hs2 := hbm.size
    have hbl := hOM.blts
    have hVW := below_tr' hbm hB7
    have hwW := below_tr' HBV.out hVW
    have hP : MOK (MP.mk W.heap.size w.heap.size (w.heap.size + 1) A Bc (w.heap.size + 1 + 1 + 1) v2.heap.size (w.heap.size + 1 + 1) (v2.heap.size + 1) n cl K cap KM capM ar cr ac cc gR n rc gC cl cd V.heap.size n rs) := by
      refine ⟨hn.1, hn.2, hc.1, hc.2, ?_, hRC, fun h => ?_, fun h => ?_⟩
      · intro i hi h
        simp only [MP.vars, List.mem_cons, List.not_mem_nil, or_false] at hi
        simp only [MP.data, List.mem_cons] at h
        rcases h with h | h | h
        · rcases hi with hi | hi | hi | hi | hi | hi | hi | hi <;> omega
        · rcases hi with hi | hi | hi | hi | hi | hi | hi | hi <;> omega
        · have h1 := hbl i h
          rcases hi with hi | hi | hi | hi | hi | hi | hi | hi <;> omega
      · have := hbl _ h
        simp only at this; omega
      · have := hbl _ h
        simp only at this; omega
    obtain ⟨zv, zc⟩ := zero_valid hn hc
    have hW7 : MSt (MP.mk W.heap.size w.heap.size (w.heap.size + 1) A Bc (w.heap.size + 1 + 1 + 1) v2.heap.size (w.heap.size + 1 + 1) (v2.heap.size + 1) n cl K cap KM capM ar cr ac cc gR n rc gC cl cd V.heap.size n rs) R C (zeroM n cl) W7 :=
      ⟨blk_below q0 hVW, blk_below q1 hVW, blk_below qA hVW, blk_below qB hVW, blk_below q3 hVW, r4, blk_below q2 hVW, r5, own_below o1 hVW, own_below o2 hVW, (hOM.same (fun i hi => hB7.block i (hbl i hi).2)).mono hsV, zv, zc⟩
    have hS7 := hK.stay _ _ _ _ HS.out (fun j hj => hwW.block j (HLT.out j hj))
    have hsep : SepM (MP.mk W.heap.size w.heap.size (w.heap.size + 1) A Bc (w.heap.size + 1 + 1 + 1) v2.heap.size (w.heap.size + 1 + 1) (v2.heap.size + 1) n cl K cap KM capM ar cr ac cc gR n rc gC cl cd V.heap.size n rs) l := by
      intro j hj
      have h0 := HLT.out j hj
      refine ⟨fun hi => ?_, fun h => ?_⟩
      · simp only [MP.vars, List.mem_cons, List.not_mem_nil, or_false] at hi
        rcases hi with hi | hi | hi | hi | hi | hi | hi | hi <;> omega
      · simp only [MP.data, List.mem_cons] at h
        rcases h with h | h | h
        · omega
        · omega
        · have h1 := hbl j h
          omega
    have hsol := sols_all may (R := R) (C := C) (by rw [HC.out]; omega)
    rw [HR.out, HC.out] at hsol
    have C2 := mwalk_any (P := (MP.mk W.heap.size w.heap.size (w.heap.size + 1) A Bc (w.heap.size + 1 + 1 + 1) v2.heap.size (w.heap.size + 1 + 1) (v2.heap.size + 1) n cl K cap KM capM ar cr ac cc gR n rc gC cl cd V.heap.size n rs)) hK HT.out HMY.out hgo hP (n * cl) R C (zeroM n cl) s l W7 0 (Nat.le_refl _) (by simp) HRB.out HCB.out (by rw [hsol]; exact HM.out) hW7 (fun i j _ h2 h3 => zero_at h2 h3) hS7 hsep
    rw [show (((0 : Nat)) : Int) = 0 from rfl] at C2
    have k6 := blk_cell hW7.hw 0 (MP.fn (MP.mk W.heap.size w.heap.size (w.heap.size + 1) A Bc (w.heap.size + 1 + 1 + 1) v2.heap.size (w.heap.size + 1 + 1) (v2.heap.size + 1) n cl K cap KM capM ar cr ac cc gR n rc gC cl cd V.heap.size n rs)) rfl
    simp only [MP.fn] at k6
    have F7 := Lib.hid (FrL.of_below hwW l)
    have HDD := Lib.hid (show ∀ j ∈ MP.data (MP.mk W.heap.size w.heap.size (w.heap.size + 1) A Bc (w.heap.size + 1 + 1 + 1) v2.heap.size (w.heap.size + 1 + 1) (v2.heap.size + 1) n cl K cap KM capM ar cr ac cc gR n rc gC cl cd V.heap.size n rs), w.heap.size ≤ j from fun j h => by
      simp only [MP.data, List.mem_cons] at h
      rcases h with h | h | h
      · omega
      · omega
      · have h1 := hbl j h
        omega)
    have hgs7 := hwW.size
    have HSOL := Lib.hid hsol
    have hEW : ∀ args w, (callFunc 162 args).run Try.prog w = .ok (.enter 162 args) w := enters_mwalk
    clear hW7 hS7 hsep hP hB7 hVW hwW o1 o2 q0 q1 q2 q3 qA qB r4 r5 hOM hbm hbl hsol zv zc hRC hAB nA1 nA2 nB1 nB2
    go_wp2_with fail
    refine C2.mono ?_
    rintro e' w8 ⟨rfl, l', p1, p2, p3, p4, p5⟩
    rw [walkX_fold] at p2
    simp only at p2
    rw [HSOL.out] at p2
    have HH := Lib.hid (And.intro p2 (And.intro p4 p5))
    generalize (walkX may _ _ go _ R C (zeroM n cl) s).2 = VV at *
    clear p1 p2 p3 p4 p5 C2 k6
    go_wp2
    refine bodyPost_end (v := .tuple #[]) (by simp [results, Try.results94, go_sem]) rfl ?_
    refine ⟨⟨_, rfl⟩, l', HH.out.1, fun j hj => ?_, F7.out.then HH.out.2.2 (fun j hj => ?_)⟩
    · rcases HH.out.2.1 j hj with h1 | h1
      · exact .inl h1
      · right; omega
    · rcases List.mem_append.1 hj with h1 | h1
      · exact .inl h1
      · right; exact HDD.out j h1
end

end Go.Proofs.Ytjghcegacgpehaa
