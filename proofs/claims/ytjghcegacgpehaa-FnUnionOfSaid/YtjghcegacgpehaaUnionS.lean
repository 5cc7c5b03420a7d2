
/- The union of two graphs: the reference's. (Printed by gen_union2.py.) -/
import Derived.Test.YtjghcegacgpehaaIns
import Derived.Test.YtjghcegacgpehaaAppG
namespace Go.Proofs.Ytjghcegacgpehaa
open Go.RowKit

/-- What an owned slice's value is like. -/
theorem own_form {w : World} {B T s n c : Nat} {a : Option Addr} {cs : List Value} (h : w.ownsRow B T s (.slice a n c) n cs) : n ≤ c ∧ c ≤ maxLen ∧ (a = none → n = 0 ∧ c = 0) ∧ ∀ ad, a = some ad → ∃ b off, ad = ⟨b, off, none⟩ := by
  rcases h.2 with ⟨h1, h2⟩ | ⟨g, cap, cur, h1, hB, hg, hn, hc, _⟩
  · cases h1
    exact ⟨by omega, by decide, (fun _ => ⟨rfl, rfl⟩), (fun ad h => by cases h)⟩
  · cases h1
    exact ⟨hn, hc, (fun h => by cases h), (fun ad h => by cases h; exact ⟨_, _, rfl⟩)⟩

set_option maxHeartbeats 4000000 in
theorem specUnionOf_any (Ng : Int) (ag : Option Addr) (cg ng : Nat) (gs : List E2) (Nh : Int) (ah : Option Addr) (ch nh : Nat) (hs : List E2) (w : World) (hng : gs.length = ng) (hxg : Rd w ag (edges gs)) (hlg : ng ≤ 8796093022208) (hnh : hs.length = nh) (hxh : Rd w ah (edges hs)) (hlh : nh ≤ 8796093022208) (hsum : ng + nh ≤ 1048576) (hnilg : ag = none → ng = 0 ∧ cg = 0) :
    Calls Try.prog 21 #[graphV Ng ag ng cg, graphV Nh ah nh ch] w fun e w' => ∃ a' c' d', e = .returned (.tuple #[graphV (uniN Ng gs Nh hs) a' (uniE Ng gs Nh hs).length d', .bool (bothV Ng gs Nh hs)]) ∧
      w'.ownsRow w.heap.size 48 2 (.slice a' (uniE Ng gs Nh hs).length c') (uniE Ng gs Nh hs).length (edges (uniE Ng gs Nh hs)) ∧ Below w.heap.size w w' := by
  have hB := below_tr' (below_alloc2 w (.cells #[.int .i64 Ng, .slice ag ng cg] 25) (.cells #[.int .i64 Nh, .slice ah nh ch] 25)) (below_alloc _ (.cells #[.int .i64 0, .slice none 0 0] 25))
  have qg := blk_below (blk_below (heap_alloc_new w (.cells #[.int .i64 Ng, .slice ag ng cg] 25)) (below_alloc _ (.cells #[.int .i64 Nh, .slice ah nh ch] 25))) (below_alloc _ (.cells #[.int .i64 0, .slice none 0 0] 25))
  have qh := blk_below (heap_alloc_new (w.alloc (.cells #[.int .i64 Ng, .slice ag ng cg] 25)) (.cells #[.int .i64 Nh, .slice ah nh ch] 25)) (below_alloc _ (.cells #[.int .i64 0, .slice none 0 0] 25))
  have q1 := heap_alloc_new ((w.alloc (.cells #[.int .i64 Ng, .slice ag ng cg] 25)).alloc (.cells #[.int .i64 Nh, .slice ah nh ch] 25)) (.cells #[.int .i64 0, .slice none 0 0] 25)
  rw [show (w.alloc (.cells #[.int .i64 Ng, .slice ag ng cg] 25)).heap.size = w.heap.size + 1 from by simp] at qh
  rw [show ((w.alloc (.cells #[.int .i64 Ng, .slice ag ng cg] 25)).alloc (.cells #[.int .i64 Nh, .slice ah nh ch] 25)).heap.size = w.heap.size + 1 + 1 from by simp] at q1
  have hWs : w.heap.size + 1 + 1 < (((w.alloc (.cells #[.int .i64 Ng, .slice ag ng cg] 25)).alloc (.cells #[.int .i64 Nh, .slice ah nh ch] 25)).alloc (.cells #[.int .i64 0, .slice none 0 0] 25)).heap.size := by simp
  generalize hW : ((w.alloc (.cells #[.int .i64 Ng, .slice ag ng cg] 25)).alloc (.cells #[.int .i64 Nh, .slice ah nh ch] 25)).alloc (.cells #[.int .i64 0, .slice none 0 0] 25) = W at *
  have HW := Lib.hid hW
  clear hW
  have xg := hxg.below hB
  have xh := hxh.below hB
  clear hxg hxh
  have Q1 := Lib.hid q1
  have Qg := Lib.hid qg
  have Qh := Lib.hid qh
  have g0 := blk_cell qg 0 (.int .i64 Ng) rfl
  have g1 := blk_cell qg 1 (.slice ag ng cg) rfl
  have C1 := specValidGraph_any Ng ag cg ng gs W hng xg hlg
  clear qg qh q1
  cases hv : validG Ng gs
  · rw [hv] at C1
    have hbo : bothV Ng gs Nh hs = false := by simp [bothV, hv]
    have HV := Lib.hid hbo
    have HR := Lib.hid (show uniE Ng gs Nh hs = [] by simp [uniE, hbo])
    have HRN := Lib.hid (show uniN Ng gs Nh hs = 0 by simp [uniN, hbo])
    clear hbo
    go_enter Try.func21, Try.ntmps21
    go_wp2_with (simp only [HW.out])
    refine C1.mono ?_
    rintro e w1 ⟨rfl, hb⟩
    have hBe := below_tr' hB hb
    have r0 := blk_below Q1.out hb
    clear C1
    have z0 := blk_cell r0 0 (.int .i64 0) rfl
    have z1 := blk_cell r0 1 (.slice none 0 0) rfl
    have f0 := blk_free r0 0
    have f1 := blk_free r0 1
    have SB := Lib.hid ((hBe.setCell (p := ⟨w.heap.size + 1 + 1, 0, none⟩) (by simp <;> omega) (.int .i64 0)).setCell (p := ⟨w.heap.size + 1 + 1, 1, none⟩) (by simp <;> omega) (.slice none 0 0))
    clear r0
    go_wp2
    refine bodyPost_ret (v := .tuple #[graphV 0 none 0 0, .bool false]) (by simp [results, Try.results21, go_sem, z0, z1]) rfl ⟨none, 0, 0, by rw [HR.out, HRN.out, HV.out]; rfl, by rw [HR.out]; exact World.ownsRow_nil _ _ _ _, SB.out⟩
  · rw [hv] at C1
    cases hv2 : validG Nh hs
    · have hbo : bothV Ng gs Nh hs = false := by simp [bothV, hv2]
      have HV := Lib.hid hbo
      have HR := Lib.hid (show uniE Ng gs Nh hs = [] by simp [uniE, hbo])
      have HRN := Lib.hid (show uniN Ng gs Nh hs = 0 by simp [uniN, hbo])
      clear hbo
      go_enter Try.func21, Try.ntmps21
      go_wp2_with (simp only [HW.out])
      refine C1.mono ?_
      rintro e w1 ⟨rfl, hb⟩
      have r := blk_below Qh.out hb
      have h0 := blk_cell r 0 (.int .i64 Nh) rfl
      have h1 := blk_cell r 1 (.slice ah nh ch) rfl
      have C2 := specValidGraph_any Nh ah ch nh hs w1 hnh (xh.below hb) hlh
      rw [hv2] at C2
      go_wp2_with fail
      refine C2.mono ?_
      rintro e w2 ⟨rfl, hb2⟩
      have hb12 := below_tr' hb hb2
      have hBe := below_tr' hB hb12
      have r0 := blk_below Q1.out hb12
      have tg := blk_below Qg.out hb12
      have th := blk_below Qh.out hb12
      clear g0 g1 h0 h1 r C1 C2
      have g0 := blk_cell tg 0 (.int .i64 Ng) rfl
      have g1 := blk_cell tg 1 (.slice ag ng cg) rfl
      have h0 := blk_cell th 0 (.int .i64 Nh) rfl
      have z0 := blk_cell r0 0 (.int .i64 0) rfl
      have z1 := blk_cell r0 1 (.slice none 0 0) rfl
      have f0 := blk_free r0 0
      have f1 := blk_free r0 1
      have SB := Lib.hid ((hBe.setCell (p := ⟨w.heap.size + 1 + 1, 0, none⟩) (by simp <;> omega) (.int .i64 0)).setCell (p := ⟨w.heap.size + 1 + 1, 1, none⟩) (by simp <;> omega) (.slice none 0 0))
      clear r0
      go_wp2
      refine bodyPost_ret (v := .tuple #[graphV 0 none 0 0, .bool false]) (by simp [results, Try.results21, go_sem, z0, z1]) rfl ⟨none, 0, 0, by rw [HR.out, HRN.out, HV.out]; rfl, by rw [HR.out]; exact World.ownsRow_nil _ _ _ _, SB.out⟩
    · cases hne : (Ng != Nh)
      · have hNN : Ng = Nh := by simpa using hne
        have h7 := (validG_true.1 hv).2
        have hbo : bothV Ng gs Nh hs = true := by rw [bothV, hv, hv2, decide_eq_true hNN]; rfl
        have HV := Lib.hid hbo
        have HR := Lib.hid (show uniE Ng gs Nh hs = uniUpto gs hs nh by
          have e1 : ((Ng.toNat : Nat) : Int) = Ng := Int.toNat_of_nonneg h7.1
          rw [uniE, if_pos hbo, ← hnh, uni_eq (N := Ng.toNat) (by rw [e1]; exact hv) (by rw [e1, hNN]; exact hv2)])
        have HRN := Lib.hid (show uniN Ng gs Nh hs = Ng by simp [uniN, hbo])
        clear hNN hbo h7
        go_enter Try.func21, Try.ntmps21
        go_wp2_with (simp only [HW.out])
        refine C1.mono ?_
        rintro e w1 ⟨rfl, hb⟩
        have r := blk_below Qh.out hb
        have h0 := blk_cell r 0 (.int .i64 Nh) rfl
        have h1 := blk_cell r 1 (.slice ah nh ch) rfl
        have C2 := specValidGraph_any Nh ah ch nh hs w1 hnh (xh.below hb) hlh
        rw [hv2] at C2
        go_wp2_with fail
        refine C2.mono ?_
        rintro e w2 ⟨rfl, hb2⟩
        have hb12 := below_tr' hb hb2
        have hBe := below_tr' hB hb12
        have r0 := blk_below Q1.out hb12
        have tg := blk_below Qg.out hb12
        have th := blk_below Qh.out hb12
        clear g0 g1 h0 h1 r C1 C2
        have g0 := blk_cell tg 0 (.int .i64 Ng) rfl
        have g1 := blk_cell tg 1 (.slice ag ng cg) rfl
        have h0 := blk_cell th 0 (.int .i64 Nh) rfl
        have xg2 := xg.below hb12
        have xh2 := xh.below hb12
        have p0 := later_cell g0
        have p1 := later_cell g1
        have bd := bel_drew (Below.refl w2.heap.size w2)
        have hBs := hBe.size
        go_wp2
        refine wp_region_heads [true, true, false, true, true, false, false, false, false] 8 5 (C := fun w' => ∃ u : Later w2, w' = u.val) (by kernel_rfl) (by kernel_rfl) ⟨⟨_, bd⟩, rfl⟩ ?_
        simp only [pickT]
        repeat (go_big_quiet_step (fail))
        refine wpQuiet_nil ?_
        clear p0 p1
        generalize hD : w2.drew = D at *
        clear hD
        apply merge5 (F := fun (A _S : Nat) (a3 : Option Addr) (c3 : Nat) (V : World) => V.heap[A]? = some (.cells #[.int .i64 Ng, .slice a3 ng c3] 25 (0, 0)) ∧ V.ownsRow w2.heap.size 48 2 (.slice a3 ng c3) ng (edges gs) ∧ Below w2.heap.size w2 V ∧ w2.heap.size ≤ A)
        case main =>
          intro TAIL
          refine any_two (i := 2) (j := 7) (by kernel_rfl) rfl rfl ?_ ?_
          · intro K hK
            go_wp2
            have hb1 := bd.trans ((below_alloc D (.cells #[] 48)).mono bd.size)
            refine hK _ _ (fun _ => ⟨⟨_, hb1⟩, rfl⟩) ?_
            clear hK
            have ho : (D.alloc (.cells #[] 48)).ownsRow w2.heap.size 48 2 (.slice (some ⟨D.heap.size, 0, none⟩) 0 0) 0 (edges []) := World.ownsRow_made D #[] 0 bd.size (by decide) rfl
            generalize hV : D.alloc (.cells #[] 48) = v1 at *
            clear hV
            obtain ⟨S, hS⟩ : ∃ S, S = D.heap.size := ⟨_, rfl⟩
            simp only [← hS] at *
            clear hS
            refine any_two (i := 5) (j := 7) (by kernel_rfl) rfl rfl ?_ ?_
            · intro K hK
              refine appendAllg Try.infoE _ _ rfl rfl (m := ng) ho (xg2.below hb1) (by rw [edges_length, hng]) (edges_one _) hnilg (World.grownBy.refl v1 _) hb1.size rfl rfl (by omega) ?_
              intro a3 c3 v2 ho3 hg3
              have hb2 := below_row hb1 (Nat.le_refl _) ho hg3
              have ho : v2.ownsRow w2.heap.size 48 2 (.slice a3 ng c3) ng (edges gs) := by have h := ho3; rw [Nat.zero_add] at h; exact h
              refine wpList_nil ⟨rfl, hK _ _ (fun _ => ⟨⟨_, hb2⟩, rfl⟩) ?_⟩
              clear hK ho3 hg3
              try simp only [Nat.zero_add]
              refine any_two (i := 6) (j := 7) (by kernel_rfl) rfl rfl ?_ ?_
              · intro K hK
                go_wp2
                refine hK _ _ (fun _ => ⟨⟨_, hb2⟩, rfl⟩) ?_
                clear hK
                have hb3 := hb2
                refine any_one (i := 7) (by kernel_rfl) rfl ?_
                intro K hK
                go_wp2
                have hb4 := hb3.trans ((below_alloc v2 (.cells #[.int .i64 0, .slice none 0 0] 25)).mono hb3.size)
                refine hK _ _ (fun _ => ⟨⟨_, hb4⟩, rfl⟩) ?_
                clear hK
                have qo := heap_alloc_new v2 (.cells #[.int .i64 0, .slice none 0 0] 25)
                have hAge : w2.heap.size ≤ v2.heap.size := hb3.size
                have ho := own_below ho (below_alloc v2 (.cells #[.int .i64 0, .slice none 0 0] 25))
                generalize hV : v2.alloc (.cells #[.int .i64 0, .slice none 0 0] 25) = v4 at *
                clear hV
                obtain ⟨A, hA⟩ : ∃ A, A = v2.heap.size := ⟨_, rfl⟩
                simp only [← hA] at *
                clear hA
                refine any_one (i := 8) (by kernel_rfl) rfl ?_
                intro K hK
                have z0 := blk_cell qo 0 (.int .i64 0) rfl
                have z1 := blk_cell qo 1 (.slice none 0 0) rfl
                have f0 := blk_free qo 0
                have f1 := blk_free qo 1
                have SQ := Lib.hid (blk_set (blk_set qo 0 (.int .i64 Ng)) 1 (.slice a3 ng c3))
                have SO := Lib.hid (own_setOther (own_setOther ho A 0 (.int .i64 Ng) (own_ne ho qo (by decide))) A 1 (.slice a3 ng c3) (own_ne ho qo (by decide)))
                have SB := Lib.hid ((hb4.setCell (p := ⟨A, 0, none⟩) hAge (.int .i64 Ng)).setCell (p := ⟨A, 1, none⟩) hAge (.slice a3 ng c3))
                go_wp2
                refine hK _ _ (fun h => absurd rfl h) ?_
                clear hK
                refine any_end (by kernel_rfl) ?_
                clear z0 z1 f0 f1
                have SQ := SQ.out
                have SO := SO.out
                have SB := SB.out
                generalize hV : (v4.setCell ⟨A, 0, none⟩ (.int .i64 Ng)).setCell ⟨A, 1, none⟩ (.slice a3 ng c3) = V at *
                clear hV qo ho hb4
                exact TAIL A S a3 c3 V ⟨SQ, SO, SB, hAge⟩
              · intro K hK
                go_wp2
                have hb3 := hb2.trans ((below_alloc v2 (.cells #[.int .i64 0, .slice none 0 0] 25)).mono hb2.size)
                refine hK _ _ (fun _ => ⟨⟨_, hb3⟩, rfl⟩) ?_
                clear hK
                have qo := heap_alloc_new v2 (.cells #[.int .i64 0, .slice none 0 0] 25)
                have hAge : w2.heap.size ≤ v2.heap.size := hb2.size
                have ho := own_below ho (below_alloc v2 (.cells #[.int .i64 0, .slice none 0 0] 25))
                generalize hV : v2.alloc (.cells #[.int .i64 0, .slice none 0 0] 25) = v3 at *
                clear hV
                obtain ⟨A, hA⟩ : ∃ A, A = v2.heap.size := ⟨_, rfl⟩
                simp only [← hA] at *
                clear hA
                refine any_one (i := 6) (by kernel_rfl) rfl ?_
                intro K hK
                go_wp2
                refine hK _ _ (fun _ => ⟨⟨_, hb3⟩, rfl⟩) ?_
                clear hK
                have hb4 := hb3
                refine any_one (i := 8) (by kernel_rfl) rfl ?_
                intro K hK
                have z0 := blk_cell qo 0 (.int .i64 0) rfl
                have z1 := blk_cell qo 1 (.slice none 0 0) rfl
                have f0 := blk_free qo 0
                have f1 := blk_free qo 1
                have SQ := Lib.hid (blk_set (blk_set qo 0 (.int .i64 Ng)) 1 (.slice a3 ng c3))
                have SO := Lib.hid (own_setOther (own_setOther ho A 0 (.int .i64 Ng) (own_ne ho qo (by decide))) A 1 (.slice a3 ng c3) (own_ne ho qo (by decide)))
                have SB := Lib.hid ((hb4.setCell (p := ⟨A, 0, none⟩) hAge (.int .i64 Ng)).setCell (p := ⟨A, 1, none⟩) hAge (.slice a3 ng c3))
                go_wp2
                refine hK _ _ (fun h => absurd rfl h) ?_
                clear hK
                refine any_end (by kernel_rfl) ?_
                clear z0 z1 f0 f1
                have SQ := SQ.out
                have SO := SO.out
                have SB := SB.out
                generalize hV : (v3.setCell ⟨A, 0, none⟩ (.int .i64 Ng)).setCell ⟨A, 1, none⟩ (.slice a3 ng c3) = V at *
                clear hV qo ho hb4
                exact TAIL A S a3 c3 V ⟨SQ, SO, SB, hAge⟩
            · intro K hK
              go_wp2
              have hb2 := hb1.trans ((below_alloc v1 (.cells #[.int .i64 0, .slice none 0 0] 25)).mono hb1.size)
              refine hK _ _ (fun _ => ⟨⟨_, hb2⟩, rfl⟩) ?_
              clear hK
              have qo := heap_alloc_new v1 (.cells #[.int .i64 0, .slice none 0 0] 25)
              have hAge : w2.heap.size ≤ v1.heap.size := hb1.size
              have ho := own_below ho (below_alloc v1 (.cells #[.int .i64 0, .slice none 0 0] 25))
              generalize hV : v1.alloc (.cells #[.int .i64 0, .slice none 0 0] 25) = v2 at *
              clear hV
              obtain ⟨A, hA⟩ : ∃ A, A = v1.heap.size := ⟨_, rfl⟩
              simp only [← hA] at *
              clear hA
              refine any_one (i := 5) (by kernel_rfl) rfl ?_
              intro K hK
              refine appendAllg Try.infoE _ _ rfl rfl (m := ng) ho (xg2.below hb2) (by rw [edges_length, hng]) (edges_one _) hnilg (World.grownBy.refl v2 _) hb2.size rfl rfl (by omega) ?_
              intro a3 c3 v3 ho3 hg3
              have hb3 := below_row hb2 (Nat.le_refl _) ho hg3
              have qo := blk_grown qo hg3 (own_ne ho qo (by decide))
              have ho : v3.ownsRow w2.heap.size 48 2 (.slice a3 ng c3) ng (edges gs) := by have h := ho3; rw [Nat.zero_add] at h; exact h
              refine wpList_nil ⟨rfl, hK _ _ (fun _ => ⟨⟨_, hb3⟩, rfl⟩) ?_⟩
              clear hK ho3 hg3
              try simp only [Nat.zero_add]
              refine any_one (i := 6) (by kernel_rfl) rfl ?_
              intro K hK
              go_wp2
              refine hK _ _ (fun _ => ⟨⟨_, hb3⟩, rfl⟩) ?_
              clear hK
              have hb4 := hb3
              refine any_one (i := 8) (by kernel_rfl) rfl ?_
              intro K hK
              have z0 := blk_cell qo 0 (.int .i64 0) rfl
              have z1 := blk_cell qo 1 (.slice none 0 0) rfl
              have f0 := blk_free qo 0
              have f1 := blk_free qo 1
              have SQ := Lib.hid (blk_set (blk_set qo 0 (.int .i64 Ng)) 1 (.slice a3 ng c3))
              have SO := Lib.hid (own_setOther (own_setOther ho A 0 (.int .i64 Ng) (own_ne ho qo (by decide))) A 1 (.slice a3 ng c3) (own_ne ho qo (by decide)))
              have SB := Lib.hid ((hb4.setCell (p := ⟨A, 0, none⟩) hAge (.int .i64 Ng)).setCell (p := ⟨A, 1, none⟩) hAge (.slice a3 ng c3))
              go_wp2
              refine hK _ _ (fun h => absurd rfl h) ?_
              clear hK
              refine any_end (by kernel_rfl) ?_
              clear z0 z1 f0 f1
              have SQ := SQ.out
              have SO := SO.out
              have SB := SB.out
              generalize hV : (v3.setCell ⟨A, 0, none⟩ (.int .i64 Ng)).setCell ⟨A, 1, none⟩ (.slice a3 ng c3) = V at *
              clear hV qo ho hb4
              exact TAIL A S a3 c3 V ⟨SQ, SO, SB, hAge⟩
          · intro K hK
            go_wp2
            have hb1 := bd.trans ((below_alloc D (.cells #[.int .i64 0, .slice none 0 0] 25)).mono bd.size)
            refine hK _ _ (fun _ => ⟨⟨_, hb1⟩, rfl⟩) ?_
            clear hK
            have qo := heap_alloc_new D (.cells #[.int .i64 0, .slice none 0 0] 25)
            have hAge : w2.heap.size ≤ D.heap.size := bd.size
            generalize hV : D.alloc (.cells #[.int .i64 0, .slice none 0 0] 25) = v1 at *
            clear hV
            obtain ⟨A, hA⟩ : ∃ A, A = D.heap.size := ⟨_, rfl⟩
            simp only [← hA] at *
            clear hA
            refine any_one (i := 2) (by kernel_rfl) rfl ?_
            intro K hK
            go_wp2
            have hb2 := hb1.trans ((below_alloc v1 (.cells #[] 48)).mono hb1.size)
            refine hK _ _ (fun _ => ⟨⟨_, hb2⟩, rfl⟩) ?_
            clear hK
            have ho : (v1.alloc (.cells #[] 48)).ownsRow w2.heap.size 48 2 (.slice (some ⟨v1.heap.size, 0, none⟩) 0 0) 0 (edges []) := World.ownsRow_made v1 #[] 0 hb1.size (by decide) rfl
            have qo := blk_below qo (below_alloc v1 (.cells #[] 48))
            generalize hV : v1.alloc (.cells #[] 48) = v2 at *
            clear hV
            obtain ⟨S, hS⟩ : ∃ S, S = v1.heap.size := ⟨_, rfl⟩
            simp only [← hS] at *
            clear hS
            refine any_one (i := 5) (by kernel_rfl) rfl ?_
            intro K hK
            refine appendAllg Try.infoE _ _ rfl rfl (m := ng) ho (xg2.below hb2) (by rw [edges_length, hng]) (edges_one _) hnilg (World.grownBy.refl v2 _) hb2.size rfl rfl (by omega) ?_
            intro a3 c3 v3 ho3 hg3
            have hb3 := below_row hb2 (Nat.le_refl _) ho hg3
            have qo := blk_grown qo hg3 (own_ne ho qo (by decide))
            have ho : v3.ownsRow w2.heap.size 48 2 (.slice a3 ng c3) ng (edges gs) := by have h := ho3; rw [Nat.zero_add] at h; exact h
            refine wpList_nil ⟨rfl, hK _ _ (fun _ => ⟨⟨_, hb3⟩, rfl⟩) ?_⟩
            clear hK ho3 hg3
            try simp only [Nat.zero_add]
            refine any_one (i := 6) (by kernel_rfl) rfl ?_
            intro K hK
            go_wp2
            refine hK _ _ (fun _ => ⟨⟨_, hb3⟩, rfl⟩) ?_
            clear hK
            have hb4 := hb3
            refine any_one (i := 8) (by kernel_rfl) rfl ?_
            intro K hK
            have z0 := blk_cell qo 0 (.int .i64 0) rfl
            have z1 := blk_cell qo 1 (.slice none 0 0) rfl
            have f0 := blk_free qo 0
            have f1 := blk_free qo 1
            have SQ := Lib.hid (blk_set (blk_set qo 0 (.int .i64 Ng)) 1 (.slice a3 ng c3))
            have SO := Lib.hid (own_setOther (own_setOther ho A 0 (.int .i64 Ng) (own_ne ho qo (by decide))) A 1 (.slice a3 ng c3) (own_ne ho qo (by decide)))
            have SB := Lib.hid ((hb4.setCell (p := ⟨A, 0, none⟩) hAge (.int .i64 Ng)).setCell (p := ⟨A, 1, none⟩) hAge (.slice a3 ng c3))
            go_wp2
            refine hK _ _ (fun h => absurd rfl h) ?_
            clear hK
            refine any_end (by kernel_rfl) ?_
            clear z0 z1 f0 f1
            have SQ := SQ.out
            have SO := SO.out
            have SB := SB.out
            generalize hV : (v3.setCell ⟨A, 0, none⟩ (.int .i64 Ng)).setCell ⟨A, 1, none⟩ (.slice a3 ng c3) = V at *
            clear hV qo ho hb4
            exact TAIL A S a3 c3 V ⟨SQ, SO, SB, hAge⟩
        case tail =>
          rintro A S a3 c3 V ⟨qo, ho, hb, hAge⟩
          have hlx := valid_lt hv2
          go_wp2
          go_loopw [7] (fun i wr => ∃ k : Nat, k ≤ nh ∧ i = .int .i64 k ∧ ∃ (L : Nat) (a' : Option Addr) (c' : Nat), L = (uniUpto gs hs k).length ∧ wr.heap[A]? = some (.cells #[.int .i64 Ng, .slice a' L c'] 25 (0, 0)) ∧ wr.ownsRow w2.heap.size 48 2 (.slice a' L c') L (edges (uniUpto gs hs k)) ∧ Below w2.heap.size w2 wr) (fun i _ => nh - (intOf i).toNat)
          case atStart => exact ⟨0, by omega, rfl, ng, a3, c3, by simp [uniUpto, hng], qo, by simpa [uniUpto] using ho, hb⟩
          case round =>
            clear qo ho hb V
            obtain ⟨k, hk, rfl, L, a', c', hL, qo, ho, hb⟩ := hrel
            have hLl : L ≤ gs.length + k := by rw [hL]; exact uni_length gs hs k
            have rg := blk_below tg hb
            have rh := blk_below th hb
            have g0 := blk_cell rg 0 (.int .i64 Ng) rfl
            have g1 := blk_cell rg 1 (.slice ag ng cg) rfl
            have h1 := blk_cell rh 1 (.slice ah nh ch) rfl
            by_cases hlt : k < nh
            · have hkl : k < hs.length := by omega
              obtain ⟨b1, o1, e1, c1, c2⟩ := (xh2.below hb).edge (k := k) hkl
              rw [e1] at h1
              have E1 := Lib.hid e1
              clear e1
              have HU := uni_succ (gs := gs) hkl
              have hX := hlx _ (List.getElem_mem hkl)
              generalize (hs[k]'hkl) = X at *
              obtain ⟨X, Y⟩ := X
              simp only at c1 c2 hX
              have HE := Lib.hid (fun u : Later wr => specHasEdge_any Ng ag cg ng gs X Y u.val hng (xg2.below (below_tr' hb u.ok)) hlg)
              have d1 := later_cell c1
              have d2 := later_cell c2
              have d3 := later_cell h1
              have d4 := later_cell g0
              have d5 := later_cell g1
              rw [uniStep] at HU
              cases hB0 : hasB gs X Y
              · rw [hB0] at HE HU
                simp only [Bool.false_eq_true, if_false] at HU
                have hIl := insE_length (uniUpto gs hs k) (X, Y)
                generalize hES : uniUpto gs hs k = es at *
                clear hES
                have CL : es.length = L := hL.symm
                have CL := Lib.hid CL
                clear hL
                have hIl := Lib.hid hIl
                have HU := Lib.hid HU
                go_wp2
                refine wp_region_later (by kernel_rfl) (by kernel_rfl) ?_
                repeat (go_big_quiet_step ((go_at_call 81; exact calls_later _ (HE.out _))))
                refine wpQuiet_nil ?_
                intro w1 hw'
                have hb1 := later_below hw'
                clear hw' d1 d2 d3 d4 d5 HE g0 g1
                have qo1 := blk_below qo hb1
                have ho1 := own_below ho hb1
                have hb21 := below_tr' hb hb1
                have c1 := (hb1.cell (p := ⟨b1, _, none⟩) (Rd.lt c1)).trans c1
                have c2 := (hb1.cell (p := ⟨b1, _, none⟩) (Rd.lt c2)).trans c2
                have h1 := blk_cell (blk_below rh hb1) 1 _ rfl
                rw [E1.out] at h1
                clear rg rh qo ho
                have d1 := later_cell c1
                have d2 := later_cell c2
                have d3 := later_cell h1
                have d4 := later_cell (blk_cell qo1 0 (.int .i64 Ng) rfl)
                have d5 := later_cell (blk_cell qo1 1 (.slice a' L c') rfl)
                have hof := own_form ho1
                have bdw := bel_drew (Below.refl w1.heap.size w1)
                have CA := specAddEdge_any Ng a' c' L es X Y w1.drew CL.out (own_rd (own_below ho1 bdw)) (by omega) hof.1 (by have := hof.2.1; unfold maxLen at this; omega) hof.2.2.1 hof.2.2.2 hX
                clear hof c1 c2 h1
                go_wp2
                refine wp_region_flags [true, true, true, true, true, true, true, true, true, true, true, true, true, false, false] 14 (C := fun w' => ∃ u : Later w1, w' = u.val) (by kernel_rfl) (by kernel_rfl) ⟨⟨_, bdw⟩, rfl⟩ ?_
                simp only [pickT, pickF]
                repeat (go_big_quiet_step (fail))
                refine wpQuiet_nil ?_
                clear d1 d2 d3 d4 d5
                refine tail_step fun K hK => ?_
                go_wp2_with fail
                refine CA.mono ?_
                rintro e w4 ⟨a2, c4, rfl, ho4, hb4⟩
                have hb14 := below_tr' bdw hb4
                go_wp2
                refine hK _ _ ⟨⟨_, hb14⟩, rfl⟩ ?_
                clear hK
                refine tail_last fun K hK => ?_
                have ho4 := own_mono ho4 hb21.size
                have hb24 := below_tr' hb21 hb14
                have qo4 := blk_below qo1 hb14
                have z0 := blk_cell qo4 0 (.int .i64 Ng) rfl
                have z1 := blk_cell qo4 1 (.slice a' L c') rfl
                have f0 := blk_free qo4 0
                have f1 := blk_free qo4 1
                have SQ := Lib.hid (blk_set (blk_set qo4 0 (.int .i64 Ng)) 1 (.slice a2 (L + 1) c4))
                have SO := Lib.hid (own_setOther (own_setOther ho4 A 0 (.int .i64 Ng) (own_ne ho4 qo4 (by decide))) A 1 (.slice a2 (L + 1) c4) (own_ne ho4 qo4 (by decide)))
                have SB := Lib.hid ((hb24.setCell (p := ⟨A, 0, none⟩) hAge (.int .i64 Ng)).setCell (p := ⟨A, 1, none⟩) hAge (.slice a2 (L + 1) c4))
                clear qo4 qo1 ho4 ho1 hb4 hb14 hb24 CA
                go_wp2
                go_roundw
                case rel =>
                          exact ⟨k + 1, by omega, by go_num, L + 1, a2, c4, by rw [HU.out, hIl.out, CL.out], SQ.out, by rw [HU.out]; exact SO.out, SB.out⟩
                case measure => simp [intOf]; omega
              · rw [hB0] at HE HU
                simp only [if_true] at HU
                have hL := Lib.hid hL
                have HU := Lib.hid HU
                go_wp2
                refine wp_region_later (by kernel_rfl) (by kernel_rfl) ?_
                repeat (go_big_quiet_step ((go_at_call 81; exact calls_later _ (HE.out _))))
                refine wpQuiet_nil ?_
                intro w1 hw'
                have hb1 := later_below hw'
                clear hw' d1 d2 d3 d4 d5 HE g0 g1
                have HQ := Lib.hid (blk_below qo hb1)
                have HO := Lib.hid (own_below ho hb1)
                have HB := Lib.hid (below_tr' hb hb1)
                clear qo ho hb rg rh
                go_wp2
                go_roundw
                case rel => exact ⟨k + 1, by omega, by go_num, L, a', c', by rw [HU.out]; exact hL.out, HQ.out, by rw [HU.out]; exact HO.out, HB.out⟩
                case measure => simp [intOf]; omega
            · obtain rfl : k = nh := by omega
              have hE := HR.out
              rw [← hE] at hL ho
              have r0 := blk_below Q1.out (below_tr' hb12 hb)
              have z0 := blk_cell r0 0 (.int .i64 0) rfl
              have z1 := blk_cell r0 1 (.slice none 0 0) rfl
              have f0 := blk_free r0 0
              have f1 := blk_free r0 1
              have y0 := blk_cell qo 0 (.int .i64 Ng) rfl
              have y1 := blk_cell qo 1 (.slice a' L c') rfl
              have ho := own_mono ho hBs
              have hb3 := below_tr' hBe hb
              have SO := Lib.hid (own_setOther (own_setOther ho (w.heap.size + 1 + 1) 0 (.int .i64 Ng) (own_ne ho r0 (by decide))) (w.heap.size + 1 + 1) 1 (.slice a' L c') (own_ne ho r0 (by decide)))
              have SB := Lib.hid ((hb3.setCell (p := ⟨w.heap.size + 1 + 1, 0, none⟩) (by simp <;> omega) (.int .i64 Ng)).setCell (p := ⟨w.heap.size + 1 + 1, 1, none⟩) (by simp <;> omega) (.slice a' L c'))
              have HL := Lib.hid hL
              clear ho hb hb3 r0 qo hE hL
              go_wp2
              refine bodyPost_ret (v := .tuple #[graphV Ng a' L c', .bool true]) (by simp [results, Try.results21, go_sem, z0, z1]) rfl ⟨a', c', c', by rw [HRN.out, HV.out, ← HL.out], by rw [← HL.out]; exact SO.out, SB.out⟩
      · have hbo : bothV Ng gs Nh hs = false := by
          have : Ng ≠ Nh := by simpa using hne
          simp [bothV, this]
        have HV := Lib.hid hbo
        have HR := Lib.hid (show uniE Ng gs Nh hs = [] by simp [uniE, hbo])
        have HRN := Lib.hid (show uniN Ng gs Nh hs = 0 by simp [uniN, hbo])
        clear hbo
        go_enter Try.func21, Try.ntmps21
        go_wp2_with (simp only [HW.out])
        refine C1.mono ?_
        rintro e w1 ⟨rfl, hb⟩
        have r := blk_below Qh.out hb
        have h0 := blk_cell r 0 (.int .i64 Nh) rfl
        have h1 := blk_cell r 1 (.slice ah nh ch) rfl
        have C2 := specValidGraph_any Nh ah ch nh hs w1 hnh (xh.below hb) hlh
        rw [hv2] at C2
        go_wp2_with fail
        refine C2.mono ?_
        rintro e w2 ⟨rfl, hb2⟩
        have hb12 := below_tr' hb hb2
        have hBe := below_tr' hB hb12
        have r0 := blk_below Q1.out hb12
        have tg := blk_below Qg.out hb12
        have th := blk_below Qh.out hb12
        clear g0 g1 h0 h1 r C1 C2
        have g0 := blk_cell tg 0 (.int .i64 Ng) rfl
        have g1 := blk_cell tg 1 (.slice ag ng cg) rfl
        have h0 := blk_cell th 0 (.int .i64 Nh) rfl
        have z0 := blk_cell r0 0 (.int .i64 0) rfl
        have z1 := blk_cell r0 1 (.slice none 0 0) rfl
        have f0 := blk_free r0 0
        have f1 := blk_free r0 1
        have SB := Lib.hid ((hBe.setCell (p := ⟨w.heap.size + 1 + 1, 0, none⟩) (by simp <;> omega) (.int .i64 0)).setCell (p := ⟨w.heap.size + 1 + 1, 1, none⟩) (by simp <;> omega) (.slice none 0 0))
        clear r0
        go_wp2
        refine bodyPost_ret (v := .tuple #[graphV 0 none 0 0, .bool false]) (by simp [results, Try.results21, go_sem, z0, z1]) rfl ⟨none, 0, 0, by rw [HR.out, HRN.out, HV.out]; rfl, by rw [HR.out]; exact World.ownsRow_nil _ _ _ _, SB.out⟩

end Go.Proofs.Ytjghcegacgpehaa
