
/- The graph of weights, both sides. (Printed by gen_weightg.py, in part out of XCodeG.lean.) -/
import Derived.Test.YtjghcegacgpehaaSorted
import Derived.Test.YtjghcegacgpehaaWhich
import Derived.Test.YtjghcegacgpehaaEach
namespace Go.Proofs.Ytjghcegacgpehaa
open Go.RowKit

/-- The weights of a pair are greater than the limit, together. -/
def wP (xs : List Int) (lim : Int) (e : E2) : Bool := decide (lim < xs.getD e.1.toNat 0 + xs.getD e.2.toNat 0)
theorem wP_at {xs : List Int} {lim : Int} {x y : Nat} (hx : x < xs.length) (hy : y < xs.length) : wP xs lim ((x : Int), (y : Int)) = decide (lim < xs[x]'hx + xs[y]'hy) := by
  simp [wP, List.getElem?_eq_getElem hx, List.getElem?_eq_getElem hy]
def wgtL (n : Nat) (xs : List Int) (lim : Int) : List E2 := (pairsL n).filter (wP xs lim)

set_option maxHeartbeats 4000000 in
theorem specWeightG_any (a : Option Addr) (c n : Nat) (xs : List Int) (lim : Int) (w : World) (hn : xs.length = n) (hx : Rd w a (ints xs)) (hw : ∀ x ∈ xs, -20 ≤ x ∧ x ≤ 20) (h7 : n ≤ 7) :
    Calls Try.prog 108 #[.slice a n c, .int .i64 lim] w fun e w' => ∃ a' c', e = .returned (graphV n a' (wgtL n xs lim).length c') ∧
      w'.ownsRow w.heap.size 48 2 (.slice a' (wgtL n xs lim).length c') (wgtL n xs lim).length (edges (wgtL n xs lim)) ∧ Below w.heap.size w w' := by
  obtain ⟨W4, hW4⟩ : ∃ W, W = (((w.alloc (.cells #[.int .i64 0, .slice none 0 0] 25)).alloc (.cells #[] 48)).alloc (.cells #[.int .i64 n, .slice (some ⟨w.heap.size + 1, 0, none⟩) 0 0] 25)) := ⟨_, rfl⟩
  have hs4 : W4.heap.size = w.heap.size + 1 + 1 + 1 := by rw [hW4]; simp
  have hB4 : Below w.heap.size w W4 := by rw [hW4]; exact below_tr' (below_alloc2 w _ _) (below_alloc _ _)
  have q1 : W4.heap[w.heap.size]? = some (.cells #[.int .i64 0, .slice none 0 0] 25 (0, 0)) := by
    rw [hW4, heap_alloc_old _ _ (by simp; omega), heap_alloc_old _ _ (by simp), heap_alloc_new]
  have q2 : W4.heap[w.heap.size + 1]? = some (.cells #[] 48 (0, 0)) := by
    rw [hW4, heap_alloc_old _ _ (by simp), show w.heap.size + 1 = (w.alloc (.cells #[.int .i64 0, .slice none 0 0] 25)).heap.size from by simp, heap_alloc_new]
  have q3 : W4.heap[w.heap.size + 1 + 1]? = some (.cells #[.int .i64 n, .slice (some ⟨w.heap.size + 1, 0, none⟩) 0 0] 25 (0, 0)) := by
    rw [hW4, show w.heap.size + 1 + 1 = ((w.alloc (.cells #[.int .i64 0, .slice none 0 0] 25)).alloc (.cells #[] 48)).heap.size from by simp, heap_alloc_new]
  have hown0 : W4.ownsRow w.heap.size 48 2 (.slice (some ⟨w.heap.size + 1, 0, none⟩) 0 0) 0 (edges []) :=
    ⟨rfl, .inr ⟨w.heap.size + 1, 0, #[], rfl, by omega, q2, Nat.le_refl _, by decide, rfl, rfl⟩⟩
  have HP := Lib.hid (specPairs_any n W4 (by omega))
  have hpl := pairsL_len (N := n) (by omega)
  have HW4 := Lib.hid hW4
  clear hW4 q2
  go_enter Try.func108, Try.ntmps108
  go_wp2_with fail
  rw [← HW4.out]
  refine HP.out.mono ?_
  rintro e w5 ⟨aL, cL, rfl, hoL, hb5⟩
  have hap : Apart aL (some ⟨w.heap.size + 1, 0, none⟩) := (apart_of hown0 hoL).symm
  have hown5 := own_below hown0 hb5
  have q1 := blk_below q1 hb5
  have q3 := blk_below q3 hb5
  have hoL := own_mono hoL hB4.size
  have hB5 := below_tr' hB4 hb5
  clear hown0 hb5 hB4
  obtain ⟨m, hm⟩ : ∃ m, m = (pairsL n).length := ⟨_, rfl⟩
  rw [← hm] at hoL hpl
  go_wp2_with fail
  rw [← hm]
  have HM := Lib.hid hm
  clear hm
  go_loopw [7] (fun i wr => ∃ (k : Nat) (av : Option Addr) (kv cv : Nat), k ≤ m ∧ i = .int .i64 k ∧ kv = (filtUpto (pairsL n) (wP xs lim) k).length ∧
      wr.ownsRow w.heap.size 48 2 (.slice av kv cv) kv (edges (filtUpto (pairsL n) (wP xs lim) k)) ∧
      wr.heap[w.heap.size + 1 + 1]? = some (.cells #[.int .i64 n, .slice av kv cv] 25 (0, 0)) ∧
      wr.heap[w.heap.size]? = some (.cells #[.int .i64 0, .slice none 0 0] 25 (0, 0)) ∧
      wr.ownsRow w.heap.size 48 2 (.slice aL m cL) m (edges (pairsL n)) ∧ Apart aL av ∧ Below w.heap.size w wr) (fun i _ => m - (intOf i).toNat)
  case atStart => exact ⟨0, _, 0, 0, by omega, rfl, by simp [filtUpto], hown5, q3, q1, hoL, hap, hB5⟩
  case round =>
    obtain ⟨k, av, kv, cv, hk, rfl, hkv, ho, r3, r1, hL, hapr, hb⟩ := hrel
    by_cases hlt : k < m
    · have hLk : k < (pairsL n).length := by rw [← HM.out]; exact hlt
      obtain ⟨b1, o1, rfl, c1, c2⟩ := (own_rd hL).edge (k := k) hLk
      have HY := Lib.hid (filt_yes (p := (wP xs lim)) hLk)
      have HNo := Lib.hid (filt_no (p := (wP xs lim)) hLk)
      have hkl := filt_len (pairsL n) (wP xs lim) k
      have hmem := mem_pairsL.1 (List.getElem_mem hLk)
      rw [← hkv] at hkl
      generalize hF : filtUpto (pairsL n) (wP xs lim) k = F at *
      have HF := Lib.hid hF
      generalize hXY : ((pairsL n)[k]'hLk) = XY at *
      obtain ⟨X, Y⟩ := XY
      simp only at hmem c1 c2
      obtain ⟨x, rfl⟩ : ∃ x : Nat, X = x := ⟨X.toNat, by omega⟩
      obtain ⟨y, rfl⟩ : ∃ y : Nat, Y = y := ⟨Y.toNat, by omega⟩
      have hxn : x < n := by omega
      have hyn : y < n := by omega
      obtain ⟨b3, o3, e3, c3⟩ := (hx.below hb).int (k := x) (by omega)
      obtain ⟨b4, o4, e4, c4⟩ := (hx.below hb).int (k := y) (by omega)
      subst e3
      cases e4
      have hA := hw _ (List.getElem_mem (show x < xs.length by omega))
      have hB := hw _ (List.getElem_mem (show y < xs.length by omega))
      have hwp : wP xs lim ((x : Int), (y : Int)) = decide (lim < xs[x]'(by omega) + xs[y]'(by omega)) := wP_at (by omega) (by omega)
      generalize (xs[x]'(by omega)) = vA at *
      generalize (xs[y]'(by omega)) = vB at *
      have HWP := Lib.hid hwp
      have i1 := IntWalk.i64_in (vA + vB) (by omega)
      have p1 := later_cell c1
      have p2 := later_cell c2
      have p3 := later_cell c3
      have p4 := later_cell c4
      clear hwp c3 c4
      have HKV := Lib.hid hkv
      have HO := Lib.hid ho
      have HLL := Lib.hid hL
      have R3 := Lib.hid r3
      have R1 := Lib.hid r1
      have HAP := Lib.hid hapr
      have C1 := Lib.hid c1
      have C2 := Lib.hid c2
      clear hF hXY hkv ho hL r3 r1 hapr c1 c2
      by_cases hd : lim < vA + vB
      · have HY := Lib.hid (HY.out (by rw [HWP.out]; simp [hd]))
        go_wp2
        refine wp_region_later (by kernel_rfl) (by kernel_rfl) ?_
        repeat (go_big_quiet_step (fail))
        refine wpQuiet_nil ?_
        intro w1 hw'
        have hb1 := later_below hw'
        clear hw' p1 p2 p3 p4 i1
        have HO := Lib.hid (own_below HO.out hb1)
        have HLL := Lib.hid (own_below HLL.out hb1)
        have R3 := Lib.hid (blk_below R3.out hb1)
        have R1 := Lib.hid (blk_below R1.out hb1)
        have hb := below_tr' hb hb1
        have c1 := (hb1.cell (p := ⟨b1, o1 + k * 2, none⟩) (Rd.lt C1.out)).trans C1.out
        have c2 := (hb1.cell (p := ⟨b1, o1 + k * 2 + 1, none⟩) (Rd.lt C1.out)).trans C2.out
        have ho := HO.out
        have hL := HLL.out
        have r3 := R3.out
        have r1 := R1.out
        have hapr := HAP.out
        have hsz := hb.size
        have hrow : some b1 ≠ (Value.slice av kv cv).ownBlock := by
          intro e
          cases av with
          | none => simp [Value.ownBlock] at e
          | some y =>
            simp only [Value.ownBlock, Option.some.injEq] at e
            exact hapr _ y rfl rfl e
        have h3 := own_ne ho r3 (by decide)
        have h1 := own_ne ho r1 (by decide)
        have d1 := grow_cell c1 hrow
        have d2 := grow_cell c2 hrow
        have d3 := grow_cell (blk_cell r3 1 (.slice av kv cv) rfl) h3
        have H3 := Lib.hid h3
        have H1 := Lib.hid h1
        clear c1 c2
        clear h3 h1 hrow ho hL r3 r1 hapr
        go_wp2
        refine wp_region_flags [true, true, true, true, true, true, false, false, false, false] 9 (C := fun w' => ∃ u : Grow w1 (Value.slice av kv cv).ownBlock, w' = u.val) (by kernel_rfl) (by kernel_rfl) ⟨⟨_, grown_drew (World.grownBy.refl _ _)⟩, rfl⟩ ?_
        simp only [pickT, pickF]
        repeat (go_big_quiet_step (fail))
        refine wpQuiet_nil ?_
        refine tail_step fun K hK => ?_
        go_wp2
        refine hK _ _ ⟨⟨_, grown_drew (World.grownBy_alloc w1 _ _)⟩, rfl⟩ ?_
        clear hK d1 d2 d3
        refine tail_step fun K2 hK2 => ?_
        change wpList _ _ _ _ _ (w1.drew.alloc (.cells #[.int .i64 (x : Int), .int .i64 (y : Int)] 48))
        refine append1g Try.infoE _ _ rfl rfl HO.out.drew (grown_drew (World.grownBy.refl w1 _)) hsz rfl rfl rfl (by intro u hu; simp at hu; rcases hu with rfl | rfl <;> rfl) (by omega) ?_
        intro a' c' w2 ho2 hg2 hf2
        refine wpList_nil ⟨rfl, hK2 _ _ ⟨⟨_, hg2⟩, rfl⟩ ?_⟩
        clear hK2
        refine tail_step fun K3 hK3 => ?_
        go_wp2
        refine hK3 _ _ ⟨⟨_, hg2⟩, rfl⟩ ?_
        clear hK3
        refine tail_last fun K4 hK4 => ?_
        have r3 := blk_grown R3.out hg2 H3.out
        have r1 := blk_grown R1.out hg2 H1.out
        have hL2 := own_kept HLL.out hg2 HAP.out
        have hb2 := below_row hb (Nat.le_refl _) HO.out hg2
        have hap2 := apart_append HAP.out (fun x hx => by cases hx; exact (own_lt HLL.out _ rfl).2) hf2
        have k3 := blk_cell r3 1 (.slice av kv cv) rfl
        have f3 := blk_free r3 1
        have s3 := blk_set r3 1 (.slice a' (kv + 1) c')
        have s1 := blk_set_other r1 1 (.slice a' (kv + 1) c') (g := w.heap.size + 1 + 1) (by omega)
        have so := own_setOther ho2 (w.heap.size + 1 + 1) 1 (.slice a' (kv + 1) c') (own_ne ho2 r3 (by decide))
        have sL := own_setOther hL2 (w.heap.size + 1 + 1) 1 (.slice a' (kv + 1) c') (own_ne hL2 r3 (by decide))
        have sB := hb2.setCell (p := ⟨w.heap.size + 1 + 1, 1, none⟩) (by simp; omega) (.slice a' (kv + 1) c')
        have S3 := Lib.hid s3
        have S1 := Lib.hid s1
        have SO := Lib.hid so
        have SL := Lib.hid sL
        have SB := Lib.hid sB
        have AP := Lib.hid hap2
        clear s3 s1 so sL sB r3 r1 ho2 hL2 hb2 hap2 hg2 hf2 hb
        go_wp2
        go_roundw
        case rel => exact ⟨k + 1, a', kv + 1, c', by omega, by go_num, by rw [HY.out, List.length_append, ← HKV.out]; rfl, by rw [HY.out, edges_append]; exact SO.out, S3.out, S1.out, SL.out, AP.out, SB.out⟩
        case measure => simp [intOf]; omega
      · have HNo := Lib.hid (HNo.out (by rw [HWP.out]; simp [hd]))
        go_wp2
        refine wp_region_later (by kernel_rfl) (by kernel_rfl) ?_
        repeat (go_big_quiet_step (fail))
        refine wpQuiet_nil ?_
        intro w1 hw'
        have hb1 := later_below hw'
        clear hw' p1 p2 p3 p4 i1
        have HO := Lib.hid (own_below HO.out hb1)
        have HLL := Lib.hid (own_below HLL.out hb1)
        have R3 := Lib.hid (blk_below R3.out hb1)
        have R1 := Lib.hid (blk_below R1.out hb1)
        have hb := below_tr' hb hb1
        have c1 := (hb1.cell (p := ⟨b1, o1 + k * 2, none⟩) (Rd.lt C1.out)).trans C1.out
        have c2 := (hb1.cell (p := ⟨b1, o1 + k * 2 + 1, none⟩) (Rd.lt C1.out)).trans C2.out
        have ho := HO.out
        have hL := HLL.out
        have r3 := R3.out
        have r1 := R1.out
        have hapr := HAP.out
        have hsz := hb.size
        go_wp2
        go_roundw
        case rel => exact ⟨k + 1, av, kv, cv, by omega, by go_num, by rw [HNo.out]; exact HKV.out, by rw [HNo.out]; exact HO.out, R3.out, R1.out, HLL.out, HAP.out, hb⟩
        case measure => simp [intOf]; omega
    · have e : k = m := by omega
      subst e
      have hE : filtUpto (pairsL n) (wP xs lim) k = wgtL n xs lim := by rw [HM.out]; exact filt_all _ _
      rw [hE] at ho hkv
      have HO := Lib.hid ho
      have HKV := Lib.hid hkv
      have R1 := Lib.hid r1
      have k0 := blk_cell r3 0 (.int .i64 n) rfl
      have k1 := blk_cell r3 1 (.slice av kv cv) rfl
      have z0 := blk_cell r1 0 (.int .i64 0) rfl
      have z1 := blk_cell r1 1 (.slice none 0 0) rfl
      have f0 := blk_free r1 0
      have f1 := blk_free r1 1
      clear ho hkv hL hE r3 r1
      have sO := own_setOther (own_setOther HO.out w.heap.size 0 (.int .i64 n) (own_ne HO.out R1.out (by decide))) w.heap.size 1 (.slice av kv cv) (own_ne HO.out R1.out (by decide))
      have sB := (hb.setCell (p := ⟨w.heap.size, 0, none⟩) (by simp) (.int .i64 n)).setCell (p := ⟨w.heap.size, 1, none⟩) (by simp) (.slice av kv cv)
      have SO := Lib.hid sO
      have SB := Lib.hid sB
      clear sO sB
      go_wp2
      refine bodyPost_ret (v := graphV n av kv cv) (by simp [results, Try.results108, go_sem, z0, z1]) rfl ⟨av, cv, ?_, ?_, SB.out⟩
      · rw [HKV.out]
      · rw [← HKV.out]; exact SO.out



def wgrOK (xs : List Int) : Bool := allR xs (-20) 20 && decide (xs.length ≤ 7)
def wgrN (xs : List Int) : Int := if wgrOK xs then (xs.length : Int) else 0
def wgrL (xs : List Int) (lim : Int) : List E2 := if wgrOK xs then wgtL xs.length xs lim else []
theorem wgrL_len (xs : List Int) (lim : Int) : (wgrL xs lim).length ≤ 1000000 := by
  unfold wgrL
  split
  · rename_i h
    simp only [wgrOK, Bool.and_eq_true, decide_eq_true_eq] at h
    exact Nat.le_trans (List.length_filter_le _ _) (pairsL_len (by omega))
  · simp
theorem allR_mem {xs : List Int} {lo hi : Int} (h : allR xs lo hi = true) : ∀ x ∈ xs, lo ≤ x ∧ x ≤ hi := by
  intro x hx
  exact inR_true.1 (List.all_eq_true.1 h x hx)

set_option maxHeartbeats 2000000 in
theorem specWeightGraph_any (a : Option Addr) (c n : Nat) (xs : List Int) (lim : Int) (w : World) (hn : xs.length = n) (hx : Rd w a (ints xs)) (hl : n ≤ 8796093022208) :
    Calls Try.prog 45 #[.slice a n c, .int .i64 lim] w fun e w' => ∃ a' c' d', e = .returned (.tuple #[graphV (wgrN xs) a' (wgrL xs lim).length d', .bool (wgrOK xs)]) ∧
      w'.ownsRow w.heap.size 48 2 (.slice a' (wgrL xs lim).length c') (wgrL xs lim).length (edges (wgrL xs lim)) ∧ Below w.heap.size w w' := by
  have hB := below_alloc w (.cells #[.int .i64 0, .slice none 0 0] 25)
  have q1 := heap_alloc_new w (.cells #[.int .i64 0, .slice none 0 0] 25)
  have hx1 := hx.below hB
  have hWs : w.heap.size < (w.alloc (.cells #[.int .i64 0, .slice none 0 0] 25)).heap.size := by simp
  generalize hW : w.alloc (.cells #[.int .i64 0, .slice none 0 0] 25) = W at *
  have HW := Lib.hid hW
  have Q1 := Lib.hid q1
  clear hW hx q1
  go_enter Try.func45, Try.ntmps45
  go_wp2_with (simp only [HW.out])
  go_loop [6] (fun i => ∃ k : Nat, k ≤ n ∧ i = .int .i64 k ∧ ∀ j (_ : j < k) (h : j < xs.length), inR (xs[j]'h) (-20) 20 = true) (fun i => n - (intOf i).toNat)
  case atStart => exact ⟨0, by omega, rfl, by intro j hj; omega⟩
  case round =>
    obtain ⟨k, hk, rfl, hall⟩ := hrel
    by_cases hlt : k < n
    · have hkl : k < xs.length := by omega
      obtain ⟨b1, o1, rfl, c1⟩ := hx1.int (k := k) hkl
      have hyes : inR (xs[k]'hkl) (-20) 20 = true → (∀ j (_ : j < k + 1) (h : j < xs.length), inR (xs[j]'h) (-20) 20 = true) := by
        intro h0 j hj h
        by_cases e : j = k
        · subst e; exact h0
        · exact hall j (by omega) h
      have hno : inR (xs[k]'hkl) (-20) 20 = false → wgrOK xs = false := by
        intro h0
        simp [wgrOK, allR_no hkl h0]
      have HN := Lib.hid hall; clear hall
      generalize hX : (xs[k]'hkl) = X at *
      clear hX
      have HI := inRange_any X (-20) 20 W
      cases hp : inR X (-20) 20
      · have HV := Lib.hid (hno hp)
        clear hno hyes
        rw [hp] at HI
        clear hp
        go_wp2_with fail
        refine HI.mono ?_
        rintro e w' ⟨rfl, rfl⟩
        have r0 := Q1.out
        have z0 := blk_cell r0 0 (.int .i64 0) rfl
        have z1 := blk_cell r0 1 (.slice none 0 0) rfl
        have f0 := blk_free r0 0
        have f1 := blk_free r0 1
        have SB := Lib.hid ((hB.setCell (p := ⟨w.heap.size, 0, none⟩) (by simp <;> omega) (.int .i64 0)).setCell (p := ⟨w.heap.size, 1, none⟩) (by simp <;> omega) (.slice none 0 0))
        have HR := Lib.hid (show wgrL xs lim = [] by simp [wgrL, HV.out])
        have HRN := Lib.hid (show wgrN xs = 0 by simp [wgrN, HV.out])
        clear r0
        go_wp2
        refine bodyPost_ret (v := .tuple #[graphV 0 none 0 0, .bool false]) (by simp [results, Try.results45, go_sem, z0, z1]) rfl ⟨none, 0, 0, by rw [HR.out, HRN.out, HV.out]; rfl, by rw [HR.out]; exact World.ownsRow_nil _ _ _ _, SB.out⟩
      · have HE := Lib.hid (hyes hp)
        clear hno hyes
        rw [hp] at HI
        clear hp
        go_wp2_with (go_at_call 107; refine HI.mono ?_; rintro e w' ⟨rfl, rfl⟩)
        go_round
        case rel => exact ⟨k + 1, by omega, by go_num, HE.out⟩
        case measure => simp [intOf]; omega
    · have hA : allR xs (-20) 20 = true := allR_yes fun j hj => hall j (by omega) hj
      have HA := Lib.hid (allR_mem hA)
      by_cases h7 : n ≤ 7
      · have HV := Lib.hid (show wgrOK xs = true by simp [wgrOK, hA, hn, h7])
        clear hall hA
        have HR := Lib.hid (show wgrL xs lim = wgtL n xs lim by simp [wgrL, HV.out, hn])
        have HRN := Lib.hid (show wgrN xs = n by simp [wgrN, HV.out, hn])
        have C2 := specWeightG_any a c n xs lim W hn hx1 HA.out h7
        obtain ⟨L, hL⟩ : ∃ L, L = wgtL n xs lim := ⟨_, rfl⟩
        rw [← hL] at C2
        have HL := Lib.hid hL
        clear hL
        go_wp2_with fail
        refine C2.mono ?_
        rintro e w2 ⟨a', c', rfl, ho, hb2⟩
        have ho := own_mono ho hB.size
        have hb3 := below_tr' hB hb2
        have r0 := blk_below Q1.out hb2
        have z0 := blk_cell r0 0 (.int .i64 0) rfl
        have z1 := blk_cell r0 1 (.slice none 0 0) rfl
        have f0 := blk_free r0 0
        have f1 := blk_free r0 1
        have sO := own_setOther (own_setOther ho (w.heap.size) 0 (.int .i64 n) (own_ne ho r0 (by decide))) (w.heap.size) 1 (.slice a' L.length c') (own_ne ho r0 (by decide))
        have sB := (hb3.setCell (p := ⟨w.heap.size, 0, none⟩) (by simp <;> omega) (.int .i64 n)).setCell (p := ⟨w.heap.size, 1, none⟩) (by simp <;> omega) (.slice a' L.length c')
        have SO := Lib.hid sO
        have SB := Lib.hid sB
        clear sO sB C2 r0 ho hb2 hb3
        go_wp2
        refine bodyPost_ret (v := .tuple #[graphV n a' L.length c', .bool true]) (by simp [results, Try.results45, go_sem, z0, z1]) rfl ⟨a', c', c', by rw [HRN.out, HR.out, HV.out, ← HL.out], by rw [HR.out, ← HL.out]; exact SO.out, SB.out⟩
      · have HV := Lib.hid (show wgrOK xs = false by simp [wgrOK, hn, h7])
        clear hall hA
        have r0 := Q1.out
        have z0 := blk_cell r0 0 (.int .i64 0) rfl
        have z1 := blk_cell r0 1 (.slice none 0 0) rfl
        have f0 := blk_free r0 0
        have f1 := blk_free r0 1
        have SB := Lib.hid ((hB.setCell (p := ⟨w.heap.size, 0, none⟩) (by simp <;> omega) (.int .i64 0)).setCell (p := ⟨w.heap.size, 1, none⟩) (by simp <;> omega) (.slice none 0 0))
        have HR := Lib.hid (show wgrL xs lim = [] by simp [wgrL, HV.out])
        have HRN := Lib.hid (show wgrN xs = 0 by simp [wgrN, HV.out])
        clear r0
        go_wp2
        refine bodyPost_ret (v := .tuple #[graphV 0 none 0 0, .bool false]) (by simp [results, Try.results45, go_sem, z0, z1]) rfl ⟨none, ⟨0, by rw [HR.out, HRN.out, HV.out]; rfl⟩, ⟨0, by rw [HR.out]; exact World.ownsRow_nil _ _ _ _⟩, SB.out⟩

theorem enters_weightG : Enters Try.prog 106 := enters Try.func106 (by kernel_rfl) rfl
theorem weightG1_any (a : Option Addr) (c n : Nat) (xs : List Int) (lim : Int) (x y : Nat) (b b2 : Nat) (w : World) (hn : xs.length = n) (hx : Rd w a (ints xs)) (hw : ∀ x ∈ xs, -20 ≤ x ∧ x ≤ 20) (_hl : n ≤ 7) (hxn : x < n) (hyn : y < n)
    (g : w.cell? ⟨b, 0, none⟩ = some (.slice a n c)) (g2 : w.cell? ⟨b2, 0, none⟩ = some (.int .i64 lim)) :
    Calls Try.prog 106 #[.int .i64 x, .int .i64 y, .pointer (some ⟨b, 0, none⟩), .pointer (some ⟨b2, 0, none⟩)] w fun e w' => e = .returned (.bool (wP xs lim ((x : Int), (y : Int)))) ∧ Below w.heap.size w w' := by
  obtain ⟨b3, o3, rfl, c3⟩ := hx.int (k := x) (by omega)
  obtain ⟨b4, o4, e4, c4⟩ := hx.int (k := y) (by omega)
  cases e4
  have hA := hw _ (List.getElem_mem (show x < xs.length by omega))
  have hB := hw _ (List.getElem_mem (show y < xs.length by omega))
  have HWP := Lib.hid (wP_at (xs := xs) (lim := lim) (x := x) (y := y) (by omega) (by omega))
  generalize (xs[x]'(by omega)) = vA at *
  generalize (xs[y]'(by omega)) = vB at *
  have i1 := IntWalk.i64_in (vA + vB) (by omega)
  have p1 := later_cell g
  have p2 := later_cell g2
  have p3 := later_cell c3
  have p4 := later_cell c4
  go_enter Try.func106, Try.ntmps106
  go_wp2
  refine wp_region_later (by kernel_rfl) (by kernel_rfl) ?_
  repeat (go_big_quiet_step (fail))
  refine wpQuiet_nil ?_
  intro w1 hw'
  have hb1 := later_below hw'
  clear hw' p1 p2 p3 p4 i1
  go_wp2
  go_ret
  exact ⟨ret_bool (by rw [HWP.out]), hb1⟩

set_option maxHeartbeats 2000000 in
theorem implWeightGraph_any (a : Option Addr) (c n : Nat) (xs : List Int) (lim : Int) (w : World) (hn : xs.length = n) (hx : Rd w a (ints xs)) (hl : n ≤ 8796093022208) :
    Calls Try.prog 44 #[.slice a n c, .int .i64 lim] w fun e w' => ∃ a' c' d', e = .returned (.tuple #[graphV (wgrN xs) a' (wgrL xs lim).length d', .bool (wgrOK xs)]) ∧
      w'.ownsRow w.heap.size 48 2 (.slice a' (wgrL xs lim).length c') (wgrL xs lim).length (edges (wgrL xs lim)) ∧ Below w.heap.size w w' := by
  have hB := below_tr' (below_alloc2 w (.cells #[.slice a n c] 38) (.cells #[.int .i64 lim] 3)) (below_alloc _ (.cells #[.int .i64 0, .slice none 0 0] 25))
  have qa := blk_below (blk_below (heap_alloc_new w (.cells #[.slice a n c] 38)) (below_alloc _ (.cells #[.int .i64 lim] 3))) (below_alloc _ (.cells #[.int .i64 0, .slice none 0 0] 25))
  have ql := blk_below (heap_alloc_new (w.alloc (.cells #[.slice a n c] 38)) (.cells #[.int .i64 lim] 3)) (below_alloc _ (.cells #[.int .i64 0, .slice none 0 0] 25))
  have q1 := heap_alloc_new ((w.alloc (.cells #[.slice a n c] 38)).alloc (.cells #[.int .i64 lim] 3)) (.cells #[.int .i64 0, .slice none 0 0] 25)
  rw [show (w.alloc (.cells #[.slice a n c] 38)).heap.size = w.heap.size + 1 from by simp] at ql
  rw [show ((w.alloc (.cells #[.slice a n c] 38)).alloc (.cells #[.int .i64 lim] 3)).heap.size = w.heap.size + 1 + 1 from by simp] at q1
  have hx1 := hx.below hB
  generalize hW : ((w.alloc (.cells #[.slice a n c] 38)).alloc (.cells #[.int .i64 lim] 3)).alloc (.cells #[.int .i64 0, .slice none 0 0] 25) = W at *
  have HW := Lib.hid hW
  clear hW hx
  have g0 := blk_cell qa 0 (.slice a n c) rfl
  have Q1 := Lib.hid q1
  clear q1
  by_cases h7 : n ≤ 7
  · have C1 := allIn_any a c n xs (-20) 20 W hn hx1 (by omega)
    cases hA : allR xs (-20) 20
    · have HV := Lib.hid (show wgrOK xs = false by simp [wgrOK, hA])
      rw [hA] at C1
      clear hA
      go_enter Try.func44, Try.ntmps44
      go_wp2_with (simp only [HW.out])
      refine C1.mono ?_
      rintro e w1 ⟨rfl, hb1⟩
      have Q1 := Lib.hid (blk_below Q1.out hb1)
      have hB := below_tr' hB hb1
      clear C1 g0
      have r0 := Q1.out
      have z0 := blk_cell r0 0 (.int .i64 0) rfl
      have z1 := blk_cell r0 1 (.slice none 0 0) rfl
      have f0 := blk_free r0 0
      have f1 := blk_free r0 1
      have SB := Lib.hid ((hB.setCell (p := ⟨w.heap.size + 1 + 1, 0, none⟩) (by simp <;> omega) (.int .i64 0)).setCell (p := ⟨w.heap.size + 1 + 1, 1, none⟩) (by simp <;> omega) (.slice none 0 0))
      have HR := Lib.hid (show wgrL xs lim = [] by simp [wgrL, HV.out])
      have HRN := Lib.hid (show wgrN xs = 0 by simp [wgrN, HV.out])
      clear r0
      go_wp2
      refine bodyPost_ret (v := .tuple #[graphV 0 none 0 0, .bool false]) (by simp [results, Try.results44, go_sem, z0, z1]) rfl ⟨none, 0, 0, by rw [HR.out, HRN.out, HV.out]; rfl, by rw [HR.out]; exact World.ownsRow_nil _ _ _ _, SB.out⟩
    · have HA := Lib.hid (allR_mem hA)
      have HV := Lib.hid (show wgrOK xs = true by simp [wgrOK, hA, hn, h7])
      rw [hA] at C1
      clear hA
      go_enter Try.func44, Try.ntmps44
      go_wp2_with (simp only [HW.out])
      refine C1.mono ?_
      rintro e w1 ⟨rfl, hb1⟩
      have Q1 := Lib.hid (blk_below Q1.out hb1)
      have qa := blk_below qa hb1
      have ql := blk_below ql hb1
      have hx2 := hx1.below hb1
      have hB := below_tr' hB hb1
      clear C1 g0
      have g0 := blk_cell qa 0 (.slice a n c) rfl
      have hAn : AnswersE w1 106 #[.pointer (some ⟨w.heap.size, 0, none⟩), .pointer (some ⟨w.heap.size + 1, 0, none⟩)] (pairsL n) (wP xs lim) := by
        refine ⟨enters_weightG, fun w' e hb he => ?_⟩
        have hm := mem_pairsL.1 he
        obtain ⟨x, y⟩ := e
        simp only at hm
        obtain ⟨x, rfl⟩ : ∃ z : Nat, x = z := ⟨x.toNat, by omega⟩
        obtain ⟨y, rfl⟩ : ∃ z : Nat, y = z := ⟨y.toNat, by omega⟩
        exact weightG1_any a c n xs lim x y w.heap.size (w.heap.size + 1) w' hn (hx2.below hb) HA.out h7 (by omega) (by omega) (blk_cell (blk_below qa hb) 0 (.slice a n c) rfl) (blk_cell (blk_below ql hb) 0 (.int .i64 lim) rfl)
      have HR := Lib.hid (show wgrL xs lim = wgtL n xs lim by simp [wgrL, HV.out, hn])
      have HRN := Lib.hid (show wgrN xs = n by simp [wgrN, HV.out, hn])
      have C2 := which_any n _ _ (wP xs lim) w1 (by omega) hAn
      rw [show (pairsL n).filter (wP xs lim) = wgtL n xs lim from rfl] at C2
      clear hAn
      obtain ⟨L, hL⟩ : ∃ L, L = wgtL n xs lim := ⟨_, rfl⟩
      rw [← hL] at C2
      have HL := Lib.hid hL
      clear hL
      go_wp2_with fail
      refine C2.mono ?_
      rintro e w2 ⟨a', c', rfl, ho, hb2⟩
      have ho := own_mono ho hB.size
      have hb3 := below_tr' hB hb2
      have r0 := blk_below Q1.out hb2
      have z0 := blk_cell r0 0 (.int .i64 0) rfl
      have z1 := blk_cell r0 1 (.slice none 0 0) rfl
      have f0 := blk_free r0 0
      have f1 := blk_free r0 1
      have sO := own_setOther (own_setOther ho (w.heap.size + 1 + 1) 0 (.int .i64 n) (own_ne ho r0 (by decide))) (w.heap.size + 1 + 1) 1 (.slice a' L.length L.length) (own_ne ho r0 (by decide))
      have sB := (hb3.setCell (p := ⟨w.heap.size + 1 + 1, 0, none⟩) (by simp <;> omega) (.int .i64 n)).setCell (p := ⟨w.heap.size + 1 + 1, 1, none⟩) (by simp <;> omega) (.slice a' L.length L.length)
      have SO := Lib.hid sO
      have SB := Lib.hid sB
      clear sO sB C2 r0 ho hb2 hb3
      go_wp2
      refine bodyPost_ret (v := .tuple #[graphV n a' L.length L.length, .bool true]) (by simp [results, Try.results44, go_sem, z0, z1]) rfl ⟨a', c', L.length, by rw [HRN.out, HR.out, HV.out, ← HL.out], by rw [HR.out, ← HL.out]; exact SO.out, SB.out⟩
  · have HV := Lib.hid (show wgrOK xs = false by simp [wgrOK, hn, h7])
    go_enter Try.func44, Try.ntmps44
    have r0 := Q1.out
    have z0 := blk_cell r0 0 (.int .i64 0) rfl
    have z1 := blk_cell r0 1 (.slice none 0 0) rfl
    have f0 := blk_free r0 0
    have f1 := blk_free r0 1
    have SB := Lib.hid ((hB.setCell (p := ⟨w.heap.size + 1 + 1, 0, none⟩) (by simp <;> omega) (.int .i64 0)).setCell (p := ⟨w.heap.size + 1 + 1, 1, none⟩) (by simp <;> omega) (.slice none 0 0))
    have HR := Lib.hid (show wgrL xs lim = [] by simp [wgrL, HV.out])
    have HRN := Lib.hid (show wgrN xs = 0 by simp [wgrN, HV.out])
    clear r0
    go_wp2_with (simp only [HW.out])
    refine bodyPost_ret (v := .tuple #[graphV 0 none 0 0, .bool false]) (by simp [results, Try.results44, go_sem, z0, z1]) rfl ⟨none, ⟨0, by rw [HR.out, HRN.out, HV.out]; rfl⟩, ⟨0, by rw [HR.out]; exact World.ownsRow_nil _ _ _ _⟩, SB.out⟩

end Go.Proofs.Ytjghcegacgpehaa
