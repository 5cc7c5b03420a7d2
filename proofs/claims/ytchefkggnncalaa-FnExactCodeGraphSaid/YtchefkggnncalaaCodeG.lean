/- The graph of a code, both sides. (Printed by gen_codeg.py.) -/
import Derived.Test.YtchefkggnncalaaCode
import Derived.Test.YtchefkggnncalaaSorted
import Derived.Test.YtchefkggnncalaaWhich
namespace Go.Proofs.Ytchefkggnncalaa
open Go.RowKit

theorem byteAt (s : ByteArray) (k : Nat) (h : k < s.size) : s.data.toList.getD k 0 = s[k] := by
  have h' : k < s.data.toList.length := by simpa using h
  rw [List.getD, List.getElem?_eq_getElem h']; rfl
/-- The second vertex of a pair has the letter d. -/
def dP (s : ByteArray) (e : E2) : Bool := decide ((s.data.toList.getD e.2.toNat 0).toNat = 100)
theorem dP_at {s : ByteArray} {x : Int} {y : Nat} (h : y < s.size) : dP s (x, (y : Int)) = decide ((s[y]'h).toNat = 100) := by
  unfold dP
  rw [show ((x, (y : Int)) : E2).2.toNat = y from by simp, byteAt s y h]
def codeL (s : ByteArray) : List E2 := (pairsL s.size).filter (dP s)

set_option maxHeartbeats 4000000 in
theorem specCodeG_any (s : ByteArray) (w : World) (h7 : s.size ≤ 7) :
    Calls Try.prog 58 #[.string s] w fun e w' => ∃ a' c', e = .returned (graphV s.size a' (codeL s).length c') ∧
      w'.ownsRow w.heap.size 59 2 (.slice a' (codeL s).length c') (codeL s).length (edges (codeL s)) ∧ Below w.heap.size w w' := by
  obtain ⟨W4, hW4⟩ : ∃ W, W = (((w.alloc (.cells #[.int .i64 0, .slice none 0 0] 29)).alloc (.cells #[] 59)).alloc (.cells #[.int .i64 s.size, .slice (some ⟨w.heap.size + 1, 0, none⟩) 0 0] 29)) := ⟨_, rfl⟩
  have hs4 : W4.heap.size = w.heap.size + 1 + 1 + 1 := by rw [hW4]; simp
  have hB4 : Below w.heap.size w W4 := by rw [hW4]; exact below_tr' (below_alloc2 w _ _) (below_alloc _ _)
  have q1 : W4.heap[w.heap.size]? = some (.cells #[.int .i64 0, .slice none 0 0] 29 (0, 0)) := by
    rw [hW4, heap_alloc_old _ _ (by simp; omega), heap_alloc_old _ _ (by simp), heap_alloc_new]
  have q2 : W4.heap[w.heap.size + 1]? = some (.cells #[] 59 (0, 0)) := by
    rw [hW4, heap_alloc_old _ _ (by simp), show w.heap.size + 1 = (w.alloc (.cells #[.int .i64 0, .slice none 0 0] 29)).heap.size from by simp, heap_alloc_new]
  have q3 : W4.heap[w.heap.size + 1 + 1]? = some (.cells #[.int .i64 s.size, .slice (some ⟨w.heap.size + 1, 0, none⟩) 0 0] 29 (0, 0)) := by
    rw [hW4, show w.heap.size + 1 + 1 = ((w.alloc (.cells #[.int .i64 0, .slice none 0 0] 29)).alloc (.cells #[] 59)).heap.size from by simp, heap_alloc_new]
  have hown0 : W4.ownsRow w.heap.size 59 2 (.slice (some ⟨w.heap.size + 1, 0, none⟩) 0 0) 0 (edges []) :=
    ⟨rfl, .inr ⟨w.heap.size + 1, 0, #[], rfl, by omega, q2, Nat.le_refl _, by decide, rfl, rfl⟩⟩
  have HP := Lib.hid (specPairs_any s.size W4 (by omega))
  have hpl := pairsL_len (N := s.size) (by omega)
  have HW4 := Lib.hid hW4
  clear hW4 q2
  go_enter Try.func58, Try.ntmps58
  go_wp2_with fail
  rw [← HW4.out]
  refine HP.out.mono ?_
  rintro e w5 ⟨aL, cL, rfl, hoL, hb5⟩
  have hap : Apart aL (some ⟨w.heap.size + 1, 0, none⟩) := (apart_of hown0 hoL).symm
  have hown5 := own_below hown0 hb5
  have q1 := blk_below q1 hb5
  have q3 := blk_below q3 hb5
  have hoL := own_mono hoL hB4.size
  have hB5 := below_tr' hB4 hb5
  clear hown0 hb5 hB4
  obtain ⟨m, hm⟩ : ∃ m, m = (pairsL s.size).length := ⟨_, rfl⟩
  rw [← hm] at hoL hpl
  go_wp2_with fail
  rw [← hm]
  have HM := Lib.hid hm
  clear hm
  go_loopw [5] (fun i wr => ∃ (k : Nat) (av : Option Addr) (kv cv : Nat), k ≤ m ∧ i = .int .i64 k ∧ kv = (filtUpto (pairsL s.size) (dP s) k).length ∧
      wr.ownsRow w.heap.size 59 2 (.slice av kv cv) kv (edges (filtUpto (pairsL s.size) (dP s) k)) ∧
      wr.heap[w.heap.size + 1 + 1]? = some (.cells #[.int .i64 s.size, .slice av kv cv] 29 (0, 0)) ∧
      wr.heap[w.heap.size]? = some (.cells #[.int .i64 0, .slice none 0 0] 29 (0, 0)) ∧
      wr.ownsRow w.heap.size 59 2 (.slice aL m cL) m (edges (pairsL s.size)) ∧ Apart aL av ∧ Below w.heap.size w wr) (fun i _ => m - (intOf i).toNat)
  case atStart => exact ⟨0, _, 0, 0, by omega, rfl, by simp [filtUpto], hown5, q3, q1, hoL, hap, hB5⟩
  case round =>
    obtain ⟨k, av, kv, cv, hk, rfl, hkv, ho, r3, r1, hL, hapr, hb⟩ := hrel
    by_cases hlt : k < m
    · have hLk : k < (pairsL s.size).length := by rw [← HM.out]; exact hlt
      obtain ⟨b1, o1, rfl, c1, c2⟩ := (own_rd hL).edge (k := k) hLk
      have HY := Lib.hid (filt_yes (p := (dP s)) hLk)
      have HNo := Lib.hid (filt_no (p := (dP s)) hLk)
      have hkl := filt_len (pairsL s.size) (dP s) k
      have hmem := mem_pairsL.1 (List.getElem_mem hLk)
      rw [← hkv] at hkl
      generalize hF : filtUpto (pairsL s.size) (dP s) k = F at *
      have HF := Lib.hid hF
      generalize hXY : ((pairsL s.size)[k]'hLk) = XY at *
      obtain ⟨X, Y⟩ := XY
      simp only at hmem c1 c2
      obtain ⟨y, rfl⟩ : ∃ y : Nat, Y = y := ⟨Y.toNat, by omega⟩
      have hys : y < s.size := by omega
      have HKV := Lib.hid hkv
      have HO := Lib.hid ho
      have HLL := Lib.hid hL
      have R3 := Lib.hid r3
      have R1 := Lib.hid r1
      have HAP := Lib.hid hapr
      have hsz := hb.size
      have hrow : some b1 ≠ (Value.slice av kv cv).ownBlock := by
        intro e
        cases av with
        | none => simp [Value.ownBlock] at e
        | some y =>
          simp only [Value.ownBlock, Option.some.injEq] at e
          exact hapr _ y rfl rfl e
      have h3 := own_ne ho r3 (by decide)
      have h1 := own_ne ho r1 (by decide)
      have d1 := grow_cell c1 hrow
      have d2 := grow_cell c2 hrow
      have d3 := grow_cell (blk_cell r3 1 (.slice av kv cv) rfl) h3
      have H3 := Lib.hid h3
      have H1 := Lib.hid h1
      have C1 := Lib.hid c1
      clear hF hXY hkv ho hL r3 r1 hapr h3 h1 hrow
      go_wp2
      · have hd : (((s[y]'hys).toNat : Int) == 100) = true := by assumption
        have HY := Lib.hid (HY.out (by rw [dP_at hys]; simp at hd ⊢; omega))
        refine wp_region_flags [true, true, true, true, true, true, false, false, false, false] 9 (C := fun w' => ∃ u : Grow wr (Value.slice av kv cv).ownBlock, w' = u.val) (by kernel_rfl) (by kernel_rfl) ⟨⟨_, grown_drew (World.grownBy.refl _ _)⟩, rfl⟩ ?_
        simp only [pickT, pickF]
        repeat (go_big_quiet_step (fail))
        refine wpQuiet_nil ?_
        refine tail_step fun K hK => ?_
        go_wp2
        refine hK _ _ ⟨⟨_, grown_drew (World.grownBy_alloc wr _ _)⟩, rfl⟩ ?_
        clear hK d1 d2 d3
        refine tail_step fun K2 hK2 => ?_
        change wpList _ _ _ _ _ (wr.drew.alloc (.cells #[.int .i64 X, .int .i64 (y : Int)] 59))
        refine append1g Try.infoE _ _ rfl rfl HO.out.drew (grown_drew (World.grownBy.refl wr _)) hsz rfl rfl rfl (by intro u hu; simp at hu; rcases hu with rfl | rfl <;> rfl) (by omega) ?_
        intro a' c' w2 ho2 hg2 hf2
        refine wpList_nil ⟨rfl, hK2 _ _ ⟨⟨_, hg2⟩, rfl⟩ ?_⟩
        clear hK2
        refine tail_step fun K3 hK3 => ?_
        go_wp2
        refine hK3 _ _ ⟨⟨_, hg2⟩, rfl⟩ ?_
        clear hK3
        refine tail_last fun K4 hK4 => ?_
        have r3 := blk_grown R3.out hg2 H3.out
        have r1 := blk_grown R1.out hg2 H1.out
        have hL2 := own_kept HLL.out hg2 HAP.out
        have hb2 := below_row hb (Nat.le_refl _) HO.out hg2
        have hap2 := apart_append HAP.out (fun x hx => by cases hx; exact (own_lt HLL.out _ rfl).2) hf2
        have k3 := blk_cell r3 1 (.slice av kv cv) rfl
        have f3 := blk_free r3 1
        have s3 := blk_set r3 1 (.slice a' (kv + 1) c')
        have s1 := blk_set_other r1 1 (.slice a' (kv + 1) c') (g := w.heap.size + 1 + 1) (by omega)
        have so := own_setOther ho2 (w.heap.size + 1 + 1) 1 (.slice a' (kv + 1) c') (own_ne ho2 r3 (by decide))
        have sL := own_setOther hL2 (w.heap.size + 1 + 1) 1 (.slice a' (kv + 1) c') (own_ne hL2 r3 (by decide))
        have sB := hb2.setCell (p := ⟨w.heap.size + 1 + 1, 1, none⟩) (by simp; omega) (.slice a' (kv + 1) c')
        have S3 := Lib.hid s3
        have S1 := Lib.hid s1
        have SO := Lib.hid so
        have SL := Lib.hid sL
        have SB := Lib.hid sB
        have AP := Lib.hid hap2
        clear s3 s1 so sL sB r3 r1 ho2 hL2 hb2 hap2 hg2 hf2 hb
        go_wp2
        go_roundw
        case rel => exact ⟨k + 1, a', kv + 1, c', by omega, by go_num, by rw [HY.out, List.length_append, ← HKV.out]; rfl, by rw [HY.out, edges_append]; exact SO.out, S3.out, S1.out, SL.out, AP.out, SB.out⟩
        case measure => simp [intOf]; omega
      · have hd : (((s[y]'hys).toNat : Int) == 100) = false := by assumption
        have HNo := Lib.hid (HNo.out (by rw [dP_at hys]; simp at hd ⊢; omega))
        go_roundw
        case rel => exact ⟨k + 1, av, kv, cv, by omega, by go_num, by rw [HNo.out]; exact HKV.out, by rw [HNo.out]; exact HO.out, R3.out, R1.out, HLL.out, HAP.out, hb⟩
        case measure => simp [intOf]; omega
    · have e : k = m := by omega
      subst e
      have hE : filtUpto (pairsL s.size) (dP s) k = codeL s := by rw [HM.out]; exact filt_all _ _
      rw [hE] at ho hkv
      have HO := Lib.hid ho
      have HKV := Lib.hid hkv
      have R1 := Lib.hid r1
      have k0 := blk_cell r3 0 (.int .i64 s.size) rfl
      have k1 := blk_cell r3 1 (.slice av kv cv) rfl
      have z0 := blk_cell r1 0 (.int .i64 0) rfl
      have z1 := blk_cell r1 1 (.slice none 0 0) rfl
      have f0 := blk_free r1 0
      have f1 := blk_free r1 1
      clear ho hkv hL hE r3 r1
      have sO := own_setOther (own_setOther HO.out w.heap.size 0 (.int .i64 s.size) (own_ne HO.out R1.out (by decide))) w.heap.size 1 (.slice av kv cv) (own_ne HO.out R1.out (by decide))
      have sB := (hb.setCell (p := ⟨w.heap.size, 0, none⟩) (by simp) (.int .i64 s.size)).setCell (p := ⟨w.heap.size, 1, none⟩) (by simp) (.slice av kv cv)
      have SO := Lib.hid sO
      have SB := Lib.hid sB
      clear sO sB
      go_wp2
      refine bodyPost_ret (v := graphV s.size av kv cv) (by simp [results, Try.results58, go_sem, z0, z1]) rfl ⟨av, cv, ?_, ?_, SB.out⟩
      · rw [HKV.out]
      · rw [← HKV.out]; exact SO.out


noncomputable def cgrN (s : ByteArray) : Int := if codeB s then (s.size : Int) else 0
noncomputable def cgrL (s : ByteArray) : List E2 := if codeB s then codeL s else []
theorem cgrL_len (s : ByteArray) : (cgrL s).length ≤ 1000000 := by
  unfold cgrL
  split
  · rename_i h
    have h1 := codeB_true h
    exact Nat.le_trans (List.length_filter_le _ _) (pairsL_len (by omega))
  · simp

theorem enters_codeG : Enters Try.prog 61 := enters Try.func61 (by kernel_rfl) rfl
theorem codeG1_any (s : ByteArray) (x : Int) (y : Nat) (b : Nat) (w : World) (hy : y < s.size) (_hl : s.size ≤ 7) (c : w.cell? ⟨b, 0, none⟩ = some (.string s)) :
    Calls Try.prog 61 #[.int .i64 x, .int .i64 y, .pointer (some ⟨b, 0, none⟩)] w fun e w' => e = .returned (.bool (dP s (x, (y : Int)))) ∧ Below w.heap.size w w' := by
  have HD := Lib.hid (dP_at (x := x) hy)
  go_enter Try.func61, Try.ntmps61
  go_wp2
  go_ret
  exact ⟨ret_bool (by rw [HD.out]; rw [Bool.eq_iff_iff]; simp; omega), Below.refl _ _⟩

set_option maxHeartbeats 1000000 in
theorem specCodeGraph_any (s : ByteArray) (w : World) (hl : s.size ≤ 9223372036854775807) :
    Calls Try.prog 21 #[.string s] w fun e w' => ∃ a' c' d', e = .returned (.tuple #[graphV (cgrN s) a' (cgrL s).length d', .bool (codeB s)]) ∧
      w'.ownsRow w.heap.size 59 2 (.slice a' (cgrL s).length c') (cgrL s).length (edges (cgrL s)) ∧ Below w.heap.size w w' := by
  have hB := below_alloc w (.cells #[.int .i64 0, .slice none 0 0] 29)
  have q1 := heap_alloc_new w (.cells #[.int .i64 0, .slice none 0 0] 29)
  generalize hW : w.alloc (.cells #[.int .i64 0, .slice none 0 0] 29) = W at *
  have HW := Lib.hid hW
  clear hW
  have C1 := specCode_any s W hl
  have z0 := blk_cell q1 0 (.int .i64 0) rfl
  have z1 := blk_cell q1 1 (.slice none 0 0) rfl
  have f0 := blk_free q1 0
  have f1 := blk_free q1 1
  have Q1 := Lib.hid q1
  cases hv : codeB s
  · rw [hv] at C1
    have HR := Lib.hid (show cgrL s = [] by simp [cgrL, hv])
    have HRN := Lib.hid (show cgrN s = 0 by simp [cgrN, hv])
    have SB := Lib.hid ((hB.setCell (p := ⟨w.heap.size, 0, none⟩) (by simp) (.int .i64 0)).setCell (p := ⟨w.heap.size, 1, none⟩) (by simp) (.slice none 0 0))
    clear q1
    go_enter Try.func21, Try.ntmps21
    go_wp2_with (simp only [HW.out])
    refine C1.mono ?_
    rintro e w1 ⟨rfl, rfl⟩
    clear C1
    go_wp2
    refine bodyPost_ret (v := .tuple #[graphV 0 none 0 0, .bool false]) (by simp [results, Try.results21, go_sem, z0, z1]) rfl ⟨none, 0, 0, by rw [HR.out, HRN.out]; rfl, by rw [HR.out]; exact World.ownsRow_nil _ _ _ _, SB.out⟩
  · rw [hv] at C1
    have hcb := codeB_true hv
    have h7 : s.size ≤ 7 := hcb.2.2
    have HR := Lib.hid (show cgrL s = codeL s by simp [cgrL, hv])
    have HRN := Lib.hid (show cgrN s = s.size by simp [cgrN, hv])
    have C2 := specCodeG_any s W (by omega)
    obtain ⟨L, hL⟩ : ∃ L, L = codeL s := ⟨_, rfl⟩
    rw [← hL] at C2
    have HL := Lib.hid hL
    clear hL q1 hcb z0 z1 f0 f1
    go_enter Try.func21, Try.ntmps21
    go_wp2_with (simp only [HW.out])
    refine C1.mono ?_
    rintro e w1 ⟨rfl, rfl⟩
    clear C1
    go_wp2_with fail
    refine C2.mono ?_
    rintro e w2 ⟨a', c', rfl, ho, hb2⟩
    have ho := own_mono ho hB.size
    have hb3 := below_tr' hB hb2
    have r0 := blk_below Q1.out hb2
    have z0 := blk_cell r0 0 (.int .i64 0) rfl
    have z1 := blk_cell r0 1 (.slice none 0 0) rfl
    have f0 := blk_free r0 0
    have f1 := blk_free r0 1
    have sO := own_setOther (own_setOther ho (w.heap.size) 0 (.int .i64 s.size) (own_ne ho r0 (by decide))) (w.heap.size) 1 (.slice a' L.length c') (own_ne ho r0 (by decide))
    have sB := (hb3.setCell (p := ⟨w.heap.size, 0, none⟩) (by simp) (.int .i64 s.size)).setCell (p := ⟨w.heap.size, 1, none⟩) (by simp) (.slice a' L.length c')
    have SO := Lib.hid sO
    have SB := Lib.hid sB
    clear sO sB C2 r0 ho hb2 hb3
    go_wp2
    refine bodyPost_ret (v := .tuple #[graphV s.size a' L.length c', .bool true]) (by simp [results, Try.results21, go_sem, z0, z1]) rfl ⟨a', c', c', by rw [HRN.out, HR.out, ← HL.out], by rw [HR.out, ← HL.out]; exact SO.out, SB.out⟩

set_option maxHeartbeats 1000000 in
theorem implCodeGraph_any (s : ByteArray) (w : World) (hl : s.size ≤ 9223372036854775807) :
    Calls Try.prog 22 #[.string s] w fun e w' => ∃ a' c' d', e = .returned (.tuple #[graphV (cgrN s) a' (cgrL s).length d', .bool (codeB s)]) ∧
      w'.ownsRow w.heap.size 59 2 (.slice a' (cgrL s).length c') (cgrL s).length (edges (cgrL s)) ∧ Below w.heap.size w w' := by
  have hB := below_alloc2 w (.cells #[.string s] 9) (.cells #[.int .i64 0, .slice none 0 0] 29)
  have q0 := blk_below (heap_alloc_new w (.cells #[.string s] 9)) (below_alloc _ (.cells #[.int .i64 0, .slice none 0 0] 29))
  have q1 := heap_alloc_new (w.alloc (.cells #[.string s] 9)) (.cells #[.int .i64 0, .slice none 0 0] 29)
  rw [show (w.alloc (.cells #[.string s] 9)).heap.size = w.heap.size + 1 from by simp] at q1
  generalize hW : (w.alloc (.cells #[.string s] 9)).alloc (.cells #[.int .i64 0, .slice none 0 0] 29) = W at *
  have g0 := blk_cell q0 0 (.string s) rfl
  have HW := Lib.hid hW
  clear hW
  have C1 := implCode_any s W hl
  have z0 := blk_cell q1 0 (.int .i64 0) rfl
  have z1 := blk_cell q1 1 (.slice none 0 0) rfl
  have f0 := blk_free q1 0
  have f1 := blk_free q1 1
  have Q1 := Lib.hid q1
  cases hv : codeB s
  · rw [hv] at C1
    have HR := Lib.hid (show cgrL s = [] by simp [cgrL, hv])
    have HRN := Lib.hid (show cgrN s = 0 by simp [cgrN, hv])
    have SB := Lib.hid ((hB.setCell (p := ⟨w.heap.size + 1, 0, none⟩) (by simp) (.int .i64 0)).setCell (p := ⟨w.heap.size + 1, 1, none⟩) (by simp) (.slice none 0 0))
    clear q1
    go_enter Try.func22, Try.ntmps22
    go_wp2_with (simp only [HW.out])
    refine C1.mono ?_
    rintro e w1 ⟨rfl, rfl⟩
    clear C1
    go_wp2
    refine bodyPost_ret (v := .tuple #[graphV 0 none 0 0, .bool false]) (by simp [results, Try.results22, go_sem, z0, z1]) rfl ⟨none, 0, 0, by rw [HR.out, HRN.out]; rfl, by rw [HR.out]; exact World.ownsRow_nil _ _ _ _, SB.out⟩
  · rw [hv] at C1
    have hcb := codeB_true hv
    have h7 : s.size ≤ 7 := hcb.2.2
    have HR := Lib.hid (show cgrL s = codeL s by simp [cgrL, hv])
    have HRN := Lib.hid (show cgrN s = s.size by simp [cgrN, hv])
    have hA : AnswersE W 61 #[.pointer (some ⟨w.heap.size, 0, none⟩)] (pairsL s.size) (dP s) := by
      refine ⟨enters_codeG, fun w' e hb he => ?_⟩
      have hm := mem_pairsL.1 he
      obtain ⟨x, y⟩ := e
      simp only at hm
      obtain ⟨y, rfl⟩ : ∃ z : Nat, y = z := ⟨y.toNat, by omega⟩
      exact codeG1_any s x y w.heap.size w' (by omega) (by omega) (blk_cell (blk_below q0 hb) 0 (.string s) rfl)
    have C2 := which_any s.size _ _ (dP s) W (by omega) hA
    rw [show (pairsL s.size).filter (dP s) = codeL s from rfl] at C2
    obtain ⟨L, hL⟩ : ∃ L, L = codeL s := ⟨_, rfl⟩
    rw [← hL] at C2
    have HL := Lib.hid hL
    clear hL q1 hcb z0 z1 f0 f1 hA
    go_enter Try.func22, Try.ntmps22
    go_wp2_with (simp only [HW.out])
    refine C1.mono ?_
    rintro e w1 ⟨rfl, rfl⟩
    clear C1
    go_wp2_with fail
    refine C2.mono ?_
    rintro e w2 ⟨a', c', rfl, ho, hb2⟩
    have ho := own_mono ho hB.size
    have hb3 := below_tr' hB hb2
    have r0 := blk_below Q1.out hb2
    have z0 := blk_cell r0 0 (.int .i64 0) rfl
    have z1 := blk_cell r0 1 (.slice none 0 0) rfl
    have f0 := blk_free r0 0
    have f1 := blk_free r0 1
    have sO := own_setOther (own_setOther ho (w.heap.size + 1) 0 (.int .i64 s.size) (own_ne ho r0 (by decide))) (w.heap.size + 1) 1 (.slice a' L.length L.length) (own_ne ho r0 (by decide))
    have sB := (hb3.setCell (p := ⟨w.heap.size + 1, 0, none⟩) (by simp) (.int .i64 s.size)).setCell (p := ⟨w.heap.size + 1, 1, none⟩) (by simp) (.slice a' L.length L.length)
    have SO := Lib.hid sO
    have SB := Lib.hid sB
    clear sO sB C2 r0 ho hb2 hb3
    go_wp2
    refine bodyPost_ret (v := .tuple #[graphV s.size a' L.length L.length, .bool true]) (by simp [results, Try.results22, go_sem, z0, z1]) rfl ⟨a', c', L.length, by rw [HRN.out, HR.out, ← HL.out], by rw [HR.out, ← HL.out]; exact SO.out, SB.out⟩

end Go.Proofs.Ytchefkggnncalaa
