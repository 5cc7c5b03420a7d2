
/- The sums of the rows and the columns of a matrix: both sides. (Printed by gen_marg.py.) -/
import Derived.Test.YtjghcegacgpehaaTrans
import Derived.Test.YtjghcegacgpehaaEach
namespace Go.Proofs.Ytjghcegacgpehaa
open Go.RowKit

def rsum (m : List (List Int)) (i : Nat) : Int := (m.getD i []).sum
def csum (m : List (List Int)) (n t : Nat) : Int := (rowF (fun x => at2 m x t) n).sum
def margR (m : List (List Int)) : List Int := if validM m = true then rowF (rsum m) m.length else []
def margC (m : List (List Int)) : List Int := if validM m = true then rowF (csum m m.length) (colsOf m) else []
def rAt (m : List (List Int)) (i k : Nat) (x : Nat) : Int := if x < i then rsum m x else if x = i then ((m.getD i []).take k).sum else 0
def cAt (m : List (List Int)) (i k : Nat) (t : Nat) : Int := csum m (if t < k then i + 1 else i) t

theorem rowF_congr {f g : Nat → Int} {n : Nat} (h : ∀ i, i < n → f i = g i) : rowF f n = rowF g n := by
  unfold rowF
  exact List.map_congr_left fun i hi => h i (List.mem_range.1 hi)
theorem rowF_get (f : Nat → Int) (n k : Nat) (hk : k < (rowF f n).length) : (rowF f n)[k]'hk = f k := by simp [rowF]
theorem rowF_upd (f : Nat → Int) (n j : Nat) (v : Int) : (rowF f n).set j v = rowF (fun x => if x = j then v else f x) n := by
  apply List.ext_getElem
  · simp [rowF]
  · intro i h1 h2
    rw [rowF_get, List.getElem_set]
    by_cases e : j = i
    · rw [if_pos e, if_pos e.symm]
    · rw [if_neg e, if_neg (Ne.symm e), rowF_get]

theorem marg_len (m : List (List Int)) : (margR m).length ≤ 5 ∧ (margC m).length ≤ 5 := by
  unfold margR margC
  split
  · rename_i h
    have h1 := validM_cols h
    rw [rowF_length, rowF_length]; omega
  · simp

theorem row_small {m : List (List Int)} (h : validM m = true) {i : Nat} (hi : i < m.length) : Small (m[i]'hi) := fun x hx => by
  have := (validM_row h hi).2.2 x hx
  omega
theorem col_small {m : List (List Int)} (h : validM m = true) {n k : Nat} (hn : n ≤ m.length) (hk : k < colsOf m) : Small (rowF (fun x => at2 m x k) n) := fun x hx => by
  obtain ⟨i, hi, rfl⟩ := List.mem_map.1 hx
  have := at2_bounds h (i := i) (k := k) (by have := List.mem_range.1 hi; omega) hk
  omega
theorem getD_row {m : List (List Int)} {i : Nat} (hi : i < m.length) : m.getD i [] = m[i]'hi := by rw [List.getD, List.getElem?_eq_getElem hi]; rfl

theorem rAt_set {m : List (List Int)} {i k n : Nat} (hi : i < m.length) (hk : k < (m[i]'hi).length) : (rowF (rAt m i k) n).set i (((m.getD i []).take k).sum + at2 m i k) = rowF (rAt m i (k + 1)) n := by
  rw [rowF_upd]
  refine rowF_congr fun x _ => ?_
  by_cases e : x = i
  · subst e
    rw [if_pos rfl, rAt, if_neg (Nat.lt_irrefl _), if_pos rfl, getD_row hi, sum_take_succ _ _ hk, at2_get hi hk]
  · rw [if_neg e, rAt, rAt]
    simp only [if_neg e]
theorem cAt_set {m : List (List Int)} {i k n : Nat} : (rowF (cAt m i k) n).set k (csum m i k + at2 m i k) = rowF (cAt m i (k + 1)) n := by
  rw [rowF_upd]
  refine rowF_congr fun x _ => ?_
  by_cases e : x = k
  · subst e
    rw [if_pos rfl, cAt, if_pos (Nat.lt_succ_self _), csum, csum, rowF_succ, List.sum_append]
    simp
  · rw [if_neg e, cAt, cAt]
    by_cases h : x < k
    · rw [if_pos h, if_pos (by omega)]
    · rw [if_neg h, if_neg (by omega)]
theorem rAt_next {m : List (List Int)} {i k n : Nat} (hi : i < m.length) (hk : k = (m[i]'hi).length) : rowF (rAt m i k) n = rowF (rAt m (i + 1) 0) n := by
  refine rowF_congr fun x _ => ?_
  subst hk
  unfold rAt
  by_cases e : x < i
  · rw [if_pos e, if_pos (by omega)]
  · by_cases e2 : x = i
    · subst e2
      rw [if_neg e, if_pos rfl, if_pos (by omega), rsum, getD_row hi, List.take_length]
    · rw [if_neg e, if_neg e2, if_neg (by omega)]
      split <;> simp
theorem cAt_next {m : List (List Int)} {i n : Nat} : rowF (cAt m i n) n = rowF (cAt m (i + 1) 0) n := by
  refine rowF_congr fun x hx => ?_
  rw [cAt, cAt, if_pos hx, if_neg (by omega)]
theorem rAt_zero (m : List (List Int)) (n : Nat) : rowF (rAt m 0 0) n = List.replicate n 0 := by
  apply List.ext_getElem
  · simp [rowF]
  · intro i h1 h2
    rw [rowF_get]
    simp [rAt]
theorem cAt_zero (m : List (List Int)) (n : Nat) : rowF (cAt m 0 0) n = List.replicate n 0 := by
  apply List.ext_getElem
  · simp [rowF]
  · intro i h1 h2
    rw [rowF_get]
    simp [cAt, csum, rowF]
theorem rAt_end (m : List (List Int)) (n : Nat) : rowF (rAt m n 0) n = rowF (rsum m) n := by
  refine rowF_congr fun x hx => ?_
  rw [rAt, if_pos hx]
theorem cAt_end (m : List (List Int)) (n c : Nat) : rowF (cAt m n 0) c = rowF (csum m n) c := by
  refine rowF_congr fun x _ => ?_
  rw [cAt, if_neg (by omega)]
theorem rsum_tbl (rows cols : Nat) (f : Nat → Nat → Int) (i : Nat) (hi : i < rows) : rsum (tbl rows cols f) i = (rowF (f i) cols).sum := by
  rw [rsum, getD_row (by rw [tbl_length]; exact hi)]
  simp [tbl]
theorem rows_of_trans (m : List (List Int)) (n : Nat) : rowF (rsum (tbl (colsOf m) n (fun i k => at2 m k i))) (colsOf m) = rowF (csum m n) (colsOf m) := by
  refine rowF_congr fun i hi => ?_
  rw [rsum_tbl _ _ _ _ hi]; rfl
theorem tbl_small {m : List (List Int)} (h : validM m = true) {i : Nat} (hi : i < (tbl (colsOf m) m.length (fun i k => at2 m k i)).length) : Small ((tbl (colsOf m) m.length (fun i k => at2 m k i))[i]'hi) := by
  have hi' : i < colsOf m := by rwa [tbl_length] at hi
  have e : (tbl (colsOf m) m.length (fun i k => at2 m k i))[i]'hi = rowF (fun x => at2 m x i) m.length := by simp [tbl]
  rw [e]
  exact col_small h (Nat.le_refl _) hi'
theorem tbl_row_len (rows cols : Nat) (f : Nat → Nat → Int) (i : Nat) (hi : i < (tbl rows cols f).length) : ((tbl rows cols f)[i]'hi).length = cols := by
  simp [tbl, rowF]

theorem merge3 {α β γ : Type} {F : α → β → γ → Prop} {G : α → β → γ → Prop} {goal : Prop} (main : (∀ a b c, F a b c → G a b c) → goal) (tail : ∀ a b c, F a b c → G a b c) : goal := main tail
/-- Two rows that were made one after the other. -/
theorem two_rows {w D v1 v2 : World} {n k : Nat} {xs ys : List Value} (h1 : v1.ownsRow D.heap.size 3 1 (.slice (some ⟨D.heap.size, 0, none⟩) n n) n xs) (h2 : v2.ownsRow v1.heap.size 3 1 (.slice (some ⟨v1.heap.size, 0, none⟩) k k) k ys)
    (hb2 : Below w.heap.size w v2) (hb20 : Below v1.heap.size v1 v2) (hb1 : Below w.heap.size w v1) (bd : Below w.heap.size w D) :
    v2.ownsRow w.heap.size 3 1 (.slice (some ⟨D.heap.size, 0, none⟩) n n) n xs ∧ v2.ownsRow w.heap.size 3 1 (.slice (some ⟨v1.heap.size, 0, none⟩) k k) k ys ∧ D.heap.size ≠ v1.heap.size ∧ Below w.heap.size w v2 := by
  have h3 := (own_lt h1 ⟨D.heap.size, 0, none⟩ rfl).2
  exact ⟨own_mono (own_below h1 hb20) bd.size, own_mono h2 hb1.size, by have : D.heap.size < v1.heap.size := h3; omega, hb2⟩

set_option maxHeartbeats 4000000 in
theorem implMarg_any (a : Option Addr) (c n : Nat) (m : List (List Int)) (w : World) (hn : m.length = n) (hx : RdM w a m) (hl : n + sumLen m ≤ 1048576) :
    Calls Try.prog 53 #[.slice a n c] w fun e w' => ∃ a' c' a2 c2, e = .returned (.tuple #[.slice a' (margR m).length c', .slice a2 (margC m).length c2]) ∧
      w'.ownsRow w.heap.size 3 1 (.slice a' (margR m).length c') (margR m).length (ints (margR m)) ∧ w'.ownsRow w.heap.size 3 1 (.slice a2 (margC m).length c2) (margC m).length (ints (margC m)) ∧ Apart a' a2 ∧ Below w.heap.size w w' := by
  have C1 := implValidMatrix_any a c n m w hn hx hl
  cases hv : validM m
  · rw [hv] at C1
    have hR : margR m = [] := by simp [margR, hv]
    have hC : margC m = [] := by simp [margC, hv]
    rw [hR, hC]
    clear hR hC hx hv
    go_enter Try.func53, Try.ntmps53
    go_wp2_with fail
    refine C1.mono ?_
    rintro e w1 ⟨rfl, hb⟩
    go_wp2
    go_ret2
    exact ⟨none, 0, none, 0, rfl, World.ownsRow_nil _ _ _ _, World.ownsRow_nil _ _ _ _, (by intro x y h; cases h), hb⟩
  · rw [hv] at C1
    have h5 := validM_cols hv
    have hR : margR m = rowF (rsum m) n := by simp [margR, hv, hn]
    have hC : margC m = rowF (csum m n) (colsOf m) := by simp [margC, hv, hn]
    rw [hR, hC, rowF_length, rowF_length]
    rw [hn] at h5
    have HV := Lib.hid hv
    obtain ⟨cl, hcl⟩ : ∃ cl, cl = colsOf m := ⟨_, rfl⟩
    rw [← hcl] at h5 ⊢
    have HCL := Lib.hid hcl
    have HN := Lib.hid hn
    clear hv hcl hn hR hC
    go_enter Try.func53, Try.ntmps53
    go_wp2_with fail
    refine C1.mono ?_
    rintro e w1 ⟨rfl, hb⟩
    have hx1 := hx.below hb
    obtain ⟨b0, off0, a0, c0, e0, hc0⟩ := hx1.first HV.out
    rw [← HCL.out] at hc0
    subst e0
    have d1 := later_cell hc0
    have bd := bel_drew (Below.refl w1.heap.size w1)
    clear C1 hx
    go_wp2
    refine wp_region_heads [true, true, false, true, true, true, true, false, false, false] 9 4 (C := fun w' => ∃ u : Later w1, w' = u.val) (by kernel_rfl) (by kernel_rfl) ⟨⟨_, bd⟩, rfl⟩ ?_
    simp only [pickT]
    repeat (go_big_quiet_step (fail))
    refine wpQuiet_nil ?_
    clear d1
    generalize hD : w1.drew = D at *
    clear hD
    apply merge3 (F := fun (A B : Nat) (V : World) => V.ownsRow w1.heap.size 3 1 (.slice (some ⟨A, 0, none⟩) n n) n (ints (List.replicate n 0)) ∧ V.ownsRow w1.heap.size 3 1 (.slice (some ⟨B, 0, none⟩) cl cl) cl (ints (List.replicate cl 0)) ∧ A ≠ B ∧ Below w1.heap.size w1 V)
    case main =>
      intro TAIL
      refine any_two (i := 2) (j := 7) (by kernel_rfl) rfl rfl ?_ ?_
      · intro K hK
        refine makeI Try.infoI _ _ rfl rfl rfl rfl rfl rfl (by omega) ?_
        intro v1 hr hb10
        have hb1 := below_tr' bd hb10
        refine wpList_nil ⟨rfl, hK _ _ (fun _ => ⟨⟨_, hb1⟩, rfl⟩) ?_⟩
        clear hK
        refine any_two (i := 7) (j := 8) (by kernel_rfl) rfl rfl ?_ ?_
        · intro K hK
          refine makeI Try.infoI _ _ rfl rfl rfl rfl rfl rfl (by omega) ?_
          intro v2 hc hb20
          have hb2 := below_tr' hb1 hb20
          refine wpList_nil ⟨rfl, hK _ _ (fun _ => ⟨⟨_, hb2⟩, rfl⟩) ?_⟩
          clear hK
          have HF := Lib.hid (two_rows hr hc hb2 hb20 hb1 bd)
          clear hr hc hb10 hb20
          refine any_one (i := 8) (by kernel_rfl) rfl ?_
          intro K hK
          go_wp2
          refine hK _ _ (fun _ => ⟨⟨_, hb2⟩, rfl⟩) ?_
          clear hK
          refine any_one (i := 9) (by kernel_rfl) rfl ?_
          intro K hK
          go_wp2
          refine hK _ _ (fun h => absurd rfl h) ?_
          clear hK
          obtain ⟨A, hA⟩ : ∃ A, A = D.heap.size := ⟨_, rfl⟩
          obtain ⟨B, hB⟩ : ∃ B, B = v1.heap.size := ⟨_, rfl⟩
          simp only [← hA, ← hB] at HF ⊢
          clear hA hB
          refine any_end (by kernel_rfl) ?_
          exact TAIL A B v2 HF.out
        · intro K hK
          go_wp2
          refine hK _ _ (fun _ => ⟨⟨_, hb1⟩, rfl⟩) ?_
          clear hK
          refine any_one (i := 7) (by kernel_rfl) rfl ?_
          intro K hK
          refine makeI Try.infoI _ _ rfl rfl rfl rfl rfl rfl (by omega) ?_
          intro v2 hc hb20
          have hb2 := below_tr' hb1 hb20
          refine wpList_nil ⟨rfl, hK _ _ (fun _ => ⟨⟨_, hb2⟩, rfl⟩) ?_⟩
          clear hK
          have HF := Lib.hid (two_rows hr hc hb2 hb20 hb1 bd)
          clear hr hc hb10 hb20
          refine any_one (i := 9) (by kernel_rfl) rfl ?_
          intro K hK
          go_wp2
          refine hK _ _ (fun h => absurd rfl h) ?_
          clear hK
          obtain ⟨A, hA⟩ : ∃ A, A = D.heap.size := ⟨_, rfl⟩
          obtain ⟨B, hB⟩ : ∃ B, B = v1.heap.size := ⟨_, rfl⟩
          simp only [← hA, ← hB] at HF ⊢
          clear hA hB
          refine any_end (by kernel_rfl) ?_
          exact TAIL A B v2 HF.out
      · intro K hK
        refine makeI Try.infoI _ _ rfl rfl rfl rfl rfl rfl (by omega) ?_
        intro v1 hc hb10
        have hb1 := below_tr' bd hb10
        refine wpList_nil ⟨rfl, hK _ _ (fun _ => ⟨⟨_, hb1⟩, rfl⟩) ?_⟩
        clear hK
        refine any_one (i := 2) (by kernel_rfl) rfl ?_
        intro K hK
        refine makeI Try.infoI _ _ rfl rfl rfl rfl rfl rfl (by omega) ?_
        intro v2 hr hb20
        have hb2 := below_tr' hb1 hb20
        refine wpList_nil ⟨rfl, hK _ _ (fun _ => ⟨⟨_, hb2⟩, rfl⟩) ?_⟩
        clear hK
        have HF := Lib.hid (two_rows hc hr hb2 hb20 hb1 bd)
        clear hr hc hb10 hb20
        refine any_one (i := 8) (by kernel_rfl) rfl ?_
        intro K hK
        go_wp2
        refine hK _ _ (fun _ => ⟨⟨_, hb2⟩, rfl⟩) ?_
        clear hK
        refine any_one (i := 9) (by kernel_rfl) rfl ?_
        intro K hK
        go_wp2
        refine hK _ _ (fun h => absurd rfl h) ?_
        clear hK
        obtain ⟨A, hA⟩ : ∃ A, A = v1.heap.size := ⟨_, rfl⟩
        obtain ⟨B, hB⟩ : ∃ B, B = D.heap.size := ⟨_, rfl⟩
        simp only [← hA, ← hB] at HF ⊢
        clear hA hB
        refine any_end (by kernel_rfl) ?_
        exact TAIL A B v2 ⟨HF.out.2.1, HF.out.1, Ne.symm HF.out.2.2.1, HF.out.2.2.2⟩
    intro A B V ⟨hr, hc, hAB, hbV⟩
    have HR0 := Lib.hid hr
    have HC0 := Lib.hid hc
    have hAp : A ≠ B := hAB
    have HAB := Lib.hid hAB
    have hbV1 := below_tr' hb hbV
    clear hr hc hAB hAp bd hc0
    go_wp2
    go_loopw [6, 7, 8, 9, 23, 30] (fun _ _ _ _ i _ wr => ∃ k : Nat, k ≤ n ∧ i = .int .i64 k ∧ wr.ownsRow w1.heap.size 3 1 (.slice (some ⟨A, 0, none⟩) n n) n (ints (rowF (rAt m k 0) n)) ∧ wr.ownsRow w1.heap.size 3 1 (.slice (some ⟨B, 0, none⟩) cl cl) cl (ints (rowF (cAt m k 0) cl)) ∧ Below w1.heap.size w1 wr) (fun _ _ _ _ i _ _ => n - (intOf i).toNat)
    case atStart => exact ⟨0, by omega, rfl, by rw [rAt_zero]; exact HR0.out, by rw [cAt_zero]; exact HC0.out, hbV⟩
    case round =>
      obtain ⟨i, hi, rfl, hr, hc, hb2⟩ := hrel
      clear HR0 HC0 hbV hbV1
      by_cases hlt : i < n
      · have him : i < m.length := by rw [HN.out]; exact hlt
        have hlen := Lib.hid (show cl = (m[i]'him).length by rw [HCL.out]; exact (validM_row HV.out him).1.symm)
        obtain ⟨b, off, ai, ci, e1, hc1, hrd1, _⟩ := hx1 i him
        cases e1
        have hci := (hb2.cell (p := ⟨b0, off0 + i, none⟩) (Rd.lt hc1)).trans hc1
        rw [← hlen.out] at hci
        have HRD := Lib.hid hrd1
        clear hc1 hrd1
        have HR1 := Lib.hid hr
        have HC1 := Lib.hid hc
        clear hr hc
        obtain ⟨w2, rfl⟩ : ∃ w2 : World, w2 = wr := ⟨_, rfl⟩
        go_wp2
        go_loopw [8, 9, 30] (fun _ _ j wr => ∃ k : Nat, k ≤ cl ∧ j = .int .i64 k ∧ wr.ownsRow w1.heap.size 3 1 (.slice (some ⟨A, 0, none⟩) n n) n (ints (rowF (rAt m i k) n)) ∧ wr.ownsRow w1.heap.size 3 1 (.slice (some ⟨B, 0, none⟩) cl cl) cl (ints (rowF (cAt m i k) cl)) ∧ Below w1.heap.size w1 wr) (fun _ _ j _ => cl - (intOf j).toNat)
        case atStart => exact ⟨0, by omega, rfl, HR1.out, HC1.out, hb2⟩
        case round =>
          obtain ⟨k, hk, rfl, hr, hc, hb3⟩ := hrel
          clear HR1 HC1 hb2 hci
          by_cases hlt2 : k < cl
          · have hkc : k < colsOf m := by rw [← HCL.out]; exact hlt2
            have hkl : k < (m[i]'him).length := by rw [← hlen.out]; exact hlt2
            obtain ⟨bi, oi, e1, c2⟩ := (HRD.out.below hb3).int (k := k) hkl
            subst e1
            rw [← at2_get him hkl] at c2
            have hX := at2_bounds HV.out him hkc
            have g1 := hr.cellAt i (by omega)
            have g2 := hc.cellAt k (by omega)
            have f1 := hr.frozenAt i
            rw [ints_get _ _ (((m.getD i []).take k).sum) (by rw [List.getElem?_eq_getElem (by rw [rowF_length]; exact hlt), rowF_get, rAt, if_neg (Nat.lt_irrefl _), if_pos rfl])] at g1
            rw [ints_get _ _ (csum m i k) (by rw [List.getElem?_eq_getElem (by rw [rowF_length]; exact hlt2), rowF_get, cAt, if_neg (Nat.lt_irrefl _)])] at g2
            have hS := sum_bd _ ((row_small HV.out him).take k)
            rw [← getD_row him] at hS
            have hSl : ((m.getD i []).take k).length ≤ k := List.length_take_le _ _
            have hT := sum_bd _ (col_small HV.out (n := i) (k := k) (by omega) hkc)
            rw [rowF_length] at hT
            have hT' : 0 ≤ csum m i k ∧ csum m i k ≤ 1000000 * i := hT
            have hABx : some A ≠ (Value.slice (some ⟨B, 0, none⟩) cl cl).ownBlock := by simpa [Value.ownBlock] using HAB.out
            have hBAx : some B ≠ (Value.slice (some ⟨A, 0, none⟩) n n).ownBlock := by simpa [Value.ownBlock] using Ne.symm HAB.out
            have s1 := (hr.stored i (.int .i64 (((m.getD i []).take k).sum + at2 m i k))).1
            have o1 := own_setOther hc A i (.int .i64 (((m.getD i []).take k).sum + at2 m i k)) hABx
            have f2 := o1.frozenAt k
            have s2 := (o1.stored k (.int .i64 (csum m i k + at2 m i k))).1
            have o2 := own_setOther s1 B k (.int .i64 (csum m i k + at2 m i k)) hBAx
            have e1 := rAt_set (n := n) him hkl
            have e2 := cAt_set (m := m) (i := i) (k := k) (n := cl)
            have e3 : (ints (rowF (rAt m i k) n)).set i (.int .i64 (((m.getD i []).take k).sum + at2 m i k)) = ints (rowF (rAt m i (k + 1)) n) := by rw [← e1]; simp [ints, List.map_set]
            have e4 : (ints (rowF (cAt m i k) cl)).set k (.int .i64 (csum m i k + at2 m i k)) = ints (rowF (cAt m i (k + 1)) cl) := by rw [← e2]; simp [ints, List.map_set]
            rw [e3] at o2
            rw [e4] at s2
            have hA0 : w1.heap.size ≤ A := (own_lt hr ⟨A, 0, none⟩ rfl).1
            have hB0 : w1.heap.size ≤ B := (own_lt hc ⟨B, 0, none⟩ rfl).1
            have hbb := (hb3.setCell (p := ⟨A, i, none⟩) hA0 (.int .i64 (((m.getD i []).take k).sum + at2 m i k))).setCell (p := ⟨B, k, none⟩) hB0 (.int .i64 (csum m i k + at2 m i k))
            have hBA : B ≠ A := Ne.symm HAB.out
            have g3 : (wr.setCell ⟨A, i, none⟩ (.int .i64 (((m.getD i []).take k).sum + at2 m i k))).cell? ⟨B, k, none⟩ = some (.int .i64 (csum m i k)) := by
              have := o1.cellAt k (by omega)
              rw [this]
              exact ints_get _ _ _ (by rw [List.getElem?_eq_getElem (by rw [rowF_length]; exact hlt2), rowF_get, cAt, if_neg (Nat.lt_irrefl _)])
            have HO2 := Lib.hid o2
            have HS2 := Lib.hid s2
            have HBB := Lib.hid hbb
            clear e1 e2 e3 e4 s1 s2 o1 o2 hbb hT hBA hABx hBAx hr hc hkl hkc g2 hb3
            generalize ((m.getD i []).take k).sum = S at *
            generalize csum m i k = T at *
            generalize at2 m i k = X at *
            generalize ((m.getD i []).take k).length = SL at *
            go_wp2
            go_roundw
            case rel => exact ⟨k + 1, by omega, by go_num, HO2.out, HS2.out, HBB.out⟩
            case measure => simp [intOf]; omega
          · obtain rfl : k = cl := by omega
            have HR2 := Lib.hid (show wr.ownsRow w1.heap.size 3 1 (.slice (some ⟨A, 0, none⟩) n n) n (ints (rowF (rAt m (i + 1) 0) n)) by rw [← rAt_next him hlen.out]; exact hr)
            have HC2 := Lib.hid (show wr.ownsRow w1.heap.size 3 1 (.slice (some ⟨B, 0, none⟩) k k) k (ints (rowF (cAt m (i + 1) 0) k)) by rw [← cAt_next]; exact hc)
            clear hr hc
            go_wp2
            go_roundw
            case rel => exact ⟨i + 1, by omega, by go_num, HR2.out, HC2.out, hb3⟩
            case measure => simp [intOf]; omega
      · obtain rfl : i = n := by omega
        rw [rAt_end] at hr
        rw [cAt_end] at hc
        have HO1 := Lib.hid (own_mono hr hb.size)
        have HO2 := Lib.hid (own_mono hc hb.size)
        clear hr hc
        go_wp2
        go_ret2
        exact ⟨_, _, _, _, rfl, HO1.out, HO2.out, (by intro x y h1 h2; cases h1; cases h2; exact HAB.out), below_tr' hb hb2⟩

end Go.Proofs.Ytjghcegacgpehaa
