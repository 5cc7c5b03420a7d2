
/- Plain laws of matrices: turned, flipped, changed at four places. No program is named here. -/
import Derived.Test.YtjghcegacgpehaaPlainM0
import Derived.Test.YtjghcegacgpehaaCopyM
import Derived.Test.YtjghcegacgpehaaMarg
import Derived.Test.YtjghcegacgpehaaIcs
import Derived.Test.YtjghcegacgpehaaInter
namespace Go.Proofs.Ytjghcegacgpehaa
open Go.RowKit

/-- Two matrices with the same entries are equal. -/
theorem matrix_ext {m m' : List (List Int)} (h : validM m = true) (h' : validM m' = true) (hl : m.length = m'.length) (hc : colsOf m = colsOf m') (he : ∀ i k, i < m.length → k < colsOf m → at2 m i k = at2 m' i k) : m = m' := by
  rw [← tbl_self h, ← tbl_self h', ← hl, ← hc]
  exact tbl_congr he

theorem trans_valid {m : List (List Int)} (h : validM m = true) : validM (transL m) = true := by
  have h5 := validM_cols h
  rw [transL, if_pos h]
  exact valid_tbl (by omega) (by omega) fun i k hi hk => at2_bounds h hk hi
theorem trans_len {m : List (List Int)} (h : validM m = true) : (transL m).length = colsOf m := by rw [transL, if_pos h, tbl_length]
theorem trans_cols {m : List (List Int)} (h : validM m = true) : colsOf (transL m) = m.length := by rw [transL, if_pos h, cols_tbl (validM_cols h).1]
theorem trans_at {m : List (List Int)} (h : validM m = true) {i k : Nat} (hi : i < colsOf m) (hk : k < m.length) : at2 (transL m) i k = at2 m k i := by rw [transL, if_pos h, at2_tbl hi hk]
theorem trans_trans {m : List (List Int)} (h : validM m = true) : transL (transL m) = m := by
  have hv := trans_valid h
  refine matrix_ext (trans_valid hv) h ?_ ?_ ?_
  · rw [trans_len hv, trans_cols h]
  · rw [trans_cols hv, trans_len h]
  · intro i k hi hk
    rw [trans_len hv, trans_cols h] at hi
    rw [trans_cols hv, trans_len h] at hk
    rw [trans_at hv (by rw [trans_cols h]; exact hi) (by rw [trans_len h]; exact hk), trans_at h hk hi]
theorem flip_valid {m : List (List Int)} (h : validM m = true) : validM (flipL m) = true := by
  have h5 := validM_cols h
  rw [flipL, if_pos h]
  exact valid_tbl (by omega) (by omega) fun i k hi hk => by have := at2_bounds h hi hk; omega
theorem flip_len {m : List (List Int)} (h : validM m = true) : (flipL m).length = m.length := by rw [flipL, if_pos h, tbl_length]
theorem flip_cols {m : List (List Int)} (h : validM m = true) : colsOf (flipL m) = colsOf m := by rw [flipL, if_pos h, cols_tbl (validM_cols h).2.2.1]
theorem flip_at {m : List (List Int)} (h : validM m = true) {i k : Nat} (hi : i < m.length) (hk : k < colsOf m) : at2 (flipL m) i k = 1 - at2 m i k := by rw [flipL, if_pos h, at2_tbl hi hk]
theorem flip_flip {m : List (List Int)} (h : validM m = true) : flipL (flipL m) = m := by
  have hv := flip_valid h
  refine matrix_ext (flip_valid hv) h ?_ ?_ ?_
  · rw [flip_len hv, flip_len h]
  · rw [flip_cols hv, flip_cols h]
  · intro i k hi hk
    rw [flip_len hv, flip_len h] at hi
    rw [flip_cols hv, flip_cols h] at hk
    rw [flip_at hv (by rw [flip_len h]; exact hi) (by rw [flip_cols h]; exact hk), flip_at h hi hk]
    omega
theorem flip_trans {m : List (List Int)} (h : validM m = true) : flipL (transL m) = transL (flipL m) := by
  have h1 := trans_valid h
  have h2 := flip_valid h
  refine matrix_ext (flip_valid h1) (trans_valid h2) ?_ ?_ ?_
  · rw [flip_len h1, trans_len h, trans_len h2, flip_cols h]
  · rw [flip_cols h1, trans_cols h, trans_cols h2, flip_len h]
  · intro i k hi hk
    rw [flip_len h1, trans_len h] at hi
    rw [flip_cols h1, trans_cols h] at hk
    rw [flip_at h1 (by rw [trans_len h]; exact hi) (by rw [trans_cols h]; exact hk), trans_at h hi hk, trans_at h2 (by rw [flip_cols h]; exact hi) (by rw [flip_len h]; exact hk), flip_at h hk hi]
theorem tour_trans {m : List (List Int)} (h : tourB m = true) : validM m = true ∧ tourB (transL m) = true := by
  rw [tourB, Bool.and_eq_true, Bool.and_eq_true, decide_eq_true_eq] at h
  obtain ⟨hv, hl, ha⟩ := h
  have hl' : m.length = colsOf m := hl
  refine ⟨hv, tour_yes (trans_valid hv) ?_ ?_⟩
  · show (transL m).length = colsOf (transL m)
    rw [trans_len hv, trans_cols hv]; omega
  · intro i hi k hk
    rw [trans_len hv] at hi hk
    have h1 := List.all_eq_true.1 (List.all_eq_true.1 ha k (List.mem_range.2 (by omega))) i (List.mem_range.2 (by omega))
    unfold okT at h1 ⊢
    by_cases e : i = k
    · subst e
      rw [if_pos rfl] at h1 ⊢
      rw [trans_at hv hi (by omega)]; exact h1
    · rw [if_neg (Ne.symm e)] at h1
      rw [if_neg e, trans_at hv hi (by omega), trans_at hv hk (by omega)]
      simpa using h1

/-- Counting pairs either way. -/
def cnt2 (P : Nat → Nat → Bool) (n m : Nat) : Nat := ((List.range n).map fun b => ((List.range m).filter (P b)).length).sum
theorem cnt2_succ (P : Nat → Nat → Bool) (n m : Nat) : cnt2 P (n + 1) m = cnt2 P n m + ((List.range m).filter (P n)).length := by simp [cnt2, List.range_succ]
theorem cnt2_succ_right (P : Nat → Nat → Bool) (n m : Nat) : cnt2 P n (m + 1) = cnt2 P n m + ((List.range n).filter fun b => P b m).length := by
  induction n with
  | zero => simp [cnt2]
  | succ n ih =>
    rw [cnt2_succ, cnt2_succ, ih, List.range_succ (n := m), List.filter_append, List.length_append, List.range_succ (n := n), List.filter_append, List.length_append]
    simp only [List.filter_cons, List.filter_nil]
    cases P n m <;> simp <;> omega
theorem cnt2_swap (P : Nat → Nat → Bool) (n m : Nat) : cnt2 P n m = cnt2 (fun d b => P b d) m n := by
  induction n with
  | zero =>
    have : ∀ k, cnt2 (fun d b => P b d) k 0 = 0 := by intro k; induction k with | zero => rfl | succ k ih => rw [cnt2_succ, ih]; rfl
    rw [this]; rfl
  | succ n ih => rw [cnt2_succ, cnt2_succ_right, ih]
theorem cnt2_congr {P Q : Nat → Nat → Bool} {n m : Nat} (h : ∀ b d, b < n → d < m → P b d = Q b d) : cnt2 P n m = cnt2 Q n m := by
  unfold cnt2
  congr 1
  refine List.map_congr_left fun b hb => ?_
  congr 1
  exact List.filter_congr fun d hd => h b d (List.mem_range.1 hb) (List.mem_range.1 hd)
theorem ic3_cnt (m : List (List Int)) (cl : Nat) (a c : Int) (k : Nat) : (ic3 m cl a c k).length = cnt2 (fun b d => mayB m a b c d) k cl := by
  induction k with
  | zero => rfl
  | succ k ih => rw [ic3_succ, List.length_append, ih, cnt2_succ, ic4, List.length_map]
theorem may_flip {m : List (List Int)} (h : validM m = true) {a c b d : Nat} (hb : b < colsOf m) (hd : d < colsOf m) : mayB (flipL m) a b c d = mayB m a d c b := by
  unfold mayB
  rw [flip_len h, flip_cols h]
  have hb1 : inR (b : Int) 0 ((colsOf m : Int) - 1) = true := inR_true.2 (by omega)
  have hd1 : inR (d : Int) 0 ((colsOf m : Int) - 1) = true := inR_true.2 (by omega)
  rw [hb1, hd1]
  by_cases ha : a < m.length
  · by_cases hc : c < m.length
    · have x1 := at2_bounds h ha hb
      have x2 := at2_bounds h ha hd
      have x3 := at2_bounds h hc hb
      have x4 := at2_bounds h hc hd
      simp only [Int.toNat_natCast]
      rw [flip_at h ha hb, flip_at h hc hd, flip_at h ha hd, flip_at h hc hb]
      generalize at2 m a b = p at *
      generalize at2 m a d = q at *
      generalize at2 m c b = r at *
      generalize at2 m c d = s at *
      simp only [Bool.true_and]
      congr 2
      rw [Bool.eq_iff_iff]
      simp only [Bool.and_eq_true, beq_iff_eq]
      omega
    · have : inR (c : Int) 0 ((m.length : Int) - 1) = false := by
        cases hq : inR (c : Int) 0 ((m.length : Int) - 1)
        · rfl
        · have := inR_true.1 hq; omega
      rw [this]; simp
  · have : inR (a : Int) 0 ((m.length : Int) - 1) = false := by
      cases hq : inR (a : Int) 0 ((m.length : Int) - 1)
      · rfl
      · have := inR_true.1 hq; omega
    rw [this]; simp
theorem ics_flip {m : List (List Int)} (h : validM m = true) : (icsL (flipL m)).length = (icsL m).length := by
  rw [icsL, icsL, if_pos h, if_pos (flip_valid h), flip_len h, flip_cols h]
  have h3 : ∀ a c : Nat, (ic3 (flipL m) (colsOf m) a c (colsOf m)).length = (ic3 m (colsOf m) a c (colsOf m)).length := by
    intro a c
    rw [ic3_cnt, ic3_cnt, cnt2_swap (fun b d => mayB m a b c d)]
    exact cnt2_congr fun b d hb hd => may_flip h hb hd
  have h2 : ∀ a k : Nat, (ic2 (flipL m) (colsOf m) a k).length = (ic2 m (colsOf m) a k).length := by
    intro a k
    induction k with
    | zero => rfl
    | succ k ih =>
      rw [ic2_succ, ic2_succ, List.length_append, List.length_append, ih]
      have := h3 a (a + 1 + k)
      rw [show (((a + 1 + k : Nat)) : Int) = (a : Int) + 1 + (k : Int) from by omega] at this
      rw [this]
  have h1 : ∀ k : Nat, (ic1 (flipL m) (colsOf m) m.length k).length = (ic1 m (colsOf m) m.length k).length := by
    intro k
    induction k with
    | zero => rfl
    | succ k ih => rw [ic1_succ, ic1_succ, List.length_append, List.length_append, ih, h2]
  exact h1 _

theorem valid_of_rect {m : List (List Int)} {n cl : Nat} (h : Rect m n cl) (hn : 1 ≤ n ∧ n ≤ 5) (hc : 1 ≤ cl ∧ cl ≤ 5) (he : ∀ i k, i < n → k < cl → 0 ≤ at2 m i k ∧ at2 m i k ≤ 1) : validM m = true ∧ colsOf m = cl := by
  have h0 : 0 < m.length := by rw [h.1]; omega
  have hcol : colsOf m = cl := by
    rw [colsOf, List.getD, List.getElem?_eq_getElem h0]
    exact h.2 0 h0
  refine ⟨?_, hcol⟩
  rw [validM, Bool.and_eq_true]
  constructor
  · rw [List.all_eq_true]
    intro X hX
    obtain ⟨i, hi, rfl⟩ := List.getElem_of_mem hX
    have hl := h.2 i hi
    rw [rowOK, Bool.and_eq_true, Bool.and_eq_true, decide_eq_true_eq, inR_true, hl]
    refine ⟨hcol.symm, by omega, allR_yes fun j hj => ?_⟩
    rw [inR_true, ← at2_get hi hj]
    exact he i j (by rw [← h.1]; exact hi) (by omega)
  · rw [inR_true, h.1]; omega

structure Four (m : List (List Int)) (a b c d : Nat) : Prop where
  v : validM m = true
  la : a < m.length
  lc : c < m.length
  lb : b < colsOf m
  ld : d < colsOf m
  ab : at2 m a b = 1
  cd : at2 m c d = 1
  ad : at2 m a d = 0
  cb : at2 m c b = 0
theorem Four.ne {m : List (List Int)} {a b c d : Nat} (h : Four m a b c d) : a ≠ c ∧ b ≠ d := by
  constructor
  · rintro rfl; have := h.ab; rw [h.cb] at this; omega
  · rintro rfl; have := h.ab; rw [h.ad] at this; omega
theorem four_of {m : List (List Int)} {A B C D : Int} (h : interOK m A B C D = true) : ∃ a b c d : Nat, A = a ∧ B = b ∧ C = c ∧ D = d ∧ Four m a b c d := by
  simp only [interOK, Bool.and_eq_true] at h
  obtain ⟨a, b, c, d, rfl, rfl, rfl, rfl, ha, hc, hb, hd⟩ := mayB_nat h.2
  have h2 := h.2
  simp only [mayB, Bool.and_eq_true, beq_iff_eq, Int.toNat_natCast] at h2
  exact ⟨a, b, c, d, rfl, rfl, rfl, rfl, ⟨h.1, ha, hc, hb, hd, h2.2.2.2.2.1, h2.2.2.2.2.2.1, h2.2.2.2.2.2.2.1, h2.2.2.2.2.2.2.2⟩⟩
theorem four_ok {m : List (List Int)} {a b c d : Nat} (h : Four m a b c d) : interOK m a b c d = true := by
  simp only [interOK, mayB, Bool.and_eq_true, beq_iff_eq, Int.toNat_natCast, inR_true]
  have := h.la; have := h.lb; have := h.lc; have := h.ld
  exact ⟨h.v, by omega, by omega, by omega, by omega, h.ab, h.cd, h.ad, h.cb⟩
theorem inter_at {m : List (List Int)} {a b c d x y : Nat} (h : Four m a b c d) (hx : x < m.length) (hy : y < colsOf m) :
    at2 (interM m a b c d) x y = if x = a ∧ y = b then 0 else if x = c ∧ y = d then 0 else if x = a ∧ y = d then 1 else if x = c ∧ y = b then 1 else at2 m x y := by
  have hr := rect_of h.v
  have hne := h.ne
  rw [interM, at2_set2 (((hr.set2 _ _ _).set2 _ _ _).set2 _ _ _) h.lc h.lb hx hy, at2_set2 ((hr.set2 _ _ _).set2 _ _ _) h.la h.ld hx hy, at2_set2 (hr.set2 _ _ _) h.lc h.ld hx hy, at2_set2 hr h.la h.lb hx hy]
  by_cases e1 : x = a
  · subst e1
    have n1 : ¬ x = c := hne.1
    by_cases e2 : y = b
    · subst e2; simp [n1, hne.2]
    · simp [n1, e2]
  · by_cases e2 : x = c
    · subst e2
      by_cases e3 : y = d
      · subst e3; simp [e1, Ne.symm hne.2]
      · simp [e1, e3]
    · simp [e1, e2]
theorem inter_four {m : List (List Int)} {a b c d : Nat} (h : Four m a b c d) : Four (interM m a b c d) a d c b ∧ (interM m a b c d).length = m.length ∧ colsOf (interM m a b c d) = colsOf m := by
  have h5 := validM_cols h.v
  have hr := inter_rect (rect_of h.v) a b c d
  have hne := h.ne
  have hv := valid_of_rect hr ⟨h5.2.2.1, h5.2.2.2⟩ ⟨h5.1, h5.2.1⟩ (fun i k hi hk => by
    rw [inter_at h hi hk]
    have := at2_bounds h.v hi hk
    repeat (first | split | omega))
  refine ⟨⟨hv.1, by rw [hr.1]; exact h.la, by rw [hr.1]; exact h.lc, by rw [hv.2]; exact h.ld, by rw [hv.2]; exact h.lb, ?_, ?_, ?_, ?_⟩, hr.1, hv.2⟩
  · rw [inter_at h h.la h.ld]; simp [hne.1, Ne.symm hne.2]
  · rw [inter_at h h.lc h.lb]; simp [Ne.symm hne.1, hne.2]
  · rw [inter_at h h.la h.lb]; simp
  · rw [inter_at h h.lc h.ld]; simp [Ne.symm hne.1]
theorem inter_back {m : List (List Int)} {a b c d : Nat} (h : Four m a b c d) : interM (interM m a b c d) a d c b = m := by
  obtain ⟨h4, hl, hc⟩ := inter_four h
  obtain ⟨h4', hl', hc'⟩ := inter_four h4
  have hne := h.ne
  refine matrix_ext h4'.v h.v (by rw [hl', hl]) (by rw [hc', hc]) ?_
  intro i k hi hk
  rw [hl', hl] at hi
  rw [hc', hc] at hk
  rw [inter_at h4 (by rw [hl]; exact hi) (by rw [hc]; exact hk), inter_at h hi hk]
  by_cases e1 : i = a
  · subst e1
    by_cases e2 : k = d
    · subst e2; simp only [true_and, if_true, and_self]; exact h.ad.symm
    · by_cases e3 : k = b
      · subst e3; simp only [hne.1, e2, false_and, and_false, and_self, if_true, if_false]; exact h.ab.symm
      · simp [e2, e3, hne.1]
  · by_cases e2 : i = c
    · subst e2
      by_cases e3 : k = b
      · subst e3; simp only [e1, true_and, false_and, and_self, if_true, if_false]; exact h.cb.symm
      · by_cases e4 : k = d
        · subst e4; simp only [e1, e3, false_and, and_false, and_self, if_true, if_false]; exact h.cd.symm
        · simp [e1, e3, e4]
    · simp [e1, e2]
theorem sum_upd (f : Nat → Int) (n j : Nat) (v : Int) (hj : j < n) : (rowF (fun x => if x = j then v else f x) n).sum = (rowF f n).sum + v - f j := by
  induction n with
  | zero => omega
  | succ n ih =>
    rw [rowF_succ, rowF_succ, List.sum_append, List.sum_append]
    by_cases e : j = n
    · subst e
      have : rowF (fun x => if x = j then v else f x) j = rowF f j := rowF_congr fun x hx => by rw [if_neg (by omega)]
      rw [this]; simp; omega
    · rw [ih (by omega)]; simp [Ne.symm e]; omega
theorem sum_upd2 (f : Nat → Int) (n i j : Nat) (u v : Int) (hi : i < n) (hj : j < n) (hij : i ≠ j) (h : u + v = f i + f j) : (rowF (fun x => if x = i then u else if x = j then v else f x) n).sum = (rowF f n).sum := by
  rw [sum_upd (fun x => if x = j then v else f x) n i u hi, sum_upd f n j v hj]
  simp only [if_neg hij]
  omega
theorem rsum_row {m : List (List Int)} (h : validM m = true) {i : Nat} (hi : i < m.length) : rsum m i = (rowF (at2 m i) (colsOf m)).sum := by
  rw [rsum, getD_row hi]
  congr 1
  have hr := validM_row h hi
  apply List.ext_getElem
  · rw [rowF_length]; exact hr.1
  · intro k h1 h2
    rw [rowF_get, at2_get hi h1]
theorem inter_margins {m : List (List Int)} {a b c d : Nat} (h : Four m a b c d) : margR (interM m a b c d) = margR m ∧ margC (interM m a b c d) = margC m := by
  obtain ⟨h4, hl, hc⟩ := inter_four h
  have hne := h.ne
  constructor
  · rw [margR, margR, if_pos h4.v, if_pos h.v, hl]
    refine rowF_congr fun i hi => ?_
    rw [rsum_row h4.v (by rw [hl]; exact hi), rsum_row h.v hi, hc]
    by_cases e1 : i = a
    · subst e1
      rw [← sum_upd2 (at2 m i) (colsOf m) b d 0 1 h.lb h.ld hne.2 (by rw [h.ab, h.ad]; rfl)]
      congr 1
      refine rowF_congr fun k hk => ?_
      rw [inter_at h hi hk]
      simp [hne.1]
    · by_cases e2 : i = c
      · subst e2
        rw [← sum_upd2 (at2 m i) (colsOf m) d b 0 1 h.ld h.lb (Ne.symm hne.2) (by rw [h.cd, h.cb]; rfl)]
        congr 1
        refine rowF_congr fun k hk => ?_
        rw [inter_at h hi hk]
        simp [e1]
      · congr 1
        refine rowF_congr fun k hk => ?_
        rw [inter_at h hi hk]
        simp [e1, e2]
  · rw [margC, margC, if_pos h4.v, if_pos h.v, hl, hc]
    refine rowF_congr fun k hk => ?_
    rw [csum, csum]
    by_cases e1 : k = b
    · subst e1
      rw [← sum_upd2 (fun x => at2 m x k) m.length a c 0 1 h.la h.lc hne.1 (by rw [h.ab, h.cb]; rfl)]
      congr 1
      refine rowF_congr fun i hi => ?_
      rw [inter_at h hi hk]
      simp [hne.2]
    · by_cases e2 : k = d
      · subst e2
        rw [← sum_upd2 (fun x => at2 m x k) m.length c a 0 1 h.lc h.la (Ne.symm hne.1) (by rw [h.cd, h.ad]; rfl)]
        congr 1
        refine rowF_congr fun i hi => ?_
        rw [inter_at h hi hk]
        simp [e1]
      · congr 1
        refine rowF_congr fun i hi => ?_
        rw [inter_at h hi hk]
        simp [e1, e2]

theorem inter_law {m : List (List Int)} {A B C D : Int} (h : interOK m A B C D = true) : (interL m A B C D).length = m.length ∧ margR (interL m A B C D) = margR m ∧ margC (interL m A B C D) = margC m ∧ interOK (interL m A B C D) A D C B = true ∧ interL (interL m A B C D) A D C B = m := by
  obtain ⟨a, b, c, d, rfl, rfl, rfl, rfl, h4⟩ := four_of h
  obtain ⟨g4, hl, hc⟩ := inter_four h4
  have e : interL m a b c d = interM m a b c d := by rw [interL, if_pos h]; rfl
  rw [e]
  have ho := four_ok g4
  refine ⟨hl, (inter_margins h4).1, (inter_margins h4).2, ho, ?_⟩
  rw [interL, if_pos ho]
  exact inter_back h4

end Go.Proofs.Ytjghcegacgpehaa
