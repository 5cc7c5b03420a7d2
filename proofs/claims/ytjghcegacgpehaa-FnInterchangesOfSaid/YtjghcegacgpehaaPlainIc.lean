
/- Plain laws: all matrices with the sums of a matrix; a matrix without interchanges is alone. No program is named here. -/
import Derived.Test.YtjghcegacgpehaaNats
import Derived.Test.YtjghcegacgpehaaPlainMx
import Derived.Test.YtjghcegacgpehaaPlainMat
import Derived.Test.YtjghcegacgpehaaPlainFc
namespace Go.Proofs.Ytjghcegacgpehaa
open Go.RowKit

theorem rowF_sF (f : Nat → Int) (n : Nat) : (rowF f n).sum = sF f n := by rw [sF_list]; rfl
/-- No list of matrices has one twice. -/
theorem rowsC_nodup {ok : Nat → Bool} : ∀ (L : List Nat) (j t : Nat), (rowsC ok j L t).Nodup := by
  intro L
  induction L with
  | nil => intro j t; rw [rowsC]; split <;> simp
  | cons c L ih =>
    intro j t
    have hmap : ∀ (v : Int) (l : List (List Int)), l.Nodup → (l.map (v :: ·)).Nodup := fun v l h => by
      rw [List.Nodup, List.pairwise_map]
      exact h.imp fun h1 h2 => h1 (by injection h2)
    rw [rowsC, List.nodup_append]
    refine ⟨?_, hmap 0 _ (ih _ _), ?_⟩
    · split
      · exact hmap 1 _ (ih _ _)
      · exact List.nodup_nil
    · intro a ha b hb h
      subst h
      obtain ⟨Y, _, rfl⟩ := List.mem_map.1 hb
      split at ha
      · obtain ⟨Z, _, h2⟩ := List.mem_map.1 ha
        injection h2 with h3 _
        omega
      · simp at ha
theorem fillC_nodup {may : Nat → Nat → Bool} : ∀ (r : List Nat) (i : Nat) (C : List Nat) (m : List (List Int)), (fillC may i r C m).Nodup := by
  intro r
  induction r with
  | nil => intro i C m; rw [fillC]; split <;> simp
  | cons t r ih =>
    intro i C m
    rw [fillC, List.Nodup, List.pairwise_flatMap]
    refine ⟨fun X _ => ih _ _ _, ?_⟩
    have h := rowsC_nodup (ok := may i) C 0 t
    refine h.imp fun {X X'} hne x hx y hy hxy => ?_
    obtain ⟨Y, e1, _⟩ := fillC_mem.1 hx
    obtain ⟨Y', e2, _⟩ := fillC_mem.1 hy
    rw [hxy, e2, List.append_assoc, List.append_assoc] at e1
    have h3 := List.append_cancel_left e1
    simp only [List.cons_append, List.nil_append, List.cons.injEq] at h3
    exact hne h3.1.symm

theorem colS_csum {Y : List (List Int)} (q : Nat) : colS Y q = csum Y Y.length q := by
  rw [colS, csum]
  congr 1
  apply List.ext_getElem
  · rw [rowF_length, List.length_map]
  · intro i h1 h2
    have h3 : i < Y.length := by simpa using h1
    rw [rowF_get, List.getElem_map, at2, getD_row h3]
theorem marg_bits {m : List (List Int)} (h : validM m = true) : (∀ x ∈ margR m, 0 ≤ x ∧ x ≤ 5) ∧ ∀ x ∈ margC m, 0 ≤ x ∧ x ≤ 5 := by
  have h5 := validM_cols h
  have hup : ∀ (f : Nat → Int) (n : Nat), (∀ i, i < n → 0 ≤ f i ∧ f i ≤ 1) → 0 ≤ sF f n ∧ sF f n ≤ n := by
    intro f n hf
    refine ⟨sF_nonneg fun i hi => (hf i hi).1, ?_⟩
    have := sF_le (f := f) (g := fun _ => 1) (n := n) fun i hi => (hf i hi).2
    have h1 : ∀ k, sF (fun _ => 1) k = (k : Int) := by
      intro k
      induction k with
      | zero => rfl
      | succ k ih => rw [sF, ih]; omega
    rw [h1] at this
    exact this
  rw [margR, margC, if_pos h, if_pos h]
  refine ⟨fun x hx => ?_, fun x hx => ?_⟩
  · obtain ⟨i, hi, rfl⟩ := List.mem_map.1 hx
    rw [List.mem_range] at hi
    rw [rsum_row h hi, rowF_sF]
    have := hup (at2 m i) (colsOf m) fun k hk => at2_bounds h hi hk
    omega
  · obtain ⟨k, hk, rfl⟩ := List.mem_map.1 hx
    rw [List.mem_range] at hk
    rw [csum, rowF_sF]
    have := hup (fun x => at2 m x k) m.length fun i hi => at2_bounds h hi hk
    omega
/-- The matrices with the sums of one. -/
theorem mats_mem {m x : List (List Int)} (h : validM m = true) : x ∈ matsX (fun _ _ => true) (natsOf (margR m)) (natsOf (margC m)) ↔ validM x = true ∧ x.length = m.length ∧ colsOf x = colsOf m ∧ margR x = margR m ∧ margC x = margC m := by
  have h5 := validM_cols h
  have hb := marg_bits h
  have hlr : (margR m).length = m.length := by rw [margR, if_pos h, rowF_length]
  have hlc : (margC m).length = colsOf m := by rw [margC, if_pos h, rowF_length]
  rw [matsX, fillC_mem]
  constructor
  · rintro ⟨Y, e, hY, hr, hc⟩
    rw [List.nil_append] at e
    subst e
    rw [natsOf_length, hlr] at hY
    rw [natsOf_length, hlc] at hr hc
    have hrect : Rect x m.length (colsOf m) := ⟨hY, fun r hr' => (hr r hr').1⟩
    obtain ⟨hv, hcx⟩ := valid_of_rect hrect ⟨h5.2.2.1, h5.2.2.2⟩ ⟨h5.1, h5.2.1⟩ fun i k hi hk => by
      have hi' : i < x.length := by omega
      obtain ⟨g1, g2, _⟩ := hr i hi'
      have hk' : k < (x[i]'hi').length := by omega
      have := g2 k hk'
      rw [List.getD_eq_getElem?_getD, List.getElem?_eq_getElem hk', Option.getD_some, ← at2_get hi' hk'] at this
      omega
    refine ⟨hv, hY, hcx, ?_, ?_⟩
    · rw [margR, if_pos hv, hY]
      apply List.ext_getElem
      · rw [rowF_length, hlr]
      · intro i h1 h2
        have hi : i < x.length := by rw [rowF_length] at h1; omega
        rw [rowF_get, rsum, getD_row hi, (hr i hi).2.2, natsOf_at (fun x hx => (hb.1 x hx).1) h2]
    · rw [margC, if_pos hv, hcx]
      apply List.ext_getElem
      · rw [rowF_length, hlc]
      · intro q h1 h2
        have hq : q < colsOf m := by rw [rowF_length] at h1; exact h1
        rw [rowF_get, ← colS_csum, hc q hq, natsOf_at (fun x hx => (hb.2 x hx).1) h2]
  · rintro ⟨hv, hl, hcx, hR, hC⟩
    refine ⟨x, by simp, by rw [natsOf_length, hlr, hl], fun p hp => ?_, fun q hq => ?_⟩
    · have hrow := validM_row hv hp
      refine ⟨by rw [natsOf_length, hlc, hrow.1]; exact hcx, fun q hq => ?_, ?_⟩
      · have := hrow.2.2 _ (List.getElem_mem hq)
        rw [List.getD_eq_getElem?_getD, List.getElem?_eq_getElem hq, Option.getD_some]
        rcases (by omega : (x[p]'hp)[q]'hq = 0 ∨ (x[p]'hp)[q]'hq = 1) with h1 | h1
        · exact .inl h1
        · exact .inr ⟨h1, rfl⟩
      · have hp2 : p < (margR m).length := by omega
        rw [natsOf_at (fun x hx => (hb.1 x hx).1) hp2]
        have h1 : p < (margR x).length := by rw [hR]; exact hp2
        have h2 : (margR m)[p]'hp2 = (margR x)[p]'h1 := by simp only [hR]
        rw [h2]
        simp only [margR, if_pos hv, rowF_get, rsum, getD_row hp]
    · rw [natsOf_length] at hq
      rw [natsOf_at (fun x hx => (hb.2 x hx).1) hq]
      have h1 : q < (margC x).length := by rw [hC]; exact hq
      have h2 : (margC m)[q]'hq = (margC x)[q]'h1 := by simp only [hC]
      rw [h2, colS_csum]
      simp only [margC, if_pos hv, rowF_get]

/-- Two rows of bits with one sum: where the one has less, there is a place where it has more. -/
theorem bits_more {f g : Nat → Int} {n : Nat} (hs : sF f n = sF g n) (hn : ¬ ∀ i, i < n → f i = g i) : ∃ i, i < n ∧ f i < g i := by
  refine Classical.byContradiction fun h => hn ?_
  have h1 : ∀ i, i < n → 0 ≤ f i - g i := fun i hi => by
    have : ¬ f i < g i := fun h2 => h ⟨i, hi, h2⟩
    omega
  have h2 := sF_none h1 (by rw [sF_sub]; omega)
  intro i hi
  have := h2 i hi
  omega
theorem ics_four {m : List (List Int)} (hv : validM m = true) (h : icsL m = []) {a b c d : Nat} : ¬ Four m a b c d := by
  have key : ∀ {a b c d : Nat}, Four m a b c d → a < c → False := by
    intro a b c d h4 hac
    have : ((a : Int), (b : Int), (c : Int), (d : Int)) ∈ icsL m := by
      rw [icsL, if_pos hv, ic1]
      refine List.mem_flatMap.2 ⟨a, List.mem_range.2 h4.la, ?_⟩
      refine List.mem_flatMap.2 ⟨c - (a + 1), List.mem_range.2 (by have := h4.lc; omega), ?_⟩
      refine List.mem_flatMap.2 ⟨b, List.mem_range.2 h4.lb, ?_⟩
      have e : (a : Int) + 1 + ((c - (a + 1) : Nat) : Int) = (c : Int) := by omega
      rw [e]
      refine List.mem_map.2 ⟨d, List.mem_filter.2 ⟨List.mem_range.2 h4.ld, ?_⟩, rfl⟩
      have := four_ok h4
      rw [interOK, Bool.and_eq_true] at this
      exact this.2
    rw [h] at this
    simp at this
  intro h4
  rcases Nat.lt_or_gt_of_ne h4.ne.1 with h1 | h1
  · exact key h4 h1
  · exact key (a := c) (b := d) (c := a) (d := b) ⟨h4.v, h4.lc, h4.la, h4.ld, h4.lb, h4.cd, h4.ab, h4.cb, h4.ad⟩ h1
theorem marg_get {m x : List (List Int)} (hv : validM m = true) (hx : validM x = true) (hl : x.length = m.length) (hc : colsOf x = colsOf m) (hR : margR x = margR m) (hC : margC x = margC m) :
    (∀ i, i < m.length → sF (at2 x i) (colsOf m) = sF (at2 m i) (colsOf m)) ∧ ∀ k, k < colsOf m → sF (fun i => at2 x i k) m.length = sF (fun i => at2 m i k) m.length := by
  rw [margR, margR, if_pos hv, if_pos hx, hl] at hR
  rw [margC, margC, if_pos hv, if_pos hx, hl, hc] at hC
  refine ⟨fun i hi => ?_, fun k hk => ?_⟩
  · have h1 : i < (rowF (rsum x) m.length).length := by rw [rowF_length]; exact hi
    have h2 : i < (rowF (rsum m) m.length).length := by rw [rowF_length]; exact hi
    have h3 : (rowF (rsum x) m.length)[i]'h1 = (rowF (rsum m) m.length)[i]'h2 := by simp only [hR]
    rw [rowF_get, rowF_get, rsum_row hx (by omega), rsum_row hv hi, rowF_sF, rowF_sF, hc] at h3
    exact h3
  · have h1 : k < (rowF (csum x m.length) (colsOf m)).length := by rw [rowF_length]; exact hk
    have h2 : k < (rowF (csum m m.length) (colsOf m)).length := by rw [rowF_length]; exact hk
    have h3 : (rowF (csum x m.length) (colsOf m))[k]'h1 = (rowF (csum m m.length) (colsOf m))[k]'h2 := by simp only [hC]
    rw [rowF_get, rowF_get, csum, csum, rowF_sF, rowF_sF] at h3
    exact h3
theorem ics_alone {m x : List (List Int)} (hv : validM m = true) (h : icsL m = []) (hx : validM x = true) (hl : x.length = m.length) (hc : colsOf x = colsOf m) (hR : margR x = margR m) (hC : margC x = margC m) : x = m := by
  have h5 := validM_cols hv
  obtain ⟨hr, hk⟩ := marg_get hv hx hl hc hR hC
  have key : ∀ (k : Nat) (r : Nat), r < m.length → 6 ≤ sF (at2 m r) (colsOf m) + k → ∀ j, j < colsOf m → at2 x r j = at2 m r j := by
    intro k
    induction k with
    | zero =>
      intro r hr' h6
      have h1 := sF_le (f := at2 m r) (g := fun _ => 1) (n := colsOf m) fun i hi => (at2_bounds hv hr' hi).2
      have h2 : ∀ k, sF (fun _ => 1) k = (k : Int) := by
        intro k
        induction k with
        | zero => rfl
        | succ k ih => rw [sF, ih]; omega
      rw [h2] at h1
      omega
    | succ k ih =>
      intro r hr' h6
      refine Classical.byContradiction fun hn => ?_
      obtain ⟨d, hd, h1⟩ := bits_more (f := at2 m r) (g := at2 x r) (hr r hr').symm fun h => hn fun j hj => (h j hj).symm
      have b1 := at2_bounds hv hr' hd
      have b2 := at2_bounds hx (i := r) (k := d) (by omega) (by omega)
      obtain ⟨c, hc', h2⟩ : ∃ c, c < m.length ∧ at2 x c d < at2 m c d := bits_more (f := fun i => at2 x i d) (g := fun i => at2 m i d) (hk d hd) fun h => by
        have h9 : at2 x r d = at2 m r d := h r hr'
        omega
      have b3 := at2_bounds hv hc' hd
      have b4 := at2_bounds hx (i := c) (k := d) (by omega) (by omega)
      have hle : ∀ b, b < colsOf m → at2 m r b ≤ at2 m c b := by
        intro b hb
        have b5 := at2_bounds hv hr' hb
        have b6 := at2_bounds hv hc' hb
        refine Classical.byContradiction fun h3 => ics_four hv h (a := r) (b := b) (c := c) (d := d) ⟨hv, hr', hc', hb, hd, by omega, by omega, by omega, by omega⟩
      have hlt : sF (at2 m r) (colsOf m) + 1 ≤ sF (at2 m c) (colsOf m) := by
        have := sF_le (f := fun b => at2 m r b + if b = d then 1 else 0) (g := at2 m c) (n := colsOf m) fun b hb => by
          by_cases e : b = d
          · subst e; simp; omega
          · simp [e]; exact hle b hb
        rw [sF_add, sF_one hd] at this
        exact this
      have := ih c hc' (by omega) d hd
      omega
  refine matrix_ext hx hv hl hc fun i k hi hk' => ?_
  have h0 : 0 ≤ sF (at2 m i) (colsOf m) := sF_nonneg fun j hj => (at2_bounds hv (by omega) hj).1
  exact key 6 i (by omega) (by omega) k (by omega)
/-- A matrix is alone with its sums exactly if there is no interchange. -/
theorem ics_law {m : List (List Int)} (hv : validM m = true) : decide ((icsL m).length = 0) = decide ((matsX (fun _ _ => true) (natsOf (margR m)) (natsOf (margC m))).length = 1) := by
  have hm : m ∈ matsX (fun _ _ => true) (natsOf (margR m)) (natsOf (margC m)) := (mats_mem hv).2 ⟨hv, rfl, rfl, rfl, rfl⟩
  have hnd : (matsX (fun _ _ => true) (natsOf (margR m)) (natsOf (margC m))).Nodup := fillC_nodup _ _ _ _
  have hmem := fun x => mats_mem (x := x) hv
  generalize matsX (fun _ _ => true) (natsOf (margR m)) (natsOf (margC m)) = L at *
  rw [decide_eq_decide]
  constructor
  · intro h0
    have h1 := List.eq_nil_of_length_eq_zero h0
    have hall : ∀ x ∈ L, x = m := fun x hx => by
      obtain ⟨g1, g2, g3, g4, g5⟩ := (hmem x).1 hx
      exact ics_alone hv h1 g1 g2 g3 g4 g5
    match L, hm, hnd, hall with
    | [_], _, _, _ => rfl
    | x :: y :: r, _, hnd, hall =>
      exfalso
      have h2 := hall x (by simp)
      have h3 := hall y (by simp)
      subst h2
      subst h3
      simp at hnd
  · intro h1
    cases hi : icsL m with
    | nil => rfl
    | cons s r =>
      exfalso
      have hs : s ∈ icsL m := by rw [hi]; exact List.mem_cons_self ..
      rw [icsL, if_pos hv, ic1] at hs
      obtain ⟨a, _, hs⟩ := List.mem_flatMap.1 hs
      obtain ⟨c, _, hs⟩ := List.mem_flatMap.1 hs
      obtain ⟨b, _, hs⟩ := List.mem_flatMap.1 hs
      obtain ⟨d, hd, rfl⟩ := List.mem_map.1 hs
      have hmay := (List.mem_filter.1 hd).2
      have hok : interOK m a b ((a : Int) + 1 + (c : Int)) d = true := by rw [interOK, hv, hmay]; rfl
      obtain ⟨a', b', c', d', _, _, _, _, h4⟩ := four_of hok
      obtain ⟨g4, hl, hc⟩ := inter_four h4
      obtain ⟨hR, hC⟩ := inter_margins h4
      have hx := (hmem _).2 ⟨g4.v, hl, hc, hR, hC⟩
      obtain ⟨y, hy⟩ := List.length_eq_one_iff.1 h1
      rw [hy, List.mem_singleton] at hx hm
      have e1 := inter_at h4 h4.la h4.lb
      rw [hx, ← hm, h4.ab] at e1
      simp at e1
theorem marg_range {m : List (List Int)} (h : validM m = true) : (∀ x ∈ margR m, 0 ≤ x ∧ x ≤ (colsOf m : Nat)) ∧ ∀ x ∈ margC m, 0 ≤ x ∧ x ≤ (m.length : Nat) := by
  have hup : ∀ (f : Nat → Int) (n : Nat), (∀ i, i < n → 0 ≤ f i ∧ f i ≤ 1) → 0 ≤ sF f n ∧ sF f n ≤ n := by
    intro f n hf
    refine ⟨sF_nonneg fun i hi => (hf i hi).1, ?_⟩
    have := sF_le (f := f) (g := fun _ => 1) (n := n) fun i hi => (hf i hi).2
    have h1 : ∀ k, sF (fun _ => 1) k = (k : Int) := by
      intro k
      induction k with
      | zero => rfl
      | succ k ih => rw [sF, ih]; omega
    rw [h1] at this
    exact this
  rw [margR, margC, if_pos h, if_pos h]
  refine ⟨fun x hx => ?_, fun x hx => ?_⟩
  · obtain ⟨i, hi, rfl⟩ := List.mem_map.1 hx
    rw [List.mem_range] at hi
    rw [rsum_row h hi, rowF_sF]
    exact hup (at2 m i) (colsOf m) fun k hk => at2_bounds h hi hk
  · obtain ⟨k, hk, rfl⟩ := List.mem_map.1 hx
    rw [List.mem_range] at hk
    rw [csum, rowF_sF]
    exact hup (fun x => at2 m x k) m.length fun i hi => at2_bounds h hi hk
theorem marg_lens {m : List (List Int)} (h : validM m = true) : (margR m).length = m.length ∧ (margC m).length = colsOf m := by
  rw [margR, margC, if_pos h, if_pos h, rowF_length, rowF_length]; exact ⟨rfl, rfl⟩
theorem ics_four_mem {m : List (List Int)} (hv : validM m = true) {s : S4} (hs : s ∈ icsL m) : interOK m s.1 s.2.1 s.2.2.1 s.2.2.2 = true := by
  rw [icsL, if_pos hv, ic1] at hs
  obtain ⟨a, _, hs⟩ := List.mem_flatMap.1 hs
  obtain ⟨c, _, hs⟩ := List.mem_flatMap.1 hs
  obtain ⟨b, _, hs⟩ := List.mem_flatMap.1 hs
  obtain ⟨d, hd, rfl⟩ := List.mem_map.1 hs
  have hmay := (List.mem_filter.1 hd).2
  rw [interOK, hv, hmay]; rfl

end Go.Proofs.Ytjghcegacgpehaa
