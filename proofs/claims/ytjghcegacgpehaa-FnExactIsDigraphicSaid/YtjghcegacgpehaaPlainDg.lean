
/- Plain laws: bits off the diagonal, listed and by the inequalities. No program is named here. -/
import Derived.Test.YtjghcegacgpehaaPlainMx
import Derived.Test.YtjghcegacgpehaaPlainFc
import Derived.Test.YtjghcegacgpehaaPlainM0
import Derived.Test.YtjghcegacgpehaaNats
import Derived.Test.YtjghcegacgpehaaEach
namespace Go.Proofs.Ytjghcegacgpehaa
open Go.RowKit

theorem sF_upto {α : Type} (l : List α) (d : α) (f : α → Int) : ∀ i, i ≤ l.length → sF (fun j => f (l.getD j d)) i = ((l.take i).map f).sum := by
  intro i
  induction i with
  | zero => intro _; rfl
  | succ i ih =>
    intro h
    have hi : i < l.length := by omega
    rw [sF, ih (by omega), List.take_succ_eq_append_getElem hi, List.map_append, List.sum_append, List.getD_eq_getElem?_getD, List.getElem?_eq_getElem hi]
    simp
theorem sF_all {α : Type} (l : List α) (d : α) (f : α → Int) : sF (fun j => f (l.getD j d)) l.length = (l.map f).sum := by rw [sF_upto l d f _ (Nat.le_refl _), List.take_length]
theorem sF_cut {α : Type} (l : List α) (d : α) (f : α → Int) (k : Nat) : ∀ i, i ≤ l.length → sF (fun j => if j < k then f (l.getD j d) else 0) i = ((l.take (min i k)).map f).sum := by
  intro i
  induction i with
  | zero => intro _; simp [sF]
  | succ i ih =>
    intro h
    have hi : i < l.length := by omega
    rw [sF, ih (by omega)]
    by_cases e : i < k
    · rw [if_pos e, show min i k = i by omega, show min (i + 1) k = i + 1 by omega, List.take_succ_eq_append_getElem hi, List.map_append, List.sum_append, List.getD_eq_getElem?_getD, List.getElem?_eq_getElem hi]
      simp
    · rw [if_neg e, show min i k = k by omega, show min (i + 1) k = k by omega]; omega
theorem sum_sF (X : List Int) : X.sum = sF (fun q => X.getD q 0) X.length := by
  have := sF_all X 0 (fun x => x)
  rw [this]; simp
theorem colS_sF (Y : List (List Int)) (q : Nat) : colS Y q = sF (fun i => at2 Y i q) Y.length := by
  rw [colS]
  exact (sF_all Y [] (fun X => X.getD q 0)).symm

/-- The listed matrices are those of bits off the diagonal. -/
theorem mats_off {n : Nat} {R C : List Nat} (hR : R.length = n) (hC : C.length = n) : (matsX (fun i k => i != k) R C).isEmpty = false ↔ ∃ F, FillsF (offE n n) n (fun i => ((R.getD i 0 : Nat) : Int)) (fun j => ((C.getD j 0 : Nat) : Int)) F := by
  constructor
  · intro h
    obtain ⟨x, hx⟩ : ∃ x, x ∈ matsX (fun i k => i != k) R C := by
      cases hm : matsX (fun i k => i != k) R C with
      | nil => rw [hm] at h; simp at h
      | cons y t => exact ⟨y, List.mem_cons_self ..⟩
    rw [matsX, fillC_mem] at hx
    obtain ⟨Y, e, hY, hr, hc⟩ := hx
    rw [List.nil_append] at e
    subst e
    refine ⟨at2 x, fun i j => ?_, fun i hi => ?_, fun j hj => ?_⟩
    · by_cases hi : i < x.length
      · obtain ⟨g1, g2, _⟩ := hr i hi
        by_cases hj : j < (x[i]'hi).length
        · have h2 := g2 j hj
          have e2 : at2 x i j = (x[i]'hi).getD j 0 := by rw [at2_get hi hj, List.getD_eq_getElem?_getD, List.getElem?_eq_getElem hj]; rfl
          rw [e2]
          rcases h2 with h2 | h2
          · exact .inl h2
          · refine .inr ⟨h2.1, offE_mem.2 ⟨by omega, by omega, ?_⟩⟩
            simpa using h2.2
        · left
          have e1 : x.getD i [] = x[i]'hi := by rw [List.getD_eq_getElem?_getD, List.getElem?_eq_getElem hi]; rfl
          unfold at2
          rw [e1, List.getD_eq_getElem?_getD, List.getElem?_eq_none (by omega)]; rfl
      · left
        have e1 : x.getD i [] = [] := by rw [List.getD_eq_getElem?_getD, List.getElem?_eq_none (by omega)]; rfl
        unfold at2
        rw [e1]; simp
    · have hi' : i < x.length := by omega
      obtain ⟨g1, _, g3⟩ := hr i hi'
      have e1 : x.getD i [] = x[i]'hi' := by rw [List.getD_eq_getElem?_getD, List.getElem?_eq_getElem hi']; rfl
      have e2 := sum_sF (x[i]'hi')
      rw [g1, hC, ← e1] at e2
      show sF (fun j => (x.getD i []).getD j 0) n = _
      rw [← e2, e1, g3]
    · have h2 := hc j (by omega)
      rw [colS_sF, hY, hR] at h2
      exact h2
  · rintro ⟨F, h1, h2, h3⟩
    have hx : tbl n n F ∈ matsX (fun i k => i != k) R C := by
      rw [matsX, fillC_mem]
      refine ⟨tbl n n F, (List.nil_append _).symm, by rw [tbl_length, hR], fun p hp => ?_, fun q hq => ?_⟩
      · have hp' : p < n := by rw [tbl_length] at hp; exact hp
        rw [tbl_row]
        have hg : ∀ q, q < n → (rowF (F p) n).getD q 0 = F p q := fun q hq => by
          rw [List.getD_eq_getElem?_getD, List.getElem?_eq_getElem (by rw [rowF_length]; exact hq), Option.getD_some]
          simp [rowF]
        refine ⟨by rw [rowF_length, hC], fun q hq => ?_, ?_⟩
        · rw [rowF_length] at hq
          rw [hg q hq]
          rcases h1 p q with h | h
          · exact .inl h
          · have := (offE_mem.1 h.2).2.2
            simp only at this
            exact .inr ⟨h.1, by simpa using this⟩
        · rw [sum_sF, rowF_length, sF_congr hg, h2 p hp']
      · rw [hC] at hq
        rw [colS_sF, tbl_length]
        exact (sF_congr fun i hi => at2_tbl hi hq).trans (h3 q hq)
    cases hm : matsX (fun i k => i != k) R C with
    | nil => rw [hm] at hx; simp at hx
    | cons y t => rfl

abbrev P2 := Int × Int
/-- Whether a pair comes ahead of one, or at its place. -/
def firstP (y e : P2) : Bool := decide (e.1 < y.1) || (decide (y.1 = e.1) && decide (e.2 ≤ y.2))
def insP (e : P2) : List P2 → List P2
  | [] => [e]
  | y :: l => if firstP y e = true then y :: insP e l else e :: y :: l
theorem insP_map (a b : Nat → Int) (x : Nat) (l : List Nat) : (insF a b x l).map (fun v => (a v, b v)) = insP (a x, b x) (l.map fun v => (a v, b v)) := by
  induction l with
  | nil => rfl
  | cons y l ih =>
    rw [insF, List.map_cons, insP]
    by_cases h : (decide (a x < a y) || (decide (a y = a x) && decide (b x ≤ b y))) = true
    · rw [if_pos h, if_pos (by exact h), List.map_cons, ih]
    · rw [if_neg h, if_neg (by exact h), List.map_cons, List.map_cons]
theorem insP_cut {e : P2} : ∀ {l : List P2} {k : Nat}, k ≤ l.length → (∀ j (_ : j < k) (h : j < l.length), firstP (l[j]'h) e = true) → (∀ h : k < l.length, firstP (l[k]'h) e = false) → insP e l = l.take k ++ e :: l.drop k := by
  intro l
  induction l with
  | nil => intro k hk _ _; simp at hk; subst hk; rfl
  | cons y l ih =>
    intro k hk h1 h2
    cases k with
    | zero =>
      have := h2 (by simp)
      simp only [List.getElem_cons_zero] at this
      rw [insP, this]; rfl
    | succ k =>
      have := h1 0 (by omega) (by simp)
      simp only [List.getElem_cons_zero] at this
      rw [insP, if_pos this, ih (k := k) (by simpa using hk) (fun j hj h => h1 (j + 1) (by omega) (by simpa using h)) (fun h => h2 (by simpa using h))]
      rfl
/-- The reference's order of the first i pairs. -/
def ordP (xs ys : List Int) (i : Nat) : List P2 := (ordF (fun v => xs.getD v 0) (fun v => ys.getD v 0) i).map fun v => (xs.getD v 0, ys.getD v 0)
theorem ordP_zero (xs ys : List Int) : ordP xs ys 0 = [] := rfl
theorem ordP_succ (xs ys : List Int) (i : Nat) : ordP xs ys (i + 1) = insP (xs.getD i 0, ys.getD i 0) (ordP xs ys i) := by rw [ordP, ordF, insP_map]; rfl
theorem ordP_length (xs ys : List Int) (i : Nat) : (ordP xs ys i).length = i := by rw [ordP, List.length_map, (ordF_perm _ _ i).length_eq, List.length_range]
/-- What the inequality for k adds up. -/
def termP (l : List P2) (k : Nat) (j : Nat) : Int := if j < k then min (l.getD j (0, 0)).2 ((k : Int) - 1) - (l.getD j (0, 0)).1 else min (l.getD j (0, 0)).2 (k : Int)
def okP (l : List P2) (k : Nat) : Bool := decide (0 ≤ sF (termP l k) l.length)
/-- The reference's answer, for numbers in range. -/
def digB (xs ys : List Int) : Bool := ((List.range xs.length).all fun i => okP (ordP xs ys xs.length) (i + 1)) && decide (xs.sum = ys.sum)
def vSc (xs : List Int) : Bool := allR xs 0 ((xs.length : Int) - 1) && inR xs.length 1 5
def digV (xs ys : List Int) : Bool := decide (xs.length = ys.length) && (vSc xs && (vSc ys && digB xs ys))
theorem term_sum (a b : Nat → Int) (l : List Nat) (k : Nat) : sF (termP (l.map fun v => (a v, b v)) k) l.length = (l.map fun j => min (b j) (k : Int)).sum - ((l.take k).map (wF a b k)).sum := by
  have h1 : ∀ j, j < l.length → termP (l.map fun v => (a v, b v)) k j = min (b (l.getD j 0)) (k : Int) - (if j < k then wF a b k (l.getD j 0) else 0) := by
    intro j hj
    have e : (l.map fun v => (a v, b v)).getD j (0, 0) = (a (l.getD j 0), b (l.getD j 0)) := by
      rw [List.getD_eq_getElem?_getD, List.getElem?_map, List.getD_eq_getElem?_getD, List.getElem?_eq_getElem hj]; rfl
    rw [termP, e]
    unfold wF
    by_cases h : j < k
    · rw [if_pos h, if_pos h]
      show min (b (l.getD j 0)) ((k : Int) - 1) - a (l.getD j 0) = _
      by_cases h2 : (k : Int) ≤ b (l.getD j 0)
      · rw [if_pos h2]; omega
      · rw [if_neg h2]; omega
    · rw [if_neg h, if_neg h]; simp
  rw [sF_congr h1, sF_sub, sF_all l 0 (fun v => min (b v) (k : Int)), sF_cut l 0 (wF a b k) k _ (Nat.le_refl _)]
  congr 2
  by_cases h : k ≤ l.length
  · rw [show min l.length k = k by omega]
  · rw [show min l.length k = l.length by omega, List.take_length, List.take_of_length_le (by omega)]
theorem dig_plain {xs ys : List Int} {n : Nat} (hx : xs.length = n) (hy : ys.length = n) (hx0 : ∀ x ∈ xs, 0 ≤ x) (hy0 : ∀ x ∈ ys, 0 ≤ x) : digB xs ys = !(matsX (fun i k => i != k) (natsOf xs) (natsOf ys)).isEmpty := by
  have ha : ∀ i, i < n → 0 ≤ xs.getD i 0 := fun i hi => by
    rw [List.getD_eq_getElem?_getD, List.getElem?_eq_getElem (by omega), Option.getD_some]
    exact hx0 _ (List.getElem_mem _)
  have hb : ∀ i, i < n → 0 ≤ ys.getD i 0 := fun i hi => by
    rw [List.getD_eq_getElem?_getD, List.getElem?_eq_getElem (by omega), Option.getD_some]
    exact hy0 _ (List.getElem_mem _)
  have hiff := fills_iff (ordF_perm (fun v => xs.getD v 0) (fun v => ys.getD v 0) n) (ordF_order _ _ n) ha hb
  have hlen : (ordF (fun v => xs.getD v 0) (fun v => ys.getD v 0) n).length = n := by rw [(ordF_perm _ _ n).length_eq, List.length_range]
  have e1 : ∀ i, i < n → ((natsOf xs).getD i 0 : Int) = xs.getD i 0 := fun i hi => by
    rw [natsOf_at hx0 (by omega), List.getD_eq_getElem?_getD, List.getElem?_eq_getElem (by omega)]; rfl
  have e2 : ∀ i, i < n → ((natsOf ys).getD i 0 : Int) = ys.getD i 0 := fun i hi => by
    rw [natsOf_at hy0 (by omega), List.getD_eq_getElem?_getD, List.getElem?_eq_getElem (by omega)]; rfl
  have hm := mats_off (R := natsOf xs) (C := natsOf ys) (n := n) (by rw [natsOf_length, hx]) (by rw [natsOf_length, hy])
  have hF : (∃ F, FillsF (offE n n) n (fun i => (((natsOf xs).getD i 0 : Nat) : Int)) (fun j => (((natsOf ys).getD j 0 : Nat) : Int)) F) ↔ ∃ F, FillsF (offE n n) n (fun v => xs.getD v 0) (fun v => ys.getD v 0) F := by
    constructor
    · rintro ⟨F, h1, h2, h3⟩
      exact ⟨F, h1, fun i hi => by rw [h2 i hi]; exact e1 i hi, fun j hj => by rw [h3 j hj]; exact e2 j hj⟩
    · rintro ⟨F, h1, h2, h3⟩
      exact ⟨F, h1, fun i hi => by rw [h2 i hi]; exact (e1 i hi).symm, fun j hj => by rw [h3 j hj]; exact (e2 j hj).symm⟩
  have hsum : sF (fun v => xs.getD v 0) n = sF (fun v => ys.getD v 0) n ↔ xs.sum = ys.sum := by rw [sum_sF xs, sum_sF ys, hx, hy]
  have hine : ineqF (fun v => xs.getD v 0) (fun v => ys.getD v 0) n (ordF (fun v => xs.getD v 0) (fun v => ys.getD v 0) n) ↔ ∀ i, i < n → okP (ordP xs ys n) (i + 1) = true := by
    constructor
    · intro h i hi
      have h1 := h (i + 1) (by omega) (by omega)
      have h2 := term_sum (fun v => xs.getD v 0) (fun v => ys.getD v 0) (ordF (fun v => xs.getD v 0) (fun v => ys.getD v 0) n) (i + 1)
      rw [hlen] at h2
      have h1 := h1
      try simp only at h1
      rw [okP, ordP_length, decide_eq_true_eq]
      show 0 ≤ sF (termP ((ordF (fun v => xs.getD v 0) (fun v => ys.getD v 0) n).map fun v => (xs.getD v 0, ys.getD v 0)) (i + 1)) n
      rw [h2]
      omega
    · intro h k h1 h2
      have h3 := h (k - 1) (by omega)
      rw [show k - 1 + 1 = k by omega, okP, ordP_length, decide_eq_true_eq] at h3
      have h4 := term_sum (fun v => xs.getD v 0) (fun v => ys.getD v 0) (ordF (fun v => xs.getD v 0) (fun v => ys.getD v 0) n) k
      rw [hlen] at h4
      try simp only
      have h5 : 0 ≤ sF (termP ((ordF (fun v => xs.getD v 0) (fun v => ys.getD v 0) n).map fun v => (xs.getD v 0, ys.getD v 0)) k) n := h3
      rw [h4] at h5
      omega
  have hd : digB xs ys = true ↔ (matsX (fun i k => i != k) (natsOf xs) (natsOf ys)).isEmpty = false := by
    rw [hm, hF, hiff, hsum, hine, digB, Bool.and_eq_true, decide_eq_true_eq, List.all_eq_true, hx]
    constructor
    · rintro ⟨h1, h2⟩
      exact ⟨h2, fun i hi => h1 i (List.mem_range.2 hi)⟩
    · rintro ⟨h1, h2⟩
      exact ⟨fun i hi => h2 i (List.mem_range.1 hi), h1⟩
  cases h : (matsX (fun i k => i != k) (natsOf xs) (natsOf ys)).isEmpty
  · exact hd.2 h
  · cases h2 : digB xs ys
    · rfl
    · rw [hd.1 h2] at h; cases h

end Go.Proofs.Ytjghcegacgpehaa
