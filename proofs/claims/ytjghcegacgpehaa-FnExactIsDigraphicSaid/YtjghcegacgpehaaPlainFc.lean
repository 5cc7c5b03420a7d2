
/- Plain laws: bits in places with given sums, and the inequalities of graphs with directions. No program is named here. -/
import Derived.Test.YtjghcegacgpehaaBase
namespace Go.Proofs.Ytjghcegacgpehaa
open Go.RowKit

/-- The sum of a function's first numbers. -/
def sF (f : Nat → Int) : Nat → Int
  | 0 => 0
  | n + 1 => sF f n + f n
theorem sF_congr {f g : Nat → Int} {n : Nat} (h : ∀ i, i < n → f i = g i) : sF f n = sF g n := by
  induction n with
  | zero => rfl
  | succ n ih => rw [sF, sF, ih fun i hi => h i (by omega), h n (by omega)]
theorem sF_le {f g : Nat → Int} {n : Nat} (h : ∀ i, i < n → f i ≤ g i) : sF f n ≤ sF g n := by
  induction n with
  | zero => exact Int.le_refl _
  | succ n ih =>
    rw [sF, sF]
    have h1 := ih fun i hi => h i (by omega)
    have h2 := h n (by omega)
    omega
theorem sF_add (f g : Nat → Int) (n : Nat) : sF (fun i => f i + g i) n = sF f n + sF g n := by
  induction n with
  | zero => rfl
  | succ n ih => simp only [sF, ih]; omega
theorem sF_sub (f g : Nat → Int) (n : Nat) : sF (fun i => f i - g i) n = sF f n - sF g n := by
  induction n with
  | zero => rfl
  | succ n ih => simp only [sF, ih]; omega
theorem sF_zero {f : Nat → Int} {n : Nat} (h : ∀ i, i < n → f i = 0) : sF f n = 0 := by
  induction n with
  | zero => rfl
  | succ n ih => rw [sF, ih fun i hi => h i (by omega), h n (by omega)]; rfl
theorem sF_nonneg {f : Nat → Int} {n : Nat} (h : ∀ i, i < n → 0 ≤ f i) : 0 ≤ sF f n := by
  have := sF_le (f := fun _ => 0) h
  rwa [sF_zero (f := fun _ => 0) (fun _ _ => rfl)] at this
theorem sF_none {f : Nat → Int} {n : Nat} (h : ∀ i, i < n → 0 ≤ f i) (hs : sF f n ≤ 0) : ∀ i, i < n → f i = 0 := by
  induction n with
  | zero => intro i hi; omega
  | succ n ih =>
    rw [sF] at hs
    have h1 := sF_nonneg (n := n) fun i hi => h i (by omega)
    have h2 := h n (by omega)
    intro i hi
    by_cases e : i = n
    · subst e; omega
    · exact ih (fun i hi => h i (by omega)) (by omega) i (by omega)
theorem sF_one {n i : Nat} (h : i < n) (v : Int) : sF (fun x => if x = i then v else 0) n = v := by
  induction n with
  | zero => omega
  | succ n ih =>
    rw [sF]
    by_cases e : i = n
    · subst e
      rw [if_pos rfl, sF_zero fun x hx => if_neg (by omega)]; omega
    · rw [ih (by omega), if_neg (by omega)]; omega
theorem sF_four {f g p q : Nat → Int} {n : Nat} (h : ∀ i, i < n → f i + g i = p i + q i) : sF f n + sF g n = sF p n + sF q n := by
  rw [← sF_add, ← sF_add]; exact sF_congr h
/-- Sums either way. -/
theorem sF_swap (f : Nat → Nat → Int) (n m : Nat) : sF (fun i => sF (f i) m) n = sF (fun j => sF (fun i => f i j) n) m := by
  induction n with
  | zero => exact (sF_zero fun _ _ => rfl).symm
  | succ n ih =>
    rw [sF, ih]
    rw [← sF_add]
    exact sF_congr fun j _ => rfl

/-- Places between a set of rows and a set of columns. -/
def eC (E : List (Nat × Nat)) (S U : Nat → Bool) : Int := (E.map fun p => if S p.1 = true ∧ U p.2 = true then (1 : Int) else 0).sum
theorem eC_cons (p : Nat × Nat) (E : List (Nat × Nat)) (S U : Nat → Bool) : eC (p :: E) S U = (if S p.1 = true ∧ U p.2 = true then (1 : Int) else 0) + eC E S U := by simp [eC]
theorem eC_append (E E' : List (Nat × Nat)) (S U : Nat → Bool) : eC (E ++ E') S U = eC E S U + eC E' S U := by simp [eC]
theorem eC_mono {E : List (Nat × Nat)} {S S' U U' : Nat → Bool} (hS : ∀ i, S i = true → S' i = true) (hU : ∀ i, U i = true → U' i = true) : eC E S U ≤ eC E S' U' := by
  induction E with
  | nil => exact Int.le_refl _
  | cons p E ih =>
    rw [eC_cons, eC_cons]
    by_cases h : S p.1 = true ∧ U p.2 = true
    · rw [if_pos h, if_pos ⟨hS _ h.1, hU _ h.2⟩]; omega
    · rw [if_neg h]
      split <;> omega
theorem eC_sub (E : List (Nat × Nat)) (S S' U U' : Nat → Bool) : eC E (fun i => S i && S' i) (fun j => U j || U' j) + eC E (fun i => S i || S' i) (fun j => U j && U' j) ≤ eC E S U + eC E S' U' := by
  induction E with
  | nil => exact Int.le_refl _
  | cons p E ih =>
    simp only [eC_cons]
    cases S p.1 <;> cases S' p.1 <;> cases U p.2 <;> cases U' p.2 <;> simp <;> omega
/-- What the columns and the places leave over what the rows ask. -/
def gapF (E : List (Nat × Nat)) (n : Nat) (a b : Nat → Int) (S U : Nat → Bool) : Int := sF (fun j => if U j = true then 0 else b j) n + eC E S U - sF (fun i => if S i = true then a i else 0) n
theorem gapF_sub (E : List (Nat × Nat)) (n : Nat) (a b : Nat → Int) (S S' U U' : Nat → Bool) : gapF E n a b (fun i => S i && S' i) (fun j => U j || U' j) + gapF E n a b (fun i => S i || S' i) (fun j => U j && U' j) ≤ gapF E n a b S U + gapF E n a b S' U' := by
  have h1 := eC_sub E S S' U U'
  have h2 : sF (fun j => if (U j || U' j) = true then 0 else b j) n + sF (fun j => if (U j && U' j) = true then 0 else b j) n = sF (fun j => if U j = true then 0 else b j) n + sF (fun j => if U' j = true then 0 else b j) n := sF_four fun j _ => by
    cases U j <;> cases U' j <;> simp
  have h3 : sF (fun i => if (S i && S' i) = true then a i else 0) n + sF (fun i => if (S i || S' i) = true then a i else 0) n = sF (fun i => if S i = true then a i else 0) n + sF (fun i => if S' i = true then a i else 0) n := sF_four fun j _ => by
    cases S j <;> cases S' j <;> simp
  unfold gapF
  simp only
  omega
theorem gapF_cons (p : Nat × Nat) (E : List (Nat × Nat)) (n : Nat) (a b : Nat → Int) (S U : Nat → Bool) : gapF (p :: E) n a b S U = (if S p.1 = true ∧ U p.2 = true then (1 : Int) else 0) + gapF E n a b S U := by
  unfold gapF; rw [eC_cons]; omega
/-- One less of a row and of a column. -/
theorem gapF_less (E : List (Nat × Nat)) {n i j : Nat} (hi : i < n) (hj : j < n) (a b : Nat → Int) (S U : Nat → Bool) :
    gapF E n (fun x => a x - if x = i then 1 else 0) (fun y => b y - if y = j then 1 else 0) S U = gapF E n a b S U + (if S i = true then 1 else 0) - (if U j = true then 0 else 1) := by
  have h1 : sF (fun x => if S x = true then a x - (if x = i then 1 else 0) else 0) n = sF (fun x => if S x = true then a x else 0) n - (if S i = true then 1 else 0) := by
    rw [← sF_one hi (if S i = true then (1 : Int) else 0), ← sF_sub]
    refine sF_congr fun x _ => ?_
    by_cases e : x = i
    · subst e; cases S x <;> simp
    · simp [e]
  have h2 : sF (fun y => if U y = true then 0 else b y - (if y = j then 1 else 0)) n = sF (fun y => if U y = true then 0 else b y) n - (if U j = true then 0 else 1) := by
    rw [← sF_one hj (if U j = true then (0 : Int) else 1), ← sF_sub]
    refine sF_congr fun x _ => ?_
    by_cases e : x = j
    · subst e; cases U x <;> simp
    · simp [e]
  unfold gapF
  rw [h1, h2]; omega

/-- A matrix of bits in places, with sums. -/
def FillsF (E : List (Nat × Nat)) (n : Nat) (a b : Nat → Int) (F : Nat → Nat → Int) : Prop :=
  (∀ i j, F i j = 0 ∨ (F i j = 1 ∧ (i, j) ∈ E)) ∧ (∀ i, i < n → sF (F i) n = a i) ∧ ∀ j, j < n → sF (fun i => F i j) n = b j
theorem fills_any {n : Nat} : ∀ (E : List (Nat × Nat)) (a b : Nat → Int), E.Nodup → (∀ p ∈ E, p.1 < n ∧ p.2 < n) → (∀ i, i < n → 0 ≤ a i) → (∀ j, j < n → 0 ≤ b j) → sF a n = sF b n → (∀ S U, 0 ≤ gapF E n a b S U) → ∃ F, FillsF E n a b F := by
  intro E
  induction E with
  | nil =>
    intro a b _ _ ha hb hs hg
    have h1 := hg (fun _ => true) (fun _ => true)
    unfold gapF at h1
    simp only [if_true, eC, List.map_nil, List.sum_nil] at h1
    rw [sF_zero (f := fun _ => 0) (fun _ _ => rfl)] at h1
    have h1' : sF a n ≤ 0 := by have : 0 ≤ 0 + 0 - sF a n := h1; omega
    have h2 := sF_none ha h1'
    have h3 := sF_none hb (by omega)
    refine ⟨fun _ _ => 0, fun _ _ => .inl rfl, fun i hi => ?_, fun j hj => ?_⟩
    · rw [h2 i hi]; exact sF_zero fun _ _ => rfl
    · rw [h3 j hj]; exact sF_zero fun _ _ => rfl
  | cons p E ih =>
    obtain ⟨i, j⟩ := p
    intro a b hnd hE ha hb hs hg
    obtain ⟨hi, hj⟩ := hE (i, j) (List.mem_cons_self ..)
    simp only at hi hj
    have hnd2 := List.nodup_cons.1 hnd
    have hE2 : ∀ p ∈ E, p.1 < n ∧ p.2 < n := fun p hp => hE p (List.mem_cons_of_mem _ hp)
    by_cases hall : ∀ S U, 0 ≤ gapF E n a b S U
    · obtain ⟨F, h1, h2, h3⟩ := ih a b hnd2.2 hE2 ha hb hs hall
      refine ⟨F, fun x y => ?_, h2, h3⟩
      rcases h1 x y with h | h
      · exact .inl h
      · exact .inr ⟨h.1, List.mem_cons_of_mem _ h.2⟩
    · obtain ⟨S, hS⟩ := Classical.not_forall.1 hall
      obtain ⟨U, hU⟩ := Classical.not_forall.1 hS
      clear hall hS
      have h0 := hg S U
      rw [gapF_cons] at h0
      simp only at h0
      have hSU : S i = true ∧ U j = true := Classical.byContradiction fun h => by rw [if_neg h] at h0; omega
      rw [if_pos hSU] at h0
      have hm : gapF E n a b S U = -1 := by omega
      have hai : 1 ≤ a i := by
        have h1 := hg (fun x => S x && decide (x ≠ i)) U
        rw [gapF_cons, if_neg (by simp)] at h1
        have h2 := eC_mono (E := E) (S := fun x => S x && decide (x ≠ i)) (S' := S) (U := U) (U' := U) (fun x h => by simp at h; exact h.1) (fun _ h => h)
        have h3 : sF (fun x => if (S x && decide (x ≠ i)) = true then a x else 0) n = sF (fun x => if S x = true then a x else 0) n - a i := by
          rw [← sF_one hi (a i), ← sF_sub]
          refine sF_congr fun x _ => ?_
          by_cases e : x = i
          · subst e; simp [hSU.1]
          · simp [e]
        unfold gapF at h1 hm
        rw [h3] at h1
        omega
      have hbj : 1 ≤ b j := by
        have h1 := hg S (fun y => U y && decide (y ≠ j))
        rw [gapF_cons, if_neg (by simp)] at h1
        have h2 := eC_mono (E := E) (S := S) (S' := S) (U := fun y => U y && decide (y ≠ j)) (U' := U) (fun _ h => h) (fun x h => by simp at h; exact h.1)
        have h3 : sF (fun x => if (U x && decide (x ≠ j)) = true then 0 else b x) n = sF (fun x => if U x = true then 0 else b x) n + b j := by
          rw [← sF_one hj (b j), ← sF_add]
          refine sF_congr fun x _ => ?_
          by_cases e : x = j
          · subst e; simp [hSU.2]
          · simp [e]
        unfold gapF at h1 hm
        rw [h3] at h1
        omega
      have hgap : ∀ S' U', 0 ≤ gapF E n (fun x => a x - if x = i then 1 else 0) (fun y => b y - if y = j then 1 else 0) S' U' := by
        intro S' U'
        rw [gapF_less E hi hj]
        have h1 := hg S' U'
        rw [gapF_cons] at h1
        simp only at h1
        by_cases e1 : S' i = true
        · rw [if_pos e1]
          by_cases e2 : U' j = true
          · rw [if_pos ⟨e1, e2⟩] at h1; rw [if_pos e2]; omega
          · rw [if_neg fun h => e2 h.2] at h1; rw [if_neg e2]; omega
        · rw [if_neg fun h => e1 h.1] at h1
          rw [if_neg e1]
          by_cases e2 : U' j = true
          · rw [if_pos e2]; omega
          · rw [if_neg e2]
            have h2 := gapF_sub E n a b S S' U U'
            have h3 := hg (fun x => S x && S' x) (fun y => U y || U' y)
            have h4 := hg (fun x => S x || S' x) (fun y => U y && U' y)
            rw [gapF_cons, if_neg (by simp [e1])] at h3
            rw [gapF_cons, if_neg (by simp [e2])] at h4
            omega
      obtain ⟨F, h1, h2, h3⟩ := ih _ _ hnd2.2 hE2 (fun x hx => by
          by_cases e : x = i
          · subst e; simp; omega
          · simp [e]; exact ha x hx) (fun x hx => by
          by_cases e : x = j
          · subst e; simp; omega
          · simp [e]; exact hb x hx) (by rw [sF_sub, sF_sub, sF_one hi, sF_one hj, hs]) hgap
      have hF0 : F i j = 0 := by
        rcases h1 i j with h | h
        · exact h
        · exact absurd h.2 hnd2.1
      refine ⟨fun x y => F x y + if x = i ∧ y = j then 1 else 0, fun x y => ?_, fun x hx => ?_, fun y hy => ?_⟩
      · show F x y + (if x = i ∧ y = j then 1 else 0) = 0 ∨ F x y + (if x = i ∧ y = j then 1 else 0) = 1 ∧ (x, y) ∈ (i, j) :: E
        by_cases e : x = i ∧ y = j
        · rw [if_pos e, e.1, e.2, hF0]; exact .inr ⟨by omega, List.mem_cons_self ..⟩
        · rw [if_neg e, Int.add_zero]
          rcases h1 x y with h | h
          · exact .inl h
          · exact .inr ⟨h.1, List.mem_cons_of_mem _ h.2⟩
      · rw [sF_add, h2 x hx]
        by_cases e : x = i
        · have : sF (fun y => if x = i ∧ y = j then (1 : Int) else 0) n = 1 := by
            refine (sF_congr fun y _ => ?_).trans (sF_one hj 1); simp [e]
          simp only [this, if_pos e]; omega
        · have : sF (fun y => if x = i ∧ y = j then (1 : Int) else 0) n = 0 := sF_zero fun y _ => if_neg fun h => e h.1
          simp only [this, if_neg e]; omega
      · rw [sF_add, h3 y hy]
        by_cases e : y = j
        · have : sF (fun x => if x = i ∧ y = j then (1 : Int) else 0) n = 1 := by
            refine (sF_congr fun x _ => ?_).trans (sF_one hi 1); simp [e]
          simp only [this, if_pos e]; omega
        · have : sF (fun x => if x = i ∧ y = j then (1 : Int) else 0) n = 0 := sF_zero fun x _ => if_neg fun h => e h.2
          simp only [this, if_neg e]; omega

/-- The places off the diagonal. -/
def colE (n j : Nat) : List (Nat × Nat) := ((List.range n).filter fun i => decide (i ≠ j)).map fun i => (i, j)
def offE (n : Nat) : Nat → List (Nat × Nat)
  | 0 => []
  | m + 1 => offE n m ++ colE n m
theorem offE_mem {n m : Nat} {p : Nat × Nat} : p ∈ offE n m ↔ p.1 < n ∧ p.2 < m ∧ p.1 ≠ p.2 := by
  induction m with
  | zero => simp [offE]
  | succ m ih =>
    obtain ⟨x, y⟩ := p
    rw [offE, List.mem_append, ih]
    simp only [colE, List.mem_map, List.mem_filter, List.mem_range, decide_eq_true_eq, Prod.mk.injEq]
    constructor
    · rintro (h | ⟨i, h1, rfl, rfl⟩)
      · omega
      · omega
    · rintro ⟨h1, h2, h3⟩
      by_cases e : y = m
      · right; exact ⟨x, by omega, rfl, e.symm⟩
      · left; omega
theorem offE_nodup (n m : Nat) : (offE n m).Nodup := by
  induction m with
  | zero => exact List.nodup_nil
  | succ m ih =>
    rw [offE, List.nodup_append]
    refine ⟨ih, ?_, ?_⟩
    · rw [colE, List.Nodup, List.pairwise_map]
      have : ((List.range n).filter fun i => decide (i ≠ m)).Nodup := List.Nodup.sublist List.filter_sublist List.nodup_range
      exact this.imp fun h h' => h (by injection h')
    · intro p hp q hq h
      subst h
      have h1 := (offE_mem.1 hp).2.1
      simp only [colE, List.mem_map] at hq
      obtain ⟨i, _, rfl⟩ := hq
      simp at h1
theorem colE_count (n j : Nat) (S U : Nat → Bool) : eC (colE n j) S U = if U j = true then sF (fun i => if S i = true ∧ i ≠ j then (1 : Int) else 0) n else 0 := by
  induction n with
  | zero => simp [colE, eC, sF]
  | succ n ih =>
    have e : colE (n + 1) j = colE n j ++ (if n ≠ j then [(n, j)] else []) := by
      simp only [colE, List.range_succ, List.filter_append, List.map_append]
      congr 1
      by_cases h : n = j <;> simp [h]
    rw [e, eC_append, ih, sF]
    by_cases h : n = j
    · simp [h, eC]
    · simp only [if_pos h, eC, List.map_cons, List.map_nil, List.sum_cons, List.sum_nil]
      cases U j <;> cases S n <;> simp [h]
theorem offE_count (n m : Nat) (S U : Nat → Bool) : eC (offE n m) S U = sF (fun j => if U j = true then sF (fun i => if S i = true ∧ i ≠ j then (1 : Int) else 0) n else 0) m := by
  induction m with
  | zero => rfl
  | succ m ih => rw [offE, eC_append, ih, colE_count, sF]
theorem sF_but {n j : Nat} (hj : j < n) (S : Nat → Bool) : sF (fun i => if S i = true ∧ i ≠ j then (1 : Int) else 0) n = sF (fun i => if S i = true then (1 : Int) else 0) n - (if S j = true then 1 else 0) := by
  rw [← sF_one hj (if S j = true then (1 : Int) else 0), ← sF_sub]
  refine sF_congr fun x _ => ?_
  by_cases e : x = j
  · subst e; cases S x <;> simp
  · simp [e]

/-- A number of a vertex: what it gives, and one more if it takes many. -/
def wF (a b : Nat → Int) (k : Int) (i : Nat) : Int := a i + if k ≤ b i then 1 else 0
theorem off_gap {n : Nat} {a b : Nat → Int} {S U : Nat → Bool} {k : Int} (hk : sF (fun i => if S i = true then (1 : Int) else 0) n = k) (h : sF (fun i => if S i = true then wF a b k i else 0) n ≤ sF (fun j => min (b j) k) n) : 0 ≤ gapF (offE n n) n a b S U := by
  unfold gapF
  rw [offE_count, ← sF_add, ← sF_sub]
  have h1 : sF (fun j => min (b j) k - if S j = true then wF a b k j else 0) n ≤ sF (fun j => (if U j = true then 0 else b j) + (if U j = true then sF (fun i => if S i = true ∧ i ≠ j then (1 : Int) else 0) n else 0) - if S j = true then a j else 0) n := by
    refine sF_le fun j hj => ?_
    rw [sF_but hj, hk]
    unfold wF
    by_cases e1 : U j = true <;> by_cases e2 : S j = true <;> by_cases e3 : k ≤ b j <;> simp [e1, e2, e3] <;> omega
  rw [sF_sub] at h1
  omega
/-- Each matrix keeps the inequalities. -/
theorem off_need {n : Nat} {a b : Nat → Int} {F : Nat → Nat → Int} (hF : FillsF (offE n n) n a b F) (S : Nat → Bool) {k : Int} (hk : sF (fun i => if S i = true then (1 : Int) else 0) n = k) : sF (fun i => if S i = true then wF a b k i else 0) n ≤ sF (fun j => min (b j) k) n := by
  obtain ⟨h1, h2, h3⟩ := hF
  have e1 : sF (fun i => if S i = true then a i else 0) n = sF (fun j => sF (fun i => if S i = true then F i j else 0) n) n := by
    rw [← sF_swap (fun i j => if S i = true then F i j else 0)]
    refine sF_congr fun i hi => ?_
    by_cases e : S i = true
    · simp only [e, if_true]; exact (h2 i hi).symm
    · simp only [e, if_false, Bool.false_eq_true]; exact (sF_zero fun _ _ => rfl).symm
  have e2 : sF (fun i => if S i = true then wF a b k i else 0) n = sF (fun j => sF (fun i => if S i = true then F i j else 0) n + if S j = true ∧ k ≤ b j then 1 else 0) n := by
    rw [sF_add, ← e1, ← sF_add]
    refine sF_congr fun i _ => ?_
    unfold wF
    by_cases e : S i = true <;> simp [e]
  rw [e2]
  refine sF_le fun j hj => ?_
  have h4 : sF (fun i => if S i = true then F i j else 0) n ≤ b j := by
    rw [← h3 j hj]
    refine sF_le fun i _ => ?_
    rcases h1 i j with h | h <;> split <;> omega
  have h5 : sF (fun i => if S i = true then F i j else 0) n ≤ k - (if S j = true then 1 else 0) := by
    rw [← hk, ← sF_but hj]
    refine sF_le fun i _ => ?_
    rcases h1 i j with h | h
    · rw [h]
      by_cases e : S i = true <;> simp [e]
      split <;> omega
    · have := (offE_mem.1 h.2).2.2
      simp only at this
      rw [h.1]
      by_cases e : S i = true <;> simp [e, this]
  by_cases e : S j = true <;> by_cases e3 : k ≤ b j <;> simp [e, e3] at h5 ⊢ <;> omega
/-- A sum in another order. -/
theorem sum_perm {l l' : List Nat} (f : Nat → Int) (h : l.Perm l') : (l.map f).sum = (l'.map f).sum := by
  induction h with
  | nil => rfl
  | cons x _ ih => simp [ih]
  | swap x y l => simp; omega
  | trans _ _ h1 h2 => rw [h1, h2]
theorem sF_list (f : Nat → Int) (n : Nat) : sF f n = ((List.range n).map f).sum := by
  induction n with
  | zero => rfl
  | succ n ih => rw [sF, ih, List.range_succ, List.map_append, List.sum_append]; simp
theorem sF_perm {n : Nat} {l : List Nat} (f : Nat → Int) (h : l.Perm (List.range n)) : sF f n = (l.map f).sum := by rw [sF_list]; exact (sum_perm f h).symm
/-- The first ones of a falling list have the greatest sum. -/
theorem top_sum {c : Nat → Int} {S : Nat → Bool} : ∀ {l : List Nat}, l.Pairwise (fun x y => c y ≤ c x) → (l.map fun i => if S i = true then c i else 0).sum ≤ ((l.take (l.countP S)).map c).sum := by
  intro l
  induction l with
  | nil => intro _; simp
  | cons x l ih =>
    intro hp
    have hp2 := List.pairwise_cons.1 hp
    have h1 := ih hp2.2
    by_cases e : S x = true
    · rw [List.countP_cons_of_pos e, List.take_succ_cons, List.map_cons, List.map_cons, List.sum_cons, List.sum_cons, if_pos e]; omega
    · rw [List.countP_cons_of_neg e, List.map_cons, List.sum_cons, if_neg e]
      obtain ⟨m, hm⟩ : ∃ m, l.countP S = m := ⟨_, rfl⟩
      have hle : m ≤ l.length := by rw [← hm]; exact List.countP_le_length
      rw [hm] at h1 ⊢
      cases m with
      | zero => simp at h1 ⊢; omega
      | succ m =>
        have hlt : m < l.length := by omega
        rw [List.take_succ_eq_append_getElem hlt, List.map_append, List.sum_append] at h1
        rw [List.take_succ_cons, List.map_cons, List.sum_cons]
        have h2 := hp2.1 _ (List.getElem_mem hlt)
        simp at h1 ⊢; omega
theorem count_sum (S : Nat → Bool) (l : List Nat) : (l.map fun i => if S i = true then (1 : Int) else 0).sum = (l.countP S : Nat) := by
  induction l with
  | nil => rfl
  | cons x l ih =>
    rw [List.map_cons, List.sum_cons, ih]
    by_cases e : S x = true
    · rw [List.countP_cons_of_pos e, if_pos e]; omega
    · rw [List.countP_cons_of_neg e, if_neg e]; omega
/-- Over the first ones of a list without repetition. -/
theorem take_sum {l : List Nat} (h : l.Nodup) (f : Nat → Int) (k : Nat) : (l.map fun i => if (l.take k).contains i = true then f i else 0).sum = ((l.take k).map f).sum := by
  have key : ∀ (p q : List Nat), (∀ x ∈ q, x ∉ p) → ((p ++ q).map fun i => if p.contains i = true then f i else 0).sum = (p.map f).sum := by
    intro p q hq
    rw [List.map_append, List.sum_append]
    have h1 : p.map (fun i => if p.contains i = true then f i else 0) = p.map f := List.map_congr_left fun x hx => if_pos (by simpa using hx)
    have h2 : ∀ r : List Nat, (∀ x ∈ r, x ∉ p) → (r.map fun i => if p.contains i = true then f i else 0).sum = 0 := by
      intro r
      induction r with
      | nil => intro _; rfl
      | cons x r ih =>
        intro hr
        rw [List.map_cons, List.sum_cons, ih fun y hy => hr y (List.mem_cons_of_mem _ hy), if_neg (by simpa using hr x (List.mem_cons_self ..))]; rfl
    rw [h1, h2 q hq]; omega
  have h2 := key (l.take k) (l.drop k) (fun x hx hx2 => by
    rw [← List.take_append_drop k l, List.nodup_append] at h
    exact h.2.2 x hx2 x hx rfl)
  rwa [List.take_append_drop] at h2
/-- How a vertex comes ahead of another one. -/
def aheadF (a b : Nat → Int) (x y : Nat) : Prop := a y < a x ∨ (a x = a y ∧ b y ≤ b x)
theorem ahead_w {a b : Nat → Int} {x y : Nat} (h : aheadF a b x y) (k : Int) : wF a b k y ≤ wF a b k x := by
  unfold aheadF at h
  unfold wF
  split <;> split <;> omega
/-- The inequalities of an ordered list. -/
def ineqF (a b : Nat → Int) (n : Nat) (l : List Nat) : Prop := ∀ k, 1 ≤ k → k ≤ n → ((l.take k).map (wF a b k)).sum ≤ (l.map fun j => min (b j) k).sum
theorem fills_iff {n : Nat} {a b : Nat → Int} {l : List Nat} (hl : l.Perm (List.range n)) (ho : l.Pairwise (aheadF a b)) (ha : ∀ i, i < n → 0 ≤ a i) (hb : ∀ i, i < n → 0 ≤ b i) : (∃ F, FillsF (offE n n) n a b F) ↔ sF a n = sF b n ∧ ineqF a b n l := by
  have hnd : l.Nodup := hl.nodup_iff.2 List.nodup_range
  have hlen : l.length = n := by rw [hl.length_eq, List.length_range]
  constructor
  · rintro ⟨F, hF⟩
    refine ⟨?_, fun k h1 h2 => ?_⟩
    · obtain ⟨_, g2, g3⟩ := hF
      rw [← sF_congr g2, ← sF_congr g3, sF_swap]
    · have hk : sF (fun i => if (l.take k).contains i = true then (1 : Int) else 0) n = k := by
        rw [sF_perm _ hl, take_sum hnd (fun _ => 1)]
        have : ∀ r : List Nat, (r.map fun _ => (1 : Int)).sum = (r.length : Nat) := by
          intro r; induction r with
          | nil => rfl
          | cons x r ih => rw [List.map_cons, List.sum_cons, ih, List.length_cons]; omega
        rw [this, List.length_take]; omega
      have h3 := off_need hF (fun i => (l.take k).contains i) hk
      rw [sF_perm _ hl, take_sum hnd (wF a b k), sF_perm _ hl] at h3
      exact h3
  · rintro ⟨hs, hi⟩
    refine fills_any (offE n n) a b (offE_nodup n n) (fun p hp => ⟨(offE_mem.1 hp).1, (offE_mem.1 hp).2.1⟩) ha hb hs fun S U => ?_
    have hk : sF (fun i => if S i = true then (1 : Int) else 0) n = (l.countP S : Nat) := by rw [sF_perm _ hl, count_sum]
    refine off_gap hk ?_
    have hle : l.countP S ≤ n := by rw [← hlen]; exact List.countP_le_length
    have h1 : (l.map fun i => if S i = true then wF a b (l.countP S : Nat) i else 0).sum ≤ ((l.take (l.countP S)).map (wF a b (l.countP S : Nat))).sum := top_sum (ho.imp fun h => ahead_w h _)
    rw [sF_perm _ hl, sF_perm _ hl]
    by_cases h0 : l.countP S = 0
    · rw [h0] at h1 ⊢
      have h2 : 0 ≤ (l.map fun j => min (b j) ((0 : Nat) : Int)).sum := by
        rw [← sF_perm (fun j => min (b j) ((0 : Nat) : Int)) hl]
        exact sF_nonneg fun i hi => by have := hb i hi; omega
      simp only [List.take_zero, List.map_nil, List.sum_nil] at h1
      omega
    · have h2 := hi (l.countP S) (by omega) hle
      omega
/-- The reference's order: each vertex behind all that come ahead of it. -/
def insF (a b : Nat → Int) (x : Nat) : List Nat → List Nat
  | [] => [x]
  | y :: l => if decide (a x < a y) || (decide (a y = a x) && decide (b x ≤ b y)) then y :: insF a b x l else x :: y :: l
theorem insF_perm (a b : Nat → Int) (x : Nat) (l : List Nat) : (insF a b x l).Perm (x :: l) := by
  induction l with
  | nil => exact List.Perm.refl _
  | cons y l ih =>
    rw [insF]
    split
    · exact (List.Perm.cons y ih).trans (List.Perm.swap x y l)
    · exact List.Perm.refl _
theorem ahead_trans {a b : Nat → Int} {x y z : Nat} (h : aheadF a b x y) (h' : aheadF a b y z) : aheadF a b x z := by
  unfold aheadF at *; omega
theorem insF_order {a b : Nat → Int} {x : Nat} {l : List Nat} (h : l.Pairwise (aheadF a b)) : (insF a b x l).Pairwise (aheadF a b) := by
  induction l with
  | nil => exact List.pairwise_singleton ..
  | cons y l ih =>
    have h2 := List.pairwise_cons.1 h
    rw [insF]
    split
    · rename_i e
      refine List.pairwise_cons.2 ⟨fun z hz => ?_, ih h2.2⟩
      have hz2 := (insF_perm a b x l).mem_iff.1 hz
      rcases List.mem_cons.1 hz2 with h3 | h3
      · subst h3; simp at e; unfold aheadF; omega
      · exact h2.1 z h3
    · rename_i e
      have hxy : aheadF a b x y := by simp at e; unfold aheadF; omega
      refine List.pairwise_cons.2 ⟨fun z hz => ?_, h⟩
      rcases List.mem_cons.1 hz with h3 | h3
      · subst h3; exact hxy
      · exact ahead_trans hxy (h2.1 z h3)
def ordF (a b : Nat → Int) : Nat → List Nat
  | 0 => []
  | n + 1 => insF a b n (ordF a b n)
theorem ordF_perm (a b : Nat → Int) (n : Nat) : (ordF a b n).Perm (List.range n) := by
  induction n with
  | zero => exact List.Perm.refl _
  | succ n ih =>
    rw [ordF, List.range_succ]
    refine (insF_perm a b n _).trans ((List.Perm.cons n ih).trans ?_)
    exact (List.perm_append_singleton n (List.range n)).symm
theorem ordF_order (a b : Nat → Int) (n : Nat) : (ordF a b n).Pairwise (aheadF a b) := by
  induction n with
  | zero => exact List.Pairwise.nil
  | succ n ih => exact insF_order ih

end Go.Proofs.Ytjghcegacgpehaa
