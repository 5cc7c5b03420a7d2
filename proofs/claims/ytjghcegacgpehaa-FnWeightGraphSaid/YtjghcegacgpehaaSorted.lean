
/- Plain laws of valid graphs: a valid row of edges is what of the pairs is in it. No program is named here. -/
import Derived.Test.YtjghcegacgpehaaValidG
import Derived.Test.YtjghcegacgpehaaHas
import Derived.Test.YtjghcegacgpehaaPairs
namespace Go.Proofs.Ytjghcegacgpehaa
open Go.RowKit

theorem belowE_irr (a : E2) : belowE a a = false := by simp [belowE]
theorem belowE_asymm {a b : E2} (h : belowE a b = true) : belowE b a = false := by
  simp only [belowE, Bool.or_eq_true, Bool.and_eq_true, decide_eq_true_eq, Bool.or_eq_false_iff, Bool.and_eq_false_iff, decide_eq_false_iff_not] at h ⊢
  omega
theorem belowE_trans {a b c : E2} (h : belowE a b = true) (k : belowE b c = true) : belowE a c = true := by
  simp only [belowE, Bool.or_eq_true, Bool.and_eq_true, decide_eq_true_eq] at h k ⊢
  omega
theorem belowE_total {a b : E2} (h : belowE a b = false) (k : belowE b a = false) : a = b := by
  simp only [belowE, Bool.or_eq_false_iff, Bool.and_eq_false_iff, decide_eq_false_iff_not] at h k
  refine Prod.ext ?_ ?_ <;> omega

/-- Strictly ascending. -/
abbrev Asc (l : List E2) : Prop := l.Pairwise fun a b => belowE a b = true

theorem asc_ext : ∀ (l1 l2 : List E2), Asc l1 → Asc l2 → (∀ x, x ∈ l1 ↔ x ∈ l2) → l1 = l2 := by
  intro l1
  induction l1 with
  | nil =>
    intro l2 _ _ hm
    cases l2 with
    | nil => rfl
    | cons b l => exact absurd ((hm b).2 List.mem_cons_self) (by simp)
  | cons a l ih =>
    intro l2 h1 h2 hm
    cases l2 with
    | nil => exact absurd ((hm a).1 List.mem_cons_self) (by simp)
    | cons b m =>
      rw [Asc, List.pairwise_cons] at h1 h2
      have hab : a = b := by
        rcases List.mem_cons.1 ((hm a).1 List.mem_cons_self) with h | h
        · exact h
        · rcases List.mem_cons.1 ((hm b).2 List.mem_cons_self) with h' | h'
          · exact h'.symm
          · have k1 := h2.1 a h
            have k2 := h1.1 b h'
            rw [belowE_asymm k1] at k2
            cases k2
      subst hab
      rw [ih m h1.2 h2.2 ?_]
      intro x
      constructor
      · intro hx
        rcases List.mem_cons.1 ((hm x).1 (List.mem_cons_of_mem _ hx)) with h | h
        · subst h
          have := h1.1 x hx
          rw [belowE_irr] at this
          cases this
        · exact h
      · intro hx
        rcases List.mem_cons.1 ((hm x).2 (List.mem_cons_of_mem _ hx)) with h | h
        · subst h
          have := h2.1 x hx
          rw [belowE_irr] at this
          cases this
        · exact h

theorem asc_of_steps {l : List E2} (h : ∀ k (hk : k + 1 < l.length), belowE (l[k]'(by omega)) (l[k + 1]'hk) = true) : Asc l := by
  induction l with
  | nil => exact List.Pairwise.nil
  | cons a l ih =>
    have hl : Asc l := ih fun k hk => h (k + 1) (Nat.succ_lt_succ hk)
    rw [Asc, List.pairwise_cons]
    refine ⟨?_, hl⟩
    intro b hb
    cases l with
    | nil => simp at hb
    | cons c m =>
      have hac : belowE a c = true := by simpa using h 0 (by simp)
      rcases List.mem_cons.1 hb with rfl | hb
      · exact hac
      · rw [Asc, List.pairwise_cons] at hl
        exact belowE_trans hac (hl.1 b hb)

theorem valid_asc {N : Int} {es : List E2} (h : validG N es = true) : Asc es := by
  have h1 := (validG_true.1 h).1
  refine asc_of_steps fun k hk => ?_
  have := (h1 (k + 1) hk).2.2.2 (by omega)
  simpa using this

theorem mem_rowP {x : E2} {a m : Nat} : x ∈ rowP a m ↔ x.1 = a ∧ (a : Int) < x.2 ∧ x.2 < (a : Int) + 1 + m := by
  simp only [rowP, List.mem_map, List.mem_range]
  constructor
  · rintro ⟨i, hi, rfl⟩
    exact ⟨rfl, by simp only; omega, by simp only; omega⟩
  · rintro ⟨h1, h2, h3⟩
    exact ⟨(x.2 - a - 1).toNat, by omega, Prod.ext (by simp only; omega) (by simp only; omega)⟩
theorem mem_pairsUpto {x : E2} {n k : Nat} (hk : k ≤ n) : x ∈ pairsUpto n k ↔ 0 ≤ x.1 ∧ x.1 < k ∧ x.1 < x.2 ∧ x.2 < n := by
  simp only [pairsUpto, List.mem_flatMap, List.mem_range]
  constructor
  · rintro ⟨a, ha, hx⟩
    rw [mem_rowP] at hx
    omega
  · rintro ⟨h1, h2, h3, h4⟩
    refine ⟨x.1.toNat, by omega, ?_⟩
    rw [mem_rowP]
    omega
theorem mem_pairsL {x : E2} {n : Nat} : x ∈ pairsL n ↔ 0 ≤ x.1 ∧ x.1 < x.2 ∧ x.2 < n := by
  rw [pairsL, mem_pairsUpto (Nat.le_refl _)]
  omega
theorem asc_rowP (a m : Nat) : Asc (rowP a m) := by
  refine asc_of_steps fun k hk => ?_
  simp [rowP, belowE]
  omega
theorem asc_pairsUpto (n k : Nat) (hk : k ≤ n) : Asc (pairsUpto n k) := by
  induction k with
  | zero => exact List.Pairwise.nil
  | succ k ih =>
    rw [pairsUpto_succ, Asc, List.pairwise_append]
    refine ⟨ih (by omega), asc_rowP _ _, ?_⟩
    intro a ha b hb
    rw [mem_pairsUpto (by omega)] at ha
    rw [mem_rowP] at hb
    simp only [belowE, Bool.or_eq_true, Bool.and_eq_true, decide_eq_true_eq]
    omega
theorem asc_pairsL (n : Nat) : Asc (pairsL n) := asc_pairsUpto n n (Nat.le_refl _)

theorem valid_mem {N : Nat} {es : List E2} (h : validG N es = true) {x : E2} (hx : x ∈ es) : x ∈ pairsL N := by
  obtain ⟨i, hi, rfl⟩ := List.getElem_of_mem hx
  have := (validG_true.1 h).1 i hi
  rw [mem_pairsL]
  omega

/-- A valid row of edges is what of the pairs is in it. -/
theorem valid_filter {N : Nat} {es : List E2} (h : validG N es = true) : es = (pairsL N).filter fun e => decide (e ∈ es) := by
  refine asc_ext _ _ (valid_asc h) ((asc_pairsL N).filter _) fun x => ?_
  rw [List.mem_filter, decide_eq_true_iff]
  exact ⟨fun hx => ⟨valid_mem h hx, hx⟩, fun hx => hx.2⟩

theorem has_mem {N : Nat} {es : List E2} {x : E2} (hx : x ∈ pairsL N) : hasM es x.1 x.2 = decide (x ∈ es) := by
  rw [mem_pairsL] at hx
  have : ordE x.1 x.2 = x := by refine Prod.ext ?_ ?_ <;> simp only [ordE] <;> omega
  rw [hasM, this]

/-- Ascending pairs are a valid graph. -/
theorem valid_of_asc {N : Nat} {es : List E2} (hN : N ≤ 7) (h : Asc es) (hm : ∀ x ∈ es, x ∈ pairsL N) : validG N es = true := by
  rw [validG_true]
  refine ⟨fun k hk => ?_, by omega, by omega⟩
  have h1 := hm _ (List.getElem_mem hk)
  rw [mem_pairsL] at h1
  refine ⟨h1.1, h1.2.1, h1.2.2, fun h0 => ?_⟩
  exact List.pairwise_iff_getElem.1 h (k - 1) k (by omega) hk (by omega)

end Go.Proofs.Ytjghcegacgpehaa
