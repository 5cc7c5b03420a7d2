
/- Plain laws: a perfect matching is a factor of ones; one edge more or less. No program is named here. -/
import Derived.Test.YtjghcegacgpehaaFactV
import Derived.Test.YtjghcegacgpehaaPlainM
namespace Go.Proofs.Ytjghcegacgpehaa
open Go.RowKit

theorem sum_set {L : List Nat} {i : Nat} (h : i < L.length) (x : Nat) : (L.set i x).sum + L.getD i 0 = L.sum + x := by
  induction L generalizing i with
  | nil => simp at h
  | cons a t ih =>
    cases i with
    | zero => simp; omega
    | succ i =>
      have := ih (i := i) (by simpa using h)
      simp only [List.set_cons_succ, List.sum_cons, List.getD_cons_succ]
      omega
theorem getD_setN {L : List Nat} {i v x : Nat} (h : i < L.length) : (L.set i x).getD v 0 = if v = i then x else L.getD v 0 := by
  by_cases e : v = i
  · subst e
    rw [if_pos rfl, List.getD_eq_getElem?_getD, List.getElem?_set_self h]; rfl
  · rw [if_neg e, List.getD_eq_getElem?_getD, List.getElem?_set_ne (Ne.symm e), ← List.getD_eq_getElem?_getD]
theorem stepN_at {L : List Nat} {e : N2} (h1 : e.1 < L.length) (h2 : e.2 < L.length) (_hne : e.1 < e.2) (h01 : ∀ v, L.getD v 0 ≤ 1) (v : Nat) : (stepN L e).getD v 0 = if v = e.1 ∨ v = e.2 then 0 else L.getD v 0 := by
  rw [stepN, getD_setN (by rw [List.length_set]; exact h2), getD_setN h1]
  have := h01 e.1
  have := h01 e.2
  by_cases e1 : v = e.2
  · rw [if_pos e1, if_pos (.inr e1)]; omega
  · rw [if_neg e1]
    by_cases e2 : v = e.1
    · rw [if_pos e2, if_pos (.inl e2)]; omega
    · rw [if_neg e2, if_neg (by rintro (h | h); exact e2 h; exact e1 h)]
theorem stepN_sum {L : List Nat} {e : N2} (h1 : e.1 < L.length) (h2 : e.2 < L.length) (hne : e.1 < e.2) (hm : mayN L e = true) : (stepN L e).sum + 2 = L.sum := by
  simp only [mayN, Bool.and_eq_true, decide_eq_true_eq] at hm
  have a1 := sum_set h1 (L.getD e.1 0 - 1)
  have a2 := sum_set (L := L.set e.1 (L.getD e.1 0 - 1)) (i := e.2) (by rw [List.length_set]; exact h2) (L.getD e.2 0 - 1)
  rw [getD_setN h1, if_neg (by omega)] at a2
  rw [stepN]
  omega
def cast2 (e : N2) : E2 := ((e.1 : Int), (e.2 : Int))
theorem en2_cons (e : N2) (l : List N2) : en2 (e :: l) = cast2 e :: en2 l := rfl
theorem en2_filter (p : E2 → Bool) (l : List N2) : (en2 l).filter p = en2 (l.filter fun e => p (cast2 e)) := by
  rw [en2, en2, List.filter_map]; rfl
theorem meet_step {L : List Nat} {e f : N2} (h1 : e.1 < L.length) (h2 : e.2 < L.length) (hne : e.1 < e.2) (h01 : ∀ v, L.getD v 0 ≤ 1) : ((!meetE (cast2 e) (cast2 f)) && mayN L f) = mayN (stepN L e) f := by
  rw [mayN, mayN, stepN_at h1 h2 hne h01, stepN_at h1 h2 hne h01]
  simp only [meetE, cast2]
  by_cases a1 : f.1 = e.1
  · simp [a1]
  · by_cases a2 : f.1 = e.2
    · simp [a2]
    · by_cases a3 : f.2 = e.1
      · simp [a3]
      · by_cases a4 : f.2 = e.2
        · simp [a4]
        · have b1 : ¬ ((f.1 : Int) = (e.1 : Int)) := by omega
          have b2 : ¬ ((f.1 : Int) = (e.2 : Int)) := by omega
          have b3 : ¬ ((f.2 : Int) = (e.1 : Int)) := by omega
          have b4 : ¬ ((f.2 : Int) = (e.2 : Int)) := by omega
          simp [a1, a2, a3, a4, b1, b2, b3, b4]
theorem match_sols {n : Nat} : ∀ (t : List N2), (∀ e ∈ t, e.1 < n ∧ e.2 < n ∧ e.1 < e.2) → ∀ (L : List Nat) (es : List N2), L.length = n → (∀ v, L.getD v 0 ≤ 1) →
    2 * matchN (en2 (t.filter (mayN L))) ≤ L.sum ∧ (solsN t L es ≠ [] ↔ 2 * matchN (en2 (t.filter (mayN L))) = L.sum) := by
  intro t
  induction t with
  | nil =>
    intro _ L es hl h01
    rw [List.filter_nil, show en2 [] = [] from rfl, matchN_nil, solsN]
    have := zero_sum L
    by_cases hz : zeroN L = true
    · rw [if_pos hz]
      have := this.1 hz
      exact ⟨by omega, by simp; omega⟩
    · rw [if_neg hz]
      have : ¬ L.sum = 0 := fun h => hz (this.2 h)
      exact ⟨by omega, by simp; omega⟩
  | cons e t ih =>
    intro hin L es hl h01
    have he := hin e (List.mem_cons_self ..)
    have ht := fun f hf => hin f (List.mem_cons_of_mem _ hf)
    have i1 := ih ht L es hl h01
    rw [solsN]
    cases hm : mayN L e
    · rw [List.filter_cons_of_neg (by simp [hm])]
      simpa using i1
    · have h1 : e.1 < L.length := by omega
      have h2 : e.2 < L.length := by omega
      have hs := stepN_sum h1 h2 he.2.2 hm
      have i2 := ih ht (stepN L e) (es ++ [e]) (by rw [stepN_length]; exact hl) (fun v => by
        rw [stepN_at h1 h2 he.2.2 h01]; split
        · omega
        · exact h01 v)
      rw [List.filter_cons_of_pos hm, en2_cons, matchN_cons, en2_filter, List.filter_filter]
      have hc : t.filter (fun a => (!meetE (cast2 e) (cast2 a)) && mayN L a) = t.filter (mayN (stepN L e)) := List.filter_congr fun f _ => meet_step h1 h2 he.2.2 h01
      rw [hc]
      generalize matchN (en2 (t.filter (mayN L))) = A at *
      generalize matchN (en2 (t.filter (mayN (stepN L e)))) = B at *
      refine ⟨by omega, ?_⟩
      rw [if_pos rfl]
      constructor
      · intro h
        by_cases h5 : solsN t L es = []
        · have h6 : solsN t (stepN L e) (es ++ [e]) ≠ [] := fun h7 => h (by rw [h5, h7]; rfl)
          have := i2.2.1 h6
          omega
        · have := i1.2.1 h5
          omega
      · intro h
        by_cases h5 : 2 * A = L.sum
        · have := i1.2.2 h5
          intro h6
          exact this (List.append_eq_nil_iff.1 h6).2
        · have := i2.2.2 (by omega)
          intro h6
          exact this (List.append_eq_nil_iff.1 h6).1
theorem replicate_getD (n v : Nat) : (List.replicate n 1).getD v 0 = if v < n then 1 else 0 := by
  rw [List.getD_eq_getElem?_getD, List.getElem?_replicate]
  split <;> rfl
theorem ones_valid {N : Nat} (h7 : N ≤ 7) (h1 : N ≠ 1) : validD (List.replicate N 1) = true := by
  simp only [validD, allR, Bool.and_eq_true, decide_eq_true_eq, List.all_eq_true, inR_true, List.length_replicate]
  refine ⟨fun x hx => ?_, h7⟩
  have h := List.eq_of_mem_replicate hx
  have : 0 < N := by
    cases N with
    | zero => simp at hx
    | succ n => omega
  omega
theorem ones_one : validD (List.replicate 1 1) = false := by decide
/-- A perfect matching is a factor of ones. -/
theorem match_fact {N : Nat} {g : List E2} (hv : validG N g = true) : 2 * matchN g ≤ N ∧ fctOK N g (List.replicate N 1) = decide (2 * matchN g = N) := by
  have h7 := (validG_true.1 hv).2.2
  have hin := ne2_in hv
  have hs := fun es => match_sols (n := N) (ne2 g) hin (List.replicate N 1) es (by simp) (fun v => by rw [replicate_getD]; split <;> omega)
  have hf : (ne2 g).filter (mayN (List.replicate N 1)) = ne2 g := by
    rw [List.filter_eq_self]
    intro e he
    have := hin e he
    rw [mayN, replicate_getD, replicate_getD, if_pos this.1, if_pos this.2.1]; rfl
  rw [hf, en2_ne2 hv] at hs
  have hsum : (List.replicate N 1).sum = N := by simp
  rw [hsum] at hs
  have h0 := hs []
  refine ⟨h0.1, ?_⟩
  have hto : toN (List.replicate N 1) = List.replicate N 1 := by simp [toN]
  by_cases h1 : N = 1
  · subst h1
    have e1 : fctOK ((1 : Nat) : Int) g (List.replicate 1 1) = false := by
      simp only [fctOK, factV]
      rw [if_neg (by rw [ones_one]; simp)]
      rfl
    rw [e1]
    have := h0.1
    symm
    rw [decide_eq_false_iff_not]
    omega
  · have e1 : factV (N : Int) g (List.replicate N 1) = (solsN (ne2 g) (List.replicate N 1) []).head? := by
      rw [factV, if_pos ⟨hv, ones_valid (by omega) h1, by simp⟩, hto, fact_sols (rises_of (ne2_asc hv) fun e he => (hin e he).2.2)]
    rw [fctOK, e1]
    cases hc : solsN (ne2 g) (List.replicate N 1) [] with
    | nil =>
      have : ¬ 2 * matchN g = N := fun h => (h0.2.2 h) hc
      symm
      simpa using this
    | cons x l =>
      have : 2 * matchN g = N := h0.2.1 (by rw [hc]; simp)
      simp [this]
/-- One edge more. -/
theorem match_last (l : List E2) (e : E2) : matchN l ≤ matchN (l ++ [e]) ∧ matchN (l ++ [e]) ≤ matchN l + 1 := by
  suffices h : ∀ n (l : List E2), l.length ≤ n → matchN l ≤ matchN (l ++ [e]) ∧ matchN (l ++ [e]) ≤ matchN l + 1 from h _ l (Nat.le_refl _)
  intro n
  induction n with
  | zero =>
    intro l h
    have : l = [] := List.eq_nil_of_length_eq_zero (by omega)
    subst this
    rw [List.nil_append, matchN_cons, List.filter_nil, matchN_nil]
    omega
  | succ n ih =>
    intro l h
    cases l with
    | nil =>
      rw [List.nil_append, matchN_cons, List.filter_nil, matchN_nil]
      omega
    | cons x t =>
      rw [List.cons_append, matchN_cons, matchN_cons, List.filter_append]
      have h1 := ih t (by simpa using h)
      have hlen := List.length_filter_le (fun f => !meetE x f) t
      have h2 := ih (t.filter fun f => !meetE x f) (by simp at h; omega)
      generalize t.filter (fun f => !meetE x f) = F at *
      by_cases hm : meetE x e = true
      · rw [List.filter_cons_of_neg (by simp [hm]), List.filter_nil, List.append_nil]
        omega
      · rw [List.filter_cons_of_pos (by simp [hm]), List.filter_nil]
        omega
theorem match_drop {g : List E2} {n : Nat} (hn : g.length = n) (h0 : 0 < n) : matchN (g.take (n - 1)) ≤ matchN g ∧ matchN g ≤ matchN (g.take (n - 1)) + 1 := by
  have e : g = g.take (n - 1) ++ [g[n - 1]'(by omega)] := by
    rw [← List.take_succ_eq_append_getElem (by omega), show n - 1 + 1 = n by omega, ← hn, List.take_length]
  have := match_last (g.take (n - 1)) (g[n - 1]'(by omega))
  rw [← e] at this
  exact this

end Go.Proofs.Ytjghcegacgpehaa
