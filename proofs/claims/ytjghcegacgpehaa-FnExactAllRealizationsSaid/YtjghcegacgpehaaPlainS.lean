
/- Plain laws: the graphs of some edges with degrees, in the order of the search. No program is named here. -/
import Derived.Test.YtjghcegacgpehaaPlainC
namespace Go.Proofs.Ytjghcegacgpehaa
open Go.RowKit

def stepN (L : List Nat) (e : N2) : List Nat := (L.set e.1 (L.getD e.1 0 - 1)).set e.2 (L.getD e.2 0 - 1)
def mayN (L : List Nat) (e : N2) : Bool := decide (0 < L.getD e.1 0) && decide (0 < L.getD e.2 0)
def zeroN (L : List Nat) : Bool := L.all (· == 0)
theorem stepN_length (L : List Nat) (e : N2) : (stepN L e).length = L.length := by simp [stepN]

/-- The search with a function of the graphs that are found, until it says no. -/
def walkN {σ : Type} (go : σ → List N2 → σ × Bool) : List N2 → List Nat → List N2 → σ → σ × Bool
  | [], L, es, s => if zeroN L = true then go s es else (s, true)
  | e :: t, L, es, s => if mayN L e = true then (if (walkN go t (stepN L e) (es ++ [e]) s).2 = true then walkN go t L es (walkN go t (stepN L e) (es ++ [e]) s).1 else ((walkN go t (stepN L e) (es ++ [e]) s).1, false)) else walkN go t L es s
/-- All graphs that the search finds. -/
def solsN : List N2 → List Nat → List N2 → List (List N2)
  | [], L, es => if zeroN L = true then [es] else []
  | e :: t, L, es => (if mayN L e = true then solsN t (stepN L e) (es ++ [e]) else []) ++ solsN t L es
def foldGo {σ : Type} (go : σ → List N2 → σ × Bool) : σ → List (List N2) → σ × Bool
  | s, [] => (s, true)
  | s, x :: r => if (go s x).2 = true then foldGo go (go s x).1 r else ((go s x).1, false)
theorem foldGo_append {σ : Type} (go : σ → List N2 → σ × Bool) (s : σ) (a b : List (List N2)) : foldGo go s (a ++ b) = if (foldGo go s a).2 = true then foldGo go (foldGo go s a).1 b else ((foldGo go s a).1, false) := by
  induction a generalizing s with
  | nil => rfl
  | cons x r ih =>
    simp only [List.cons_append, foldGo]
    by_cases h : (go s x).2 = true
    · simp only [h, if_true, ih]
    · simp only [h, if_false, Bool.false_eq_true]
theorem walkN_fold {σ : Type} (go : σ → List N2 → σ × Bool) (t : List N2) (L : List Nat) (es : List N2) (s : σ) : walkN go t L es s = foldGo go s (solsN t L es) := by
  induction t generalizing L es s with
  | nil =>
    unfold walkN solsN
    by_cases h : zeroN L = true
    · simp only [h, if_true, foldGo]
      cases h2 : (go s es).2
      · simp only [Bool.false_eq_true, if_false]; exact Prod.ext rfl h2
      · simp only [if_true]; exact Prod.ext rfl h2
    · simp only [h, if_false, foldGo, Bool.false_eq_true]
  | cons e t ih =>
    simp only [walkN, solsN]
    by_cases h : mayN L e = true
    · simp only [h, if_true, foldGo_append, ← ih]
    · simp only [h, if_false, ih, List.nil_append, Bool.false_eq_true]
theorem fold_count (s : Nat) (l : List (List N2)) : foldGo (fun (s : Nat) _ => (s + 1, true)) s l = (s + l.length, true) := by
  induction l generalizing s with
  | nil => rfl
  | cons x r ih => simp only [foldGo, if_true, ih, List.length_cons]; congr 1; omega
theorem fold_all (s l : List (List N2)) : foldGo (fun s x => (s ++ [x], true)) s l = (s ++ l, true) := by
  induction l generalizing s with
  | nil => simp [foldGo]
  | cons x r ih => simp only [foldGo, if_true, ih, List.append_assoc]; rfl
theorem fold_first (s : Option (List N2)) (l : List (List N2)) : foldGo (fun (_ : Option (List N2)) x => (some x, false)) s l = match l with | [] => (s, true) | x :: _ => (some x, false) := by
  cases l <;> rfl

/-- The reference's search. -/
def searchN (N : Nat) : List N2 → List Nat → List N2 → List (List N2)
  | [], L, es => if L.sum = 0 then [es] else []
  | e :: t, L, es => (if mayN L e = true then searchN N t (stepN L e) (es ++ [e]) else []) ++ (if e.2 + 1 < N ∨ L.getD e.1 0 = 0 then searchN N t L es else [])
theorem zero_sum (L : List Nat) : zeroN L = true ↔ L.sum = 0 := by
  induction L with
  | nil => simp [zeroN]
  | cons a t ih =>
    simp only [zeroN, List.all_cons, Bool.and_eq_true, beq_iff_eq, List.sum_cons] at ih ⊢
    rw [ih]; omega
theorem zero_get {L : List Nat} (h : zeroN L = true) (v : Nat) : L.getD v 0 = 0 := by
  rw [List.getD_eq_getElem?_getD]
  cases hv : L[v]? with
  | none => rfl
  | some x =>
    have := List.all_eq_true.1 h x (List.mem_of_getElem? hv)
    simpa using this
theorem stepN_other {L : List Nat} {e : N2} {v : Nat} (h1 : v ≠ e.1) (h2 : v ≠ e.2) : (stepN L e).getD v 0 = L.getD v 0 := by
  rw [stepN, List.getD_eq_getElem?_getD, List.getElem?_set_ne (Ne.symm h2), List.getElem?_set_ne (Ne.symm h1), ← List.getD_eq_getElem?_getD]
/-- What no edge is left for stays. -/
theorem sols_dead {t : List N2} {L : List Nat} {es : List N2} {v : Nat} (h : ∀ f ∈ t, v ≠ f.1 ∧ v ≠ f.2) (hv : 0 < L.getD v 0) : solsN t L es = [] := by
  induction t generalizing L es with
  | nil =>
    rw [solsN, if_neg]
    intro hz
    rw [zero_get hz v] at hv
    omega
  | cons e t ih =>
    have he := h e (List.mem_cons_self ..)
    have ht := fun f hf => h f (List.mem_cons_of_mem _ hf)
    rw [solsN, ih ht hv, List.append_nil]
    split
    · exact ih ht (by rw [stepN_other he.1 he.2]; exact hv)
    · rfl
def RowsN (N : Nat) : List N2 → Prop
  | [] => True
  | e :: t => (N ≤ e.2 + 1 → ∀ f ∈ t, e.1 ≠ f.1 ∧ e.1 ≠ f.2) ∧ RowsN N t
theorem search_sols {N : Nat} {t : List N2} (h : RowsN N t) (L : List Nat) (es : List N2) : searchN N t L es = solsN t L es := by
  induction t generalizing L es with
  | nil =>
    rw [searchN, solsN]
    by_cases hz : L.sum = 0
    · rw [if_pos hz, if_pos ((zero_sum L).2 hz)]
    · rw [if_neg hz, if_neg (fun h => hz ((zero_sum L).1 h))]
  | cons e t ih =>
    rw [searchN, solsN, ih h.2, ih h.2]
    congr 1
    split
    · rfl
    · rename_i hc
      exact (sols_dead (v := e.1) (h.1 (by omega)) (by omega)).symm
/-- The reference's search for one. -/
def factN : List N2 → List Nat → List N2 → Option (List N2)
  | [], L, es => if L.sum = 0 then some es else none
  | e :: t, L, es => if L.sum = 0 then some es else if 0 < (L.take e.1).sum then none else
      if mayN L e = true then (match factN t (stepN L e) (es ++ [e]) with | some x => some x | none => factN t L es) else factN t L es
def RisesN : List N2 → Prop
  | [] => True
  | e :: t => (e.1 < e.2 ∧ ∀ f ∈ t, e.1 ≤ f.1 ∧ f.1 < f.2) ∧ RisesN t
theorem may_zero {L : List Nat} (h : zeroN L = true) (e : N2) : mayN L e = false := by rw [mayN, zero_get h, zero_get h]; rfl
theorem sols_zero {t : List N2} {L : List Nat} {es : List N2} (h : zeroN L = true) : solsN t L es = [es] := by
  induction t with
  | nil => rw [solsN, if_pos h]
  | cons e t ih => rw [solsN, may_zero h, ih]; rfl
theorem sum_take {L : List Nat} {k : Nat} (h : 0 < (L.take k).sum) : ∃ v, v < k ∧ 0 < L.getD v 0 := by
  refine Classical.byContradiction fun hn => ?_
  have h0 : ∀ x ∈ L.take k, x = 0 := by
    intro x hx
    obtain ⟨i, hi, rfl⟩ := List.getElem_of_mem hx
    rw [List.length_take] at hi
    have : ¬ 0 < L.getD i 0 := fun hp => hn ⟨i, by omega, hp⟩
    rw [List.getD_eq_getElem?_getD, List.getElem?_eq_getElem (by omega)] at this
    simp only [Option.getD_some] at this
    rw [List.getElem_take]; omega
  have : zeroN (L.take k) = true := List.all_eq_true.2 fun x hx => by simp [h0 x hx]
  rw [(zero_sum _).1 this] at h
  omega
theorem fact_sols {t : List N2} (h : RisesN t) (L : List Nat) (es : List N2) : factN t L es = (solsN t L es).head? := by
  induction t generalizing L es with
  | nil =>
    rw [factN, solsN]
    by_cases hz : L.sum = 0
    · rw [if_pos hz, if_pos ((zero_sum L).2 hz)]; rfl
    · rw [if_neg hz, if_neg (fun h => hz ((zero_sum L).1 h))]; rfl
  | cons e t ih =>
    rw [factN]
    by_cases hz : L.sum = 0
    · rw [if_pos hz, sols_zero ((zero_sum L).2 hz)]; rfl
    · rw [if_neg hz]
      by_cases hp : 0 < (L.take e.1).sum
      · obtain ⟨v, hv, hg⟩ := sum_take hp
        rw [if_pos hp, sols_dead (v := v) ?_ hg]
        · rfl
        · intro f hf
          rcases List.mem_cons.1 hf with rfl | hf
          · have := h.1.1; omega
          · have := h.1.2 f hf; omega
      · rw [if_neg hp, solsN]
        split
        · rw [ih h.2, ih h.2]
          cases hs : solsN t (stepN L e) (es ++ [e]) <;> rfl
        · rw [ih h.2]; rfl

end Go.Proofs.Ytjghcegacgpehaa
