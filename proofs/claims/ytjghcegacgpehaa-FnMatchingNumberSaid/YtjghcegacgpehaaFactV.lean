
/- The reference's factorOf and FactorOf; the values. -/
import Derived.Test.YtjghcegacgpehaaFact
import Derived.Test.YtjghcegacgpehaaReal
import Derived.Test.YtjghcegacgpehaaSorted
namespace Go.Proofs.Ytjghcegacgpehaa
open Go.RowKit

noncomputable def factV (N : Int) (g : List E2) (xs : List Int) : Option (List N2) := if validG N g = true ∧ validD xs = true ∧ (xs.length : Int) = N then factN (ne2 g) (toN xs) [] else none
noncomputable def fctL (N : Int) (g : List E2) (xs : List Int) : List E2 := match factV N g xs with | some es => en2 es | none => []
noncomputable def fctOK (N : Int) (g : List E2) (xs : List Int) : Bool := (factV N g xs).isSome
noncomputable def fctN (N : Int) (g : List E2) (xs : List Int) : Int := if fctOK N g xs = true then N else 0
theorem valid_hF {N : Nat} {es : List E2} (h : validG N es = true) : ∀ k (hk : k < es.length), 0 ≤ (es[k]'hk).1 ∧ (es[k]'hk).1 < (es[k]'hk).2 ∧ (es[k]'hk).2 < N := fun k hk => by
  have := (validG_true.1 h).1 k hk
  exact ⟨this.1, this.2.1, this.2.2.1⟩
theorem en2_ne2 {g : List E2} {N : Nat} (h : validG N g = true) : en2 (ne2 g) = g := by
  simp only [en2, ne2, List.map_map]
  conv => rhs; rw [← List.map_id g]
  refine List.map_congr_left fun e he => ?_
  obtain ⟨k, hk, rfl⟩ := List.getElem_of_mem he
  have := valid_hF h k hk
  refine Prod.ext ?_ ?_
  · show (((g[k]'hk).1.toNat : Nat) : Int) = (g[k]'hk).1
    omega
  · show (((g[k]'hk).2.toNat : Nat) : Int) = (g[k]'hk).2
    omega
theorem ne2_in {g : List E2} {N : Nat} (h : validG N g = true) : ∀ e ∈ ne2 g, e.1 < N ∧ e.2 < N ∧ e.1 < e.2 := by
  intro e he
  simp only [ne2, List.mem_map] at he
  obtain ⟨f, hf, rfl⟩ := he
  obtain ⟨k, hk, rfl⟩ := List.getElem_of_mem hf
  have := valid_hF h k hk
  refine ⟨?_, ?_, ?_⟩ <;> simp only <;> omega
theorem ne2_asc {g : List E2} {N : Nat} (h : validG N g = true) : (ne2 g).Pairwise BelN := by
  rw [ne2, List.pairwise_map]
  refine List.Pairwise.imp_of_mem ?_ (valid_asc h)
  intro a b ha hb hab
  obtain ⟨k, hk, rfl⟩ := List.getElem_of_mem ha
  obtain ⟨j, hj, rfl⟩ := List.getElem_of_mem hb
  have h1 := valid_hF h k hk
  have h2 := valid_hF h j hj
  simp only [belowE, Bool.or_eq_true, Bool.and_eq_true, decide_eq_true_eq] at hab
  unfold BelN
  simp only
  omega
theorem rises_of {t : List N2} (h1 : t.Pairwise BelN) (h2 : ∀ e ∈ t, e.1 < e.2) : RisesN t := by
  induction t with
  | nil => trivial
  | cons e t ih =>
    rw [List.pairwise_cons] at h1
    refine ⟨⟨h2 e (List.mem_cons_self ..), fun f hf => ⟨?_, h2 f (List.mem_cons_of_mem _ hf)⟩⟩, ih h1.2 fun f hf => h2 f (List.mem_cons_of_mem _ hf)⟩
    have := h1.1 f hf
    unfold BelN at this
    omega
theorem factN_len : ∀ {t : List N2} {L : List Nat} {es x : List N2}, factN t L es = some x → x.length ≤ es.length + t.length := by
  intro t
  induction t with
  | nil =>
    intro L es x h
    rw [factN] at h
    split at h
    · cases h; simp
    · cases h
  | cons e t ih =>
    intro L es x h
    rw [factN] at h
    rw [List.length_cons]
    split at h
    · cases h; omega
    split at h
    · cases h
    split at h
    · split at h
      · rename_i y hy
        cases h
        have := ih hy
        rw [List.length_append] at this
        simp at this
        omega
      · have := ih h; omega
    · have := ih h; omega
theorem pairs21 : ∀ n, n < 8 → (pairsL n).length ≤ 21 := by decide
theorem valid21 {g : List E2} {N : Nat} (h : validG N g = true) : g.length ≤ 21 := by
  have hN := (validG_true.1 h).2.2
  have h1 := congrArg List.length (valid_filter h)
  have h2 := List.length_filter_le (fun e => decide (e ∈ g)) (pairsL N)
  have h3 := pairs21 N (by omega)
  omega
/-- The result in the form of the law. -/
def FactOut (w w' : World) (N : Int) (g : List E2) (xs : List Int) (e : Ending) : Prop :=
  ∃ a c d, e = .returned (.tuple #[graphV (fctN N g xs) a (fctL N g xs).length c, .bool (fctOK N g xs)]) ∧ w'.ownsRow w.heap.size 48 2 (.slice a (fctL N g xs).length d) (fctL N g xs).length (edges (fctL N g xs)) ∧ Below w.heap.size w w'
theorem factOut_none {w w' : World} {N : Int} {g : List E2} {xs : List Int} (h : factV N g xs = none) (hB : Below w.heap.size w w') : FactOut w w' N g xs (.returned (.tuple #[graphV 0 none 0 0, .bool false])) := by
  have h1 : fctOK N g xs = false := by simp [fctOK, h]
  have h2 : fctL N g xs = [] := by simp [fctL, h]
  have h3 : fctN N g xs = 0 := by simp [fctN, h1]
  exact ⟨none, 0, 0, by rw [h1, h2, h3]; rfl, by rw [h2]; exact World.ownsRow_nil _ _ _ _, hB⟩
theorem factOut_some {w w' : World} {N : Int} {g : List E2} {xs : List Int} {es : List N2} (h : factV N g xs = some es) (hB : Below w.heap.size w w') {a : Option Addr} {c d : Nat} (ho : w'.ownsRow w.heap.size 48 2 (.slice a es.length d) es.length (edges (en2 es))) : FactOut w w' N g xs (.returned (.tuple #[graphV N a es.length c, .bool true])) := by
  have h1 : fctOK N g xs = true := by simp [fctOK, h]
  have h2 : fctL N g xs = en2 es := by simp [fctL, h]
  have h3 : fctN N g xs = N := by simp [fctN, h1]
  exact ⟨a, c, d, by rw [h1, h2, h3, en2_length], by rw [h2, en2_length]; exact ho, hB⟩
theorem fctL_len (N : Int) (g : List E2) (xs : List Int) : (fctL N g xs).length ≤ 1000 := by
  unfold fctL factV
  split
  · rename_i es h
    split at h
    · rename_i hc
      obtain ⟨M, rfl, hM⟩ : ∃ M : Nat, N = M ∧ M ≤ 7 := ⟨N.toNat, by have := (validG_true.1 hc.1).2; omega, by have := (validG_true.1 hc.1).2; omega⟩
      rw [en2_length]
      have h1 := factN_len h
      have h2 := valid21 hc.1
      rw [ne2_length] at h1
      simp at h1
      omega
    · cases h
  · simp

end Go.Proofs.Ytjghcegacgpehaa
