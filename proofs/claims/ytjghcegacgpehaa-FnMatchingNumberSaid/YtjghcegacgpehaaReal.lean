
/- The reference's realizations and CountRealizations. -/
import Derived.Test.YtjghcegacgpehaaSearch
import Derived.Test.YtjghcegacgpehaaPairs
import Derived.Test.YtjghcegacgpehaaEach
namespace Go.Proofs.Ytjghcegacgpehaa
open Go.RowKit

def pairsN (n : Nat) : List N2 := (pairsL n).map fun e => (e.1.toNat, e.2.toNat)
instance decRows (N : Nat) : (t : List N2) → Decidable (RowsN N t)
  | [] => isTrue trivial
  | _ :: t => @instDecidableAnd _ _ _ (decRows N t)
instance decRises : (t : List N2) → Decidable (RisesN t)
  | [] => isTrue trivial
  | _ :: t => @instDecidableAnd _ _ _ (decRises t)
instance (f e : N2) : Decidable (BelN f e) := inferInstanceAs (Decidable (f.1 < e.1 ∨ (f.1 = e.1 ∧ f.2 < e.2)))
theorem pairsN_facts : ∀ n, n < 8 → en2 (pairsN n) = pairsL n ∧ RowsN n (pairsN n) ∧ (pairsN n).Pairwise BelN ∧ (∀ e ∈ pairsN n, e.1 < n ∧ e.2 < n ∧ e.1 < e.2) ∧ (pairsN n).length ≤ 21 := by decide
def toN (xs : List Int) : List Nat := xs.map Int.toNat
theorem toN_length (xs : List Int) : (toN xs).length = xs.length := by simp [toN]
theorem validD_toN {xs : List Int} (h : validD xs = true) : intsN (toN xs) = xs ∧ xs.length ≤ 7 ∧ ∀ v, (toN xs).getD v 0 ≤ 900 := by
  simp only [validD, Bool.and_eq_true, decide_eq_true_eq] at h
  obtain ⟨h1, h2⟩ := h
  have hall : ∀ x ∈ xs, 0 ≤ x ∧ x ≤ 6 := by
    intro x hx
    have := List.all_eq_true.1 h1 x hx
    simp only [inR, Bool.and_eq_true, decide_eq_true_eq] at this
    omega
  refine ⟨?_, h2, ?_⟩
  · simp only [intsN, toN, List.map_map]
    conv => rhs; rw [← List.map_id xs]
    refine List.map_congr_left fun x hx => ?_
    have := hall x hx
    show ((x.toNat : Nat) : Int) = x
    omega
  · intro v
    rw [List.getD_eq_getElem?_getD, toN, List.getElem?_map]
    cases hv : xs[v]? with
    | none => simp
    | some x =>
      have := hall x (List.mem_of_getElem? hv)
      simp only [Option.map_some, Option.getD_some]
      omega
/-- All realizations. -/
def realsN (xs : List Int) : List (List N2) := solsN (pairsN xs.length) (toN xs) []
theorem sols_len (t : List N2) (L : List Nat) (es : List N2) : (solsN t L es).length ≤ 2 ^ t.length := by
  induction t generalizing L es with
  | nil => rw [solsN]; split <;> simp
  | cons e t ih =>
    rw [solsN, List.length_append, List.length_cons, Nat.pow_succ]
    have h1 : (if mayN L e = true then solsN t (stepN L e) (es ++ [e]) else []).length ≤ 2 ^ t.length := by split; exact ih _ _; simp
    have h2 := ih L es
    omega
theorem reals_len {xs : List Int} (h : xs.length ≤ 7) : (realsN xs).length ≤ 2097152 :=
  Nat.le_trans (sols_len _ _ _) (Nat.le_trans (Nat.pow_le_pow_right (by omega) (pairsN_facts _ (by omega)).2.2.2.2) (by decide))

set_option maxHeartbeats 1000000 in
theorem realizations_any (a : Option Addr) (c n : Nat) (xs : List Int) (w : World) (hn : xs.length = n) (hx : Rd w a (ints xs)) (hv : validD xs = true) (hnil : a = none → n = 0 ∧ c = 0) :
    Calls Try.prog 138 #[.slice a n c] w fun e w' => ∃ a' c' vs, e = .returned (.slice a' (realsN xs).length c') ∧ ListG w' w.heap.size a' c' n vs (realsN xs) ∧ Below w.heap.size w w' := by
  obtain ⟨v1, v2, v3⟩ := validD_toN hv
  obtain ⟨p1, p2, p3, p4, p5⟩ := pairsN_facts n (by omega)
  have hR := search_sols p2 (toN xs) []
  have hTL := toN_length xs
  rw [← hn] at hR
  have hRE := Lib.hid (hR.trans (rfl : _ = realsN xs))
  rw [hn] at hRE
  have HC := fun w => specPairs_any n w (by omega)
  rw [← p1] at HC
  have hel := en2_length (pairsN n)
  rw [hel] at HC
  generalize hps : pairsN n = ps at *
  clear hps p1 p2 hR hel
  have hN7 : n ≤ 7 := by omega
  go_enter Try.func138, Try.ntmps138
  go_wp2_with fail
  have hB1 := below_alloc w (.cells #[] 48)
  have hg := rowG_own (es := []) (own_mono (World.ownsRow_made w #[] 0 (Nat.le_refl _) (by decide) rfl) (Nat.zero_le _))
  generalize w.alloc (.cells #[] 48) = w1 at *
  refine (HC w1).mono ?_
  rintro e w2 ⟨a2, c2, rfl, ho2, hb2⟩
  have HB := below_tr' hB1 hb2
  have hg := hg.below hb2
  have C2 := search_any (N := n) (nf := ps.length) (cf := c2) (af := a2) (fs := ps) hN7 rfl (by omega) p4 ps [] (toN xs) [] _ _ a c w2 rfl (fun f hf => by simp at hf) p3 hg (by rw [v1]; exact hx.below HB) hnil (by omega) v3 (by simp; omega) (by omega) (own_rd ho2)
  rw [hRE.out] at C2
  clear HC ho2 hg hb2
  go_wp2_with fail
  refine C2.mono ?_
  rintro e w3 ⟨a3, c3, vs, rfl, hL, hb3⟩
  have H := Lib.hid (hL.mono HB.size)
  have HB2 := below_tr' HB hb3
  clear C2 hL hb3
  go_wp2
  go_ret
  exact ⟨a3, c3, vs, rfl, H.out, HB2⟩

/-- How many realizations; less than 0 for what is not listed. -/
def countR (m : Nat) (xs : List Int) : Int := if validD xs = true ∧ xs.length ≤ m then ((realsN xs).length : Int) else -1
end Go.Proofs.Ytjghcegacgpehaa
