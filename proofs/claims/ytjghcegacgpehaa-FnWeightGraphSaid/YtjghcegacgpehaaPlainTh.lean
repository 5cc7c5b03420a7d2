
/- Plain laws of graphs of weights: they are nested, and each row of vertices has one with all or with no edges within the row. No program is named here. -/
import Derived.Test.YtjghcegacgpehaaWeightG
import Derived.Test.YtjghcegacgpehaaNest
namespace Go.Proofs.Ytjghcegacgpehaa
open Go.RowKit

def wAt (xs : List Int) (x : Int) : Int := xs.getD x.toNat 0
theorem wgt_has {n : Nat} {xs : List Int} {lim x y : Int} (hx : 0 ≤ x ∧ x < n) (hy : 0 ≤ y ∧ y < n) (hxy : x ≠ y) : hasM (wgtL n xs lim) x y = decide (lim < wAt xs x + wAt xs y) := by
  unfold hasM wgtL
  refine decide_eq_decide.2 ?_
  rw [List.mem_filter, mem_pairsL]
  rcases Int.lt_or_gt_of_ne hxy with h | h
  · have e : ordE x y = (x, y) := Prod.ext (by simp only [ordE]; omega) (by simp only [ordE]; omega)
    rw [e]
    simp only [wP, wAt, decide_eq_true_eq]
    constructor
    · exact fun h => h.2
    · exact fun h' => ⟨⟨hx.1, h, hy.2⟩, h'⟩
  · have e : ordE x y = (y, x) := Prod.ext (by simp only [ordE]; omega) (by simp only [ordE]; omega)
    rw [e]
    simp only [wP, wAt, decide_eq_true_eq]
    constructor
    · exact fun h => by have := h.2; omega
    · exact fun h' => ⟨⟨hy.1, h, hx.2⟩, by omega⟩
theorem wgt_nest {n : Nat} {xs : List Int} {lim u v : Int} (hu : 0 ≤ u ∧ u < n) (hv : 0 ≤ v ∧ v < n) (h : wAt xs u ≤ wAt xs v) : nestM n (wgtL n xs lim) u v = true := by
  unfold nestM
  rw [Bool.not_eq_true', List.any_eq_false]
  intro x hx
  simp only [upI, List.mem_map, List.mem_range] at hx
  obtain ⟨j, hj, rfl⟩ := hx
  unfold badM
  by_cases h1 : (j : Int) = u
  · simp [h1]
  by_cases h2 : (j : Int) = v
  · simp [h2]
  rw [wgt_has hu ⟨by omega, by omega⟩ (Ne.symm h1), wgt_has hv ⟨by omega, by omega⟩ (Ne.symm h2)]
  simp only [Bool.and_eq_true, bne_iff_ne, ne_eq, h1, h2, not_false_eq_true, true_and, decide_eq_true_eq, Bool.not_eq_true', decide_eq_false_iff_not, not_and, Decidable.not_not]
  omega
theorem wgt_nested {n : Nat} {xs : List Int} {lim : Int} (hv : validG n (wgtL n xs lim) = true) : nestedV n (wgtL n xs lim) = true := by
  unfold nestedV
  rw [hv, Bool.true_and, List.all_eq_true]
  intro e he
  have he := mem_pairsL.1 he
  rw [Int.toNat_natCast] at *
  by_cases h : wAt xs e.1 ≤ wAt xs e.2
  · rw [wgt_nest ⟨by omega, by omega⟩ ⟨by omega, by omega⟩ h, Bool.true_or]
  · rw [wgt_nest (u := e.2) (v := e.1) ⟨by omega, by omega⟩ ⟨by omega, by omega⟩ (by omega), Bool.or_true]

/-- The vertices of the row that a vertex is joined to. -/
def joinedL (gs : List E2) (L : List Int) (v : Int) : Nat := L.countP fun u => u != v && hasM gs u v
/-- Each row of vertices has one that is joined to all others of the row, or to none. -/
def Peels (n : Nat) (gs : List E2) : Prop := ∀ L : List Int, L ≠ [] → L.Nodup → (∀ x ∈ L, 0 ≤ x ∧ x < n) → ∃ v ∈ L, joinedL gs L v = 0 ∨ joinedL gs L v + 1 = L.length

theorem best_of (f : Int → Int) : ∀ L : List Int, L ≠ [] → ∃ v ∈ L, ∀ u ∈ L, f u ≤ f v
  | [x], _ => ⟨x, by simp, by simp⟩
  | x :: y :: r, _ => by
    obtain ⟨v, hv, hb⟩ := best_of f (y :: r) (by simp)
    by_cases h : f v ≤ f x
    · refine ⟨x, by simp, fun u hu => ?_⟩
      rcases List.mem_cons.1 hu with rfl | hu
      · exact Int.le_refl _
      · exact Int.le_trans (hb u hu) h
    · refine ⟨v, List.mem_cons_of_mem _ hv, fun u hu => ?_⟩
      rcases List.mem_cons.1 hu with rfl | hu
      · omega
      · exact hb u hu
theorem count_ne {v : Int} : ∀ {L : List Int}, L.Nodup → v ∈ L → L.countP (fun u => u != v) + 1 = L.length
  | x :: r, hn, hv => by
    rw [List.nodup_cons] at hn
    rcases List.mem_cons.1 hv with rfl | hv
    · have : r.countP (fun u => u != v) = r.length := by
        rw [List.countP_eq_length]
        intro u hu
        simp only [bne_iff_ne]
        rintro rfl
        exact hn.1 hu
      rw [List.countP_cons_of_neg (by simp), this, List.length_cons]
    · have := count_ne hn.2 hv
      rw [List.countP_cons_of_pos (by simp only [bne_iff_ne]; rintro rfl; exact hn.1 hv), List.length_cons]
      omega
theorem wgt_peels (n : Nat) (xs : List Int) (lim : Int) : Peels n (wgtL n xs lim) := by
  intro L h0 hnd hr
  obtain ⟨v, hv, hb⟩ := best_of (wAt xs) L h0
  obtain ⟨u, hu, ha⟩ := best_of (fun x => -wAt xs x) L h0
  by_cases h : lim < wAt xs u + wAt xs v
  · refine ⟨v, hv, .inr ?_⟩
    rw [← count_ne hnd hv]
    congr 1
    refine List.countP_congr fun x hx => ?_
    by_cases e : x = v
    · simp [e]
    · rw [wgt_has (hr x hx) (hr v hv) e]
      have := ha x hx
      simp only [Bool.and_eq_true, decide_eq_true_eq, bne_iff_ne]
      refine ⟨fun h => h.1, fun h => ⟨h, ?_⟩⟩
      omega
  · refine ⟨u, hu, .inl ?_⟩
    rw [joinedL, List.countP_eq_zero]
    intro x hx
    by_cases e : x = u
    · simp [e]
    · rw [wgt_has (hr x hx) (hr u hu) e]
      have := hb x hx
      simp only [Bool.and_eq_true, decide_eq_true_eq, bne_iff_ne, not_and]
      intro _
      omega

end Go.Proofs.Ytjghcegacgpehaa
