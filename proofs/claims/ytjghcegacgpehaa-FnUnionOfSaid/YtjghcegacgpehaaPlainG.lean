
/- Plain laws of valid graphs: parts, complements. -/
import Derived.Test.YtjghcegacgpehaaSorted
import Derived.Test.YtjghcegacgpehaaComplG
namespace Go.Proofs.Ytjghcegacgpehaa
open Go.RowKit

theorem valid_take {N : Int} {es : List E2} (h : validG N es = true) (k : Nat) : validG N (es.take k) = true := by
  rw [validG_true] at h ⊢
  refine ⟨fun j hj => ?_, h.2⟩
  have hj' : j < es.length := by rw [List.length_take] at hj; omega
  have h1 := h.1 j hj'
  simpa using h1

theorem valid_nat {N : Int} {es : List E2} (h : validG N es = true) : ∃ M : Nat, N = M ∧ M ≤ 7 := by
  have h1 := (validG_true.1 h).2
  exact ⟨N.toNat, by omega, by omega⟩

theorem hasB_mem {M : Nat} {es : List E2} (h : ∀ e ∈ es, e.1 < e.2) {x : E2} (hx : x ∈ pairsL M) : hasB es x.1 x.2 = decide (x ∈ es) := by
  rw [hasB_hasM h, has_mem hx]

theorem lt_pairs {M : Nat} {x : E2} (h : x ∈ pairsL M) : x.1 < x.2 := (mem_pairsL.1 h).2.1

theorem mem_compl {M : Nat} {es : List E2} (h : ∀ e ∈ es, e.1 < e.2) {x : E2} : x ∈ complG M es ↔ x ∈ pairsL M ∧ x ∉ es := by
  rw [complG, List.mem_filter]
  constructor
  · rintro ⟨h1, h2⟩
    rw [hasB_mem h h1] at h2
    exact ⟨h1, by simpa using h2⟩
  · rintro ⟨h1, h2⟩
    refine ⟨h1, ?_⟩
    rw [hasB_mem h h1]
    simpa using h2

theorem compl_lt {M : Nat} {es : List E2} : ∀ e ∈ complG M es, e.1 < e.2 := fun _ he => lt_pairs (List.mem_filter.1 he).1

theorem cg_valid {N : Int} {es : List E2} (h : validG N es = true) : validG (cgN N es) (cgL N es) = true := by
  obtain ⟨M, rfl, hM⟩ := valid_nat h
  rw [cgN, if_pos h, cgL, if_pos h]
  exact valid_of_asc hM ((asc_pairsL M).filter _) fun x hx => (List.mem_filter.1 hx).1

theorem cg_cg {N : Int} {es : List E2} (h : validG N es = true) : cgN (cgN N es) (cgL N es) = N ∧ cgL (cgN N es) (cgL N es) = es := by
  have h2 := cg_valid h
  have e1 : cgN N es = N := by rw [cgN, if_pos h]
  have e2 : cgL N es = complG N.toNat es := by rw [cgL, if_pos h]
  rw [cgN, if_pos h2, cgL, if_pos h2, e1, e2]
  refine ⟨rfl, ?_⟩
  obtain ⟨M, rfl, hM⟩ := valid_nat h
  refine asc_ext _ _ ((asc_pairsL M).filter _) (valid_asc h) fun x => ?_
  rw [mem_compl compl_lt]
  show x ∈ pairsL M ∧ x ∉ complG M es ↔ x ∈ es
  rw [mem_compl (valid_lt h)]
  constructor
  · rintro ⟨h3, h4⟩
    exact Classical.byContradiction fun h5 => h4 ⟨h3, h5⟩
  · intro h3
    exact ⟨valid_mem h h3, fun h4 => h4.2 h3⟩

theorem ord_symm (x y : Int) : ordE x y = ordE y x := by unfold ordE; rw [Int.min_comm, Int.max_comm]
theorem has_symm (es : List E2) (x y : Int) : hasM es y x = hasM es x y := by unfold hasM; rw [ord_symm]

theorem has_inside {N : Int} {es : List E2} {x y : Int} (h : validG N es = true) (hm : hasM es x y = true) : 0 ≤ x ∧ 0 ≤ y ∧ x < N ∧ y < N ∧ x ≠ y := by
  obtain ⟨M, rfl, hM⟩ := valid_nat h
  have h1 : ordE x y ∈ es := by simpa [hasM] using hm
  have h2 := mem_pairsL.1 (valid_mem h h1)
  simp only [ordE] at h2
  omega

theorem cg_has {N : Int} {es : List E2} {x y : Int} (h : validG N es = true) (h0 : 0 ≤ x) (h1 : 0 ≤ y) (h2 : x < N) (h3 : y < N) (h4 : x ≠ y) : hasM (cgL N es) x y = !hasM es x y := by
  rw [cgL, if_pos h]
  obtain ⟨M, rfl, hM⟩ := valid_nat h
  have hp : ordE x y ∈ pairsL M := by
    rw [mem_pairsL]
    simp only [ordE]
    omega
  show decide (ordE x y ∈ complG M es) = !decide (ordE x y ∈ es)
  by_cases hx : ordE x y ∈ es
  · have : ordE x y ∉ complG M es := fun h5 => ((mem_compl (valid_lt h)).1 h5).2 hx
    simp [hx, this]
  · have : ordE x y ∈ complG M es := (mem_compl (valid_lt h)).2 ⟨hp, hx⟩
    simp [hx, this]

theorem pairs_count : ∀ M, M < 8 → 2 * (pairsL M).length = M * (M - 1) := by decide

theorem cg_count {N : Int} {es : List E2} (h : validG N es = true) : 2 * (((cgL N es).length : Int) + es.length) = N * (N - 1) := by
  rw [cgL, if_pos h]
  obtain ⟨M, rfl, hM⟩ := valid_nat h
  have h1 : es.length = (pairsL M).countP fun e => decide (e ∈ es) := by
    rw [List.countP_eq_length_filter, ← valid_filter h]
  have h2 : (complG M es).length = (pairsL M).countP fun e => !decide (e ∈ es) := by
    rw [List.countP_eq_length_filter, complG]
    congr 1
    exact List.filter_congr fun x hx => by rw [hasB_mem (valid_lt h) hx]
  have h3 := List.length_eq_countP_add_countP (l := pairsL M) (fun e => decide (e ∈ es))
  have h4 := pairs_count M (by omega)
  have h5 : (complG M es).length + es.length = (pairsL M).length := by
    rw [h3, h1, h2]
    have : (fun e => !decide (e ∈ es)) = (fun a : E2 => decide ¬(decide (a ∈ es)) = true) := by
      funext a; simp
    rw [this]; omega
  have h6 : ((2 * (pairsL M).length : Nat) : Int) = ((M * (M - 1) : Nat) : Int) := by rw [h4]
  have h7 : ((M * (M - 1) : Nat) : Int) = (M : Int) * ((M : Int) - 1) := by
    cases M with
    | zero => rfl
    | succ m => simp
  show 2 * (((complG M es).length : Int) + es.length) = (M : Int) * ((M : Int) - 1)
  rw [← h7, ← h6, ← h5]
  simp

end Go.Proofs.Ytjghcegacgpehaa
