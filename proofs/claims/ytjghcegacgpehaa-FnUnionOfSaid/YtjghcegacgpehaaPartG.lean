
/- Plain laws of parts of graphs: complements turn them round, degrees do not grow. -/
import Derived.Test.YtjghcegacgpehaaPlainG
import Derived.Test.YtjghcegacgpehaaIsPart2
import Derived.Test.YtjghcegacgpehaaDegs
namespace Go.Proofs.Ytjghcegacgpehaa
open Go.RowKit

theorem both_true {Ng : Int} {gs : List E2} {Nh : Int} {hs : List E2} : bothV Ng gs Nh hs = true ↔ validG Ng gs = true ∧ validG Nh hs = true ∧ Ng = Nh := by simp [bothV]

/-- A part: as many vertices, and all its edges. -/
theorem part_iff {Nh Ng : Int} {hs gs : List E2} (hh : validG Nh hs = true) (hg : validG Ng gs = true) : isPartV Nh hs Ng gs = true ↔ Nh = Ng ∧ ∀ x ∈ hs, x ∈ gs := by
  rw [isPartV, Bool.and_eq_true, both_true]
  constructor
  · rintro ⟨⟨_, _, rfl⟩, h2⟩
    refine ⟨rfl, fun x hx => ?_⟩
    rw [partB, List.all_eq_true] at h2
    have h3 := h2 x hx
    obtain ⟨M, rfl, hM⟩ := valid_nat hg
    rw [hasB_mem (valid_lt hg) (valid_mem hh hx)] at h3
    simpa using h3
  · rintro ⟨rfl, h2⟩
    refine ⟨⟨hg, hh, rfl⟩, ?_⟩
    rw [partB, List.all_eq_true]
    intro x hx
    obtain ⟨M, rfl, hM⟩ := valid_nat hg
    rw [hasB_mem (valid_lt hg) (valid_mem hh hx)]
    simpa using h2 x hx

theorem part_refl {N : Int} {es : List E2} (h : validG N es = true) : isPartV N es N es = true := (part_iff h h).2 ⟨rfl, fun _ h => h⟩

theorem bool_iff {a b : Bool} (h : a = true ↔ b = true) : a = b := by
  cases a <;> cases b <;> simp_all

theorem part_compl {Nh Ng : Int} {hs gs : List E2} (hh : validG Nh hs = true) (hg : validG Ng gs = true) : isPartV (cgN Ng gs) (cgL Ng gs) (cgN Nh hs) (cgL Nh hs) = isPartV Nh hs Ng gs := by
  apply bool_iff
  rw [part_iff (cg_valid hg) (cg_valid hh), part_iff hh hg]
  rw [cgN, if_pos hg, cgN, if_pos hh, cgL, if_pos hg, cgL, if_pos hh]
  constructor
  · rintro ⟨rfl, h2⟩
    refine ⟨rfl, fun x hx => Classical.byContradiction fun hn => ?_⟩
    obtain ⟨M, rfl, hM⟩ := valid_nat hg
    have h3 := h2 x ((mem_compl (valid_lt hg)).2 ⟨valid_mem hh hx, hn⟩)
    exact ((mem_compl (valid_lt hh)).1 h3).2 hx
  · rintro ⟨rfl, h2⟩
    refine ⟨rfl, fun x hx => ?_⟩
    obtain ⟨M, rfl, hM⟩ := valid_nat hg
    have h3 := (mem_compl (valid_lt hg)).1 hx
    exact (mem_compl (valid_lt hh)).2 ⟨h3.1, fun h4 => h3.2 (h2 x h4)⟩

def touch (v : Nat) (e : E2) : Bool := decide (e.1 = v) || decide (e.2 = v)
theorem inc_getD (xs : List Int) (i v : Nat) (hi : i < xs.length) : (inc xs i).getD v 0 = xs.getD v 0 + if v = i then 1 else 0 := by
  unfold inc
  by_cases h : v = i
  · subst h
    simp [List.getD_eq_getElem?_getD, hi]
  · simp [List.getD_eq_getElem?_getD, Ne.symm h, h]

theorem degs_count {N : Nat} {es : List E2} (h : ∀ e ∈ es, 0 ≤ e.1 ∧ e.1 < e.2 ∧ e.2 < N) (v : Nat) : (degsL N es).getD v 0 = (es.countP (touch v) : Nat) := by
  have key : ∀ k, k ≤ es.length → (degsUpto N es k).getD v 0 = ((es.take k).countP (touch v) : Nat) := by
    intro k
    induction k with
    | zero => intro _; simp [degsUpto, List.getD_eq_getElem?_getD, List.getElem?_replicate]; split <;> rfl
    | succ k ih =>
      intro hk
      have hk' : k < es.length := by omega
      have he := h _ (List.getElem_mem hk')
      have hl := degs_length N es k
      rw [degs_succ N es k hk', List.take_succ_eq_append_getElem hk', List.countP_append, addE]
      rw [inc_getD _ _ _ (by rw [inc_length, hl]; omega), inc_getD _ _ _ (by rw [hl]; omega), ih (by omega)]
      generalize es[k]'hk' = e at *
      by_cases h1 : v = e.1.toNat
      · have h2 : ¬ v = e.2.toNat := by omega
        have h3 : touch v e = true := by simp [touch]; omega
        rw [if_pos h1, if_neg h2, List.countP_cons_of_pos h3]; simp
      · by_cases h2 : v = e.2.toNat
        · have h3 : touch v e = true := by simp [touch]; omega
          rw [if_neg h1, if_pos h2, List.countP_cons_of_pos h3]; simp
        · have h3 : ¬ touch v e = true := by simp [touch]; omega
          rw [if_neg h1, if_neg h2, List.countP_cons_of_neg h3]; simp
  rw [← degs_all, key _ (Nat.le_refl _), List.take_length]

theorem valid_bounds {N : Nat} {es : List E2} (h : validG N es = true) : ∀ e ∈ es, 0 ≤ e.1 ∧ e.1 < e.2 ∧ e.2 < N := fun _ he => mem_pairsL.1 (valid_mem h he)

theorem count_filter {M : Nat} {es : List E2} (h : validG M es = true) (v : Nat) : es.countP (touch v) = (pairsL M).countP fun e => touch v e && decide (e ∈ es) := by
  conv => lhs; rw [valid_filter h]
  rw [List.countP_filter]

theorem degs_mono {Nh Ng : Int} {hs gs : List E2} (hh : validG Nh hs = true) (hg : validG Ng gs = true) (hp : isPartV Nh hs Ng gs = true) (v : Nat) : (degsV Nh hs).getD v 0 ≤ (degsV Ng gs).getD v 0 := by
  obtain ⟨rfl, h2⟩ := (part_iff hh hg).1 hp
  rw [degsV, if_pos hh, degsV, if_pos hg]
  obtain ⟨M, rfl, hM⟩ := valid_nat hg
  show (degsL M hs).getD v 0 ≤ (degsL M gs).getD v 0
  rw [degs_count (valid_bounds hh), degs_count (valid_bounds hg), count_filter hh, count_filter hg]
  have : ((pairsL M).countP fun e => touch v e && decide (e ∈ hs)) ≤ ((pairsL M).countP fun e => touch v e && decide (e ∈ gs)) := by
    apply List.countP_mono_left
    intro x _ hx
    simp only [Bool.and_eq_true, decide_eq_true_eq] at hx ⊢
    exact ⟨hx.1, h2 x hx.2⟩
  omega

theorem degsV_length {N : Int} {es : List E2} (h : validG N es = true) : ((degsV N es).length : Int) = N := by
  rw [degsV, if_pos h]
  obtain ⟨M, rfl, hM⟩ := valid_nat h
  rw [show ((M : Int)).toNat = M from rfl, ← degs_all, degs_length]

end Go.Proofs.Ytjghcegacgpehaa
