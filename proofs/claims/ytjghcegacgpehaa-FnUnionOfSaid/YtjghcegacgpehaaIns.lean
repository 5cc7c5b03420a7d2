
/- Plain laws: an edge put in its place; the union made so. -/
import Derived.Test.YtjghcegacgpehaaAddE
import Derived.Test.YtjghcegacgpehaaUnionI
namespace Go.Proofs.Ytjghcegacgpehaa
open Go.RowKit

theorem insE_mem {es : List E2} {e x : E2} : x ∈ insE es e ↔ x = e ∨ x ∈ es := by
  have h : ∀ y, y ∈ es ↔ y ∈ es.take (insK es e) ∨ y ∈ es.drop (insK es e) := by
    intro y
    rw [← List.mem_append, List.take_append_drop]
  rw [insE, List.mem_append, List.mem_cons, h x]
  constructor
  · rintro (h1 | h1 | h1)
    · exact .inr (.inl h1)
    · exact .inl h1
    · exact .inr (.inr h1)
  · rintro (h1 | h1 | h1)
    · exact .inr (.inl h1)
    · exact .inl h1
    · exact .inr (.inr h1)

theorem insE_asc {es : List E2} {e : E2} (h : Asc es) (hn : e ∉ es) : Asc (insE es e) := by
  have hbelow : ∀ x ∈ es.take (insK es e), belowE x e = true := by
    intro x hx
    obtain ⟨i, hi, rfl⟩ := List.getElem_of_mem hx
    have hi' : i < insK es e := by simp at hi; omega
    have := List.not_of_lt_findIdx (p := fun x => !belowE x e) hi'
    simpa using this
  have habove : ∀ x ∈ es.drop (insK es e), belowE e x = true := by
    intro x hx
    by_cases hl : insK es e < es.length
    · have h0 : belowE (es[insK es e]'hl) e = false := by
        have := List.findIdx_getElem (p := fun x => !belowE x e) (xs := es) (w := hl)
        change (!belowE (es[insK es e]'hl) e) = true at this
        simpa using this
      have h1 : belowE e (es[insK es e]'hl) = true := by
        cases hb : belowE e (es[insK es e]'hl)
        · exact absurd (belowE_total hb h0 ▸ List.getElem_mem hl) hn
        · rfl
      rw [List.drop_eq_getElem_cons hl] at hx
      rcases List.mem_cons.1 hx with rfl | hx
      · exact h1
      · obtain ⟨j, hj, rfl⟩ := List.getElem_of_mem hx
        rw [List.getElem_drop]
        simp at hj
        exact belowE_trans h1 (List.pairwise_iff_getElem.1 h _ _ hl (by omega) (by omega))
    · rw [List.drop_of_length_le (by omega)] at hx
      simp at hx
  have h2 : Asc (es.take (insK es e) ++ es.drop (insK es e)) := by rw [List.take_append_drop]; exact h
  rw [Asc, List.pairwise_append] at h2
  rw [Asc, insE, List.pairwise_append, List.pairwise_cons]
  refine ⟨h2.1, ⟨habove, h2.2.1⟩, ?_⟩
  intro a ha b hb
  rcases List.mem_cons.1 hb with rfl | hb
  · exact hbelow a ha
  · exact h2.2.2 a ha b hb

def uniStep (gs : List E2) (acc : List E2) (e : E2) : List E2 := if hasB gs e.1 e.2 then acc else insE acc e
def uniUpto (gs hs : List E2) (k : Nat) : List E2 := (hs.take k).foldl (uniStep gs) gs
theorem uni_succ {gs hs : List E2} {k : Nat} (h : k < hs.length) : uniUpto gs hs (k + 1) = uniStep gs (uniUpto gs hs k) (hs[k]'h) := by
  rw [uniUpto, List.take_succ_eq_append_getElem h, List.foldl_append]; rfl
theorem uni_length (gs hs : List E2) (k : Nat) : (uniUpto gs hs k).length ≤ gs.length + k := by
  induction k with
  | zero => simp [uniUpto]
  | succ k ih =>
    by_cases h : k < hs.length
    · rw [uni_succ h, uniStep]
      split
      · omega
      · rw [insE_length]; omega
    · have e : uniUpto gs hs (k + 1) = uniUpto gs hs k := by
        unfold uniUpto
        rw [List.take_of_length_le (by omega), List.take_of_length_le (by omega)]
      rw [e]; omega

theorem uni_inv {N : Nat} {gs hs : List E2} (hg : validG N gs = true) (hh : validG N hs = true) (k : Nat) (hk : k ≤ hs.length) :
    Asc (uniUpto gs hs k) ∧ ∀ x, x ∈ uniUpto gs hs k ↔ x ∈ gs ∨ x ∈ hs.take k := by
  induction k with
  | zero => exact ⟨by simpa [uniUpto] using valid_asc hg, fun x => by simp [uniUpto]⟩
  | succ k ih =>
    have h : k < hs.length := by omega
    obtain ⟨h1, h2⟩ := ih (by omega)
    have hm : hs[k]'h ∈ pairsL N := valid_mem hh (List.getElem_mem h)
    have hB : hasB gs (hs[k]'h).1 (hs[k]'h).2 = decide (hs[k]'h ∈ gs) := by rw [hasB_hasM (valid_lt hg), has_mem hm]
    have ht : ∀ x, x ∈ hs.take (k + 1) ↔ x ∈ hs.take k ∨ x = hs[k]'h := by
      intro x
      rw [List.take_succ_eq_append_getElem h, List.mem_append, List.mem_singleton]
    rw [uni_succ h, uniStep, hB]
    by_cases hd : hs[k]'h ∈ gs
    · rw [decide_eq_true hd]
      refine ⟨h1, fun x => ?_⟩
      simp only [if_true]
      rw [h2, ht]
      constructor
      · rintro (h3 | h3)
        · exact .inl h3
        · exact .inr (.inl h3)
      · rintro (h3 | h3 | h3)
        · exact .inl h3
        · exact .inr h3
        · subst h3; exact .inl hd
    · rw [decide_eq_false hd]
      simp only [Bool.false_eq_true, if_false]
      have hnin : hs[k]'h ∉ uniUpto gs hs k := by
        rw [h2]
        rintro (h3 | h3)
        · exact hd h3
        · obtain ⟨i, hi, e⟩ := List.getElem_of_mem h3
          simp at hi
          rw [List.getElem_take] at e
          have := List.pairwise_iff_getElem.1 (valid_asc hh) i k (by omega) h (by omega)
          rw [e, belowE_irr] at this
          cases this
      refine ⟨insE_asc h1 hnin, fun x => ?_⟩
      rw [insE_mem, h2, ht]
      constructor
      · rintro (h3 | h3 | h3)
        · exact .inr (.inr h3)
        · exact .inl h3
        · exact .inr (.inl h3)
      · rintro (h3 | h3 | h3)
        · exact .inr (.inl h3)
        · exact .inr (.inr h3)
        · exact .inl h3

theorem uni_eq {N : Nat} {gs hs : List E2} (hg : validG N gs = true) (hh : validG N hs = true) : uniUpto gs hs hs.length = uniL N gs hs := by
  obtain ⟨h1, h2⟩ := uni_inv hg hh hs.length (Nat.le_refl _)
  refine asc_ext _ _ h1 ((asc_pairsL N).filter _) fun x => ?_
  rw [h2, List.take_length, uniL, List.mem_filter]
  constructor
  · rintro (h | h)
    · have hm := valid_mem hg h
      exact ⟨hm, by simp [orM, has_mem hm, h]⟩
    · have hm := valid_mem hh h
      exact ⟨hm, by simp [orM, has_mem hm, h]⟩
  · rintro ⟨hm, h⟩
    simpa [orM, has_mem hm] using h

end Go.Proofs.Ytjghcegacgpehaa
