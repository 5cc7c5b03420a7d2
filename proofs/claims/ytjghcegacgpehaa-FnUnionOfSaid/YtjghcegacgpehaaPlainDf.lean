
/- Plain laws of differences and unions of graphs. No program is named here. -/
import Derived.Test.YtjghcegacgpehaaDiffer2
import Derived.Test.YtjghcegacgpehaaUnionI
import Derived.Test.YtjghcegacgpehaaPlainG
import Derived.Test.YtjghcegacgpehaaPartG
namespace Go.Proofs.Ytjghcegacgpehaa
open Go.RowKit

theorem diff_zero {N : Nat} {gs hs : List E2} (hg : validG N gs = true) (hh : validG N hs = true) : diffB gs hs = 0 ↔ gs = hs := by
  rw [diff_pairs hg hh, List.countP_eq_zero]
  constructor
  · intro h
    refine asc_ext _ _ (valid_asc hg) (valid_asc hh) fun x => ?_
    have key : ∀ x ∈ pairsL N, (x ∈ gs ↔ x ∈ hs) := by
      intro x hx
      have h1 := h x hx
      simp only [xorM, has_mem hx] at h1
      by_cases h6 : x ∈ gs <;> by_cases h7 : x ∈ hs <;> simp_all
    exact ⟨fun hx => (key x (valid_mem hg hx)).1 hx, fun hx => (key x (valid_mem hh hx)).2 hx⟩
  · rintro rfl x _
    simp [xorM]
theorem diff_symm (gs hs : List E2) : diffB hs gs = diffB gs hs := by rw [diffB, diffB, Nat.add_comm]
theorem diff_compl {N : Nat} {gs hs : List E2} (hg : validG N gs = true) (hh : validG N hs = true) : diffB (cgL N gs) (cgL N hs) = diffB gs hs := by
  have e1 : cgN N gs = N := by rw [cgN, if_pos hg]
  have e2 : cgN N hs = N := by rw [cgN, if_pos hh]
  have v1 := cg_valid hg
  have v2 := cg_valid hh
  rw [e1] at v1
  rw [e2] at v2
  rw [diff_pairs v1 v2, diff_pairs hg hh]
  refine List.countP_congr fun x hx => ?_
  have hp := mem_pairsL.1 hx
  simp only [xorM]
  rw [cg_has hg (by omega) (by omega) (by omega) (by omega) (by omega), cg_has hh (by omega) (by omega) (by omega) (by omega) (by omega)]
  cases hasM gs x.1 x.2 <;> cases hasM hs x.1 x.2 <;> simp
theorem diffV_both {N : Int} {gs hs : List E2} (hg : validG N gs = true) (hh : validG N hs = true) : diffV N gs N hs = (diffB gs hs : Nat) := by
  rw [diffV, if_pos (by simp [bothV, hg, hh])]
/-- What the law of differences asks. -/
theorem diff_law {Ng Nh : Int} {gs hs : List E2} (hb : bothV Ng gs Nh hs = true) :
    (decide (Ng = Nh ∧ gs = hs) = decide (diffB gs hs = 0)) ∧ diffV Nh hs Ng gs = (diffB gs hs : Nat) ∧ diffV (cgN Ng gs) (cgL Ng gs) (cgN Nh hs) (cgL Nh hs) = (diffB gs hs : Nat) := by
  obtain ⟨hg, hh, rfl⟩ := bothV_true hb
  obtain ⟨M, rfl, hM⟩ := valid_nat hg
  refine ⟨?_, ?_, ?_⟩
  · have := diff_zero hg hh
    by_cases h : gs = hs
    · have h3 := this.2 h
      simp [h]
      rw [← h]
      rw [← h] at h3
      exact h3
    · have h2 : ¬ diffB gs hs = 0 := fun h3 => h (this.1 h3)
      simp [h, h2]
  · rw [diffV_both hh hg, diff_symm]
  · have e1 : cgN M gs = M := by rw [cgN, if_pos hg]
    have e2 : cgN M hs = M := by rw [cgN, if_pos hh]
    have v1 := cg_valid hg
    have v2 := cg_valid hh
    rw [e1] at v1
    rw [e2] at v2
    rw [e1, e2, diffV_both v1 v2, diff_compl hg hh]

theorem uni_valid {N : Nat} {gs hs : List E2} (hN : N ≤ 7) : validG N (uniL N gs hs) = true :=
  valid_of_asc hN ((asc_pairsL N).filter _) fun _ hx => (List.mem_filter.1 hx).1
theorem uni_comm (N : Nat) (gs hs : List E2) : uniL N hs gs = uniL N gs hs := List.filter_congr fun _ _ => Bool.or_comm _ _
theorem uni_left {N : Nat} {gs hs : List E2} (hg : validG N gs = true) : ∀ e ∈ gs, e ∈ uniL N gs hs := by
  intro e he
  have hp := valid_mem hg he
  refine List.mem_filter.2 ⟨hp, ?_⟩
  rw [orM, has_mem hp]
  simp [he]
theorem count_three (l : List E2) (p q : E2 → Bool) : 2 * l.countP (fun e => p e || q e) = l.countP p + l.countP q + l.countP (fun e => p e != q e) := by
  induction l with
  | nil => rfl
  | cons a t ih =>
    simp only [List.countP_cons]
    cases p a <;> cases q a <;> simp <;> omega
theorem valid_count {N : Nat} {gs : List E2} (hg : validG N gs = true) : gs.length = (pairsL N).countP fun e => hasM gs e.1 e.2 := by
  rw [List.countP_eq_length_filter]
  have : (pairsL N).filter (fun e => hasM gs e.1 e.2) = gs := by
    conv => rhs; rw [valid_filter hg]
    exact List.filter_congr fun x hx => has_mem hx
  rw [this]
theorem uni_count {N : Nat} {gs hs : List E2} (hg : validG N gs = true) (hh : validG N hs = true) : 2 * (uniL N gs hs).length = gs.length + hs.length + diffB gs hs := by
  rw [diff_pairs hg hh, valid_count hg, valid_count hh, uniL, ← List.countP_eq_length_filter]
  exact count_three (pairsL N) (fun e => hasM gs e.1 e.2) (fun e => hasM hs e.1 e.2)

/-- What the law of unions asks. -/
theorem union_law {Ng Nh : Int} {gs hs : List E2} (hb : bothV Ng gs Nh hs = true) :
    isPartV Ng gs (uniN Ng gs Nh hs) (uniE Ng gs Nh hs) = true ∧ isPartV Nh hs (uniN Ng gs Nh hs) (uniE Ng gs Nh hs) = true ∧ bothV Nh hs Ng gs = true ∧ uniE Nh hs Ng gs = uniE Ng gs Nh hs ∧ uniN Nh hs Ng gs = uniN Ng gs Nh hs ∧
    2 * (uniE Ng gs Nh hs).length = gs.length + hs.length + diffB gs hs := by
  obtain ⟨hg, hh, rfl⟩ := bothV_true hb
  obtain ⟨M, rfl, hM⟩ := valid_nat hg
  have hb2 : bothV (M : Int) hs M gs = true := by simp [bothV, hg, hh]
  have e1 : uniE (M : Int) gs M hs = uniL M gs hs := by rw [uniE, if_pos hb]; rfl
  have e2 : uniE (M : Int) hs M gs = uniL M gs hs := by rw [uniE, if_pos hb2]; exact uni_comm M gs hs
  have e3 : uniN (M : Int) gs M hs = M := by rw [uniN, if_pos hb]
  have e4 : uniN (M : Int) hs M gs = M := by rw [uniN, if_pos hb2]
  have hu := uni_valid (gs := gs) (hs := hs) hM
  rw [e1, e2, e3, e4]
  refine ⟨(part_iff hg hu).2 ⟨rfl, uni_left hg⟩, (part_iff hh hu).2 ⟨rfl, fun x hx => ?_⟩, hb2, rfl, rfl, uni_count hg hh⟩
  rw [← uni_comm]
  exact uni_left hh x hx

end Go.Proofs.Ytjghcegacgpehaa
