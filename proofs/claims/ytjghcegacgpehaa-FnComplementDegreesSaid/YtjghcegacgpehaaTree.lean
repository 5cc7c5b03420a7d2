
/- A region whose order is drawn: readers first; what is left may be ready by twos. No program is named here. -/
import Derived.Test.YtjghcegacgpehaaMix
namespace Go.Proofs.Ytjghcegacgpehaa
open Go.RowKit

section
variable {P : Program} {ops : Array Oper} {md : Region.Mode} {C : World → Prop} {Q : Exit → Act → World → Prop}

def headOK (md : Region.Mode) (ops : Array Oper) (z : Nat) : List Nat → Array Bool → Bool
  | [], _ => true
  | i :: r, listed => (Region.ready md ops listed).contains i && (Region.free md ops listed i && (anc md ops ops.size i z && headOK md ops z r (listed.setIfInBounds i true)))
def setAll (l : List Nat) (listed : Array Bool) : Array Bool := l.foldl (fun ls i => ls.setIfInBounds i true) listed

theorem wpAnyC_heads {z n : Nat} (hsel : ∀ (j : Nat) (o : Oper) cs b, ops[j]? = some o → o.op ≠ .select cs b) {w : World} (hC : C w) :
    ∀ (l : List Nat) (listed : Array Bool) (a : Act), Closed md ops listed → headOK md ops z l listed = true → wpHead P ops C (fun a' => wpAnyC P md ops C (Only Q) z n (setAll l listed) a' w) l a → wpAnyC P md ops C (Only Q) z (l.length + n) listed a w
  | [], listed, a, _, _, h => by
    simp only [List.length_nil, Nat.zero_add]
    exact h
  | i :: r, listed, a, hc, hB, h => by
    simp only [headOK, Bool.and_eq_true] at hB
    obtain ⟨hr, hf, ha, hB'⟩ := hB
    have hr' : i ∈ Region.ready md ops listed := by simpa using hr
    unfold wpHead at h
    cases ho : ops[i]? with
    | none => rw [ho] at h; exact h.elim
    | some o =>
      rw [ho] at h
      obtain ⟨v, hs, hK⟩ := still_of_quiet h.1 h.2
      rw [show (i :: r).length + n = (r.length + n) + 1 from by simp; omega]
      exact mix_first ho hsel ⟨_, ha⟩ _ listed a w hC hc (Region.free_spec ho hf) hr' hs
        (wpAnyC_heads hsel hC r _ _ (hc.set hr') hB' hK)

/-- The readers (marked true) in the text's order; behind them whatever order is drawn. -/
theorem wp_region_heads {id : Nat} {a : Act} {w : World} {l : List Oper} (fs : List Bool) (z n : Nat) (hm : P.follows .mixedOrders = true)
    (hB : (Region.noSelect l.toArray && (fs.length == l.length && ((idxT 0 fs).length + n == l.toArray.size && ((pickT fs l).all (fun o => plainOp o.op) &&
      (setAll (idxT 0 fs) (Array.replicate l.toArray.size false) == fs.toArray && headOK .any l.toArray z (idxT 0 fs) (Array.replicate l.toArray.size false)))))) = true)
    (hC : C w.drew) (h : wpQuiet P l.toArray C (fun a' => wpAnyC P .any l.toArray C (Only Q) z n fs.toArray a' w.drew) (pickT fs l) a) : (Code.region id l.toArray true).wp P Q a w := by
  simp only [Bool.and_eq_true, beq_iff_eq] at hB
  obtain ⟨b1, b2, b3, b4, b5, b6⟩ := hB
  have hcl : Closed .any l.toArray (Array.replicate l.toArray.size false) := by
    intro j oj hj hl
    rw [getD_replicate_false] at hl
    cases hl
  have h0 := head_of_flags (K := fun a' => wpAnyC P .any l.toArray C (Only Q) z n fs.toArray a' w.drew) fs l 0 a b2 (by simp) b4 h
  rw [← b5] at h0
  have h1 := wpAnyC_heads (md := .any) (z := z) (n := n) (Region.noSelect_spec b1) (w := w.drew) hC (idxT 0 fs) _ a hcl b6 h0
  rw [b3] at h1
  exact wp_mono (wp_region_any (Q := Only Q) hm (wpAny_of_C _ _ _ _ h1)) fun e a w ⟨he, hq⟩ => he ▸ hq

theorem any_one {z n i : Nat} {listed : Array Bool} {a : Act} {w : World} {o : Oper} (hr : (Region.ready md ops listed == [i]) = true) (hi : ops[i]? = some o)
    (h : ∀ K : Act → World → Prop, (∀ a' w', (i ≠ z → C w') → wpAnyC P md ops C (Only Q) z n (listed.setIfInBounds i true) a' w' → K a' w') → wpList P ops (fun e a' w' => e = .normal ∧ K a' w') [o] a w) : wpAnyC P md ops C (Only Q) z (n + 1) listed a w := by
  have hr := eq_of_beq hr
  refine ⟨fun h0 => (by rw [hr] at h0; cases h0), fun j hj => ?_⟩
  rw [hr] at hj
  simp only [List.mem_cons, List.not_mem_nil, or_false] at hj
  subst hj
  exact wpOp_of_single hi (h _ fun a' w' h1 h2 => ⟨h1, h2⟩)

theorem any_two {z n i j : Nat} {listed : Array Bool} {a : Act} {w : World} {o o2 : Oper} (hr : (Region.ready md ops listed == [i, j]) = true) (hi : ops[i]? = some o) (hj : ops[j]? = some o2)
    (h : ∀ K : Act → World → Prop, (∀ a' w', (i ≠ z → C w') → wpAnyC P md ops C (Only Q) z n (listed.setIfInBounds i true) a' w' → K a' w') → wpList P ops (fun e a' w' => e = .normal ∧ K a' w') [o] a w)
    (h2 : ∀ K : Act → World → Prop, (∀ a' w', (j ≠ z → C w') → wpAnyC P md ops C (Only Q) z n (listed.setIfInBounds j true) a' w' → K a' w') → wpList P ops (fun e a' w' => e = .normal ∧ K a' w') [o2] a w) : wpAnyC P md ops C (Only Q) z (n + 1) listed a w := by
  have hr := eq_of_beq hr
  refine ⟨fun h0 => (by rw [hr] at h0; cases h0), fun k hk => ?_⟩
  rw [hr] at hk
  simp only [List.mem_cons, List.not_mem_nil, or_false] at hk
  rcases hk with rfl | rfl
  · exact wpOp_of_single hi (h _ fun a' w' h1 h2 => ⟨h1, h2⟩)
  · exact wpOp_of_single hj (h2 _ fun a' w' h1 h2 => ⟨h1, h2⟩)

def closedB (md : Region.Mode) (ops : Array Oper) (listed : Array Bool) : Bool :=
  (List.range ops.size).all fun j => match ops[j]? with
    | none => true
    | some oj => !listed.getD j false || oj.after.all fun e => !Region.binds md e || listed.getD e.on false
theorem closedB_spec {listed : Array Bool} (h : closedB md ops listed = true) : Closed md ops listed := by
  intro j oj hj hl e he hb
  have hjs : j < ops.size := (Array.getElem?_eq_some_iff.1 hj).1
  have h1 := List.all_eq_true.1 h j (List.mem_range.2 hjs)
  simp only [hj, hl, Bool.not_true, Bool.false_or] at h1
  have h2 := Array.all_eq_true'.1 h1 e he
  simpa [hb] using h2

/-- Readers that are ready now (marked true) are taken first, in the text's order. -/
theorem any_heads {id : Nat} {a : Act} {w : World} {l : List Oper} {listed : Array Bool} (fs : List Bool) (listed' : Array Bool) {z n : Nat}
    (hB : (Region.noSelect l.toArray && (fs.length == l.length && ((pickT fs l).all (fun o => plainOp o.op) &&
      (closedB .any l.toArray listed && (setAll (idxT 0 fs) listed == listed' && (headOK .any l.toArray z (idxT 0 fs) listed && (idxT 0 fs).length == id)))))) = true)
    (hC : C w) (h : wpQuiet P l.toArray C (fun a' => wpAnyC P .any l.toArray C (Only Q) z n listed' a' w) (pickT fs l) a) : wpAnyC P .any l.toArray C (Only Q) z (id + n) listed a w := by
  simp only [Bool.and_eq_true, beq_iff_eq] at hB
  obtain ⟨b1, b2, b4, b5, b6, b7, b8⟩ := hB
  have h0 := head_of_flags (K := fun a' => wpAnyC P .any l.toArray C (Only Q) z n listed' a' w) fs l 0 a b2 (by simp) b4 h
  rw [← b6] at h0
  have h1 := wpAnyC_heads (md := .any) (z := z) (n := n) (Region.noSelect_spec b1) (w := w) hC (idxT 0 fs) _ a (closedB_spec b5) b7 h0
  rw [b8] at h1
  exact h1

theorem any_three {z n i j k : Nat} {listed : Array Bool} {a : Act} {w : World} {o o2 o3 : Oper} (hr : (Region.ready md ops listed == [i, j, k]) = true) (hi : ops[i]? = some o) (hj : ops[j]? = some o2) (hk : ops[k]? = some o3)
    (h : ∀ K : Act → World → Prop, (∀ a' w', (i ≠ z → C w') → wpAnyC P md ops C (Only Q) z n (listed.setIfInBounds i true) a' w' → K a' w') → wpList P ops (fun e a' w' => e = .normal ∧ K a' w') [o] a w)
    (h2 : ∀ K : Act → World → Prop, (∀ a' w', (j ≠ z → C w') → wpAnyC P md ops C (Only Q) z n (listed.setIfInBounds j true) a' w' → K a' w') → wpList P ops (fun e a' w' => e = .normal ∧ K a' w') [o2] a w)
    (h3 : ∀ K : Act → World → Prop, (∀ a' w', (k ≠ z → C w') → wpAnyC P md ops C (Only Q) z n (listed.setIfInBounds k true) a' w' → K a' w') → wpList P ops (fun e a' w' => e = .normal ∧ K a' w') [o3] a w) : wpAnyC P md ops C (Only Q) z (n + 1) listed a w := by
  have hr := eq_of_beq hr
  refine ⟨fun h0 => (by rw [hr] at h0; cases h0), fun m hm => ?_⟩
  rw [hr] at hm
  simp only [List.mem_cons, List.not_mem_nil, or_false] at hm
  rcases hm with rfl | rfl | rfl
  · exact wpOp_of_single hi (h _ fun a' w' h1 h2 => ⟨h1, h2⟩)
  · exact wpOp_of_single hj (h2 _ fun a' w' h1 h2 => ⟨h1, h2⟩)
  · exact wpOp_of_single hk (h3 _ fun a' w' h1 h2 => ⟨h1, h2⟩)

theorem any_end {z : Nat} {listed : Array Bool} {a : Act} {w : World} (hr : (Region.ready md ops listed).isEmpty = true) (h : Q .normal a w) : wpAnyC P md ops C (Only Q) z 0 listed a w :=
  ⟨by simpa using hr, rfl, h⟩

end

end Go.Proofs.Ytjghcegacgpehaa
