
/- Several texts in one: Tree, AppG. -/
import Derived.Test.YtjghcegacgpehaaBlk
import Derived.Test.YtjghcegacgpehaaCopy
namespace Go.Proofs.Ytjghcegacgpehaa
open Go.RowKit

section
variable {P : Program} {ops : Array Oper} {md : Region.Mode} {C : World → Prop} {Q : Exit → Act → World → Prop}

def headOK (md : Region.Mode) (ops : Array Oper) (z : Nat) : List Nat → Array Bool → Bool
  | [], _ => true
  | i :: r, listed => (Region.ready md ops listed).contains i && (Region.free md ops listed i && (anc md ops ops.size i z && headOK md ops z r (listed.setIfInBounds i true)))
def setAll (l : List Nat) (listed : Array Bool) : Array Bool := l.foldl (fun ls i => ls.setIfInBounds i true) listed

theorem wpAnyC_heads {z n : Nat} (hsel : ∀ (j : Nat) (o : Oper) cs b, ops[j]? = some o → o.op ≠ .select cs b) {w : World} (hC : C w) :
    ∀ (l : List Nat) (listed : Array Bool) (a : Act), Closed md ops listed → headOK md ops z l listed = true → wpHead P ops C (fun a' => wpAnyC P md ops C (Only Q) z n (setAll l listed) a' w) l a → wpAnyC P md ops C (Only Q) z (l.length + n) listed a w
  | [], listed, a, _, _, h => by
    simp only [List.length_nil, Nat.zero_add]
    exact h
  | i :: r, listed, a, hc, hB, h => by
    simp only [headOK, Bool.and_eq_true] at hB
    obtain ⟨hr, hf, ha, hB'⟩ := hB
    have hr' : i ∈ Region.ready md ops listed := by simpa using hr
    unfold wpHead at h
    cases ho : ops[i]? with
    | none => rw [ho] at h; exact h.elim
    | some o =>
      rw [ho] at h
      obtain ⟨v, hs, hK⟩ := still_of_quiet h.1 h.2
      rw [show (i :: r).length + n = (r.length + n) + 1 from by simp; omega]
      exact mix_first ho hsel ⟨_, ha⟩ _ listed a w hC hc (Region.free_spec ho hf) hr' hs
        (wpAnyC_heads hsel hC r _ _ (hc.set hr') hB' hK)

/-- The readers (marked true) in the text's order; behind them whatever order is drawn. -/
theorem wp_region_heads {id : Nat} {a : Act} {w : World} {l : List Oper} (fs : List Bool) (z n : Nat) (hm : P.follows .mixedOrders = true)
    (hB : (Region.noSelect l.toArray && (fs.length == l.length && ((idxT 0 fs).length + n == l.toArray.size && ((pickT fs l).all (fun o => plainOp o.op) &&
      (setAll (idxT 0 fs) (Array.replicate l.toArray.size false) == fs.toArray && headOK .any l.toArray z (idxT 0 fs) (Array.replicate l.toArray.size false)))))) = true)
    (hC : C w.drew) (h : wpQuiet P l.toArray C (fun a' => wpAnyC P .any l.toArray C (Only Q) z n fs.toArray a' w.drew) (pickT fs l) a) : (Code.region id l.toArray true).wp P Q a w := by
  simp only [Bool.and_eq_true, beq_iff_eq] at hB
  obtain ⟨b1, b2, b3, b4, b5, b6⟩ := hB
  have hcl : Closed .any l.toArray (Array.replicate l.toArray.size false) := by
    intro j oj hj hl
    rw [getD_replicate_false] at hl
    cases hl
  have h0 := head_of_flags (K := fun a' => wpAnyC P .any l.toArray C (Only Q) z n fs.toArray a' w.drew) fs l 0 a b2 (by simp) b4 h
  rw [← b5] at h0
  have h1 := wpAnyC_heads (md := .any) (z := z) (n := n) (Region.noSelect_spec b1) (w := w.drew) hC (idxT 0 fs) _ a hcl b6 h0
  rw [b3] at h1
  exact wp_mono (wp_region_any (Q := Only Q) hm (wpAny_of_C _ _ _ _ h1)) fun e a w ⟨he, hq⟩ => he ▸ hq

theorem any_one {z n i : Nat} {listed : Array Bool} {a : Act} {w : World} {o : Oper} (hr : (Region.ready md ops listed == [i]) = true) (hi : ops[i]? = some o)
    (h : ∀ K : Act → World → Prop, (∀ a' w', (i ≠ z → C w') → wpAnyC P md ops C (Only Q) z n (listed.setIfInBounds i true) a' w' → K a' w') → wpList P ops (fun e a' w' => e = .normal ∧ K a' w') [o] a w) : wpAnyC P md ops C (Only Q) z (n + 1) listed a w := by
  have hr := eq_of_beq hr
  refine ⟨fun h0 => (by rw [hr] at h0; cases h0), fun j hj => ?_⟩
  rw [hr] at hj
  simp only [List.mem_cons, List.not_mem_nil, or_false] at hj
  subst hj
  exact wpOp_of_single hi (h _ fun a' w' h1 h2 => ⟨h1, h2⟩)

theorem any_two {z n i j : Nat} {listed : Array Bool} {a : Act} {w : World} {o o2 : Oper} (hr : (Region.ready md ops listed == [i, j]) = true) (hi : ops[i]? = some o) (hj : ops[j]? = some o2)
    (h : ∀ K : Act → World → Prop, (∀ a' w', (i ≠ z → C w') → wpAnyC P md ops C (Only Q) z n (listed.setIfInBounds i true) a' w' → K a' w') → wpList P ops (fun e a' w' => e = .normal ∧ K a' w') [o] a w)
    (h2 : ∀ K : Act → World → Prop, (∀ a' w', (j ≠ z → C w') → wpAnyC P md ops C (Only Q) z n (listed.setIfInBounds j true) a' w' → K a' w') → wpList P ops (fun e a' w' => e = .normal ∧ K a' w') [o2] a w) : wpAnyC P md ops C (Only Q) z (n + 1) listed a w := by
  have hr := eq_of_beq hr
  refine ⟨fun h0 => (by rw [hr] at h0; cases h0), fun k hk => ?_⟩
  rw [hr] at hk
  simp only [List.mem_cons, List.not_mem_nil, or_false] at hk
  rcases hk with rfl | rfl
  · exact wpOp_of_single hi (h _ fun a' w' h1 h2 => ⟨h1, h2⟩)
  · exact wpOp_of_single hj (h2 _ fun a' w' h1 h2 => ⟨h1, h2⟩)

def closedB (md : Region.Mode) (ops : Array Oper) (listed : Array Bool) : Bool :=
  (List.range ops.size).all fun j => match ops[j]? with
    | none => true
    | some oj => !listed.getD j false || oj.after.all fun e => !Region.binds md e || listed.getD e.on false
theorem closedB_spec {listed : Array Bool} (h : closedB md ops listed = true) : Closed md ops listed := by
  intro j oj hj hl e he hb
  have hjs : j < ops.size := (Array.getElem?_eq_some_iff.1 hj).1
  have h1 := List.all_eq_true.1 h j (List.mem_range.2 hjs)
  simp only [hj, hl, Bool.not_true, Bool.false_or] at h1
  have h2 := Array.all_eq_true'.1 h1 e he
  simpa [hb] using h2

/-- Readers that are ready now (marked true) are taken first, in the text's order. -/
theorem any_heads {id : Nat} {a : Act} {w : World} {l : List Oper} {listed : Array Bool} (fs : List Bool) (listed' : Array Bool) {z n : Nat}
    (hB : (Region.noSelect l.toArray && (fs.length == l.length && ((pickT fs l).all (fun o => plainOp o.op) &&
      (closedB .any l.toArray listed && (setAll (idxT 0 fs) listed == listed' && (headOK .any l.toArray z (idxT 0 fs) listed && (idxT 0 fs).length == id)))))) = true)
    (hC : C w) (h : wpQuiet P l.toArray C (fun a' => wpAnyC P .any l.toArray C (Only Q) z n listed' a' w) (pickT fs l) a) : wpAnyC P .any l.toArray C (Only Q) z (id + n) listed a w := by
  simp only [Bool.and_eq_true, beq_iff_eq] at hB
  obtain ⟨b1, b2, b4, b5, b6, b7, b8⟩ := hB
  have h0 := head_of_flags (K := fun a' => wpAnyC P .any l.toArray C (Only Q) z n listed' a' w) fs l 0 a b2 (by simp) b4 h
  rw [← b6] at h0
  have h1 := wpAnyC_heads (md := .any) (z := z) (n := n) (Region.noSelect_spec b1) (w := w) hC (idxT 0 fs) _ a (closedB_spec b5) b7 h0
  rw [b8] at h1
  exact h1

theorem any_three {z n i j k : Nat} {listed : Array Bool} {a : Act} {w : World} {o o2 o3 : Oper} (hr : (Region.ready md ops listed == [i, j, k]) = true) (hi : ops[i]? = some o) (hj : ops[j]? = some o2) (hk : ops[k]? = some o3)
    (h : ∀ K : Act → World → Prop, (∀ a' w', (i ≠ z → C w') → wpAnyC P md ops C (Only Q) z n (listed.setIfInBounds i true) a' w' → K a' w') → wpList P ops (fun e a' w' => e = .normal ∧ K a' w') [o] a w)
    (h2 : ∀ K : Act → World → Prop, (∀ a' w', (j ≠ z → C w') → wpAnyC P md ops C (Only Q) z n (listed.setIfInBounds j true) a' w' → K a' w') → wpList P ops (fun e a' w' => e = .normal ∧ K a' w') [o2] a w)
    (h3 : ∀ K : Act → World → Prop, (∀ a' w', (k ≠ z → C w') → wpAnyC P md ops C (Only Q) z n (listed.setIfInBounds k true) a' w' → K a' w') → wpList P ops (fun e a' w' => e = .normal ∧ K a' w') [o3] a w) : wpAnyC P md ops C (Only Q) z (n + 1) listed a w := by
  have hr := eq_of_beq hr
  refine ⟨fun h0 => (by rw [hr] at h0; cases h0), fun m hm => ?_⟩
  rw [hr] at hm
  simp only [List.mem_cons, List.not_mem_nil, or_false] at hm
  rcases hm with rfl | rfl | rfl
  · exact wpOp_of_single hi (h _ fun a' w' h1 h2 => ⟨h1, h2⟩)
  · exact wpOp_of_single hj (h2 _ fun a' w' h1 h2 => ⟨h1, h2⟩)
  · exact wpOp_of_single hk (h3 _ fun a' w' h1 h2 => ⟨h1, h2⟩)

theorem any_end {z : Nat} {listed : Array Bool} {a : Act} {w : World} (hr : (Region.ready md ops listed).isEmpty = true) (h : Q .normal a w) : wpAnyC P md ops C (Only Q) z 0 listed a w :=
  ⟨by simpa using hr, rfl, h⟩

end

/-- Several ways that end alike: what holds at their end is shown once. -/
theorem merge5 {α β γ δ ε : Type} {F : α → β → γ → δ → ε → Prop} {G : α → β → γ → δ → ε → Prop} {goal : Prop} (main : (∀ a b c d e, F a b c d e → G a b c d e) → goal) (tail : ∀ a b c d e, F a b c d e → G a b c d e) : goal := main tail

theorem merge6 {α β γ δ ε ζ : Type} {F : α → β → γ → δ → ε → ζ → Prop} {G : α → β → γ → δ → ε → ζ → Prop} {goal : Prop} (main : (∀ a b c d e f, F a b c d e f → G a b c d e f) → goal) (tail : ∀ a b c d e f, F a b c d e f → G a b c d e f) : goal := main tail
theorem merge7 {α β γ δ ε ζ η : Type} {F : α → β → γ → δ → ε → ζ → η → Prop} {G : α → β → γ → δ → ε → ζ → η → Prop} {goal : Prop} (main : (∀ a b c d e f g, F a b c d e f g → G a b c d e f g) → goal) (tail : ∀ a b c d e f g, F a b c d e f g → G a b c d e f g) : goal := main tail

theorem appendAllg {P : Program} {t e : TypeId} {z : Value} {size bytes : Nat} (I : Info P t e z size bytes) {w0 w : World} {B : Nat}
    {ops : Array Oper} {rest : List Oper} {o : Oper} {a : Act} {Q : Exit → Act → World → Prop} (s x : Operand) (hgd : o.guard = none)
    (ho : o.op = .call { callee := .builtin .append, args := #[s, x], argTypes := #[t, t] })
    {a0 b : Option Addr} {n c m cx : Nat} {xs ys : List Value} (hown : w.ownsRow B e size (.slice a0 n c) n xs) (hr : Rd w b ys) (hym : ys.length = m * size) (h1 : ∀ u ∈ ys, u.oneCell' = true)
    (hnil : b = none → m = 0 ∧ cx = 0) (hg : w0.grownBy w (Value.slice a0 n c).ownBlock) (hBw : B ≤ w.heap.size)
    (hs : a.eval s = .slice a0 n c) (hx : a.eval x = .slice b m cx) (hN : (n + m) * bytes ≤ 140737488355328)
    (h : ∀ a' c' w', w'.ownsRow B e size (.slice a' (n + m) c') (n + m) (xs ++ ys) → w0.grownBy w' (Value.slice a0 n c).ownBlock → wpList P ops Q rest (a.put o.dst (.slice a' (n + m) c')) w') :
    wpList P ops Q (o :: rest) a w := by
  obtain ⟨i, hi, hz0, hz1, hz2⟩ := info_parts I.row
  cases b with
  | none =>
    obtain ⟨rfl, rfl⟩ := hnil rfl
    have hy0 : ys = [] := List.eq_nil_of_length_eq_zero (by omega)
    subst hy0
    exact wpList_append_own_none hgd s x t ho B e i size I.und hi _ n xs hs hown hx (h a0 c w (by simpa using hown) hg)
  | some ad =>
    have hm : n + m ≤ maxLen := by
      have : n + m ≤ (n + m) * bytes := Nat.le_mul_of_pos_right _ I.bpos
      unfold maxLen; omega
    refine wpList_append_own _ hgd s x t ho B e i z size bytes I.und hi hz0 hz1 hz2 I.zs I.pos _ n xs hs hown ad m cx ys hx hym ?_ h1 hm hN hBw ?_
    · intro j u hu
      obtain ⟨b, off, e1, hc⟩ := hr j u hu
      cases e1
      rw [Addr.add_lit]; exact hc
    · intro v' w' hown' hg' _
      obtain ⟨a', c', rfl⟩ := own_slice hown'
      exact h a' c' w' hown' (grown_trans hg hg')

/-- A world that has grown, one row of it perhaps written, but for some cells. -/
structure GrowK (w : World) (row : Option Nat) (l : List (Addr × Value)) where
  val : World
  ok : w.grownBy val row
  keep : ∀ x ∈ l, val.cell? x.1 = some x.2
theorem growk_cell {w : World} {row : Option Nat} {l : List (Addr × Value)} {b o : Nat} {v : Value} (h : w.cell? ⟨b, o, none⟩ = some v) (hr : some b ≠ row) : ∀ u : GrowK w row l, u.val.cell? ⟨b, o, none⟩ = some v :=
  fun u => u.ok.cell h hr
theorem growk_keep {w : World} {row : Option Nat} {l : List (Addr × Value)} {a : Addr} {v : Value} (h : (a, v) ∈ l) : ∀ u : GrowK w row l, u.val.cell? a = some v := fun u => u.keep _ h

/-- 'append(s, x)': one element, laid in a new block just before; what may have been written is the row's own block, and its elements are as before. -/
theorem append1k {P : Program} {t e : TypeId} {z : Value} {size bytes : Nat} (I : Info P t e z size bytes) {w0 w : World} {B : Nat} {arr : Array Value}
    {ops : Array Oper} {rest : List Oper} {o : Oper} {a : Act} {Q : Exit → Act → World → Prop} (s x : Operand) (hgd : o.guard = none)
    (ho : o.op = .call { callee := .builtin .append, args := #[s, x], argTypes := #[t, t] })
    {g n c cx : Nat} {xs : List Value} (hown : w.ownsRow B e size (.slice (some ⟨g, 0, none⟩) n c) n xs) (hg : w0.grownBy w (some g)) (hBw : B ≤ w.heap.size)
    (hs : a.eval s = .slice (some ⟨g, 0, none⟩) n c) (hx : a.eval x = .slice (some ⟨w.heap.size, 0, none⟩) 1 cx) (harr : arr.size = size) (h1 : ∀ u ∈ arr.toList, u.oneCell' = true)
    (hN : (n + 1) * bytes ≤ 140737488355328)
    (h : ∀ a' c' w', w'.ownsRow B e size (.slice a' (n + 1) c') (n + 1) (xs ++ arr.toList) → w0.grownBy w' (some g) → (∀ x, a' = some x → g = x.block ∨ w.heap.size ≤ x.block) → (∀ j u, xs[j]? = some u → w'.cell? ⟨g, j, none⟩ = some u) →
      wpList P ops Q rest (a.put o.dst (.slice a' (n + 1) c')) w') :
    wpList P ops Q (o :: rest) a (w.alloc (.cells arr e)) := by
  obtain ⟨i, hi, hz0, hz1, hz2⟩ := info_parts I.row
  have hm : n + 1 ≤ maxLen := by
    have : n + 1 ≤ (n + 1) * bytes := Nat.le_mul_of_pos_right _ I.bpos
    unfold maxLen; omega
  have hgA := grown_alloc hg (.cells arr e)
  by_cases hroom : n + 1 ≤ c
  · refine wpList_append_fits _ hgd s x t ho B e i size I.und hi hz1 g n c xs hs (hown.alloc _) ⟨w.heap.size, 0, none⟩ 1 cx arr.toList hx (by simp [harr]) (cells_new w arr e) h1 hroom ?_
    intro w' hown' hg'
    refine h _ _ w' hown' (grown_trans hgA (by simpa [Value.ownBlock] using hg')) (fun y hy => by cases hy; exact .inl rfl) fun j u hu => ?_
    obtain ⟨b', off, e1, hc⟩ := own_rd hown' j u (by rw [List.getElem?_append_left (List.getElem?_eq_some_iff.1 hu).1]; exact hu)
    cases e1
    rw [Nat.zero_add] at hc
    exact hc
  · refine wpList_append_grows _ hgd s x t ho e i z size bytes I.und hi hz0 hz1 hz2 I.zs I.pos (some ⟨g, 0, none⟩) n c xs hs (by intro h; cases h) hown.1 ?_ ⟨w.heap.size, 0, none⟩ 1 cx arr.toList hx (by simp [harr]) (cells_new w arr e) h1 (by omega) hm hN ?_
    · intro b hb j u hu
      cases hb
      obtain ⟨b', off, e1, hc⟩ := own_rd (hown.alloc (.cells arr e)) j u hu
      cases e1
      rw [Addr.add_lit]; exact hc
    · intro v' w' hown' hg'
      obtain ⟨a', c', rfl⟩ := own_slice hown'
      have hsz : w.heap.size < (w.alloc (.cells arr e)).heap.size := by simp
      refine h a' c' w' (own_mono hown' (by omega)) (grown_trans hgA ⟨hg'.os, hg'.tape, hg'.output, hg'.size, fun k hk _ => hg'.block k hk (by simp)⟩) (fun y hy => .inr ?_) fun j u hu => ?_
      · have := (own_lt hown' y hy).1
        omega
      · obtain ⟨b', off, e1, hc⟩ := own_rd (hown.alloc (.cells arr e)) j u hu
        cases e1
        rw [Nat.zero_add] at hc
        exact hg'.cell hc (by simp)

end Go.Proofs.Ytjghcegacgpehaa
