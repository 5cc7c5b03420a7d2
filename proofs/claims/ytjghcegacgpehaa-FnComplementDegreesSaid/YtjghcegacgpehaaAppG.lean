
/- 'append(s, t...)' onto an owned row, keeping what lies beside the row. No program is named here. -/
import Derived.Test.YtjghcegacgpehaaTree
import Derived.Test.YtjghcegacgpehaaCopy
namespace Go.Proofs.Ytjghcegacgpehaa
open Go.RowKit

/-- Several ways that end alike: what holds at their end is shown once. -/
theorem merge5 {α β γ δ ε : Type} {F : α → β → γ → δ → ε → Prop} {G : α → β → γ → δ → ε → Prop} {goal : Prop} (main : (∀ a b c d e, F a b c d e → G a b c d e) → goal) (tail : ∀ a b c d e, F a b c d e → G a b c d e) : goal := main tail

theorem merge6 {α β γ δ ε ζ : Type} {F : α → β → γ → δ → ε → ζ → Prop} {G : α → β → γ → δ → ε → ζ → Prop} {goal : Prop} (main : (∀ a b c d e f, F a b c d e f → G a b c d e f) → goal) (tail : ∀ a b c d e f, F a b c d e f → G a b c d e f) : goal := main tail
theorem merge7 {α β γ δ ε ζ η : Type} {F : α → β → γ → δ → ε → ζ → η → Prop} {G : α → β → γ → δ → ε → ζ → η → Prop} {goal : Prop} (main : (∀ a b c d e f g, F a b c d e f g → G a b c d e f g) → goal) (tail : ∀ a b c d e f g, F a b c d e f g → G a b c d e f g) : goal := main tail

theorem appendAllg {P : Program} {t e : TypeId} {z : Value} {size bytes : Nat} (I : Info P t e z size bytes) {w0 w : World} {B : Nat}
    {ops : Array Oper} {rest : List Oper} {o : Oper} {a : Act} {Q : Exit → Act → World → Prop} (s x : Operand) (hgd : o.guard = none)
    (ho : o.op = .call { callee := .builtin .append, args := #[s, x], argTypes := #[t, t] })
    {a0 b : Option Addr} {n c m cx : Nat} {xs ys : List Value} (hown : w.ownsRow B e size (.slice a0 n c) n xs) (hr : Rd w b ys) (hym : ys.length = m * size) (h1 : ∀ u ∈ ys, u.oneCell' = true)
    (hnil : b = none → m = 0 ∧ cx = 0) (hg : w0.grownBy w (Value.slice a0 n c).ownBlock) (hBw : B ≤ w.heap.size)
    (hs : a.eval s = .slice a0 n c) (hx : a.eval x = .slice b m cx) (hN : (n + m) * bytes ≤ 140737488355328)
    (h : ∀ a' c' w', w'.ownsRow B e size (.slice a' (n + m) c') (n + m) (xs ++ ys) → w0.grownBy w' (Value.slice a0 n c).ownBlock → wpList P ops Q rest (a.put o.dst (.slice a' (n + m) c')) w') :
    wpList P ops Q (o :: rest) a w := by
  obtain ⟨i, hi, hz0, hz1, hz2⟩ := info_parts I.row
  cases b with
  | none =>
    obtain ⟨rfl, rfl⟩ := hnil rfl
    have hy0 : ys = [] := List.eq_nil_of_length_eq_zero (by omega)
    subst hy0
    exact wpList_append_own_none hgd s x t ho B e i size I.und hi _ n xs hs hown hx (h a0 c w (by simpa using hown) hg)
  | some ad =>
    have hm : n + m ≤ maxLen := by
      have : n + m ≤ (n + m) * bytes := Nat.le_mul_of_pos_right _ I.bpos
      unfold maxLen; omega
    refine wpList_append_own _ hgd s x t ho B e i z size bytes I.und hi hz0 hz1 hz2 I.zs I.pos _ n xs hs hown ad m cx ys hx hym ?_ h1 hm hN hBw ?_
    · intro j u hu
      obtain ⟨b, off, e1, hc⟩ := hr j u hu
      cases e1
      rw [Addr.add_lit]; exact hc
    · intro v' w' hown' hg' _
      obtain ⟨a', c', rfl⟩ := own_slice hown'
      exact h a' c' w' hown' (grown_trans hg hg')

/-- A world that has grown, one row of it perhaps written, but for some cells. -/
structure GrowK (w : World) (row : Option Nat) (l : List (Addr × Value)) where
  val : World
  ok : w.grownBy val row
  keep : ∀ x ∈ l, val.cell? x.1 = some x.2
theorem growk_cell {w : World} {row : Option Nat} {l : List (Addr × Value)} {b o : Nat} {v : Value} (h : w.cell? ⟨b, o, none⟩ = some v) (hr : some b ≠ row) : ∀ u : GrowK w row l, u.val.cell? ⟨b, o, none⟩ = some v :=
  fun u => u.ok.cell h hr
theorem growk_keep {w : World} {row : Option Nat} {l : List (Addr × Value)} {a : Addr} {v : Value} (h : (a, v) ∈ l) : ∀ u : GrowK w row l, u.val.cell? a = some v := fun u => u.keep _ h

/-- 'append(s, x)': one element, laid in a new block just before; what may have been written is the row's own block, and its elements are as before. -/
theorem append1k {P : Program} {t e : TypeId} {z : Value} {size bytes : Nat} (I : Info P t e z size bytes) {w0 w : World} {B : Nat} {arr : Array Value}
    {ops : Array Oper} {rest : List Oper} {o : Oper} {a : Act} {Q : Exit → Act → World → Prop} (s x : Operand) (hgd : o.guard = none)
    (ho : o.op = .call { callee := .builtin .append, args := #[s, x], argTypes := #[t, t] })
    {g n c cx : Nat} {xs : List Value} (hown : w.ownsRow B e size (.slice (some ⟨g, 0, none⟩) n c) n xs) (hg : w0.grownBy w (some g)) (hBw : B ≤ w.heap.size)
    (hs : a.eval s = .slice (some ⟨g, 0, none⟩) n c) (hx : a.eval x = .slice (some ⟨w.heap.size, 0, none⟩) 1 cx) (harr : arr.size = size) (h1 : ∀ u ∈ arr.toList, u.oneCell' = true)
    (hN : (n + 1) * bytes ≤ 140737488355328)
    (h : ∀ a' c' w', w'.ownsRow B e size (.slice a' (n + 1) c') (n + 1) (xs ++ arr.toList) → w0.grownBy w' (some g) → (∀ x, a' = some x → g = x.block ∨ w.heap.size ≤ x.block) → (∀ j u, xs[j]? = some u → w'.cell? ⟨g, j, none⟩ = some u) →
      wpList P ops Q rest (a.put o.dst (.slice a' (n + 1) c')) w') :
    wpList P ops Q (o :: rest) a (w.alloc (.cells arr e)) := by
  obtain ⟨i, hi, hz0, hz1, hz2⟩ := info_parts I.row
  have hm : n + 1 ≤ maxLen := by
    have : n + 1 ≤ (n + 1) * bytes := Nat.le_mul_of_pos_right _ I.bpos
    unfold maxLen; omega
  have hgA := grown_alloc hg (.cells arr e)
  by_cases hroom : n + 1 ≤ c
  · refine wpList_append_fits _ hgd s x t ho B e i size I.und hi hz1 g n c xs hs (hown.alloc _) ⟨w.heap.size, 0, none⟩ 1 cx arr.toList hx (by simp [harr]) (cells_new w arr e) h1 hroom ?_
    intro w' hown' hg'
    refine h _ _ w' hown' (grown_trans hgA (by simpa [Value.ownBlock] using hg')) (fun y hy => by cases hy; exact .inl rfl) fun j u hu => ?_
    obtain ⟨b', off, e1, hc⟩ := own_rd hown' j u (by rw [List.getElem?_append_left (List.getElem?_eq_some_iff.1 hu).1]; exact hu)
    cases e1
    rw [Nat.zero_add] at hc
    exact hc
  · refine wpList_append_grows _ hgd s x t ho e i z size bytes I.und hi hz0 hz1 hz2 I.zs I.pos (some ⟨g, 0, none⟩) n c xs hs (by intro h; cases h) hown.1 ?_ ⟨w.heap.size, 0, none⟩ 1 cx arr.toList hx (by simp [harr]) (cells_new w arr e) h1 (by omega) hm hN ?_
    · intro b hb j u hu
      cases hb
      obtain ⟨b', off, e1, hc⟩ := own_rd (hown.alloc (.cells arr e)) j u hu
      cases e1
      rw [Addr.add_lit]; exact hc
    · intro v' w' hown' hg'
      obtain ⟨a', c', rfl⟩ := own_slice hown'
      have hsz : w.heap.size < (w.alloc (.cells arr e)).heap.size := by simp
      refine h a' c' w' (own_mono hown' (by omega)) (grown_trans hgA ⟨hg'.os, hg'.tape, hg'.output, hg'.size, fun k hk _ => hg'.block k hk (by simp)⟩) (fun y hy => .inr ?_) fun j u hu => ?_
      · have := (own_lt hown' y hy).1
        omega
      · obtain ⟨b', off, e1, hc⟩ := own_rd (hown.alloc (.cells arr e)) j u hu
        cases e1
        rw [Nat.zero_add] at hc
        exact hg'.cell hc (by simp)

end Go.Proofs.Ytjghcegacgpehaa
