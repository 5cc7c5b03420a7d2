/- 'append(s, t...)' onto an owned row, keeping what lies beside the row. No program is named here. -/
import Derived.Test.YtchefkggnncalaaTree
import Derived.Test.YtchefkggnncalaaCopy
namespace Go.Proofs.Ytchefkggnncalaa
open Go.RowKit

/-- Several ways that end alike: what holds at their end is shown once. -/
theorem merge5 {α β γ δ ε : Type} {F : α → β → γ → δ → ε → Prop} {G : α → β → γ → δ → ε → Prop} {goal : Prop} (main : (∀ a b c d e, F a b c d e → G a b c d e) → goal) (tail : ∀ a b c d e, F a b c d e → G a b c d e) : goal := main tail

theorem merge6 {α β γ δ ε ζ : Type} {F : α → β → γ → δ → ε → ζ → Prop} {G : α → β → γ → δ → ε → ζ → Prop} {goal : Prop} (main : (∀ a b c d e f, F a b c d e f → G a b c d e f) → goal) (tail : ∀ a b c d e f, F a b c d e f → G a b c d e f) : goal := main tail
theorem merge7 {α β γ δ ε ζ η : Type} {F : α → β → γ → δ → ε → ζ → η → Prop} {G : α → β → γ → δ → ε → ζ → η → Prop} {goal : Prop} (main : (∀ a b c d e f g, F a b c d e f g → G a b c d e f g) → goal) (tail : ∀ a b c d e f g, F a b c d e f g → G a b c d e f g) : goal := main tail

theorem appendAllg {P : Program} {t e : TypeId} {z : Value} {size bytes : Nat} (I : Info P t e z size bytes) {w0 w : World} {B : Nat}
    {ops : Array Oper} {rest : List Oper} {o : Oper} {a : Act} {Q : Exit → Act → World → Prop} (s x : Operand) (hgd : o.guard = none)
    (ho : o.op = .call { callee := .builtin .append, args := #[s, x], argTypes := #[t, t] })
    {a0 b : Option Addr} {n c m cx : Nat} {xs ys : List Value} (hown : w.ownsRow B e size (.slice a0 n c) n xs) (hr : Rd w b ys) (hym : ys.length = m * size) (h1 : ∀ u ∈ ys, u.oneCell' = true)
    (hnil : b = none → m = 0 ∧ cx = 0) (hg : w0.grownBy w (Value.slice a0 n c).ownBlock) (hBw : B ≤ w.heap.size)
    (hs : a.eval s = .slice a0 n c) (hx : a.eval x = .slice b m cx) (hN : (n + m) * bytes ≤ 140737488355328)
    (h : ∀ a' c' w', w'.ownsRow B e size (.slice a' (n + m) c') (n + m) (xs ++ ys) → w0.grownBy w' (Value.slice a0 n c).ownBlock → wpList P ops Q rest (a.put o.dst (.slice a' (n + m) c')) w') :
    wpList P ops Q (o :: rest) a w := by
  obtain ⟨i, hi, hz0, hz1, hz2⟩ := info_parts I.row
  cases b with
  | none =>
    obtain ⟨rfl, rfl⟩ := hnil rfl
    have hy0 : ys = [] := List.eq_nil_of_length_eq_zero (by omega)
    subst hy0
    exact wpList_append_own_none hgd s x t ho B e i size I.und hi _ n xs hs hown hx (h a0 c w (by simpa using hown) hg)
  | some ad =>
    have hm : n + m ≤ maxLen := by
      have : n + m ≤ (n + m) * bytes := Nat.le_mul_of_pos_right _ I.bpos
      unfold maxLen; omega
    refine wpList_append_own _ hgd s x t ho B e i z size bytes I.und hi hz0 hz1 hz2 I.zs I.pos _ n xs hs hown ad m cx ys hx hym ?_ h1 hm hN hBw ?_
    · intro j u hu
      obtain ⟨b, off, e1, hc⟩ := hr j u hu
      cases e1
      rw [Addr.add_lit]; exact hc
    · intro v' w' hown' hg' _
      obtain ⟨a', c', rfl⟩ := own_slice hown'
      exact h a' c' w' hown' (grown_trans hg hg')

end Go.Proofs.Ytchefkggnncalaa
