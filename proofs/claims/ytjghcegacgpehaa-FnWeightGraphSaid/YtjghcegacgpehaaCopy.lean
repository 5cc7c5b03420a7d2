
/- 'append(s, t...)' onto an owned row. No program is named here. -/
import Derived.Test.YtjghcegacgpehaaBase
import Derived.Laws.AppendOwnNone
namespace Go.Proofs.Ytjghcegacgpehaa
open Go.RowKit

theorem appendAll {P : Program} {t e : TypeId} {z : Value} {size bytes : Nat} (I : Info P t e z size bytes) {w0 w : World} {B0 B : Nat}
    {ops : Array Oper} {rest : List Oper} {o : Oper} {a : Act} {Q : Exit → Act → World → Prop} (s x : Operand) (hgd : o.guard = none)
    (ho : o.op = .call { callee := .builtin .append, args := #[s, x], argTypes := #[t, t] })
    {a0 b : Option Addr} {n c m cx : Nat} {xs ys : List Value} (hown : w.ownsRow B e size (.slice a0 n c) n xs) (hr : Rd w b ys) (hym : ys.length = m * size) (h1 : ∀ u ∈ ys, u.oneCell' = true)
    (hnil : b = none → m = 0 ∧ cx = 0) (hb : Below B0 w0 w) (hB : B0 ≤ B) (hBw : B ≤ w.heap.size)
    (hs : a.eval s = .slice a0 n c) (hx : a.eval x = .slice b m cx) (hN : (n + m) * bytes ≤ 140737488355328)
    (h : ∀ a' c' w', w'.ownsRow B e size (.slice a' (n + m) c') (n + m) (xs ++ ys) → Below B0 w0 w' → wpList P ops Q rest (a.put o.dst (.slice a' (n + m) c')) w') :
    wpList P ops Q (o :: rest) a w := by
  obtain ⟨i, hi, hz0, hz1, hz2⟩ := info_parts I.row
  cases b with
  | none =>
    obtain ⟨rfl, rfl⟩ := hnil rfl
    have hy0 : ys = [] := List.eq_nil_of_length_eq_zero (by omega)
    subst hy0
    exact wpList_append_own_none hgd s x t ho B e i size I.und hi _ n xs hs hown hx (h a0 c w (by simpa using hown) hb)
  | some ad =>
    have hm : n + m ≤ maxLen := by
      have : n + m ≤ (n + m) * bytes := Nat.le_mul_of_pos_right _ I.bpos
      unfold maxLen; omega
    refine wpList_append_own _ hgd s x t ho B e i z size bytes I.und hi hz0 hz1 hz2 I.zs I.pos _ n xs hs hown ad m cx ys hx hym ?_ h1 hm hN hBw ?_
    · intro j u hu
      obtain ⟨b, off, e1, hc⟩ := hr j u hu
      cases e1
      rw [Addr.add_lit]; exact hc
    · intro v' w' hown' hg _
      obtain ⟨a', c', rfl⟩ := own_slice hown'
      refine h a' c' w' hown' ?_
      refine hb.grown hg (by omega) ?_
      intro k hk
      cases a0 with
      | none => simp [Value.ownBlock] at hk
      | some y =>
        simp only [Value.ownBlock, Option.some.injEq] at hk
        have := (own_lt hown y rfl).1
        omega

theorem ints_one (xs : List Int) : ∀ u ∈ ints xs, u.oneCell' = true := by
  intro u hu
  obtain ⟨x, _, rfl⟩ := List.mem_map.1 hu
  rfl

end Go.Proofs.Ytjghcegacgpehaa
