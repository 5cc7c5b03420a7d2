
/- 'make' of a row of one-cell elements; owned rows that lie apart while one of them is written. No program is named here. -/
import Derived.Test.YtjghcegacgpehaaBase
namespace Go.Proofs.Ytjghcegacgpehaa
open Go.RowKit

theorem makeN {P : Program} {t e : TypeId} {z : Value} {bytes : Nat} (I : Info P t e z 1 bytes) {w : World}
    {ops : Array Oper} {rest : List Oper} {o : Oper} {a : Act} {Q : Exit → Act → World → Prop} (l c : Operand) (hgd : o.guard = none) (ho : o.op = Op.makeSlice t l c)
    {kl kc : IntKind} {L C : Int} {n : Nat} (hl : a.eval l = .int kl L) (hc : a.eval c = .int kc C) (hL : L = (n : Int)) (hC : C = (n : Int)) (hN : bytes * n ≤ 281474976710656) (hz : z.cells = #[z])
    (h : ∀ w', w'.ownsRow w.heap.size e 1 (.slice (some ⟨w.heap.size, 0, none⟩) n n) n (List.replicate n z) → Below w.heap.size w w' → wpList P ops Q rest (a.put o.dst (.slice (some ⟨w.heap.size, 0, none⟩) n n)) w') :
    wpList P ops Q (o :: rest) a w := by
  obtain ⟨i, hi, hz0, hz1, hz2⟩ := info_parts I.row
  have hm : n ≤ maxLen := by
    have : n ≤ bytes * n := Nat.le_mul_of_pos_left _ I.bpos
    unfold maxLen; omega
  refine wpList_make_full w hgd l c t ho w.heap.size e i z 1 I.und hi hz0 hz1 kl kc L C n hl hc hL hC (by rw [hz2]; exact hN) hm (Nat.le_refl _) ?_
  intro w' h1 h2
  refine h w' ?_ (grown_none_below h2)
  have e1 : (madeCells z.cells (n * 1)).toList = List.replicate n z := by
    rw [Nat.mul_one, hz, toList_madeCells_one]
  rw [← e1]; exact h1

theorem makeI {P : Program} {t e : TypeId} (I : Info P t e (.int .i64 0) 1 8) {w : World}
    {ops : Array Oper} {rest : List Oper} {o : Oper} {a : Act} {Q : Exit → Act → World → Prop} (l c : Operand) (hgd : o.guard = none) (ho : o.op = Op.makeSlice t l c)
    {kl kc : IntKind} {L C : Int} {n : Nat} (hl : a.eval l = .int kl L) (hc : a.eval c = .int kc C) (hL : L = (n : Int)) (hC : C = (n : Int)) (hN : n ≤ 17592186044416)
    (h : ∀ w', w'.ownsRow w.heap.size e 1 (.slice (some ⟨w.heap.size, 0, none⟩) n n) n (ints (List.replicate n 0)) → Below w.heap.size w w' → wpList P ops Q rest (a.put o.dst (.slice (some ⟨w.heap.size, 0, none⟩) n n)) w') :
    wpList P ops Q (o :: rest) a w := by
  obtain ⟨i, hi, hz0, hz1, hz2⟩ := info_parts I.row
  refine wpList_make_full w hgd l c t ho w.heap.size e i (.int .i64 0) 1 I.und hi hz0 hz1 kl kc L C n hl hc hL hC (by rw [hz2]; omega) (by unfold maxLen; omega) (Nat.le_refl _) ?_
  intro w' h1 h2
  refine h w' ?_ (grown_none_below h2)
  have e1 : (madeCells (Value.int .i64 0).cells (n * 1)).toList = ints (List.replicate n 0) := by
    rw [Nat.mul_one]
    show (madeCells #[Value.int .i64 0] n).toList = _
    rw [toList_madeCells_one]; simp [ints]
  rw [← e1]; exact h1

def Apart (a a2 : Option Addr) : Prop := ∀ x y, a = some x → a2 = some y → x.block ≠ y.block
theorem Apart.symm {a a2 : Option Addr} (h : Apart a a2) : Apart a2 a := fun x y h1 h2 => (h y x h2 h1).symm
/-- What was owned before lies apart from what is owned from here on. -/
theorem apart_of {w w' : World} {B T s n c m T2 s2 n2 c2 m2 : Nat} {a a2 : Option Addr} {cs cs2 : List Value} (h : w.ownsRow B T s (.slice a n c) m cs) (h2 : w'.ownsRow w.heap.size T2 s2 (.slice a2 n2 c2) m2 cs2) : Apart a a2 := by
  intro x y h3 h4
  have h5 := own_lt h x h3
  have h6 := own_lt h2 y h4
  omega

theorem own_kept {w w' : World} {B T s n c m n2 c2 : Nat} {a a2 : Option Addr} {cs : List Value} (h : w.ownsRow B T s (.slice a n c) m cs) (hg : w.grownBy w' (Value.slice a2 n2 c2).ownBlock) (hd : Apart a a2) : w'.ownsRow B T s (.slice a n c) m cs := by
  refine h.kept hg ?_
  cases a with
  | none => exact .inl rfl
  | some x =>
    refine .inr ?_
    cases a2 with
    | none => simp [Value.ownBlock]
    | some y => simpa [Value.ownBlock] using hd x y rfl rfl

theorem below_mark {w w1 w' : World} {B B' T s n c m : Nat} {a : Option Addr} {cs : List Value} (hb : Below B w w1) (ho : w1.ownsRow B' T s (.slice a n c) m cs) (hB : B ≤ w.heap.size) (hB' : B ≤ B') (hg : w1.grownBy w' (Value.slice a n c).ownBlock) : Below B w w' := by
  refine hb.grown hg (Nat.le_trans hB hb.size) ?_
  intro k hk
  cases a with
  | none => simp [Value.ownBlock] at hk
  | some x =>
    simp only [Value.ownBlock, Option.some.injEq] at hk
    have := (own_lt ho x rfl).1
    omega

end Go.Proofs.Ytjghcegacgpehaa
