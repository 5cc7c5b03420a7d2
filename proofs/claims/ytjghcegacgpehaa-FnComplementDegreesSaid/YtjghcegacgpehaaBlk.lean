
/- Whole blocks, and what becomes of them. No program is named here. -/
import Derived.Test.YtjghcegacgpehaaMix
import Derived.Test.YtjghcegacgpehaaMake
namespace Go.Proofs.Ytjghcegacgpehaa
open Go.RowKit

theorem blk_lt {w : World} {b : Nat} {o : Obj} (h : w.heap[b]? = some o) : b < w.heap.size := (Array.getElem?_eq_some_iff.1 h).1
theorem blk_below {w w' : World} {b : Nat} {o : Obj} (h : w.heap[b]? = some o) (hb : Below w.heap.size w w') : w'.heap[b]? = some o := (hb.block b (blk_lt h)).trans h
theorem blk_grown {w w' : World} {b : Nat} {o : Obj} {row : Option Nat} (h : w.heap[b]? = some o) (hg : w.grownBy w' row) (hr : some b ≠ row) : w'.heap[b]? = some o := (hg.block b (blk_lt h) hr).trans h
theorem blk_cell {w : World} {b : Nat} {cs : Array Value} {T : TypeId} {f : Nat × Nat} (h : w.heap[b]? = some (.cells cs T f)) (j : Nat) (v : Value) (hv : cs[j]? = some v) : w.cell? ⟨b, j, none⟩ = some v := by
  rw [cell_of_row w b j cs T f h]; exact hv
theorem blk_free {w : World} {b : Nat} {cs : Array Value} {T : TypeId} (h : w.heap[b]? = some (.cells cs T (0, 0))) (j : Nat) : w.frozen? ⟨b, j, none⟩ = false := frozen_of_row w b j cs T h
theorem blk_set {w : World} {b : Nat} {cs : Array Value} {T : TypeId} (h : w.heap[b]? = some (.cells cs T (0, 0))) (j : Nat) (v : Value) : (w.setCell ⟨b, j, none⟩ v).heap[b]? = some (.cells (cs.setIfInBounds j v) T (0, 0)) :=
  heap_setCell_same w b j cs T v h
theorem blk_set_other {w : World} {b g : Nat} {o : Obj} (h : w.heap[b]? = some o) (j : Nat) (v : Value) (hne : b ≠ g) : (w.setCell ⟨g, j, none⟩ v).heap[b]? = some o :=
  (heap_setCell_other w ⟨g, j, none⟩ b v hne).trans h

/-- An owned row and a block of another element type lie apart. -/
theorem own_ne {w : World} {B T s n c m : Nat} {a : Option Addr} {cs : List Value} (h : w.ownsRow B T s (.slice a m c) n cs) {b : Nat} {ds : Array Value} {T2 : TypeId} {f : Nat × Nat} (hb : w.heap[b]? = some (.cells ds T2 f)) (hT : T ≠ T2) :
    some b ≠ (Value.slice a m c).ownBlock := by
  rcases h.2 with ⟨h1, h2⟩ | ⟨g, cap, cur, h1, hB, hg, _⟩
  · cases h1; simp [Value.ownBlock]
  · cases h1
    simp only [Value.ownBlock, ne_eq, Option.some.injEq]
    rintro rfl
    rw [hg] at hb
    simp at hb
    exact hT hb.2.1

theorem own_setOther {w : World} {B T s n c m : Nat} {a : Option Addr} {cs : List Value} (h : w.ownsRow B T s (.slice a m c) n cs) (b j : Nat) (v : Value) (hne : some b ≠ (Value.slice a m c).ownBlock) : (w.setCell ⟨b, j, none⟩ v).ownsRow B T s (.slice a m c) n cs := by
  refine ⟨h.1, ?_⟩
  rcases h.2 with h0 | ⟨g, cap, cur, h1, hB, hg, r⟩
  · exact .inl h0
  · refine .inr ⟨g, cap, cur, h1, hB, ?_, r⟩
    have hgb : g ≠ b := by
      rintro rfl
      cases h1
      simp [Value.ownBlock] at hne
    exact blk_set_other hg j v hgb

theorem rd_setOther {w : World} {a : Option Addr} {cs : List Value} (h : Rd w a cs) (b j : Nat) (v : Value) (hne : ∀ x, a = some x → x.block ≠ b) : Rd (w.setCell ⟨b, j, none⟩ v) a cs := by
  intro i u hu
  obtain ⟨g, off, rfl, hc⟩ := h i u hu
  refine ⟨g, off, rfl, ?_⟩
  rw [World.cell?_of_block (w := w) (a := ⟨g, off + i, none⟩) (heap_setCell_other w ⟨b, j, none⟩ g v (hne _ rfl))]
  exact hc

/-- Apart from a row before an append, apart from it behind the append. -/
theorem apart_append {w : World} {aL av a' : Option Addr} {kv cv : Nat} (h : Apart aL av) (hL : ∀ x, aL = some x → x.block < w.heap.size)
    (hf : ∀ x, a' = some x → (Value.slice av kv cv).ownBlock = some x.block ∨ w.heap.size ≤ x.block) : Apart aL a' := by
  intro x y hx hy
  rcases hf y hy with h1 | h1
  · cases av with
    | none => simp [Value.ownBlock] at h1
    | some z =>
      simp only [Value.ownBlock, Option.some.injEq] at h1
      rw [← h1]
      exact h x z hx rfl
  · have := hL x hx
    omega

theorem below_row {w w1 w2 : World} {B T s n c m : Nat} {a : Option Addr} {cs : List Value} (hb : Below B w w1) (hB : B ≤ w.heap.size) (ho : w1.ownsRow B T s (.slice a m c) n cs) (hg : w1.grownBy w2 (Value.slice a m c).ownBlock) : Below B w w2 := by
  refine hb.grown hg (Nat.le_trans hB hb.size) ?_
  intro k hk
  exact (ho.lt k hk).1

end Go.Proofs.Ytjghcegacgpehaa
