
/- Worlds in which all but some blocks lie as they did. No program is named here. -/
import Derived.Test.YtjghcegacgpehaaBlk
namespace Go.Proofs.Ytjghcegacgpehaa
open Go.RowKit

def InL (w : World) (l : List Nat) (V : World) : Prop := w.heap.size ≤ V.heap.size ∧ ∀ i, i < w.heap.size → i ∉ l → V.heap[i]? = w.heap[i]?
structure GrowL (w : World) (l : List Nat) where
  val : World
  ok : InL w l val
theorem InL.refl (w : World) (l : List Nat) : InL w l w := ⟨Nat.le_refl _, fun _ _ _ => rfl⟩
instance growLNonempty (w : World) (l : List Nat) : Nonempty (GrowL w l) := ⟨⟨w, InL.refl w l⟩⟩
theorem growl_cell {w : World} {l : List Nat} {b o : Nat} {v : Value} (h : w.cell? ⟨b, o, none⟩ = some v) (hr : b ∉ l) : ∀ u : GrowL w l, u.val.cell? ⟨b, o, none⟩ = some v :=
  fun u => (World.cell?_of_block (w := w) (a := ⟨b, o, none⟩) (u.ok.2 b (Rd.lt h) hr)).trans h
theorem InL.grown {w V V' : World} {l : List Nat} {b : Nat} (h : InL w l V) (hg : V.grownBy V' (some b)) (hb : b ∈ l ∨ w.heap.size ≤ b) : InL w l V' :=
  ⟨Nat.le_trans h.1 hg.size, fun i hi hl => (hg.block i (Nat.lt_of_lt_of_le hi h.1) (by intro e; cases e; rcases hb with hb | hb; exact hl hb; omega)).trans (h.2 i hi hl)⟩
theorem InL.below {w V V' : World} {l : List Nat} (h : InL w l V) (hb : Below V.heap.size V V') : InL w l V' :=
  ⟨Nat.le_trans h.1 hb.size, fun i hi hl => (hb.block i (Nat.lt_of_lt_of_le hi h.1)).trans (h.2 i hi hl)⟩
theorem InL.set {w V : World} {l : List Nat} (h : InL w l V) (b j : Nat) (v : Value) (hb : b ∈ l ∨ w.heap.size ≤ b) : InL w l (V.setCell ⟨b, j, none⟩ v) :=
  ⟨by simpa using h.1, fun i hi hl => (heap_setCell_other V ⟨b, j, none⟩ i v (by rintro rfl; rcases hb with hb | hb; exact hl hb; exact absurd hi (by simp at hb ⊢; omega))).trans (h.2 i hi hl)⟩

end Go.Proofs.Ytjghcegacgpehaa
