
/- The laws' helpers on rows of rows of numbers: look again; what stays of a matrix while another one is marked. -/
import Derived.Test.YtmlaohohbadgbaaRowM
namespace Go.Proofs.Ytmlaohohbadgbaa
open Go.RowKit

/-- All blocks of a matrix lie in a range. -/
def MIn (lo hi : Nat) (a : Option Addr) (rs : List At) : Prop := (∀ x, a = some x → lo ≤ x.block ∧ x.block < hi) ∧ ∀ r (h : r < rs.length) x, (rs[r]'h).1 = some x → lo ≤ x.block ∧ x.block < hi
theorem OwnM.min {w : World} {B n c : Nat} {a : Option Addr} {rs : List At} {m : List (List Int)} (h : OwnM w B a n c rs m) : MIn B w.heap.size a rs :=
  ⟨fun x hx => own_lt h.2.2.1 x hx, fun r hr x hx => own_lt (h.2.2.2.1 r hr (by have := h.1; have := h.2.1; omega)) x hx⟩
def RIn (lo hi : Nat) (a : Option Addr) : Prop := ∀ x, a = some x → lo ≤ x.block ∧ x.block < hi
theorem own_rin {w : World} {B T s n c m : Nat} {a : Option Addr} {cs : List Value} (h : w.ownsRow B T s (.slice a m c) n cs) : RIn B w.heap.size a := fun x hx => own_lt h x hx

theorem outOf_of {lo hi lo' hi' i : Nat} {a : Option Addr} {rs : List At} (h : MIn lo hi a rs) (hi1 : lo' ≤ i) (hi2 : i < hi') (hd : hi ≤ lo' ∨ hi' ≤ lo) : OutOf rs i := by
  intro r hr x hx
  have := h.2 r hr x hx
  omega

theorem own_same {w w' : World} {B T s n c m : Nat} {a : Option Addr} {cs : List Value} (h : w.ownsRow B T s (.slice a m c) n cs) (hb : ∀ x, a = some x → w'.heap[x.block]? = w.heap[x.block]?) : w'.ownsRow B T s (.slice a m c) n cs := by
  refine ⟨h.1, ?_⟩
  rcases h.2 with h0 | ⟨g, cap, cur, h1, hB, hg, r⟩
  · exact .inl h0
  · refine .inr ⟨g, cap, cur, h1, hB, ?_, r⟩
    cases h1
    rw [hb ⟨g, 0, none⟩ rfl]; exact hg

/-- Another matrix is marked. -/
theorem OwnM.marked {w w' : World} {B n c lo hi lo' hi' : Nat} {a ax : Option Addr} {rs rsx : List At} {m : List (List Int)} (h : OwnM w B a n c rs m) (hin : MIn lo hi a rs) (hix : MIn lo' hi' ax rsx) (hd : hi ≤ lo' ∨ hi' ≤ lo)
    (hfr : ∀ i, i < w.heap.size → OutOf rsx i → w'.heap[i]? = w.heap[i]?) : OwnM w' B a n c rs m := by
  refine ⟨h.1, h.2.1, own_same h.2.2.1 ?_, fun r hr hr' => own_same (h.2.2.2.1 r hr hr') ?_, h.2.2.2.2⟩
  · intro x hx
    have h1 := hin.1 x hx
    exact hfr _ (own_lt h.2.2.1 x hx).2 (outOf_of hix h1.1 h1.2 (by omega))
  · intro x hx
    have h1 := hin.2 r hr x hx
    exact hfr _ (own_lt (h.2.2.2.1 r hr hr') x hx).2 (outOf_of hix h1.1 h1.2 (by omega))
theorem own_marked {w w' : World} {B T s n c k lo hi lo' hi' : Nat} {a ax : Option Addr} {rsx : List At} {cs : List Value} (h : w.ownsRow B T s (.slice a k c) n cs) (hin : RIn lo hi a) (hix : MIn lo' hi' ax rsx) (hd : hi ≤ lo' ∨ hi' ≤ lo)
    (hfr : ∀ i, i < w.heap.size → OutOf rsx i → w'.heap[i]? = w.heap[i]?) : w'.ownsRow B T s (.slice a k c) n cs := by
  refine own_same h ?_
  intro x hx
  have h1 := hin x hx
  exact hfr _ (own_lt h x hx).2 (outOf_of hix h1.1 h1.2 (by omega))
theorem blk_marked {w w' : World} {b lo hi : Nat} {o : Obj} {ax : Option Addr} {rsx : List At} (h : w.heap[b]? = some o) (hb : b < lo) (hix : MIn lo hi ax rsx) (hfr : ∀ i, i < w.heap.size → OutOf rsx i → w'.heap[i]? = w.heap[i]?) : w'.heap[b]? = some o := by
  rw [hfr b (blk_lt h) (outOf_of (lo' := b) (hi' := b + 1) hix (Nat.le_refl _) (by omega) (by omega))]; exact h
/-- A row is marked. -/
theorem OwnM.marked1 {w w' : World} {B n c lo hi lo' hi' n2 c2 : Nat} {a ax : Option Addr} {rs : List At} {m : List (List Int)} (h : OwnM w B a n c rs m) (hin : MIn lo hi a rs) (hix : RIn lo' hi' ax) (hd : hi ≤ lo' ∨ hi' ≤ lo)
    (hg : w.grownBy w' (Value.slice ax n2 c2).ownBlock) : OwnM w' B a n c rs m := by
  have key : ∀ x : Addr, lo ≤ x.block → x.block < hi → some x.block ≠ (Value.slice ax n2 c2).ownBlock := by
    intro x h1 h2 h3
    cases hax : ax with
    | none => rw [hax] at h3; simp [Value.ownBlock] at h3
    | some y =>
      rw [hax] at h3
      simp only [Value.ownBlock, Option.some.injEq] at h3
      have := hix y hax
      omega
  refine ⟨h.1, h.2.1, own_same h.2.2.1 ?_, fun r hr hr' => own_same (h.2.2.2.1 r hr hr') ?_, h.2.2.2.2⟩
  · intro x hx
    have h1 := hin.1 x hx
    exact hg.block _ (own_lt h.2.2.1 x hx).2 (key x h1.1 h1.2)
  · intro x hx
    have h1 := hin.2 r hr x hx
    exact hg.block _ (own_lt (h.2.2.2.1 r hr hr') x hx).2 (key x h1.1 h1.2)
theorem own_marked1 {w w' : World} {B T s n c k lo hi lo' hi' n2 c2 : Nat} {a ax : Option Addr} {cs : List Value} (h : w.ownsRow B T s (.slice a k c) n cs) (hin : RIn lo hi a) (hix : RIn lo' hi' ax) (hd : hi ≤ lo' ∨ hi' ≤ lo)
    (hg : w.grownBy w' (Value.slice ax n2 c2).ownBlock) : w'.ownsRow B T s (.slice a k c) n cs := by
  refine own_kept h hg ?_
  intro x y hx hy
  have h1 := hin x hx
  have h2 := hix y hy
  omega

end Go.Proofs.Ytmlaohohbadgbaa
