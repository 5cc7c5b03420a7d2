
/- Rows of slices: the outer row owned, what the slices hold for reading. -/
import Derived.Test.YtjghcegacgpehaaFrL
import Derived.Test.YtjghcegacgpehaaAppG
namespace Go.Proofs.Ytjghcegacgpehaa
open Go.RowKit

/-- The block holds cells of a type. -/
def TBlk (T : TypeId) (w : World) (a : Option Addr) : Prop := ∀ x, a = some x → ∃ cs f, w.heap[x.block]? = some (.cells cs T f)
theorem TBlk.below {T : TypeId} {w w' : World} {a : Option Addr} (h : TBlk T w a) (hb : Below w.heap.size w w') : TBlk T w' a := by
  intro x hx
  obtain ⟨cs, f, hq⟩ := h x hx
  exact ⟨cs, f, blk_below hq hb⟩
theorem TBlk.ne {T : TypeId} {w : World} {a : Option Addr} (h : TBlk T w a) {B T' s n c m : Nat} {a2 : Option Addr} {cs : List Value} (ho : w.ownsRow B T' s (.slice a2 m c) n cs) (hT : T' ≠ T) : ∀ x, a = some x → some x.block ≠ (Value.slice a2 m c).ownBlock := by
  intro x hx
  obtain ⟨ds, f, hq⟩ := h x hx
  exact own_ne ho hq hT
theorem TBlk.grown {T : TypeId} {w w' : World} {a : Option Addr} {row : Option Nat} (h : TBlk T w a) (hg : w.grownBy w' row) (hr : ∀ x, a = some x → some x.block ≠ row) : TBlk T w' a := by
  intro x hx
  obtain ⟨cs, f, hq⟩ := h x hx
  exact ⟨cs, f, blk_grown hq hg (hr x hx)⟩
theorem tBlk_own {T : TypeId} {w : World} {B s n c m : Nat} {a : Option Addr} {cs : List Value} (h : w.ownsRow B T s (.slice a m c) n cs) : TBlk T w a := by
  intro x hx
  subst hx
  rcases h.2 with ⟨h1, _⟩ | ⟨g, cap, cur, h1, _, hg, _⟩
  · cases h1
  · cases h1
    exact ⟨cur, (0, 0), hg⟩

section
variable {α : Type} (len : α → Nat) (P : World → Option Addr → Nat → α → Prop)
def cellsX (vs : List AtG) (xs : List α) : List Value := (vs.zip xs).map fun p => .slice p.1.1 (len p.2) p.1.2
/-- What is read stays where memory below stays, and where a row of the type T grows. -/
structure StabX (T : TypeId) : Prop where
  below : ∀ {w w' a c x}, P w a c x → Below w.heap.size w w' → P w' a c x
  grown : ∀ {w w' a c x}, P w a c x → ∀ {B n c2 m : Nat} {a2 : Option Addr} {cs : List Value}, w.ownsRow B T 1 (.slice a2 m c2) n cs → w.grownBy w' (Value.slice a2 m c2).ownBlock → P w' a c x
/-- A row for reading. -/
def SeeX (w : World) (a : Option Addr) (c : Nat) (vs : List AtG) (xs : List α) : Prop :=
  vs.length = xs.length ∧ Rd w a (cellsX len vs xs) ∧ (∀ r (h1 : r < vs.length) (h2 : r < xs.length), P w (vs[r]'h1).1 (vs[r]'h1).2 (xs[r]'h2)) ∧ (a = none → xs.length = 0 ∧ c = 0) ∧ xs.length ≤ c ∧ c ≤ maxLen
/-- A row of which the outer cells are owned. -/
def ListX (T : TypeId) (w : World) (B : Nat) (a : Option Addr) (c : Nat) (vs : List AtG) (xs : List α) : Prop :=
  vs.length = xs.length ∧ w.ownsRow B T 1 (.slice a xs.length c) xs.length (cellsX len vs xs) ∧ ∀ r (h1 : r < vs.length) (h2 : r < xs.length), P w (vs[r]'h1).1 (vs[r]'h1).2 (xs[r]'h2)
variable {len P}
theorem cellsX_length (vs : List AtG) (xs : List α) (h : vs.length = xs.length) : (cellsX len vs xs).length = xs.length := by simp [cellsX, h]
theorem cellsX_append (vs us : List AtG) (xs ys : List α) (h : vs.length = xs.length) : cellsX len (vs ++ us) (xs ++ ys) = cellsX len vs xs ++ cellsX len us ys := by
  simp [cellsX, List.zip_append h]
theorem cellsX_one (vs : List AtG) (xs : List α) : ∀ u ∈ cellsX len vs xs, u.oneCell' = true := by
  intro u hu
  simp only [cellsX, List.mem_map] at hu
  obtain ⟨p, _, he⟩ := hu
  subst he; rfl
theorem cellsX_get (vs : List AtG) (xs : List α) (r : Nat) (h1 : r < vs.length) (h2 : r < xs.length) : (cellsX len vs xs)[r]? = some (.slice (vs[r]'h1).1 (len (xs[r]'h2)) (vs[r]'h1).2) := by
  have hz : r < (vs.zip xs).length := by rw [List.length_zip]; omega
  rw [cellsX, List.getElem?_map, List.getElem?_eq_getElem hz, List.getElem_zip]
  rfl
theorem SeeX.below {T : TypeId} (S : StabX P T) {w w' : World} {a : Option Addr} {c : Nat} {vs : List AtG} {xs : List α} (h : SeeX len P w a c vs xs) (hb : Below w.heap.size w w') : SeeX len P w' a c vs xs :=
  ⟨h.1, h.2.1.below hb, fun r h1 h2 => S.below (h.2.2.1 r h1 h2) hb, h.2.2.2⟩
theorem ListX.below {T : TypeId} (S : StabX P T) {w w' : World} {B : Nat} {a : Option Addr} {c : Nat} {vs : List AtG} {xs : List α} (h : ListX len P T w B a c vs xs) (hb : Below w.heap.size w w') : ListX len P T w' B a c vs xs :=
  ⟨h.1, own_below h.2.1 hb, fun r h1 h2 => S.below (h.2.2 r h1 h2) hb⟩
theorem ListX.mono {T : TypeId} {w : World} {B B' : Nat} {a : Option Addr} {c : Nat} {vs : List AtG} {xs : List α} (h : ListX len P T w B a c vs xs) (hB : B' ≤ B) : ListX len P T w B' a c vs xs := ⟨h.1, own_mono h.2.1 hB, h.2.2⟩
theorem ListX.see {T : TypeId} {w : World} {B : Nat} {a : Option Addr} {c : Nat} {vs : List AtG} {xs : List α} (h : ListX len P T w B a c vs xs) : SeeX len P w a c vs xs := by
  have hs := own_shape h.2.1
  exact ⟨h.1, own_rd h.2.1, h.2.2, fun h0 => by have := hs.2.2 h0; omega, hs.1, hs.2.1⟩
theorem listX_nil {T : TypeId} (w : World) {B : Nat} (hB : B ≤ w.heap.size) : ListX len P T (w.alloc (.cells #[] T)) B (some ⟨w.heap.size, 0, none⟩) 0 [] [] :=
  ⟨rfl, World.ownsRow_made w #[] 0 hB (by decide) rfl, fun r h1 => by simp at h1⟩
theorem listX_one {T : TypeId} {w : World} {B b : Nat} {a : Option Addr} {c : Nat} {x : α} (hq : w.heap[b]? = some (.cells #[.slice a (len x) c] T (0, 0))) (hB : B ≤ b) (hp : P w a c x) : ListX len P T w B (some ⟨b, 0, none⟩) 1 [(a, c)] [x] :=
  ⟨rfl, ⟨rfl, .inr ⟨b, 1, _, rfl, hB, hq, Nat.le_refl _, by decide, rfl, rfl⟩⟩, fun r h1 h2 => by
    have e : r = 0 := by simp at h1; omega
    subst e
    exact hp⟩
/-- 'out = append(out, more...)', with what is told of memory. -/
theorem appendX {T TS : TypeId} (I : Info Try.prog TS T (.slice none 0 0) 1 24) (S : StabX P T) {w0 w : World} {B0 B : Nat} {ops : Array Oper} {rest : List Oper} {o : Oper} {act : Act} {Q : Exit → Act → World → Prop} (s x : Operand) (hgd : o.guard = none)
    (ho : o.op = .call { callee := .builtin .append, args := #[s, x], argTypes := #[TS, TS] })
    {a a2 : Option Addr} {c c2 : Nat} {vs us : List AtG} {gs hs : List α} (h1 : ListX len P T w B a c vs gs) (h2 : SeeX len P w a2 c2 us hs) (hb : Below B0 w0 w) (hB0 : B0 ≤ B) (hBw : B ≤ w.heap.size)
    (es : act.eval s = .slice a gs.length c) (ex : act.eval x = .slice a2 hs.length c2) (hN : (gs.length + hs.length) * 24 ≤ 140737488355328)
    (h : ∀ a' c' w', ListX len P T w' B a' c' (vs ++ us) (gs ++ hs) → Below B0 w0 w' → w.grownBy w' (Value.slice a gs.length c).ownBlock → wpList Try.prog ops Q rest (act.put o.dst (.slice a' (gs ++ hs).length c')) w') :
    wpList Try.prog ops Q (o :: rest) act w := by
  obtain ⟨p1, p2, p3⟩ := h1
  obtain ⟨q1, q2, q3, q4, _⟩ := h2
  refine appendAllg I s x hgd ho p2 q2 (by rw [cellsX_length us hs q1, Nat.mul_one]) (cellsX_one us hs) q4 (World.grownBy.refl w _) hBw es ex hN ?_
  intro a' c' w' ho' hg'
  rw [← cellsX_append vs us gs hs p1] at ho'
  rw [List.length_append] at h
  refine h a' c' w' ⟨by simp [p1, q1], by rw [List.length_append]; exact ho', ?_⟩ (hb.grown hg' (by have := hb.size; omega) fun i hi => by have := (p2.lt i hi).1; omega) hg'
  intro r hr1 hr2
  by_cases e : r < vs.length
  · have e2 : r < gs.length := by omega
    simp only [List.getElem_append_left e, List.getElem_append_left e2]
    exact S.grown (p3 r e e2) p2 hg'
  · have e2 : ¬ r < gs.length := by omega
    have l1 : r - vs.length < us.length := by rw [List.length_append] at hr1; omega
    have l2 : r - gs.length < hs.length := by rw [List.length_append] at hr2; omega
    simp only [List.getElem_append_right (Nat.le_of_not_lt e), List.getElem_append_right (Nat.le_of_not_lt e2)]
    have := q3 (r - vs.length) l1 (by omega)
    simp only [p1] at this ⊢
    exact S.grown this p2 hg'
end

/-- A row of numbers for reading. -/
def RowI (w : World) (a : Option Addr) (c : Nat) (X : List Int) : Prop := Rd w a (ints X) ∧ X.length ≤ c ∧ c ≤ maxLen ∧ (a = none → X.length = 0 ∧ c = 0) ∧ TBlk 3 w a
theorem RowI.below {w w' : World} {a : Option Addr} {c : Nat} {X : List Int} (h : RowI w a c X) (hb : Below w.heap.size w w') : RowI w' a c X := ⟨h.1.below hb, h.2.1, h.2.2.1, h.2.2.2.1, h.2.2.2.2.below hb⟩
theorem RowI.grown {w w' : World} {a : Option Addr} {c : Nat} {X : List Int} (h : RowI w a c X) {B T s n c2 m : Nat} {a2 : Option Addr} {cs : List Value} (ho : w.ownsRow B T s (.slice a2 m c2) n cs) (hT : T ≠ 3) (hg : w.grownBy w' (Value.slice a2 m c2).ownBlock) : RowI w' a c X :=
  ⟨h.1.grown hg (h.2.2.2.2.ne ho hT), h.2.1, h.2.2.1, h.2.2.2.1, h.2.2.2.2.grown hg (h.2.2.2.2.ne ho hT)⟩
theorem rowI_own {w : World} {B c : Nat} {a : Option Addr} {X : List Int} {n : Nat} (h : w.ownsRow B 3 1 (.slice a n c) n (ints X)) (hn : X.length = n) : RowI w a c X := by
  have hs := own_shape h
  exact ⟨own_rd h, by omega, hs.2.1, fun h0 => by have := hs.2.2 h0; omega, tBlk_own h⟩
theorem stabI : StabX RowI 38 := ⟨fun h hb => h.below hb, fun h _ _ _ _ _ _ ho hg => h.grown ho (by decide) hg⟩
/-- Rows of numbers: the outer row owned. -/
abbrev ListR := ListX (List.length (α := Int)) RowI 38
abbrev SeeR := SeeX (List.length (α := Int)) RowI
theorem SeeR.rdM {w : World} {a : Option Addr} {c : Nat} {vs : List AtG} {m : List (List Int)} (h : SeeR w a c vs m) : RdM w a m := by
  obtain ⟨h1, h2, h3, _⟩ := h
  intro r hr
  have hv : r < vs.length := by omega
  obtain ⟨b, off, rfl, hc⟩ := h2 r _ (cellsX_get vs m r hv hr)
  obtain ⟨g1, g2, g3, g4, _⟩ := h3 r hv hr
  exact ⟨b, off, _, _, rfl, hc, g1, g2, g3, fun h0 => (g4 h0).2⟩
/-- A matrix for reading, as a row of matrices has it. -/
def MatB (w : World) (a : Option Addr) (c : Nat) (m : List (List Int)) : Prop := (∃ vs, SeeR w a c vs m) ∧ TBlk 38 w a
theorem MatB.below {w w' : World} {a : Option Addr} {c : Nat} {m : List (List Int)} (h : MatB w a c m) (hb : Below w.heap.size w w') : MatB w' a c m := by
  obtain ⟨⟨vs, h1⟩, h2⟩ := h
  exact ⟨⟨vs, h1.below stabI hb⟩, h2.below hb⟩
theorem SeeR.grownT {w w' : World} {a : Option Addr} {c : Nat} {vs : List AtG} {m : List (List Int)} (h : SeeR w a c vs m) (h2 : TBlk 38 w a) {B T s n c2 k : Nat} {a2 : Option Addr} {cs : List Value} (ho : w.ownsRow B T s (.slice a2 k c2) n cs) (hT : T ≠ 3) (hT2 : T ≠ 38) (hg : w.grownBy w' (Value.slice a2 k c2).ownBlock) : SeeR w' a c vs m :=
  ⟨h.1, h.2.1.grown hg (h2.ne ho hT2), fun r h3 h4 => (h.2.2.1 r h3 h4).grown ho hT hg, h.2.2.2⟩
theorem stabM : StabX MatB 34 := ⟨fun h hb => h.below hb, fun h _ _ _ _ _ _ ho hg => by
  obtain ⟨⟨vs, h1⟩, h2⟩ := h
  exact ⟨⟨vs, SeeR.grownT h1 h2 ho (by decide) (by decide) hg⟩, h2.grown hg (h2.ne ho (by decide))⟩⟩
abbrev ListK := ListX (List.length (α := List Int)) MatB 34
theorem ListX.matB {w : World} {B : Nat} {a : Option Addr} {c : Nat} {vs : List AtG} {m : List (List Int)} (h : ListR w B a c vs m) : MatB w a c m := ⟨⟨vs, h.see⟩, tBlk_own h.2.1⟩
/-- Another row grows. -/
theorem ListR.grownT {w w' : World} {B0 c : Nat} {a : Option Addr} {vs : List AtG} {m : List (List Int)} (h : ListR w B0 a c vs m) {B T s n c2 : Nat} {a2 : Option Addr} {cs : List Value} (ho : w.ownsRow B T s (.slice a2 n c2) n cs) (hT : T ≠ 3) (hT2 : T ≠ 38) (hg : w.grownBy w' (Value.slice a2 n c2).ownBlock) : ListR w' B0 a c vs m :=
  ⟨h.1, own_kept_kind2 h.2.1 ho (Ne.symm hT2) hg, fun r h1 h2 => (h.2.2 r h1 h2).grown ho hT hg⟩

end Go.Proofs.Ytjghcegacgpehaa
