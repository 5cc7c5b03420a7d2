
/- Regions that draw their order and hold calls that make memory but write nothing old: one walk in the text's order serves. No program is named here. -/
import Derived.Test.YtjghcegacgpehaaBase
namespace Go.Proofs.Ytjghcegacgpehaa
open Go.RowKit

/-- A world in which all that lay at w lies as it did. -/
structure Later (w : World) where
  val : World
  ok : Below w.heap.size w val

instance laterNonempty (w : World) : Nonempty (Later w) := ⟨⟨w, Below.refl _ _⟩⟩

theorem wp_region_later {P : Program} {id : Nat} {Q : Exit → Act → World → Prop} {a : Act} {w : World} {l : List Oper} (hm : P.follows .mixedOrders = true) (hB : Region.lexB .any l.toArray = true)
    (h : wpQuiet P l.toArray (fun w' => ∃ u : Later w, w' = u.val) (fun a' => ∀ w', (∃ u : Later w, w' = u.val) → Q .normal a' w') l a) : (Code.region id l.toArray true).wp P Q a w :=
  wp_region_quiet (C := fun w' => ∃ u : Later w, w' = u.val) hm hB ⟨⟨_, bel_drew (Below.refl _ w)⟩, rfl⟩ (by simpa using h)

theorem calls_later {P : Program} {f : FuncId} {args : Array Value} {w : World} {v : Value} (u : Later w)
    (h : Calls P f args u.val fun e w' => e = .returned v ∧ Below u.val.heap.size u.val w') : Calls P f args u.val fun e w'' => e = .returned v ∧ ∃ u' : Later w, w'' = u'.val :=
  h.mono fun _ w' ⟨h1, h2⟩ => ⟨h1, ⟨w', below_tr' u.ok h2⟩, rfl⟩

theorem later_cell {w : World} {b o : Nat} {v : Value} (h : w.cell? ⟨b, o, none⟩ = some v) : ∀ u : Later w, u.val.cell? ⟨b, o, none⟩ = some v :=
  fun u => (u.ok.cell (p := ⟨b, o, none⟩) (Rd.lt h)).trans h

theorem later_below {w w' : World} (h : ∃ u : Later w, w' = u.val) : Below w.heap.size w w' := by
  obtain ⟨u, rfl⟩ := h; exact u.ok

end Go.Proofs.Ytjghcegacgpehaa
