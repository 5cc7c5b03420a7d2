
/- The reference's findFactor and factorOf. (Printed by gen_fact.py.) -/
import Derived.Test.YtjghcegacgpehaaSearch
namespace Go.Proofs.Ytjghcegacgpehaa
open Go.RowKit

def FactRes (B N : Nat) (w' : World) (r : Option (List N2)) (e : Ending) : Prop :=
  match r with
  | some es => ∃ a c, e = .returned (.tuple #[graphV N a es.length c, .bool true]) ∧ w'.ownsRow B 48 2 (.slice a es.length c) es.length (edges (en2 es))
  | none => e = .returned (.tuple #[graphV 0 none 0 0, .bool false])
theorem fact_set {w v : World} {B : Nat} (HB : Below w.heap.size w v) (qr : v.heap[w.heap.size + 1]? = some (.cells #[.int .i64 0, .slice none 0 0] 25 (0, 0))) (p : Int) (q : Value) :
    Below w.heap.size w ((v.setCell ⟨w.heap.size + 1, 0, none⟩ (.int .i64 p)).setCell ⟨w.heap.size + 1, 1, none⟩ q) ∧ ∀ {a : Option Addr} {n c : Nat} {cs : List Value}, v.ownsRow B 48 2 (.slice a n c) n cs → ((v.setCell ⟨w.heap.size + 1, 0, none⟩ (.int .i64 p)).setCell ⟨w.heap.size + 1, 1, none⟩ q).ownsRow B 48 2 (.slice a n c) n cs :=
  ⟨(HB.setCell (p := ⟨w.heap.size + 1, 0, none⟩) (by simp) (.int .i64 p)).setCell (p := ⟨w.heap.size + 1, 1, none⟩) (by simp) q, fun ho => own_setOther (own_setOther ho (w.heap.size + 1) 0 (.int .i64 p) (own_ne ho qr (by decide))) (w.heap.size + 1) 1 q (own_ne ho qr (by decide))⟩
theorem take_leN (L : List Nat) (x u : Nat) : (L.take x).getD u 0 ≤ L.getD u 0 := by
  rw [List.getD_eq_getElem?_getD, List.getD_eq_getElem?_getD, List.getElem?_take]
  split <;> simp
theorem rd_takeN {w : World} {a : Option Addr} {L : List Nat} (h : Rd w a (ints (intsN L))) (x : Nat) : Rd w a (ints (intsN (L.take x))) := by
  intro j u hu
  refine h j u ?_
  simp only [ints, intsN, List.map_take, List.getElem?_take] at hu
  split at hu
  · simpa only [ints, intsN] using hu
  · cases hu

section
variable {N nf cf B : Nat} {af : Option Addr} {fs : List N2}
end

end Go.Proofs.Ytjghcegacgpehaa
