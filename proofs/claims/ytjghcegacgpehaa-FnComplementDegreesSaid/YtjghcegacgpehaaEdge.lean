
/- Rows of edges (two cells each). -/
import Derived.Test.YtjghcegacgpehaaChecked
import Derived.Test.YtjghcegacgpehaaLater
namespace Go.Proofs.Ytjghcegacgpehaa
open Go.RowKit

abbrev E2 := Int × Int
def edges (es : List E2) : List Value := es.flatMap fun e => [.int .i64 e.1, .int .i64 e.2]
/-- A graph as a value. -/
abbrev graphV (N : Int) (a : Option Addr) (n c : Nat) : Value := .agg #[.int .i64 N, .slice a n c]
abbrev edgeV (e : E2) : Value := .agg #[.int .i64 e.1, .int .i64 e.2]

theorem edges_length (es : List E2) : (edges es).length = es.length * 2 := by
  induction es with
  | nil => rfl
  | cons e l ih => simp only [edges, List.flatMap_cons, List.length_append, List.length_cons, List.length_nil] at ih ⊢; omega
theorem edges_append (xs ys : List E2) : edges (xs ++ ys) = edges xs ++ edges ys := by simp [edges]
theorem edges_cons (e : E2) (l : List E2) : edges (e :: l) = .int .i64 e.1 :: .int .i64 e.2 :: edges l := by simp [edges]
theorem edges_get (es : List E2) (k : Nat) (h : k < es.length) : (edges es)[k * 2]? = some (.int .i64 (es[k]'h).1) ∧ (edges es)[k * 2 + 1]? = some (.int .i64 (es[k]'h).2) := by
  induction es generalizing k with
  | nil => simp at h
  | cons e l ih =>
    rw [edges_cons]
    cases k with
    | zero => simp
    | succ k =>
      have h' : k < l.length := by simpa using h
      obtain ⟨h1, h2⟩ := ih k h'
      have e1 : (k + 1) * 2 = k * 2 + 2 := by omega
      have e2 : (k + 1) * 2 + 1 = k * 2 + 1 + 2 := by omega
      rw [e2, e1]
      simp only [List.getElem?_cons_succ, List.getElem_cons_succ]
      exact ⟨h1, h2⟩

theorem Rd.edge {w : World} {a : Option Addr} {es : List E2} (h : Rd w a (edges es)) {k : Nat} (hk : k < es.length) :
    ∃ b off, a = some ⟨b, off, none⟩ ∧ w.cell? ⟨b, off + k * 2, none⟩ = some (.int .i64 (es[k]'hk).1) ∧ w.cell? ⟨b, off + k * 2 + 1, none⟩ = some (.int .i64 (es[k]'hk).2) := by
  obtain ⟨h1, h2⟩ := edges_get es k hk
  obtain ⟨b, off, rfl, c1⟩ := h _ _ h1
  obtain ⟨b', off', e, c2⟩ := h _ _ h2
  cases e
  exact ⟨b, off, rfl, c1, c2⟩

theorem Try.infoEdge : (Try.prog.info? 48).map (fun i => (i.zero, i.size, i.bytes)) = some (some (.agg #[.int .i64 0, .int .i64 0]), 2, 16) := by kernel_rfl
theorem Try.infoE : Info Try.prog 23 48 (.agg #[.int .i64 0, .int .i64 0]) 2 16 := ⟨Try.underlying23, Try.infoEdge, rfl, by decide, by decide⟩

theorem edges_one (es : List E2) : ∀ u ∈ edges es, u.oneCell' = true := by
  intro u hu
  simp only [edges, List.mem_flatMap] at hu
  obtain ⟨e, _, he⟩ := hu
  simp only [List.mem_cons, List.not_mem_nil, or_false] at he
  rcases he with rfl | rfl <;> rfl

/-- 'append(s, Edge{x, y})' onto an owned row of edges. -/
theorem appendE {w0 w : World} {B0 B : Nat} {x y : Int}
    {ops : Array Oper} {rest : List Oper} {o : Oper} {a : Act} {Q : Exit → Act → World → Prop} (s t : Operand) (hgd : o.guard = none)
    (ho : o.op = .call { callee := .builtin .append, args := #[s, t], argTypes := #[23, 23] })
    {a0 : Option Addr} {n c cx : Nat} {es : List E2} (hown : w.ownsRow B 48 2 (.slice a0 n c) n (edges es)) (hb : Below B0 w0 w) (hB : B0 ≤ B) (hBw : B ≤ w.heap.size)
    (hs : a.eval s = .slice a0 n c) (hx : a.eval t = .slice (some ⟨w.heap.size, 0, none⟩) 1 cx) (hN : n + 1 ≤ 8796093022208)
    (h : ∀ a' c' w', w'.ownsRow B 48 2 (.slice a' (n + 1) c') (n + 1) (edges (es ++ [(x, y)])) → Below B0 w0 w' → wpList Try.prog ops Q rest (a.put o.dst (.slice a' (n + 1) c')) w') :
    wpList Try.prog ops Q (o :: rest) a (w.alloc (.cells #[.int .i64 x, .int .i64 y] 48)) :=
  append1 Try.infoE s t hgd ho hown hb hB hBw hs hx rfl (by intro u hu; simp at hu; rcases hu with rfl | rfl <;> rfl) (by omega) (fun a' c' w' h1 h2 => h a' c' w' (by rw [edges_append]; exact h1) h2)

end Go.Proofs.Ytjghcegacgpehaa
