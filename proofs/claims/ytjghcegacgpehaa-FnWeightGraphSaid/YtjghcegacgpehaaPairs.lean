
/- Several texts in one: Edge, Pairs. -/
import Derived.Test.YtjghcegacgpehaaChecked
import Derived.Test.YtjghcegacgpehaaBase
namespace Go.Proofs.Ytjghcegacgpehaa
open Go.RowKit

abbrev E2 := Int × Int
def edges (es : List E2) : List Value := es.flatMap fun e => [.int .i64 e.1, .int .i64 e.2]
/-- A graph as a value. -/
abbrev graphV (N : Int) (a : Option Addr) (n c : Nat) : Value := .agg #[.int .i64 N, .slice a n c]
abbrev edgeV (e : E2) : Value := .agg #[.int .i64 e.1, .int .i64 e.2]

theorem edges_length (es : List E2) : (edges es).length = es.length * 2 := by
  induction es with
  | nil => rfl
  | cons e l ih => simp only [edges, List.flatMap_cons, List.length_append, List.length_cons, List.length_nil] at ih ⊢; omega
theorem edges_append (xs ys : List E2) : edges (xs ++ ys) = edges xs ++ edges ys := by simp [edges]
theorem edges_cons (e : E2) (l : List E2) : edges (e :: l) = .int .i64 e.1 :: .int .i64 e.2 :: edges l := by simp [edges]
theorem edges_get (es : List E2) (k : Nat) (h : k < es.length) : (edges es)[k * 2]? = some (.int .i64 (es[k]'h).1) ∧ (edges es)[k * 2 + 1]? = some (.int .i64 (es[k]'h).2) := by
  induction es generalizing k with
  | nil => simp at h
  | cons e l ih =>
    rw [edges_cons]
    cases k with
    | zero => simp
    | succ k =>
      have h' : k < l.length := by simpa using h
      obtain ⟨h1, h2⟩ := ih k h'
      have e1 : (k + 1) * 2 = k * 2 + 2 := by omega
      have e2 : (k + 1) * 2 + 1 = k * 2 + 1 + 2 := by omega
      rw [e2, e1]
      simp only [List.getElem?_cons_succ, List.getElem_cons_succ]
      exact ⟨h1, h2⟩

theorem Rd.edge {w : World} {a : Option Addr} {es : List E2} (h : Rd w a (edges es)) {k : Nat} (hk : k < es.length) :
    ∃ b off, a = some ⟨b, off, none⟩ ∧ w.cell? ⟨b, off + k * 2, none⟩ = some (.int .i64 (es[k]'hk).1) ∧ w.cell? ⟨b, off + k * 2 + 1, none⟩ = some (.int .i64 (es[k]'hk).2) := by
  obtain ⟨h1, h2⟩ := edges_get es k hk
  obtain ⟨b, off, rfl, c1⟩ := h _ _ h1
  obtain ⟨b', off', e, c2⟩ := h _ _ h2
  cases e
  exact ⟨b, off, rfl, c1, c2⟩

theorem Try.infoEdge : (Try.prog.info? 48).map (fun i => (i.zero, i.size, i.bytes)) = some (some (.agg #[.int .i64 0, .int .i64 0]), 2, 16) := by kernel_rfl
theorem Try.infoE : Info Try.prog 23 48 (.agg #[.int .i64 0, .int .i64 0]) 2 16 := ⟨Try.underlying23, Try.infoEdge, rfl, by decide, by decide⟩

theorem edges_one (es : List E2) : ∀ u ∈ edges es, u.oneCell' = true := by
  intro u hu
  simp only [edges, List.mem_flatMap] at hu
  obtain ⟨e, _, he⟩ := hu
  simp only [List.mem_cons, List.not_mem_nil, or_false] at he
  rcases he with rfl | rfl <;> rfl

/-- 'append(s, Edge{x, y})' onto an owned row of edges. -/
theorem appendE {w0 w : World} {B0 B : Nat} {x y : Int}
    {ops : Array Oper} {rest : List Oper} {o : Oper} {a : Act} {Q : Exit → Act → World → Prop} (s t : Operand) (hgd : o.guard = none)
    (ho : o.op = .call { callee := .builtin .append, args := #[s, t], argTypes := #[23, 23] })
    {a0 : Option Addr} {n c cx : Nat} {es : List E2} (hown : w.ownsRow B 48 2 (.slice a0 n c) n (edges es)) (hb : Below B0 w0 w) (hB : B0 ≤ B) (hBw : B ≤ w.heap.size)
    (hs : a.eval s = .slice a0 n c) (hx : a.eval t = .slice (some ⟨w.heap.size, 0, none⟩) 1 cx) (hN : n + 1 ≤ 8796093022208)
    (h : ∀ a' c' w', w'.ownsRow B 48 2 (.slice a' (n + 1) c') (n + 1) (edges (es ++ [(x, y)])) → Below B0 w0 w' → wpList Try.prog ops Q rest (a.put o.dst (.slice a' (n + 1) c')) w') :
    wpList Try.prog ops Q (o :: rest) a (w.alloc (.cells #[.int .i64 x, .int .i64 y] 48)) :=
  append1 Try.infoE s t hgd ho hown hb hB hBw hs hx rfl (by intro u hu; simp at hu; rcases hu with rfl | rfl <;> rfl) (by omega) (fun a' c' w' h1 h2 => h a' c' w' (by rw [edges_append]; exact h1) h2)

def rowP (a : Nat) (m : Nat) : List E2 := (List.range m).map fun i : Nat => ((a : Int), (a : Int) + 1 + (i : Int))
theorem rowP_succ (a m : Nat) : rowP a (m + 1) = rowP a m ++ [((a : Int), (a : Int) + 1 + (m : Int))] := by simp [rowP, List.range_succ]
theorem rowP_length (a m : Nat) : (rowP a m).length = m := by simp [rowP]
def pairsUpto (n k : Nat) : List E2 := (List.range k).flatMap fun a : Nat => rowP a (n - 1 - a)
theorem pairsUpto_succ (n k : Nat) : pairsUpto n (k + 1) = pairsUpto n k ++ rowP k (n - 1 - k) := by simp [pairsUpto, List.range_succ]
theorem pairsUpto_length (n k : Nat) : (pairsUpto n k).length ≤ k * n := by
  induction k with
  | zero => simp [pairsUpto]
  | succ k ih => rw [pairsUpto_succ, List.length_append, rowP_length, Nat.add_mul]; omega
def pairsL (n : Nat) : List E2 := pairsUpto n n

set_option maxHeartbeats 1000000 in
theorem specPairs_any (n : Nat) (w : World) (hn : n ≤ 1000) :
    Calls Try.prog 170 #[.int .i64 n] w fun e w' => ∃ a c, e = .returned (.slice a (pairsL n).length c) ∧
      w'.ownsRow w.heap.size 48 2 (.slice a (pairsL n).length c) (pairsL n).length (edges (pairsL n)) ∧ Below w.heap.size w w' := by
  go_enter Try.func170, Try.ntmps170
  go_wp2
  go_loopw [3, 4, 5] (fun v i _ wr => ∃ (k : Nat) (a : Option Addr) (c : Nat), k ≤ n ∧ i = .int .i64 k ∧ v = .slice a (pairsUpto n k).length c ∧ wr.ownsRow w.heap.size 48 2 (.slice a (pairsUpto n k).length c) (pairsUpto n k).length (edges (pairsUpto n k)) ∧ Below w.heap.size w wr) (fun _ i _ _ => n - (intOf i).toNat)
  case atStart => exact ⟨0, some ⟨w.heap.size, 0, none⟩, 0, by omega, rfl, rfl, World.ownsRow_made w #[] 0 (Nat.le_refl _) (by decide) rfl, below_alloc _ _⟩
  case round =>
    obtain ⟨k, a, c, hk, rfl, rfl, hown, hb⟩ := hrel
    by_cases hlt : k < n
    · have hpl : (pairsUpto n k).length ≤ 1000000 := by
        have h1 := pairsUpto_length n k
        have h2 : k * n ≤ 1000 * 1000 := Nat.mul_le_mul (by omega) hn
        omega
      have HS := Lib.hid (pairsUpto_succ n k)
      generalize hP : pairsUpto n k = P at *
      have HP := Lib.hid hP
      clear hP
      obtain ⟨wo, hwo⟩ : ∃ wo : World, wo = wr := ⟨_, rfl⟩
      go_wp2
      go_loopw [3, 5] (fun v i wr => ∃ (m : Nat) (a : Option Addr) (c : Nat), m ≤ n - 1 - k ∧ i = .int .i64 ((k : Int) + 1 + (m : Int)) ∧ v = .slice a (P.length + m) c ∧ wr.ownsRow w.heap.size 48 2 (.slice a (P.length + m) c) (P.length + m) (edges (P ++ rowP k m)) ∧ Below w.heap.size w wr) (fun _ i _ => n - (intOf i).toNat)
      case atStart => exact ⟨0, a, c, by omega, by simp, by simp, by simpa [rowP] using hown, hb⟩
      case round =>
        obtain ⟨m, a2, c2, hm, rfl, rfl, hown2, hb2⟩ := hrel
        by_cases hlt2 : m < n - 1 - k
        · have hsz := hb2.size
          have hR := Lib.hid (rowP_succ k m)
          go_wp2_with (at_builtin; refine appendE _ _ rfl rfl hown2 hb2 (Nat.le_refl _) hsz rfl rfl (by omega) ?_; intro a' c' w1 hown1 hb1)
          go_roundw
          case rel => exact ⟨m + 1, a', c', by omega, by go_num, rfl, by rw [hR.out, ← List.append_assoc]; exact hown1, hb1⟩
          case measure => simp [intOf]; omega
        · have e : m = n - 1 - k := by omega
          go_wp2
          go_roundw
          case rel =>
            have hl : (pairsUpto n (k + 1)).length = P.length + m := by rw [HS.out, List.length_append, rowP_length, e]
            exact ⟨k + 1, a2, c2, by omega, by go_num, by rw [hl], by rw [hl, HS.out, ← e]; exact hown2, hb2⟩
          case measure => simp [intOf]; omega
    · have e : k = n := by omega
      subst e
      go_wp2
      go_ret
      exact ⟨a, c, rfl, hown, hb⟩

end Go.Proofs.Ytjghcegacgpehaa
