
/- The code of a graph: what the loop of impl.CodeOf keeps, in small steps. -/
import Derived.Test.YtjghcegacgpehaaCodeM
import Derived.LoopN
import Derived.Laws.BytesArg
import Derived.Test.YtjghcegacgpehaaGrowL
namespace Go.Proofs.Ytjghcegacgpehaa
open Go.RowKit Go.Shelf

/-- A loop, by the number of rounds. -/
theorem loop_as {P : Program} {c : Code} {Q : Exit → Act → World → Prop} {a : Act} {w : World} (m : Nat) (h : ∀ J : Nat → Act → World → Prop, (∀ n a w, c.wp P (Exit.then (J n) Q) a w → J (n + 1) a w) → J m a w) : (Code.loop c).wp P Q a w :=
  wp_loop_rounds m (h (Code.rounds P c Q) fun n a w h => by rw [rounds_succ]; exact h)

/-- The loop's variable in its box. -/
structure KB (w : World) (gO : Nat) (aL : Option Addr) (m Bk : Nat) (V : World) : Prop where
  q : V.heap[Bk]? = some (.cells #[.int .i64 ((m : Int) - 1)] 3 (0, 0))
  lo : w.heap.size ≤ Bk
  nO : Bk ≠ gO
  nL : ∀ x, aL = some x → x.block ≠ Bk
theorem KB.below {w : World} {gO : Nat} {aL : Option Addr} {m Bk : Nat} {X Y : World} (h : KB w gO aL m Bk X) (hb : Below X.heap.size X Y) : KB w gO aL m Bk Y := ⟨blk_below h.q hb, h.lo, h.nO, h.nL⟩
/-- The vertices that are left. -/
def RowOK (N : Nat) (L : List Int) : Prop := L.Nodup ∧ (∀ x ∈ L, 0 ≤ x ∧ x < N) ∧ L.length ≤ N
theorem rowOK_upI (N : Nat) : RowOK N (upI N) := by
  refine ⟨?_, fun x hx => ?_, by rw [upI_length]; exact Nat.le_refl _⟩
  · rw [upI, List.nodup_iff_pairwise_ne, List.pairwise_map]
    exact List.nodup_range.imp (fun h => by omega)
  · simp only [upI, List.mem_map, List.mem_range] at hx
    obtain ⟨j, hj, rfl⟩ := hx
    omega
theorem CS.kb {w : World} {g0 b5 b6 b7 gA gO N : Nat} {a : Option Addr} {c n : Nat} {Ds : List Nat} {m m' : Nat} {aL : Option Addr} {cL : Nat} {L : List Int} {X Y : World} (h : CS w g0 b5 b6 b7 gA gO N a c n Ds m aL cL L X)
    (hq : Y.heap[X.heap.size]? = some (.cells #[.int .i64 ((m' : Int) - 1)] 3 (0, 0))) : KB w gO aL m' X.heap.size Y :=
  ⟨hq, h.be.size, by obtain ⟨os, _, ho⟩ := h.qO; have := blk_lt ho; omega, fun x hx => by have := (own_lt h.hL x hx).2; omega⟩

theorem KB.kept {w : World} {gO : Nat} {aL : Option Addr} {m Bk : Nat} {X Y : World} {row : Option Nat} (h : KB w gO aL m Bk X) (hg : X.grownBy Y row) (hr : ∀ r, row = some r → ∃ o : Obj, X.heap[r]? = some o ∧ o.isCells = false) : KB w gO aL m Bk Y := ⟨blk_row h.q hg hr, h.lo, h.nO, h.nL⟩

theorem KB.setTo {w : World} {gO : Nat} {aL : Option Addr} {m Bk : Nat} {X : World} (h : KB w gO aL m Bk X) (b j : Nat) (v : Value) (hb : Bk ≠ b) : KB w gO aL m Bk (X.setCell ⟨b, j, none⟩ v) := ⟨blk_set_other h.q j v hb, h.lo, h.nO, h.nL⟩
theorem keepsFrom_below {B : Nat} {X Y : World} (h : Below X.heap.size X Y) : KeepsFrom B X Y := KeepsFrom.of_grownBy (below_grownby h none) (by simp)
theorem keepsFrom_set (B : Nat) (X : World) (a : Addr) (v : Value) : KeepsFrom B X (X.setCell a v) := (KeepsOthers.setCell X a v).from B

/-- No vertex to be taken now. -/
def Bad (gs : List E2) (L : List Int) (v : Int) : Prop := joinedL gs L v ≠ 0 ∧ joinedL gs L v + 1 ≠ L.length
/-- The inner loop has taken a vertex. -/
def Took (w : World) (g0 b5 b6 b7 gA gO N : Nat) (a : Option Addr) (c n : Nat) (Ds : List Nat) (L : List Int) (p Bk B9 B : Nat) (cd : Code) (pre : List (Nat × Int)) (W : World) : Prop :=
  cd = .exit 2 ∧ ∃ (pre' : List (Nat × Int)) (j : Nat) (v : Int) (aL : Option Addr) (cL : Nat), pre = pre' ++ [(j, v)] ∧ CS w g0 b5 b6 b7 gA gO N a c n Ds (dropL v L).length aL cL (dropL v L) W ∧ KB w gO aL (p + 1) Bk W ∧ W.heap[B9]? = some (.cells #[.bool true] 4 (0, 0)) ∧ B ≤ W.heap.size
theorem took_own {w : World} {g0 b5 b6 b7 gA gO N : Nat} {a : Option Addr} {c n : Nat} {Ds : List Nat} {L : List Int} {p Bk B9 B : Nat} (hB : w.heap.size ≤ B) (hD : ∀ D ∈ Ds, D < B) (cd : Code) : OwnFrom B (Took w g0 b5 b6 b7 gA gO N a c n Ds L p Bk B9 B cd) := by
  rintro pre X Y row ⟨h1, pre', j, v, aL, cL, h2, h3, h4, h5, h6⟩ hg hr
  have hr' : ∀ r, row = some r → ∃ o : Obj, X.heap[r]? = some o ∧ o.isCells = false := fun r e => (hr r e).2
  exact ⟨h1, pre', j, v, aL, cL, h2, h3.kept hg (fun r e => ⟨Nat.le_trans hB (hr r e).1, fun hm => by have := hD r hm; have := (hr r e).1; omega, (hr r e).2⟩), h4.kept hg hr', blk_row h5 hg hr', Nat.le_trans h6 hg.size⟩
theorem boxed_ownFrom {B : Nat} {q : Nat → Act → Prop} {x : Int} {a' : Act} (B0 : Nat) : OwnFrom B (fun (_ : Unit) W => ∃ Bv, B0 ≤ Bv ∧ W.heap[Bv]? = some (.cells #[.int .i64 x] 3 (0, 0)) ∧ q Bv a') := by
  rintro _ X Y row ⟨Bv, h1, h2, h3⟩ hg hr
  exact ⟨Bv, h1, blk_row h2 hg (fun r e => (hr r e).2), h3⟩
theorem fromEnd_sub {zs : List Int} {k : Nat} {p : Nat × Int} (hk : k ≤ zs.length) (h : p ∈ fromEnd zs k) : p.2 ∈ zs := by
  simp only [fromEnd, List.mem_map, List.mem_range] at h
  obtain ⟨j, hj, rfl⟩ := h
  show zs.getD (zs.length - 1 - j) 0 ∈ zs
  rw [List.getD_eq_getElem?_getD, List.getElem?_eq_getElem (by omega)]
  exact List.getElem_mem _
theorem peels_not {n : Nat} {gs : List E2} {L : List Int} (hP : Peels n gs) (h0 : L ≠ []) (hr : RowOK n L) (h : ∀ q ∈ fromEnd L L.length, Bad gs L q.2) : False := by
  obtain ⟨v, hv, hj⟩ := hP L h0 hr.1 hr.2.1
  obtain ⟨q, hq, e⟩ := fromEnd_mem hv
  have := h q hq
  rw [e] at this
  rcases hj with h1 | h1
  · exact this.1 h1
  · exact this.2 h1
theorem rowOK_drop {N : Nat} {L : List Int} (h : RowOK N L) (v : Int) : RowOK N (dropL v L) := ⟨dropL_nodup h.1, fun x hx => h.2.1 x (dropL_mem hx), Nat.le_trans (List.length_filter_le _ _) h.2.2⟩

end Go.Proofs.Ytjghcegacgpehaa
