
/- Rows of graphs: an outer row of two cells a graph, inner rows of edges. -/
import Derived.Test.YtjghcegacgpehaaSubW
import Derived.Test.YtjghcegacgpehaaAddE
import Derived.Test.YtjghcegacgpehaaMatL2
namespace Go.Proofs.Ytjghcegacgpehaa
open Go.RowKit

theorem Try.infoGraph : (Try.prog.info? 25).map (fun i => (i.zero, i.size, i.bytes)) = some (some (.agg #[.int .i64 0, .slice none 0 0]), 2, 32) := by kernel_rfl
theorem Try.infoG : Info Try.prog 70 25 (.agg #[.int .i64 0, .slice none 0 0]) 2 32 := ⟨Try.underlying70, Try.infoGraph, rfl, by decide, by decide⟩

/-- Where an inner row lies, and its capacity as a value. -/
abbrev AtG := Option Addr × Nat
def graphsV (N : Nat) (vs : List AtG) (gs : List (List N2)) : List Value := (vs.zip gs).flatMap fun p => [.int .i64 N, .slice p.1.1 p.2.length p.1.2]
theorem graphsV_cons (N : Nat) (v : AtG) (vs : List AtG) (g : List N2) (gs : List (List N2)) : graphsV N (v :: vs) (g :: gs) = .int .i64 N :: .slice v.1 g.length v.2 :: graphsV N vs gs := rfl
theorem graphsV_length (N : Nat) (vs : List AtG) (gs : List (List N2)) (h : vs.length = gs.length) : (graphsV N vs gs).length = gs.length * 2 := by
  induction gs generalizing vs with
  | nil => simp [graphsV]
  | cons g t ih =>
    cases vs with
    | nil => simp at h
    | cons v vs => rw [graphsV_cons, List.length_cons, List.length_cons, ih vs (by simpa using h), List.length_cons]; omega
theorem graphsV_append (N : Nat) (vs us : List AtG) (gs hs : List (List N2)) (h : vs.length = gs.length) : graphsV N (vs ++ us) (gs ++ hs) = graphsV N vs gs ++ graphsV N us hs := by
  simp [graphsV, List.zip_append h]
theorem graphsV_one (N : Nat) (vs : List AtG) (gs : List (List N2)) : ∀ u ∈ graphsV N vs gs, u.oneCell' = true := by
  intro u hu
  simp only [graphsV, List.mem_flatMap] at hu
  obtain ⟨p, _, he⟩ := hu
  simp only [List.mem_cons, List.not_mem_nil, or_false] at he
  rcases he with rfl | rfl <;> rfl
theorem graphsV_get (N : Nat) (vs : List AtG) (gs : List (List N2)) (r : Nat) (h1 : r < vs.length) (h2 : r < gs.length) : (graphsV N vs gs)[r * 2]? = some (.int .i64 N) ∧ (graphsV N vs gs)[r * 2 + 1]? = some (.slice (vs[r]'h1).1 (gs[r]'h2).length (vs[r]'h1).2) := by
  induction gs generalizing vs r with
  | nil => simp at h2
  | cons g t ih =>
    cases vs with
    | nil => simp at h1
    | cons v vs =>
      rw [graphsV_cons]
      cases r with
      | zero => simp
      | succ r =>
        have := ih vs r (by simpa using h1) (by simpa using h2)
        have e1 : (r + 1) * 2 = r * 2 + 2 := by omega
        have e2 : (r + 1) * 2 + 1 = r * 2 + 1 + 2 := by omega
        rw [e2, e1]
        simp only [List.getElem?_cons_succ, List.getElem_cons_succ]
        exact this

/-- The block holds edges. -/
def EdgeBlk (w : World) (a : Option Addr) : Prop := ∀ x, a = some x → ∃ cs f, w.heap[x.block]? = some (.cells cs 48 f)
theorem EdgeBlk.below {w w' : World} {a : Option Addr} (h : EdgeBlk w a) (hb : Below w.heap.size w w') : EdgeBlk w' a := by
  intro x hx
  obtain ⟨cs, f, hq⟩ := h x hx
  exact ⟨cs, f, blk_below hq hb⟩
theorem EdgeBlk.ne {w : World} {a : Option Addr} (h : EdgeBlk w a) {B T s n c m : Nat} {a2 : Option Addr} {cs : List Value} (ho : w.ownsRow B T s (.slice a2 m c) n cs) (hT : T ≠ 48) : ∀ x, a = some x → some x.block ≠ (Value.slice a2 m c).ownBlock := by
  intro x hx
  obtain ⟨ds, f, hq⟩ := h x hx
  exact own_ne ho hq hT
theorem EdgeBlk.grown {w w' : World} {a : Option Addr} {row : Option Nat} (h : EdgeBlk w a) (hg : w.grownBy w' row) (hr : ∀ x, a = some x → some x.block ≠ row) : EdgeBlk w' a := by
  intro x hx
  obtain ⟨cs, f, hq⟩ := h x hx
  exact ⟨cs, f, blk_grown hq hg (hr x hx)⟩
theorem edgeBlk_own {w : World} {B s n c m : Nat} {a : Option Addr} {cs : List Value} (h : w.ownsRow B 48 s (.slice a m c) n cs) : EdgeBlk w a := by
  intro x hx
  subst hx
  rcases h.2 with ⟨h1, _⟩ | ⟨g, cap, cur, h1, _, hg, _⟩
  · cases h1
  · cases h1
    exact ⟨cur, (0, 0), hg⟩
/-- A row of edges as a graph has it. -/
def RowG (w : World) (a : Option Addr) (c : Nat) (es : List N2) : Prop := Rd w a (edges (en2 es)) ∧ es.length ≤ c ∧ c ≤ maxLen ∧ (a = none → es.length = 0 ∧ c = 0) ∧ (∀ ad, a = some ad → ∃ b off, ad = ⟨b, off, none⟩) ∧ EdgeBlk w a
theorem RowG.below {w w' : World} {a : Option Addr} {c : Nat} {es : List N2} (h : RowG w a c es) (hb : Below w.heap.size w w') : RowG w' a c es := ⟨h.1.below hb, h.2.1, h.2.2.1, h.2.2.2.1, h.2.2.2.2.1, h.2.2.2.2.2.below hb⟩
theorem RowG.grown {w w' : World} {a : Option Addr} {c : Nat} {es : List N2} (h : RowG w a c es) {B T s n c2 m : Nat} {a2 : Option Addr} {cs : List Value} (ho : w.ownsRow B T s (.slice a2 m c2) n cs) (hT : T ≠ 48) (hg : w.grownBy w' (Value.slice a2 m c2).ownBlock) : RowG w' a c es :=
  ⟨h.1.grown hg (h.2.2.2.2.2.ne ho hT), h.2.1, h.2.2.1, h.2.2.2.1, h.2.2.2.2.1, h.2.2.2.2.2.grown hg (h.2.2.2.2.2.ne ho hT)⟩
theorem own_formA {w : World} {B T s n c m : Nat} {a : Option Addr} {cs : List Value} (h : w.ownsRow B T s (.slice a m c) n cs) : ∀ ad, a = some ad → ∃ b off, ad = ⟨b, off, none⟩ := by
  intro ad hx
  subst hx
  rcases h.2 with ⟨h1, _⟩ | ⟨g, cap, cur, h1, _⟩
  · cases h1
  · cases h1; exact ⟨g, 0, rfl⟩
theorem rowG_own {w : World} {B c : Nat} {a : Option Addr} {es : List N2} (h : w.ownsRow B 48 2 (.slice a es.length c) es.length (edges (en2 es))) : RowG w a c es := by
  have hs := own_shape h
  exact ⟨own_rd h, hs.1, hs.2.1, fun h0 => by have := hs.2.2 h0; omega, own_formA h, edgeBlk_own h⟩

/-- A row of graphs: the outer row owned, the inner rows for reading. -/
def ListG (w : World) (B : Nat) (a : Option Addr) (c : Nat) (N : Nat) (vs : List AtG) (gs : List (List N2)) : Prop :=
  vs.length = gs.length ∧ w.ownsRow B 25 2 (.slice a gs.length c) gs.length (graphsV N vs gs) ∧ ∀ r (h1 : r < vs.length) (h2 : r < gs.length), RowG w (vs[r]'h1).1 (vs[r]'h1).2 (gs[r]'h2)
theorem ListG.below {w w' : World} {B c N : Nat} {a : Option Addr} {vs : List AtG} {gs : List (List N2)} (h : ListG w B a c N vs gs) (hb : Below w.heap.size w w') : ListG w' B a c N vs gs := ⟨h.1, own_below h.2.1 hb, fun r h1 h2 => (h.2.2 r h1 h2).below hb⟩
theorem ListG.mono {w : World} {B B' c N : Nat} {a : Option Addr} {vs : List AtG} {gs : List (List N2)} (h : ListG w B a c N vs gs) (hB : B' ≤ B) : ListG w B' a c N vs gs := ⟨h.1, own_mono h.2.1 hB, h.2.2⟩

/-- Every graph of a row of graphs, for reading. -/
def RdG (w : World) (a : Option Addr) (N : Nat) (gs : List (List N2)) : Prop :=
  ∀ r (h : r < gs.length), ∃ b off a' c', a = some ⟨b, off, none⟩ ∧ w.cell? ⟨b, off + r * 2, none⟩ = some (.int .i64 N) ∧ w.cell? ⟨b, off + r * 2 + 1, none⟩ = some (.slice a' (gs[r]'h).length c') ∧ RowG w a' c' (gs[r]'h)
theorem RdG.below {w w' : World} {a : Option Addr} {N : Nat} {gs : List (List N2)} (h : RdG w a N gs) (hb : Below w.heap.size w w') : RdG w' a N gs := by
  intro r hr
  obtain ⟨b, off, a', c', rfl, h1, h2, h3⟩ := h r hr
  exact ⟨b, off, a', c', rfl, (hb.cell (p := ⟨b, off + r * 2, none⟩) (Rd.lt h1)).trans h1, (hb.cell (p := ⟨b, off + r * 2 + 1, none⟩) (Rd.lt h2)).trans h2, h3.below hb⟩
theorem ListG.rdG {w : World} {B c N : Nat} {a : Option Addr} {vs : List AtG} {gs : List (List N2)} (h : ListG w B a c N vs gs) : RdG w a N gs := by
  intro r hr
  obtain ⟨h1, h2, h3⟩ := h
  have hv : r < vs.length := by omega
  obtain ⟨g1, g2⟩ := graphsV_get N vs gs r hv hr
  obtain ⟨b, off, rfl, k1⟩ := own_rd h2 _ _ g1
  obtain ⟨b', off', e, k2⟩ := own_rd h2 _ _ g2
  cases e
  exact ⟨b, off, _, _, rfl, k1, k2, h3 r hv hr⟩

/-- 'out = append(out, more...)' of rows of graphs. -/
theorem appendGs {w0 w : World} {B0 B : Nat} {ops : Array Oper} {rest : List Oper} {o : Oper} {act : Act} {Q : Exit → Act → World → Prop} (s x : Operand) (hgd : o.guard = none)
    (ho : o.op = .call { callee := .builtin .append, args := #[s, x], argTypes := #[70, 70] })
    {a a2 : Option Addr} {c c2 N : Nat} {vs us : List AtG} {gs hs : List (List N2)} (h1 : ListG w B a c N vs gs) (h2 : ListG w B a2 c2 N us hs) (hb : Below B0 w0 w) (hB0 : B0 ≤ B) (hBw : B ≤ w.heap.size)
    (es : act.eval s = .slice a gs.length c) (ex : act.eval x = .slice a2 hs.length c2) (hN : (gs.length + hs.length) * 32 ≤ 140737488355328)
    (h : ∀ a' c' w', ListG w' B a' c' N (vs ++ us) (gs ++ hs) → Below B0 w0 w' → wpList Try.prog ops Q rest (act.put o.dst (.slice a' (gs ++ hs).length c')) w') :
    wpList Try.prog ops Q (o :: rest) act w := by
  obtain ⟨p1, p2, p3⟩ := h1
  obtain ⟨q1, q2, q3⟩ := h2
  refine appendAllg Try.infoG s x hgd ho p2 (own_rd q2) (graphsV_length N us hs q1) (graphsV_one N us hs) (fun h0 => by have hs := own_shape q2; have := hs.2.2 h0; omega) (World.grownBy.refl w _) hBw es ex hN ?_
  intro a' c' w' ho' hg'
  rw [← graphsV_append N vs us gs hs p1] at ho'
  rw [List.length_append] at h
  refine h a' c' w' ⟨by simp [p1, q1], by rw [List.length_append]; exact ho', ?_⟩ (hb.grown hg' (by have := hb.size; omega) fun i hi => by have := (p2.lt i hi).1; omega)
  intro r hr1 hr2
  by_cases e : r < vs.length
  · have e2 : r < gs.length := by omega
    simp only [List.getElem_append_left e, List.getElem_append_left e2]
    exact (p3 r e e2).grown p2 (by decide) hg'
  · have e2 : ¬ r < gs.length := by omega
    have l1 : r - vs.length < us.length := by rw [List.length_append] at hr1; omega
    have l2 : r - gs.length < hs.length := by rw [List.length_append] at hr2; omega
    simp only [List.getElem_append_right (Nat.le_of_not_lt e), List.getElem_append_right (Nat.le_of_not_lt e2)]
    have := q3 (r - vs.length) l1 (by omega)
    simp only [p1] at this ⊢
    exact this.grown p2 (by decide) hg'

theorem grown_setB (w : World) (g j : Nat) (v : Value) : w.grownBy (w.setCell ⟨g, j, none⟩ v) (some g) := ⟨rfl, rfl, rfl, by simp, fun i _ hi => heap_setCell_other w ⟨g, j, none⟩ i v (by intro e; exact hi (by rw [e]))⟩
theorem own_kept_kind2 {w w' : World} {B T s n c m B' T' s' n' c' : Nat} {a a' : Option Addr} {cs cs' : List Value} (h : w.ownsRow B T s (.slice a m c) n cs) (h' : w.ownsRow B' T' s' (.slice a' n' c') n' cs') (hT : T ≠ T')
    (hg : w.grownBy w' (Value.slice a' n' c').ownBlock) : w'.ownsRow B T s (.slice a m c) n cs := by
  refine h.kept hg ?_
  rcases own_cases h' with ⟨rfl, _, _⟩ | ⟨g, rfl, _, _⟩
  · cases hv : (Value.slice a m c).ownBlock
    · exact .inl rfl
    · exact .inr (by simp [Value.ownBlock])
  · exact .inr (Ne.symm (own_kinds h h' hT))
theorem EdgeBlk.set {w : World} {a : Option Addr} (h : EdgeBlk w a) {b : Nat} (j : Nat) (v : Value) (hb : ∀ x, a = some x → x.block ≠ b) : EdgeBlk (w.setCell ⟨b, j, none⟩ v) a := by
  intro x hx
  obtain ⟨cs, f, hq⟩ := h x hx
  exact ⟨cs, f, blk_set_other hq j v (hb x hx)⟩
/-- A number of a row beside is stored. -/
theorem ListG.setRow {w : World} {B c N : Nat} {a : Option Addr} {vs : List AtG} {gs : List (List N2)} (h : ListG w B a c N vs gs) {g n c2 B2 : Nat} {cs : List Value} (ho : w.ownsRow B2 3 1 (.slice (some ⟨g, 0, none⟩) n c2) n cs) (j : Nat) (v : Value) : ListG (w.setCell ⟨g, j, none⟩ v) B a c N vs gs := by
  have hg : w.grownBy (w.setCell ⟨g, j, none⟩ v) (Value.slice (some ⟨g, 0, none⟩) n c2).ownBlock := grown_setB w g j v
  refine ⟨h.1, own_kept_kind2 h.2.1 ho (by decide) hg, fun r h1 h2 => (h.2.2 r h1 h2).grown ho (by decide) hg⟩
/-- As appendGs, with what is told of memory. -/
theorem appendGs2 {w0 w : World} {B0 B : Nat} {ops : Array Oper} {rest : List Oper} {o : Oper} {act : Act} {Q : Exit → Act → World → Prop} (s x : Operand) (hgd : o.guard = none)
    (ho : o.op = .call { callee := .builtin .append, args := #[s, x], argTypes := #[70, 70] })
    {a a2 : Option Addr} {c c2 N : Nat} {vs us : List AtG} {gs hs : List (List N2)} (h1 : ListG w B a c N vs gs) (h2 : ListG w B a2 c2 N us hs) (hb : Below B0 w0 w) (hB0 : B0 ≤ B) (hBw : B ≤ w.heap.size)
    (es : act.eval s = .slice a gs.length c) (ex : act.eval x = .slice a2 hs.length c2) (hN : (gs.length + hs.length) * 32 ≤ 140737488355328)
    (h : ∀ a' c' w', ListG w' B a' c' N (vs ++ us) (gs ++ hs) → Below B0 w0 w' → w.grownBy w' (Value.slice a gs.length c).ownBlock → wpList Try.prog ops Q rest (act.put o.dst (.slice a' (gs ++ hs).length c')) w') :
    wpList Try.prog ops Q (o :: rest) act w := by
  obtain ⟨p1, p2, p3⟩ := h1
  obtain ⟨q1, q2, q3⟩ := h2
  refine appendAllg Try.infoG s x hgd ho p2 (own_rd q2) (graphsV_length N us hs q1) (graphsV_one N us hs) (fun h0 => by have hs := own_shape q2; have := hs.2.2 h0; omega) (World.grownBy.refl w _) hBw es ex hN ?_
  intro a' c' w' ho' hg'
  rw [← graphsV_append N vs us gs hs p1] at ho'
  rw [List.length_append] at h
  refine h a' c' w' ⟨by simp [p1, q1], by rw [List.length_append]; exact ho', ?_⟩ (hb.grown hg' (by have := hb.size; omega) fun i hi => by have := (p2.lt i hi).1; omega) hg'
  intro r hr1 hr2
  by_cases e : r < vs.length
  · have e2 : r < gs.length := by omega
    simp only [List.getElem_append_left e, List.getElem_append_left e2]
    exact (p3 r e e2).grown p2 (by decide) hg'
  · have e2 : ¬ r < gs.length := by omega
    have l1 : r - vs.length < us.length := by rw [List.length_append] at hr1; omega
    have l2 : r - gs.length < hs.length := by rw [List.length_append] at hr2; omega
    simp only [List.getElem_append_right (Nat.le_of_not_lt e), List.getElem_append_right (Nat.le_of_not_lt e2)]
    have := q3 (r - vs.length) l1 (by omega)
    simp only [p1] at this ⊢
    exact this.grown p2 (by decide) hg'

end Go.Proofs.Ytjghcegacgpehaa
