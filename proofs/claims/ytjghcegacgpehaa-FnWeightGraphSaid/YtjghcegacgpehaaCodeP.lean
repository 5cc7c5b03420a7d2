
/- The code of a graph: what the outer loop holds between two rounds, and the marks that its inner loops leave. -/
import Derived.Test.YtjghcegacgpehaaCodeO
import Derived.Test.YtjghcegacgpehaaBackw
import Derived.Test.YtjghcegacgpehaaRnd
import Derived.Test.YtjghcegacgpehaaRead
namespace Go.Proofs.Ytjghcegacgpehaa
open Go.RowKit Go.Shelf

def markD (D : Nat) : Deferred := { target := .collected D, args := #[] }
theorem leaves_marks {F : Fence} {n : Nat} {P : Program} {fn : Func} {tmps : Array Value} {R : Ending → World → Prop} {v : Value} {w : World} (hres : ∀ W, (results fn tmps).run P W = .ok v W) (hR : ∀ W, Below w.heap.size w W → R (.returned v) W) :
    ∀ (Ds : List Nat) (W : World), Ds.Nodup → (∀ D ∈ Ds, w.heap.size ≤ D ∧ W.heap[D]? = some (.deferred (some []))) → Below w.heap.size w W → LeavesInM F n P fn tmps R (Ds.map markD) .returning W
  | [], W, _, _, hb => ⟨v, hres W, hR W hb⟩
  | D :: Ds, W, hnd, hm, hb => by
    rw [List.nodup_cons] at hnd
    have hD := hm D (by simp)
    refine ⟨by simp, .inl ⟨D, _, rfl, run_takeDeferred hD.2, ?_⟩⟩
    refine leaves_marks hres hR Ds _ hnd.2 (fun E hE => ⟨(hm E (List.mem_cons_of_mem _ hE)).1, ?_⟩) (hb.trans (belowK_b (w := w) (Nat.le_refl _) W D _ _ hD.1 hD.2 rfl rfl))
    rw [World.putObj_heap_other (by rintro rfl; exact hnd.1 hE)]
    exact (hm E (List.mem_cons_of_mem _ hE)).2

theorem blk_ne {w : World} {b g : Nat} {c1 c2 : Array Value} {T1 T2 : TypeId} {f1 f2 : Nat × Nat} (h1 : w.heap[b]? = some (.cells c1 T1 f1)) (h2 : w.heap[g]? = some (.cells c2 T2 f2)) (hT : T1 ≠ T2) : b ≠ g := by
  rintro rfl
  rw [h1] at h2
  cases h2
  exact hT rfl
theorem blk_row {X Y : World} {row : Option Nat} {b : Nat} {cs : Array Value} {T : TypeId} {f : Nat × Nat} (h : X.heap[b]? = some (.cells cs T f)) (hg : X.grownBy Y row) (hr : ∀ r, row = some r → ∃ o : Obj, X.heap[r]? = some o ∧ o.isCells = false) : Y.heap[b]? = some (.cells cs T f) := by
  refine blk_grown h hg ?_
  intro e
  obtain ⟨o, ho, hc⟩ := hr b e.symm
  rw [h] at ho
  cases ho
  cases hc
theorem own_row {X Y : World} {row : Option Nat} {B T s n c m : Nat} {a : Option Addr} {cs : List Value} (h : X.ownsRow B T s (.slice a m c) n cs) (hg : X.grownBy Y row) (hr : ∀ r, row = some r → ∃ o : Obj, X.heap[r]? = some o ∧ o.isCells = false) : Y.ownsRow B T s (.slice a m c) n cs := by
  refine own_same2 h fun x hx => ?_
  rcases h.2 with ⟨h1, _⟩ | ⟨g, cap, cur, h1, _, hb, _⟩
  · cases h1; cases hx
  · cases h1
    cases hx
    exact (blk_row hb hg hr).trans hb.symm

/-- What the outer loop holds when m vertices are left: the row of them, the two rows that are filled, the marks. -/
structure CS (w : World) (g0 b5 b6 b7 gA gO N : Nat) (a : Option Addr) (c n : Nat) (Ds : List Nat) (m : Nat) (aL : Option Addr) (cL : Nat) (L : List Int) (W : World) : Prop where
  qg : W.heap[g0]? = some (.cells #[.int .i64 N, .slice a n c] 25 (0, 0))
  q5 : W.heap[b5]? = some (.cells #[.slice aL m cL] 38 (0, 0))
  hL : W.ownsRow w.heap.size 3 1 (.slice aL m cL) m (ints L)
  q6 : W.heap[b6]? = some (.cells #[.slice (some ⟨gA, 0, none⟩) N N] 22 (0, 0))
  qA : ∃ bs : List Int, bs.length = N ∧ (∀ x ∈ bs, 0 ≤ x ∧ x < 256) ∧ W.heap[gA]? = some (.cells (bytesV bs).toArray 5 (0, 0))
  q7 : W.heap[b7]? = some (.cells #[.slice (some ⟨gO, 0, none⟩) N N] 38 (0, 0))
  qO : ∃ os : List Int, os.length = N ∧ W.heap[gO]? = some (.cells (ints os).toArray 3 (0, 0))
  ap : ∀ x, aL = some x → x.block ≠ gO
  ne : b5 ≠ b7
  l5 : w.heap.size ≤ b5
  lA : w.heap.size ≤ gA
  lO : w.heap.size ≤ gO
  nd : Ds.Nodup
  mks : ∀ D ∈ Ds, w.heap.size ≤ D ∧ W.heap[D]? = some (.deferred (some []))
  be : Below w.heap.size w W

theorem CS.kept {w : World} {g0 b5 b6 b7 gA gO N : Nat} {a : Option Addr} {c n : Nat} {Ds : List Nat} {m : Nat} {aL : Option Addr} {cL : Nat} {L : List Int} {X Y : World} {row : Option Nat} (h : CS w g0 b5 b6 b7 gA gO N a c n Ds m aL cL L X)
    (hg : X.grownBy Y row) (hr : ∀ r, row = some r → w.heap.size ≤ r ∧ r ∉ Ds ∧ ∃ o : Obj, X.heap[r]? = some o ∧ o.isCells = false) : CS w g0 b5 b6 b7 gA gO N a c n Ds m aL cL L Y := by
  have hr' : ∀ r, row = some r → ∃ o : Obj, X.heap[r]? = some o ∧ o.isCells = false := fun r e => (hr r e).2.2
  obtain ⟨bs, hb1, hb2, hb3⟩ := h.qA
  obtain ⟨os, ho1, ho2⟩ := h.qO
  exact ⟨blk_row h.qg hg hr', blk_row h.q5 hg hr', own_row h.hL hg hr', blk_row h.q6 hg hr', ⟨bs, hb1, hb2, blk_row hb3 hg hr'⟩, blk_row h.q7 hg hr', ⟨os, ho1, blk_row ho2 hg hr'⟩, h.ap, h.ne, h.l5, h.lA, h.lO, h.nd,
    fun D hD => ⟨(h.mks D hD).1, blk_grown (h.mks D hD).2 hg (fun e => (hr D e.symm).2.1 hD)⟩, h.be.grown hg h.be.size (fun k e => (hr k e).1)⟩
theorem CS.below {w : World} {g0 b5 b6 b7 gA gO N : Nat} {a : Option Addr} {c n : Nat} {Ds : List Nat} {m : Nat} {aL : Option Addr} {cL : Nat} {L : List Int} {X Y : World} (h : CS w g0 b5 b6 b7 gA gO N a c n Ds m aL cL L X)
    (hb : Below X.heap.size X Y) : CS w g0 b5 b6 b7 gA gO N a c n Ds m aL cL L Y := h.kept (below_grownby hb none) (by simp)
theorem arr_set (cs : List Value) (k : Nat) (v : Value) : cs.toArray.setIfInBounds k v = (cs.set k v).toArray := by simp
/-- A store into the row of letters. -/
theorem CS.setA {w : World} {g0 b5 b6 b7 gA gO N : Nat} {a : Option Addr} {c n : Nat} {Ds : List Nat} {m : Nat} {aL : Option Addr} {cL : Nat} {L : List Int} {X : World} (h : CS w g0 b5 b6 b7 gA gO N a c n Ds m aL cL L X)
    (k : Nat) (v : Int) (hv : 0 ≤ v ∧ v < 256) : CS w g0 b5 b6 b7 gA gO N a c n Ds m aL cL L (X.setCell ⟨gA, k, none⟩ (.int .u8 v)) := by
  obtain ⟨bs, hb1, hb2, hb3⟩ := h.qA
  obtain ⟨os, ho1, ho2⟩ := h.qO
  have hs := blk_set hb3 k (.int .u8 v)
  rw [arr_set, show (bytesV bs).set k (.int .u8 v) = bytesV (bs.set k v) by simp [bytesV, List.map_set]] at hs
  refine ⟨blk_set_other h.qg k _ (blk_ne h.qg hb3 (by decide)), blk_set_other h.q5 k _ (blk_ne h.q5 hb3 (by decide)), own_setOther h.hL gA k _ (own_ne h.hL hb3 (by decide)), blk_set_other h.q6 k _ (blk_ne h.q6 hb3 (by decide)),
    ⟨bs.set k v, by rw [List.length_set]; exact hb1, fun x hx => ?_, hs⟩, blk_set_other h.q7 k _ (blk_ne h.q7 hb3 (by decide)), ⟨os, ho1, blk_set_other ho2 k _ (blk_ne ho2 hb3 (by decide))⟩, h.ap, h.ne, h.l5, h.lA, h.lO, h.nd,
    fun D hD => ⟨(h.mks D hD).1, blk_set_other (h.mks D hD).2 k _ ?_⟩, h.be.setCell (p := ⟨gA, k, none⟩) h.lA _⟩
  · rcases List.mem_or_eq_of_mem_set hx with h1 | h1
    · exact hb2 x h1
    · rw [h1]; exact hv
  · rintro rfl
    rw [(h.mks D hD).2] at hb3
    cases hb3
/-- A store into the row of the order. -/
theorem CS.setO {w : World} {g0 b5 b6 b7 gA gO N : Nat} {a : Option Addr} {c n : Nat} {Ds : List Nat} {m : Nat} {aL : Option Addr} {cL : Nat} {L : List Int} {X : World} (h : CS w g0 b5 b6 b7 gA gO N a c n Ds m aL cL L X)
    (k : Nat) (v : Int) : CS w g0 b5 b6 b7 gA gO N a c n Ds m aL cL L (X.setCell ⟨gO, k, none⟩ (.int .i64 v)) := by
  obtain ⟨bs, hb1, hb2, hb3⟩ := h.qA
  obtain ⟨os, ho1, ho2⟩ := h.qO
  have hs := blk_set ho2 k (.int .i64 v)
  rw [arr_set, show (ints os).set k (.int .i64 v) = ints (os.set k v) by simp [ints, List.map_set]] at hs
  refine ⟨blk_set_other h.qg k _ (blk_ne h.qg ho2 (by decide)), blk_set_other h.q5 k _ (blk_ne h.q5 ho2 (by decide)), own_setOther h.hL gO k _ ?_, blk_set_other h.q6 k _ (blk_ne h.q6 ho2 (by decide)),
    ⟨bs, hb1, hb2, blk_set_other hb3 k _ (blk_ne hb3 ho2 (by decide))⟩, blk_set_other h.q7 k _ (blk_ne h.q7 ho2 (by decide)), ⟨os.set k v, by rw [List.length_set]; exact ho1, hs⟩, h.ap, h.ne, h.l5, h.lA, h.lO, h.nd,
    fun D hD => ⟨(h.mks D hD).1, blk_set_other (h.mks D hD).2 k _ ?_⟩, h.be.setCell (p := ⟨gO, k, none⟩) h.lO _⟩
  · cases haL : aL with
    | none => simp [Value.ownBlock]
    | some x =>
      simp only [Value.ownBlock, ne_eq, Option.some.injEq]
      intro e
      exact h.ap x haL e.symm
  · rintro rfl
    rw [(h.mks D hD).2] at ho2
    cases ho2
/-- Another row of vertices that are left. -/
theorem CS.setL {w : World} {g0 b5 b6 b7 gA gO N : Nat} {a : Option Addr} {c n : Nat} {Ds : List Nat} {m m' : Nat} {aL aL' : Option Addr} {cL cL' : Nat} {L L' : List Int} {X : World} (h : CS w g0 b5 b6 b7 gA gO N a c n Ds m aL cL L X)
    (ho : X.ownsRow w.heap.size 3 1 (.slice aL' m' cL') m' (ints L')) (ha : ∀ x, aL' = some x → x.block ≠ gO) : CS w g0 b5 b6 b7 gA gO N a c n Ds m' aL' cL' L' (X.setCell ⟨b5, 0, none⟩ (.slice aL' m' cL')) := by
  obtain ⟨bs, hb1, hb2, hb3⟩ := h.qA
  obtain ⟨os, ho1, ho2⟩ := h.qO
  have hs := blk_set h.q5 0 (.slice aL' m' cL')
  refine ⟨blk_set_other h.qg 0 _ (blk_ne h.qg h.q5 (by decide)), hs, own_setOther ho b5 0 _ (own_ne ho h.q5 (by decide)), blk_set_other h.q6 0 _ (blk_ne h.q6 h.q5 (by decide)),
    ⟨bs, hb1, hb2, blk_set_other hb3 0 _ (blk_ne hb3 h.q5 (by decide))⟩, blk_set_other h.q7 0 _ h.ne.symm, ⟨os, ho1, blk_set_other ho2 0 _ (blk_ne ho2 h.q5 (by decide))⟩, ha, h.ne, h.l5, h.lA, h.lO, h.nd,
    fun D hD => ⟨(h.mks D hD).1, blk_set_other (h.mks D hD).2 0 _ ?_⟩, h.be.setCell (p := ⟨b5, 0, none⟩) h.l5 _⟩
  rintro rfl
  have := h.q5
  rw [(h.mks D hD).2] at this
  cases this
/-- A store into a block that is none of these. -/
theorem CS.setX {w : World} {g0 b5 b6 b7 gA gO N : Nat} {a : Option Addr} {c n : Nat} {Ds : List Nat} {m : Nat} {aL : Option Addr} {cL : Nat} {L : List Int} {X : World} (h : CS w g0 b5 b6 b7 gA gO N a c n Ds m aL cL L X)
    (b j : Nat) (v : Value) (hb : w.heap.size ≤ b) (hO : b ≠ gO) (haL : ∀ x, aL = some x → x.block ≠ b) {o : Value} {T : TypeId} (hq : X.heap[b]? = some (.cells #[o] T (0, 0))) (hT : T = 3 ∨ T = 4) : CS w g0 b5 b6 b7 gA gO N a c n Ds m aL cL L (X.setCell ⟨b, j, none⟩ v) := by
  obtain ⟨bs, hb1, hb2, hb3⟩ := h.qA
  obtain ⟨os, ho1, ho2⟩ := h.qO
  have nT : ∀ {b' : Nat} {ds : Array Value} {T' : TypeId}, X.heap[b']? = some (.cells ds T' (0, 0)) → T' ≠ 3 → T' ≠ 4 → b' ≠ b := by
    intro b' ds T' h1 h2 h3
    refine blk_ne h1 hq ?_
    rcases hT with rfl | rfl
    · exact h2
    · exact h3
  refine ⟨blk_set_other h.qg j _ (nT h.qg (by decide) (by decide)), blk_set_other h.q5 j _ (nT h.q5 (by decide) (by decide)), own_setOther h.hL b j _ ?_, blk_set_other h.q6 j _ (nT h.q6 (by decide) (by decide)),
    ⟨bs, hb1, hb2, blk_set_other hb3 j _ (nT hb3 (by decide) (by decide))⟩, blk_set_other h.q7 j _ (nT h.q7 (by decide) (by decide)), ⟨os, ho1, blk_set_other ho2 j _ hO.symm⟩, h.ap, h.ne, h.l5, h.lA, h.lO, h.nd,
    fun D hD => ⟨(h.mks D hD).1, blk_set_other (h.mks D hD).2 j _ ?_⟩, h.be.setCell (p := ⟨b, j, none⟩) hb _⟩
  · cases haL' : aL with
    | none => simp [Value.ownBlock]
    | some x =>
      simp only [Value.ownBlock, ne_eq, Option.some.injEq]
      intro e
      exact haL x haL' e.symm
  · rintro rfl
    rw [(h.mks D hD).2] at hq
    cases hq
/-- One mark more. -/
theorem CS.mark {w : World} {g0 b5 b6 b7 gA gO N : Nat} {a : Option Addr} {c n : Nat} {Ds : List Nat} {m : Nat} {aL : Option Addr} {cL : Nat} {L : List Int} {X : World} (h : CS w g0 b5 b6 b7 gA gO N a c n Ds m aL cL L X) {D : Nat}
    (h1 : w.heap.size ≤ D) (h2 : D ∉ Ds) (h3 : X.heap[D]? = some (.deferred (some []))) : CS w g0 b5 b6 b7 gA gO N a c n (D :: Ds) m aL cL L X :=
  ⟨h.qg, h.q5, h.hL, h.q6, h.qA, h.q7, h.qO, h.ap, h.ne, h.l5, h.lA, h.lO, List.nodup_cons.2 ⟨h2, h.nd⟩, fun E hE => by
    rcases List.mem_cons.1 hE with rfl | hE
    · exact ⟨h1, h3⟩
    · exact h.mks E hE, h.be⟩

end Go.Proofs.Ytjghcegacgpehaa
