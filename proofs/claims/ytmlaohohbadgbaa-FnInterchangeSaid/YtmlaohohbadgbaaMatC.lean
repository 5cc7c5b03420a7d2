
/- Matrices whose rows may have been clipped (a value's capacity is less than that of the block), and what a law's walk needs of them: all blocks in a range. -/
import Derived.Test.YtmlaohohbadgbaaMatL3
namespace Go.Proofs.Ytmlaohohbadgbaa
open Go.RowKit

def CapOK (vs : List At) (m : List (List Int)) : Prop := ∀ r (h : r < vs.length) (h' : r < m.length), (m[r]'(h')).length ≤ (vs[r]'h).2 ∧ (vs[r]'h).2 ≤ maxLen ∧ ((vs[r]'h).1 = none → (vs[r]'h).2 = 0)
/-- An owned matrix: rs tells where the rows lie, with the blocks' capacities; vs the rows as values. -/
def OwnC (w : World) (B : Nat) (a : Option Addr) (n c : Nat) (rs vs : List At) (m : List (List Int)) : Prop :=
  rs.length = n ∧ m.length = n ∧ vs.map Prod.fst = rs.map Prod.fst ∧ CapOK vs m ∧ w.ownsRow B 37 1 (.slice a n c) n (rowVs vs m) ∧ Inn w B rs m ∧ ApartL rs

theorem fst_len {rs vs : List At} (h : vs.map Prod.fst = rs.map Prod.fst) : vs.length = rs.length := by simpa using congrArg List.length h
theorem fst_get {rs vs : List At} (h : vs.map Prod.fst = rs.map Prod.fst) {r : Nat} (h1 : r < vs.length) (h2 : r < rs.length) : (vs[r]'h1).1 = (rs[r]'h2).1 := by
  have := congrArg (fun l => l[r]?) h
  simpa [h1, h2] using this

theorem ownC_of {w : World} {B n c : Nat} {a : Option Addr} {rs : List At} {m : List (List Int)} (h : OwnM w B a n c rs m) : OwnC w B a n c rs rs m :=
  ⟨h.1, h.2.1, rfl, fun r h1 h2 => own_shape (h.2.2.2.1 r h1 h2), h.2.2.1, h.2.2.2.1, h.2.2.2.2⟩
theorem OwnC.vlen {w : World} {B n c : Nat} {a : Option Addr} {rs vs : List At} {m : List (List Int)} (h : OwnC w B a n c rs vs m) : vs.length = n := by rw [fst_len h.2.2.1, h.1]
theorem OwnC.below {w w' : World} {B n c : Nat} {a : Option Addr} {rs vs : List At} {m : List (List Int)} (h : OwnC w B a n c rs vs m) (hb : Below w.heap.size w w') : OwnC w' B a n c rs vs m :=
  ⟨h.1, h.2.1, h.2.2.1, h.2.2.2.1, own_below h.2.2.2.2.1 hb, h.2.2.2.2.2.1.below hb, h.2.2.2.2.2.2⟩
theorem OwnC.mono {w : World} {B B' n c : Nat} {a : Option Addr} {rs vs : List At} {m : List (List Int)} (h : OwnC w B a n c rs vs m) (hB : B' ≤ B) : OwnC w B' a n c rs vs m :=
  ⟨h.1, h.2.1, h.2.2.1, h.2.2.2.1, own_mono h.2.2.2.2.1 hB, fun r h1 h2 => own_mono (h.2.2.2.2.2.1 r h1 h2) hB, h.2.2.2.2.2.2⟩
theorem OwnC.rdM {w : World} {B n c : Nat} {a : Option Addr} {rs vs : List At} {m : List (List Int)} (h : OwnC w B a n c rs vs m) : RdM w a m := by
  intro r hr
  have hv := h.vlen
  obtain ⟨h1, h2, h3, h4, h5, h6, _⟩ := h
  have hr' : r < rs.length := by omega
  have hrv : r < vs.length := by omega
  obtain ⟨b, off, ha, hc⟩ := own_rd h5 r _ (rowVs_get vs m r hrv hr)
  have hs := h4 r hrv hr
  have ho := own_rd (h6 r hr' hr)
  rw [← fst_get h3 hrv hr'] at ho
  exact ⟨b, off, _, _, ha, hc, ho, hs.1, hs.2.1, hs.2.2⟩
theorem OwnC.min {w : World} {B n c : Nat} {a : Option Addr} {rs vs : List At} {m : List (List Int)} (h : OwnC w B a n c rs vs m) : MIn B w.heap.size a rs :=
  ⟨fun x hx => own_lt h.2.2.2.2.1 x hx, fun r hr x hx => own_lt (h.2.2.2.2.2.1 r hr (by have := h.1; have := h.2.1; omega)) x hx⟩
theorem ownC_none (w : World) (B : Nat) : OwnC w B none 0 0 [] [] [] := ownC_of (ownM_none w B)

theorem OwnC.kept_row {w w' : World} {B n c n' c' : Nat} {a a' : Option Addr} {rs vs : List At} {m : List (List Int)} {cs' : List Value} (h : OwnC w B a n c rs vs m) (ha : ApartA rs a') (ho : w.ownsRow B 3 1 (.slice a' n' c') n' cs') (hg : w.grownBy w' (Value.slice a' n' c').ownBlock) : OwnC w' B a n c rs vs m :=
  ⟨h.1, h.2.1, h.2.2.1, h.2.2.2.1, own_kept_kind h.2.2.2.2.1 ho (by decide) hg, Inn.kept_row h.2.2.2.2.2.1 ha hg, h.2.2.2.2.2.2⟩

/-- 'row = append(row, y)' beside a matrix. -/
theorem appendRowC {w0 w : World} {B0 B : Nat} {y : Int} {ops : Array Oper} {rest : List Oper} {o : Oper} {act : Act} {Q : Exit → Act → World → Prop} (s x : Operand) (hgd : o.guard = none)
    (ho : o.op = .call { callee := .builtin .append, args := #[s, x], argTypes := #[37, 37] })
    {a ar : Option Addr} {k c n cr cx : Nat} {rs vs : List At} {m : List (List Int)} {X : List Int} (hM : OwnC w B a k c rs vs m) (hap : ApartA rs ar) (hrow : w.ownsRow B 3 1 (.slice ar n cr) n (ints X))
    (hb : Below B0 w0 w) (hB0 : B0 ≤ B) (hBw : B ≤ w.heap.size) (hs : act.eval s = .slice ar n cr) (hx : act.eval x = .slice (some ⟨w.heap.size, 0, none⟩) 1 cx) (hN : n + 1 ≤ 17592186044416)
    (h : ∀ a' c' w', OwnC w' B a k c rs vs m → ApartA rs a' → w'.ownsRow B 3 1 (.slice a' (n + 1) c') (n + 1) (ints (X ++ [y])) → Below B0 w0 w' → wpList Try.prog ops Q rest (act.put o.dst (.slice a' (n + 1) c')) w') :
    wpList Try.prog ops Q (o :: rest) act (w.alloc (.cells #[.int .i64 y] 3)) := by
  refine append1g Try.infoI s x hgd ho hrow (World.grownBy.refl w _) hBw hs hx rfl (by intro u hu; simp at hu; subst hu; rfl) (by omega) ?_
  intro a' c' w' h1 h2 h3
  refine h a' c' w' (hM.kept_row hap hrow h2) (hap.grown hM.2.2.2.2.2.1 (by rw [hM.1, hM.2.1]) h3) (by rw [ints_append]; exact h1) ?_
  exact hb.grown h2 (by have := hb.size; omega) (fun i hi => by have := (hrow.lt i hi).1; omega)

/-- 'out = append(out, row)', of a row that may be clipped. -/
theorem pushRowC {w0 w : World} {B0 B : Nat} {ops : Array Oper} {rest : List Oper} {o : Oper} {act : Act} {Q : Exit → Act → World → Prop} (s x : Operand) (hgd : o.guard = none)
    (ho : o.op = .call { callee := .builtin .append, args := #[s, x], argTypes := #[23, 23] })
    {a ar : Option Addr} {k c n cr cv cx : Nat} {rs vs : List At} {m : List (List Int)} {X : List Int} (hM : OwnC w B a k c rs vs m) (hap : ApartA rs ar) (hn : X.length = n) (hrow : w.ownsRow B 3 1 (.slice ar n cr) n (ints X)) (hcv : n ≤ cv ∧ cv ≤ cr)
    (hb : Below B0 w0 w) (hB0 : B0 ≤ B) (hBw : B ≤ w.heap.size) (hs : act.eval s = .slice a k c) (hx : act.eval x = .slice (some ⟨w.heap.size, 0, none⟩) 1 cx) (hN : (k + 1) * 24 ≤ 140737488355328)
    (h : ∀ a' c' w', OwnC w' B a' (k + 1) c' (rs ++ [(ar, cr)]) (vs ++ [(ar, cv)]) (m ++ [X]) → Below B0 w0 w' → wpList Try.prog ops Q rest (act.put o.dst (.slice a' (k + 1) c')) w') :
    wpList Try.prog ops Q (o :: rest) act (w.alloc (.cells #[.slice ar n cv] 37)) := by
  subst hn
  have hvl := hM.vlen
  have hsh := own_shape hrow
  obtain ⟨M1, M2, M3, M4, M5, M6, M7⟩ := hM
  refine append1g Try.infoII s x hgd ho M5 (World.grownBy.refl w _) hBw hs hx rfl (by intro u hu; simp at hu; subst hu; rfl) hN ?_
  intro a' c' w' h1 h2 h3
  have hl : rs.length = m.length := by rw [M1, M2]
  refine h a' c' w' ⟨by simp [M1], by simp [M2], by simp [M3], ?_, ?_, ?_, ?_⟩ ?_
  · intro r hr hr'
    by_cases e : r < vs.length
    · have e2 : r < m.length := by omega
      simp only [List.getElem_append_left e, List.getElem_append_left e2]
      exact M4 r e e2
    · have e1 : r = vs.length := by simp at hr; omega
      subst e1
      have f1 : (vs ++ [(ar, cv)])[vs.length]'hr = (ar, cv) := by simp
      have f2 : (m ++ [X])[vs.length]'hr' = X := by simp [hvl, M2]
      rw [f1, f2]
      exact ⟨hcv.1, by show cv ≤ maxLen; omega, fun h0 => by have := hsh.2.2 h0; show cv = 0; omega⟩
  · rw [rowVs_snoc _ _ _ _ (by omega)]; exact h1
  · exact Inn.snoc (Inn.kept_outer M6 M5 h2) hl (own_kept_kind hrow M5 (by decide) h2)
  · exact ApartL.snoc M7 hap
  · exact hb.grown h2 (by have := hb.size; omega) (fun i hi => by have := (M5.lt i hi).1; omega)

/-- The blocks from lo to hi stay as they are. -/
def Stays (lo hi : Nat) (w w' : World) : Prop := ∀ i, lo ≤ i → i < hi → w'.heap[i]? = w.heap[i]?
/-- What marking a datum in the blocks from lo to hi leaves of the rest. -/
def MarkFr (lo hi : Nat) (w w' : World) : Prop := Below lo w w' ∧ ∀ i, i < w.heap.size → i < lo ∨ hi ≤ i → w'.heap[i]? = w.heap[i]?
theorem MarkFr.stays {lo hi l h : Nat} {w w' : World} (hf : MarkFr lo hi w w') (hd : h ≤ lo ∨ hi ≤ l) (hw : h ≤ w.heap.size) : Stays l h w w' :=
  fun i h1 h2 => hf.2 i (by omega) (by omega)
theorem MarkFr.row {w w' : World} {lo hi n c : Nat} {a : Option Addr} (hr : RIn lo hi a) (hB : Below lo w w') (hg : w.grownBy w' (Value.slice a n c).ownBlock) : MarkFr lo hi w w' := by
  refine ⟨hB, fun i hi1 hi2 => hg.block i hi1 ?_⟩
  intro e
  cases ha : a with
  | none => rw [ha] at e; simp [Value.ownBlock] at e
  | some x =>
    rw [ha] at e
    simp only [Value.ownBlock, Option.some.injEq] at e
    have := hr x ha
    omega
theorem own_stays {w w' : World} {B T s n c m lo hi : Nat} {a : Option Addr} {cs : List Value} (h : w.ownsRow B T s (.slice a m c) n cs) (hr : RIn lo hi a) (hs : Stays lo hi w w') : w'.ownsRow B T s (.slice a m c) n cs :=
  own_same h fun x hx => hs _ (hr x hx).1 (hr x hx).2
theorem blk_stays {w w' : World} {b lo hi : Nat} {o : Obj} (h : w.heap[b]? = some o) (hf : MarkFr lo hi w w') (hb : b < lo ∨ hi ≤ b) : w'.heap[b]? = some o := by rw [hf.2 b (blk_lt h) hb]; exact h

/-- A matrix whose blocks lie from lo to hi. -/
def HoldsM (lo hi : Nat) (a : Option Addr) (n : Nat) (m : List (List Int)) (w : World) : Prop := ∃ B co rs vs, lo ≤ B ∧ OwnC w B a n co rs vs m ∧ MIn lo hi a rs
theorem HoldsM.of {w : World} {B lo n co : Nat} {a : Option Addr} {rs vs : List At} {m : List (List Int)} (h : OwnC w B a n co rs vs m) (hB : lo ≤ B) : HoldsM lo w.heap.size a n m w := by
  have hm := h.min
  exact ⟨B, co, rs, vs, hB, h, fun x hx => by have := hm.1 x hx; omega, fun r hr x hx => by have := hm.2 r hr x hx; omega⟩
theorem HoldsM.below {w w' : World} {lo hi n : Nat} {a : Option Addr} {m : List (List Int)} (h : HoldsM lo hi a n m w) (hb : Below w.heap.size w w') : HoldsM lo hi a n m w' := by
  obtain ⟨B, co, rs, vs, h1, h2, h3⟩ := h
  exact ⟨B, co, rs, vs, h1, h2.below hb, h3⟩
theorem HoldsM.stays {w w' : World} {lo hi n : Nat} {a : Option Addr} {m : List (List Int)} (h : HoldsM lo hi a n m w) (hs : Stays lo hi w w') : HoldsM lo hi a n m w' := by
  obtain ⟨B, co, rs, vs, h1, ⟨g1, g2, g3, g4, g5, g6, g7⟩, h3⟩ := h
  refine ⟨B, co, rs, vs, h1, ⟨g1, g2, g3, g4, own_same g5 fun x hx => hs _ (h3.1 x hx).1 (h3.1 x hx).2, fun r hr hr' => own_same (g6 r hr hr') fun x hx => hs _ (h3.2 r hr x hx).1 (h3.2 r hr x hx).2, g7⟩, h3⟩
theorem HoldsM.rdM {w : World} {lo hi n : Nat} {a : Option Addr} {m : List (List Int)} (h : HoldsM lo hi a n m w) : RdM w a m := by
  obtain ⟨B, co, rs, vs, h1, h2, h3⟩ := h
  exact h2.rdM
theorem HoldsM.len {w : World} {lo hi n : Nat} {a : Option Addr} {m : List (List Int)} (h : HoldsM lo hi a n m w) : m.length = n := by
  obtain ⟨B, co, rs, vs, h1, h2, h3⟩ := h
  exact h2.2.1
end Go.Proofs.Ytmlaohohbadgbaa
