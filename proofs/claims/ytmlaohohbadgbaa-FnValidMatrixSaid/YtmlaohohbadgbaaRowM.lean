
/- Rows of rows that are made: an outer row that grows by append, or is filled from the front; inner rows apart from each other. -/
import Derived.Test.YtmlaohohbadgbaaMatL2
namespace Go.Proofs.Ytmlaohohbadgbaa
open Go.RowKit

/-- The inner rows are owned. -/
def Inn (w : World) (B : Nat) (rs : List At) (m : List (List Int)) : Prop :=
  ∀ r (h : r < rs.length) (h' : r < m.length), w.ownsRow B 3 1 (.slice (rs[r]'h).1 (m[r]'(h')).length (rs[r]'h).2) (m[r]'(h')).length (ints (m[r]'(h')))
def ApartL (rs : List At) : Prop := ∀ r s (h : r < s) (hs : s < rs.length), Apart (rs[r]'(by omega)).1 (rs[s]'hs).1
def ApartA (rs : List At) (a : Option Addr) : Prop := ∀ r (h : r < rs.length), Apart (rs[r]'h).1 a

theorem ownM_iff {w : World} {B n c : Nat} {a : Option Addr} {rs : List At} {m : List (List Int)} :
    OwnM w B a n c rs m ↔ rs.length = n ∧ m.length = n ∧ w.ownsRow B 37 1 (.slice a n c) n (rowVs rs m) ∧ Inn w B rs m ∧ ApartL rs := Iff.rfl

theorem Inn.below {w w' : World} {B : Nat} {rs : List At} {m : List (List Int)} (h : Inn w B rs m) (hb : Below w.heap.size w w') : Inn w' B rs m := fun r h1 h2 => own_below (h r h1 h2) hb
theorem Inn.nil (w : World) (B : Nat) : Inn w B [] [] := by intro r h; simp at h
theorem ApartL.nil : ApartL [] := by intro r s h hs; simp at hs
theorem ApartA.nil (a : Option Addr) : ApartA [] a := by intro r h; simp at h
theorem Inn.snoc {w : World} {B : Nat} {rs : List At} {m : List (List Int)} {r : At} {X : List Int} (h : Inn w B rs m) (hl : rs.length = m.length) (ho : w.ownsRow B 3 1 (.slice r.1 X.length r.2) X.length (ints X)) : Inn w B (rs ++ [r]) (m ++ [X]) := by
  intro i h1 h2
  by_cases e : i < rs.length
  · have e2 : i < m.length := by omega
    have := h i e e2
    simp only [List.getElem_append_left e, List.getElem_append_left e2]
    exact this
  · have e1 : i = rs.length := by simp at h1; omega
    subst e1
    have f1 : (rs ++ [r])[rs.length]'h1 = r := by simp
    have f2 : (m ++ [X])[rs.length]'h2 = X := by simp [hl]
    rw [f1, f2]
    exact ho
theorem ApartL.snoc {rs : List At} {r : At} (h : ApartL rs) (ha : ApartA rs r.1) : ApartL (rs ++ [r]) := by
  intro i j hij hj
  by_cases e : j < rs.length
  · rw [List.getElem_append_left e, List.getElem_append_left (by omega)]
    exact h i j hij e
  · have e1 : j = rs.length := by simp at hj; omega
    subst e1
    have f1 : (rs ++ [r])[rs.length]'hj = r := by simp
    rw [f1, List.getElem_append_left hij]
    exact ha i hij

theorem own_kept_kind {w w' : World} {B T s n c m B' T' s' n' c' : Nat} {a a' : Option Addr} {cs cs' : List Value} (h : w.ownsRow B T s (.slice a m c) n cs) (h' : w.ownsRow B' T' s' (.slice a' n' c') n' cs') (hT : T ≠ T')
    (hg : w.grownBy w' (Value.slice a' n' c').ownBlock) : w'.ownsRow B T s (.slice a m c) n cs := by
  refine h.kept hg ?_
  rcases own_cases h' with ⟨rfl, _, _⟩ | ⟨g, rfl, _, _⟩
  · cases hv : (Value.slice a m c).ownBlock
    · exact .inl rfl
    · exact .inr (by simp [Value.ownBlock])
  · exact .inr (Ne.symm (own_kinds h h' hT))

theorem Inn.kept_outer {w w' : World} {B B' n' c' : Nat} {rs : List At} {m : List (List Int)} {a' : Option Addr} {cs' : List Value} (h : Inn w B rs m) (h' : w.ownsRow B' 37 1 (.slice a' n' c') n' cs') (hg : w.grownBy w' (Value.slice a' n' c').ownBlock) : Inn w' B rs m :=
  fun r h1 h2 => own_kept_kind (h r h1 h2) h' (by decide) hg
theorem Inn.kept_row {w w' : World} {B n' c' : Nat} {rs : List At} {m : List (List Int)} {a' : Option Addr} (h : Inn w B rs m) (ha : ApartA rs a') (hg : w.grownBy w' (Value.slice a' n' c').ownBlock) : Inn w' B rs m :=
  fun r h1 h2 => own_kept (h r h1 h2) hg (ha r h1)

/-- A row beside goes on growing: the matrix stays. -/
theorem OwnM.kept_row {w w' : World} {B n c n' c' : Nat} {a a' : Option Addr} {rs : List At} {m : List (List Int)} {cs' : List Value} (h : OwnM w B a n c rs m) (ha : ApartA rs a') (ho : w.ownsRow B 3 1 (.slice a' n' c') n' cs') (hg : w.grownBy w' (Value.slice a' n' c').ownBlock) : OwnM w' B a n c rs m :=
  ⟨h.1, h.2.1, own_kept_kind h.2.2.1 ho (by decide) hg, Inn.kept_row h.2.2.2.1 ha hg, h.2.2.2.2⟩

theorem ApartA.grown {w : World} {B : Nat} {rs : List At} {m : List (List Int)} {a a' : Option Addr} {n c : Nat} (ha : ApartA rs a) (hI : Inn w B rs m) (hl : rs.length = m.length) (hf : ∀ x, a' = some x → (Value.slice a n c).ownBlock = some x.block ∨ w.heap.size ≤ x.block) : ApartA rs a' :=
  fun r h => apart_append (ha r h) (fun x hx => (own_lt (hI r h (by omega)) x hx).2) hf

theorem ApartA.fresh {w : World} {B : Nat} {rs : List At} {m : List (List Int)} {a' : Option Addr} (hI : Inn w B rs m) (hl : rs.length = m.length) (hf : ∀ x, a' = some x → w.heap.size ≤ x.block) : ApartA rs a' := by
  intro r h x y hx hy
  have h1 := (own_lt (hI r h (by omega)) x hx).2
  have h2 := hf y hy
  omega

theorem ownM_nil (w : World) : OwnM (w.alloc (.cells #[] 37)) w.heap.size (some ⟨w.heap.size, 0, none⟩) 0 0 [] [] :=
  ⟨rfl, rfl, by simpa [rowVs] using World.ownsRow_made (e := 37) (size := 1) w #[] 0 (Nat.le_refl w.heap.size) (by decide) rfl, Inn.nil _ _, ApartL.nil⟩
theorem ownM_none (w : World) (B : Nat) : OwnM w B none 0 0 [] [] :=
  ⟨rfl, rfl, World.ownsRow_nil _ _ _ _, Inn.nil _ _, ApartL.nil⟩

/-- 'row = append(row, y)' beside a matrix. -/
theorem appendRow {w0 w : World} {B0 B : Nat} {y : Int} {ops : Array Oper} {rest : List Oper} {o : Oper} {act : Act} {Q : Exit → Act → World → Prop} (s x : Operand) (hgd : o.guard = none)
    (ho : o.op = .call { callee := .builtin .append, args := #[s, x], argTypes := #[37, 37] })
    {a ar : Option Addr} {k c n cr cx : Nat} {rs : List At} {m : List (List Int)} {X : List Int} (hM : OwnM w B a k c rs m) (hap : ApartA rs ar) (hrow : w.ownsRow B 3 1 (.slice ar n cr) n (ints X))
    (hb : Below B0 w0 w) (hB0 : B0 ≤ B) (hBw : B ≤ w.heap.size) (hs : act.eval s = .slice ar n cr) (hx : act.eval x = .slice (some ⟨w.heap.size, 0, none⟩) 1 cx) (hN : n + 1 ≤ 17592186044416)
    (h : ∀ a' c' w', OwnM w' B a k c rs m → ApartA rs a' → w'.ownsRow B 3 1 (.slice a' (n + 1) c') (n + 1) (ints (X ++ [y])) → Below B0 w0 w' → wpList Try.prog ops Q rest (act.put o.dst (.slice a' (n + 1) c')) w') :
    wpList Try.prog ops Q (o :: rest) act (w.alloc (.cells #[.int .i64 y] 3)) := by
  refine append1g Try.infoI s x hgd ho hrow (World.grownBy.refl w _) hBw hs hx rfl (by intro u hu; simp at hu; subst hu; rfl) (by omega) ?_
  intro a' c' w' h1 h2 h3
  refine h a' c' w' (hM.kept_row hap hrow h2) (hap.grown hM.2.2.2.1 (by rw [hM.1, hM.2.1]) h3) (by rw [ints_append]; exact h1) ?_
  exact hb.grown h2 (by have := hb.size; omega) (fun i hi => by have := (hrow.lt i hi).1; omega)

/-- 'out = append(out, row)'. -/
theorem pushRow {w0 w : World} {B0 B : Nat} {ops : Array Oper} {rest : List Oper} {o : Oper} {act : Act} {Q : Exit → Act → World → Prop} (s x : Operand) (hgd : o.guard = none)
    (ho : o.op = .call { callee := .builtin .append, args := #[s, x], argTypes := #[23, 23] })
    {a ar : Option Addr} {k c n cr cx : Nat} {rs : List At} {m : List (List Int)} {X : List Int} (hM : OwnM w B a k c rs m) (hap : ApartA rs ar) (hn : X.length = n) (hrow : w.ownsRow B 3 1 (.slice ar n cr) n (ints X))
    (hb : Below B0 w0 w) (hB0 : B0 ≤ B) (hBw : B ≤ w.heap.size) (hs : act.eval s = .slice a k c) (hx : act.eval x = .slice (some ⟨w.heap.size, 0, none⟩) 1 cx) (hN : (k + 1) * 24 ≤ 140737488355328)
    (h : ∀ a' c' w', OwnM w' B a' (k + 1) c' (rs ++ [(ar, cr)]) (m ++ [X]) → Below B0 w0 w' → wpList Try.prog ops Q rest (act.put o.dst (.slice a' (k + 1) c')) w') :
    wpList Try.prog ops Q (o :: rest) act (w.alloc (.cells #[.slice ar n cr] 37)) := by
  subst hn
  refine append1g Try.infoII s x hgd ho hM.2.2.1 (World.grownBy.refl w _) hBw hs hx rfl (by intro u hu; simp at hu; subst hu; rfl) hN ?_
  intro a' c' w' h1 h2 h3
  have hl : rs.length = m.length := by rw [hM.1, hM.2.1]
  refine h a' c' w' ⟨by simp [hM.1], by simp [hM.2.1], ?_, ?_, ?_⟩ ?_
  · rw [rowVs_snoc _ _ _ _ hl]; exact h1
  · exact Inn.snoc (Inn.kept_outer hM.2.2.2.1 hM.2.2.1 h2) hl (own_kept_kind hrow hM.2.2.1 (by decide) h2)
  · exact ApartL.snoc hM.2.2.2.2 hap
  · exact hb.grown h2 (by have := hb.size; omega) (fun i hi => by have := (hM.2.2.1.lt i hi).1; omega)

/-- The first rows of an outer row of n cells are filled. -/
def PartM (w : World) (B g n : Nat) (rs : List At) (m : List (List Int)) : Prop :=
  rs.length = m.length ∧ m.length ≤ n ∧ w.ownsRow B 37 1 (.slice (some ⟨g, 0, none⟩) n n) n (rowVs rs m ++ List.replicate (n - m.length) (Value.slice none 0 0)) ∧ Inn w B rs m ∧ ApartL rs

theorem PartM.start {w : World} {B g n : Nat} (h : w.ownsRow B 37 1 (.slice (some ⟨g, 0, none⟩) n n) n (List.replicate n (Value.slice none 0 0))) : PartM w B g n [] [] :=
  ⟨rfl, by simp, by simpa [rowVs] using h, Inn.nil _ _, ApartL.nil⟩
theorem PartM.below {w w' : World} {B g n : Nat} {rs : List At} {m : List (List Int)} (h : PartM w B g n rs m) (hb : Below w.heap.size w w') : PartM w' B g n rs m :=
  ⟨h.1, h.2.1, own_below h.2.2.1 hb, Inn.below h.2.2.2.1 hb, h.2.2.2.2⟩
theorem PartM.fin {w : World} {B g n : Nat} {rs : List At} {m : List (List Int)} (h : PartM w B g n rs m) (hn : m.length = n) : OwnM w B (some ⟨g, 0, none⟩) n n rs m := by
  refine ⟨by rw [h.1, hn], hn, ?_, h.2.2.2⟩
  have := h.2.2.1
  rw [hn, Nat.sub_self] at this
  simpa using this
theorem PartM.of {w : World} {B g n : Nat} {rs : List At} {m : List (List Int)} (h : OwnM w B (some ⟨g, 0, none⟩) n n rs m) : PartM w B g n rs m := by
  refine ⟨by rw [h.1, h.2.1], by rw [h.2.1]; exact Nat.le_refl _, ?_, h.2.2.2⟩
  rw [h.2.1, Nat.sub_self]
  simpa using h.2.2.1

/-- A new row goes to the next place. -/
theorem PartM.fill {w : World} {B g n len c : Nat} {ar : Option Addr} {rs : List At} {m : List (List Int)} {X : List Int} (h : PartM w B g n rs m) (hlt : m.length < n) (hap : ApartA rs ar) (hn : X.length = len) (hrow : w.ownsRow B 3 1 (.slice ar len c) len (ints X)) :
    PartM (w.setCell ⟨g, m.length, none⟩ (.slice ar len c)) B g n (rs ++ [(ar, c)]) (m ++ [X]) := by
  subst hn
  obtain ⟨h1, h2, h3, h4, h5⟩ := h
  have hs := h3.stored m.length (.slice ar X.length c)
  have hg : w.grownBy (w.setCell ⟨g, m.length, none⟩ (.slice ar X.length c)) (Value.slice (some ⟨g, 0, none⟩) n n).ownBlock := hs.2
  refine ⟨by simp [h1], by simp; omega, ?_, Inn.snoc (Inn.kept_outer h4 h3 hg) h1 (own_kept_kind hrow h3 (by decide) hg), ApartL.snoc h5 hap⟩
  have e : (rowVs rs m ++ List.replicate (n - m.length) (Value.slice none 0 0)).set m.length (.slice ar X.length c) = rowVs (rs ++ [(ar, c)]) (m ++ [X]) ++ List.replicate (n - (m ++ [X]).length) (Value.slice none 0 0) := by
    have hl : (rowVs rs m).length = m.length := rowVs_length _ _ h1
    rw [rowVs_snoc _ _ _ _ h1, List.set_append_right _ _ (by omega), hl, Nat.sub_self, show n - m.length = (n - (m.length + 1)) + 1 from by omega, List.replicate_succ, List.set_cons_zero, List.append_assoc]
    simp
  rw [← e]
  exact hs.1

theorem rowVs_set (rs : List At) (m : List (List Int)) (r : Nat) (X : List Int) (h : rs.length = m.length) (hr : r < m.length) (hX : X.length = (m[r]'hr).length) : rowVs rs (m.set r X) = rowVs rs m := by
  apply List.ext_getElem?
  intro i
  by_cases hi : i < m.length
  · rw [rowVs_get rs _ i (by omega) (by simpa using hi), rowVs_get rs m i (by omega) hi]
    by_cases e : r = i
    · subst e; simp [hX]
    · simp [List.getElem_set_ne e]
  · rw [List.getElem?_eq_none (by rw [rowVs_length _ _ (by simpa using h)]; simp; omega), List.getElem?_eq_none (by rw [rowVs_length _ _ h]; omega)]

/-- One number of an inner row is stored. -/
theorem PartM.store {w : World} {B g n r j gr : Nat} {rs : List At} {m : List (List Int)} (h : PartM w B g n rs m) (hr : r < m.length) (hr' : r < rs.length) (hgr : (rs[r]'hr').1 = some ⟨gr, 0, none⟩) (v : Int) :
    PartM (w.setCell ⟨gr, j, none⟩ (.int .i64 v)) B g n rs (m.set r ((m[r]'hr).set j v)) := by
  obtain ⟨h1, h2, h3, h4, h5⟩ := h
  have hrow := h4 r hr' hr
  rw [hgr] at hrow
  have hs := hrow.stored j (.int .i64 v)
  have hg : w.grownBy (w.setCell ⟨gr, j, none⟩ (.int .i64 v)) (Value.slice (some ⟨gr, 0, none⟩) (m[r]'hr).length (rs[r]'hr').2).ownBlock := hs.2
  refine ⟨by simpa using h1, by simpa using h2, ?_, ?_, h5⟩
  · rw [rowVs_set _ _ _ _ h1 hr (by simp), List.length_set]
    exact own_kept_kind h3 hrow (by decide) hg
  · intro i hi hi'
    by_cases e : r = i
    · subst e
      have hh := hs.1
      simp only [List.getElem_set_self, List.length_set]
      rw [hgr]
      have e2 : ints ((m[r]'hr).set j v) = (ints (m[r]'hr)).set j (.int .i64 v) := by simp [ints, List.map_set]
      rw [e2]
      exact hh
    · have hi2 : i < m.length := by simpa using hi'
      simp only [List.getElem_set_ne e]
      refine own_kept (h4 i hi hi2) hg ?_
      rw [← hgr]
      rcases Nat.lt_or_gt_of_ne e with h6 | h6
      · exact (h5 r i h6 hi).symm
      · exact h5 i r h6 hr'

theorem own_head0 {w : World} {B T s n c : Nat} {a : Option Addr} {cs : List Value} (h : w.ownsRow B T s (.slice a n c) n cs) (hn : 0 < n) : ∃ g, a = some ⟨g, 0, none⟩ := by
  obtain ⟨g, h1, _⟩ := own_head h hn; exact ⟨g, h1⟩

def rowF (f : Nat → Int) (n : Nat) : List Int := (List.range n).map f
theorem rowF_length (f : Nat → Int) (n : Nat) : (rowF f n).length = n := by simp [rowF]
theorem rowF_succ (f : Nat → Int) (n : Nat) : rowF f (n + 1) = rowF f n ++ [f n] := by simp [rowF, List.range_succ]
theorem rowF_set (f : Nat → Int) (n k : Nat) (hk : k < n) : (rowF f k ++ List.replicate (n - k) 0).set k (f k) = rowF f (k + 1) ++ List.replicate (n - (k + 1)) 0 := by
  rw [show n - k = (n - (k + 1)) + 1 from by omega, List.replicate_succ, List.set_append_right _ _ (by simp [rowF]), rowF_length, Nat.sub_self, List.set_cons_zero, rowF_succ, List.append_assoc]
  rfl
def tbl (rows cols : Nat) (f : Nat → Nat → Int) : List (List Int) := (List.range rows).map fun i => rowF (f i) cols
theorem tbl_length (rows cols : Nat) (f : Nat → Nat → Int) : (tbl rows cols f).length = rows := by simp [tbl]
theorem tbl_succ (rows cols : Nat) (f : Nat → Nat → Int) : tbl (rows + 1) cols f = tbl rows cols f ++ [rowF (f rows) cols] := by simp [tbl, List.range_succ]
theorem sumLen_snoc (m : List (List Int)) (X : List Int) : sumLen (m ++ [X]) = sumLen m + X.length := by simp [sumLen]
theorem sumLen_tbl (rows cols : Nat) (f : Nat → Nat → Int) : sumLen (tbl rows cols f) = rows * cols := by
  induction rows with
  | zero => simp [tbl, sumLen]
  | succ n ih => rw [tbl_succ, sumLen_snoc, ih, rowF_length, Nat.succ_mul]
theorem tbl_congr {rows cols : Nat} {f g : Nat → Nat → Int} (h : ∀ i k, i < rows → k < cols → f i k = g i k) : tbl rows cols f = tbl rows cols g := by
  unfold tbl rowF
  refine List.map_congr_left fun i hi => List.map_congr_left fun k hk => h i k (List.mem_range.1 hi) (List.mem_range.1 hk)

end Go.Proofs.Ytmlaohohbadgbaa
