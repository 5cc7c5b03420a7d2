
/- Several texts in one: Base, Later, Make. -/
import Derived.WalkKit
import Derived.Lib.Hide
import Derived.Deep.QuietTactic
import Derived.BigQuiet
namespace Go.Proofs.Ytjghcegacgpehaa
open Go.RowKit

/-- 'a' leads to the cells 'cs': for reading. -/
def Rd (w : World) (a : Option Addr) (cs : List Value) : Prop :=
  ∀ j u, cs[j]? = some u → ∃ b off, a = some ⟨b, off, none⟩ ∧ w.cell? ⟨b, off + j, none⟩ = some u

def ints (xs : List Int) : List Value := xs.map (Value.int .i64)
theorem ints_length (xs : List Int) : (ints xs).length = xs.length := by simp [ints]
theorem ints_get (xs : List Int) (k : Nat) (x : Int) (h : xs[k]? = some x) : (ints xs)[k]? = some (.int .i64 x) := by simp [ints, h]
theorem ints_append (xs ys : List Int) : ints (xs ++ ys) = ints xs ++ ints ys := by simp [ints]

theorem Rd.lt {w : World} {b off : Nat} {u : Value} (hc : w.cell? ⟨b, off, none⟩ = some u) : b < w.heap.size := World.block_lt_of_cell? w _ hc

theorem Rd.below {w w' : World} {a : Option Addr} {cs : List Value} (h : Rd w a cs) (hb : Below w.heap.size w w') : Rd w' a cs := by
  intro j u hu
  obtain ⟨b, off, rfl, hc⟩ := h j u hu
  exact ⟨b, off, rfl, (hb.cell (p := ⟨b, off + j, none⟩) (Rd.lt hc)).trans hc⟩

theorem Rd.grown {w w' : World} {a : Option Addr} {cs : List Value} {row : Option Nat} (h : Rd w a cs) (hg : w.grownBy w' row) (hr : ∀ x, a = some x → some x.block ≠ row) : Rd w' a cs := by
  intro j u hu
  obtain ⟨b, off, rfl, hc⟩ := h j u hu
  exact ⟨b, off, rfl, hg.cell hc (by exact hr ⟨b, off, none⟩ rfl)⟩

theorem Rd.nil (w : World) (a : Option Addr) : Rd w a [] := by intro j u hu; simp at hu

/-- The k-th number of a row of numbers. -/
theorem Rd.int {w : World} {a : Option Addr} {xs : List Int} (h : Rd w a (ints xs)) {k : Nat} (hk : k < xs.length) :
    ∃ b off, a = some ⟨b, off, none⟩ ∧ w.cell? ⟨b, off + k, none⟩ = some (.int .i64 (xs[k]'hk)) :=
  h k _ (ints_get xs k _ (by simp [hk]))

theorem own_slice {w : World} {B T s n : Nat} {v : Value} {cs : List Value} (h : w.ownsRow B T s v n cs) : ∃ a c, v = .slice a n c := by
  rcases h.2 with ⟨rfl, rfl⟩ | ⟨g, cap, cur, rfl, _⟩
  · exact ⟨none, 0, rfl⟩
  · exact ⟨_, _, rfl⟩

theorem own_rd {w : World} {B T s n c m : Nat} {a : Option Addr} {cs : List Value} (h : w.ownsRow B T s (.slice a m c) n cs) : Rd w a cs := by
  intro j u hu
  rcases h.2 with ⟨h1, h2⟩ | ⟨g, cap, cur, h1, hb, hg, hn, hc, hs, ht⟩
  · have := h.1
    have hj := (List.getElem?_eq_some_iff.1 hu).1
    subst h2
    omega
  · cases h1
    refine ⟨g, 0, rfl, ?_⟩
    have hj := (List.getElem?_eq_some_iff.1 hu).1
    rw [Nat.zero_add, h.cellAt j (by rw [← h.1]; exact hj)]
    exact hu

theorem own_below {w w' : World} {B T s n : Nat} {v : Value} {cs : List Value} (h : w.ownsRow B T s v n cs) (hb : Below w.heap.size w w') : w'.ownsRow B T s v n cs := by
  refine ⟨h.1, ?_⟩
  rcases h.2 with h0 | ⟨g, cap, cur, hv, hB, hg, r⟩
  · exact .inl h0
  · exact .inr ⟨g, cap, cur, hv, hB, by rw [hb.block g (Array.getElem?_eq_some_iff.1 hg).1]; exact hg, r⟩

theorem own_mono {w : World} {B B' T s n : Nat} {v : Value} {cs : List Value} (h : w.ownsRow B T s v n cs) (hB : B' ≤ B) : w.ownsRow B' T s v n cs := by
  refine ⟨h.1, ?_⟩
  rcases h.2 with h0 | ⟨g, cap, cur, hv, hB', r⟩
  · exact .inl h0
  · exact .inr ⟨g, cap, cur, hv, by omega, r⟩

/-- The first part of an owned row. -/
theorem own_prefix {w : World} {B T n m c : Nat} {a : Option Addr} {cs : List Value} (h : w.ownsRow B T 1 (.slice a n c) n cs) (hm : m ≤ n) : w.ownsRow B T 1 (.slice a m c) m (cs.take m) := by
  refine ⟨?_, ?_⟩
  · have := h.1
    simp; omega
  · rcases h.2 with ⟨h1, h2⟩ | ⟨g, cap, cur, h1, hB, hg, hn, hc, hs, ht⟩
    · have hm0 : m = 0 := by omega
      cases h1
      exact .inl ⟨by rw [hm0], hm0⟩
    · cases h1
      refine .inr ⟨g, c, cur, rfl, hB, hg, by omega, hc, hs, ?_⟩
      rw [← ht, List.take_take]
      congr 1
      omega

theorem own_lt {w : World} {B T s n c m : Nat} {a : Option Addr} {cs : List Value} (h : w.ownsRow B T s (.slice a m c) n cs) : ∀ x, a = some x → B ≤ x.block ∧ x.block < w.heap.size := by
  intro x hx
  subst hx
  exact h.lt x.block rfl

theorem below_grown {w w' : World} {row : Option Nat} {B : Nat} (hg : w.grownBy w' row) (hB : B ≤ w.heap.size) (hr : ∀ k, row = some k → B ≤ k) : Below B w w' :=
  (Below.refl B w).grown hg hB hr

theorem grown_none_below {w w' : World} (hg : w.grownBy w' none) : Below w.heap.size w w' := below_grown hg (Nat.le_refl _) (by simp)

theorem own_some {w : World} {B T s n g c : Nat} {cs : List Value} (h : w.ownsRow B T s (.slice (some ⟨g, 0, none⟩) n c) n cs) (k : Nat) (hk : k < n * s) : ∃ v, w.cell? ⟨g, k, none⟩ = some v := by
  rw [h.cellAt k hk]
  exact ⟨_, List.getElem?_eq_getElem (by rw [h.1]; exact hk)⟩

/-- An owned slice that is not empty leads to the head of a block. -/
theorem own_head {w : World} {B T s n c : Nat} {a : Option Addr} {cs : List Value} (h : w.ownsRow B T s (.slice a n c) n cs) (hn : 0 < n) : ∃ g, a = some ⟨g, 0, none⟩ ∧ B ≤ g ∧ g < w.heap.size := by
  rcases h.2 with ⟨h1, h2⟩ | ⟨g, cap, cur, h1, hB, hg, _⟩
  · omega
  · cases h1
    exact ⟨g, rfl, hB, (Array.getElem?_eq_some_iff.1 hg).1⟩

/-- An owned slice: nil, or the head of a block. -/
theorem own_cases {w : World} {B T s n c : Nat} {a : Option Addr} {cs : List Value} (h : w.ownsRow B T s (.slice a n c) n cs) : (a = none ∧ n = 0 ∧ c = 0) ∨ ∃ g, a = some ⟨g, 0, none⟩ ∧ B ≤ g ∧ g < w.heap.size := by
  rcases h.2 with ⟨h1, h2⟩ | ⟨g, cap, cur, h1, hB, hg, _⟩
  · cases h1
    exact .inl ⟨rfl, rfl, rfl⟩
  · cases h1
    exact .inr ⟨g, rfl, hB, (Array.getElem?_eq_some_iff.1 hg).1⟩

/-- A call of function K goes into its body. -/
def Enters (P : Program) (K : Nat) : Prop := ∀ args w, (callFunc K args).run P w = .ok (.enter K args) w

theorem enters {P : Program} {f : FuncId} {fn : Func} {c : Code} (hf : P.funcs[f]? = some fn) (hname : (fn.name == "runtime.NumGoroutine") = false) (hb : fn.body = some c) : Enters P f := by
  intro args w
  have h1 : fn.name ≠ "runtime.NumGoroutine" := by simpa using hname
  simp [callFunc, hf, h1, hb]

theorem below_tr {w w1 w2 : World} {B : Nat} (h : Below B w w1) (k : Below w1.heap.size w1 w2) (hB : B ≤ w.heap.size) : Below B w w2 := h.trans (k.mono (Nat.le_trans hB h.size))
theorem below_tr' {w w1 w2 : World} (h : Below w.heap.size w w1) (k : Below w1.heap.size w1 w2) : Below w.heap.size w w2 := h.trans (k.mono h.size)
theorem below_alloc (w : World) (o : Obj) : Below w.heap.size w (w.alloc o) := (Below.refl _ _).alloc (Nat.le_refl _) _
theorem below_alloc2 (w : World) (o o' : Obj) : Below w.heap.size w ((w.alloc o).alloc o') := below_tr' (below_alloc w o) (below_alloc _ o')
/-- The one cell of a block that was just laid, in a later world. -/
theorem cell_new {w w' : World} (v : Value) (T : TypeId) (hb : Below (w.alloc (.cells #[v] T)).heap.size (w.alloc (.cells #[v] T)) w') : w'.cell? ⟨w.heap.size, 0, none⟩ = some v := by
  rw [hb.cell (p := ⟨w.heap.size, 0, none⟩) (by simp), World.cell?_alloc_at _ _ _ _ rfl]; rfl
theorem cell_new2 {w w' : World} (v : Value) (T : TypeId) (o : Obj) (hb : Below ((w.alloc (.cells #[v] T)).alloc o).heap.size ((w.alloc (.cells #[v] T)).alloc o) w') : w'.cell? ⟨w.heap.size, 0, none⟩ = some v := by
  rw [hb.cell (p := ⟨w.heap.size, 0, none⟩) (by simp; omega), World.cell?_alloc_past _ _ _ (by simp), World.cell?_alloc_at _ _ _ _ rfl]; rfl

theorem bel_drewN {B : Nat} {w w' : World} (h : Below B w w') (q : Nat) : Below B w (w'.drewN q) := ⟨h.os, h.tape, h.output, h.size, h.block⟩
theorem bel_drew {B : Nat} {w w' : World} (h : Below B w w') : Below B w w'.drew := ⟨h.os, h.tape, h.output, h.size, h.block⟩

theorem quiet_below {P : Program} {f : FuncId} {args : Array Value} {w : World} {v : Ending} (h : Calls P f args w fun e w' => e = v ∧ ∃ q, w' = w.drewN q) : Calls P f args w fun e w' => e = v ∧ Below w.heap.size w w' :=
  h.mono fun _ _ ⟨h1, q, h2⟩ => ⟨h1, by rw [h2]; exact bel_drewN (Below.refl _ _) q⟩
theorem same_below {P : Program} {f : FuncId} {args : Array Value} {w : World} {v : Ending} (h : Calls P f args w fun e w' => e = v ∧ w' = w) : Calls P f args w fun e w' => e = v ∧ Below w.heap.size w w' :=
  h.mono fun _ _ ⟨h1, h2⟩ => ⟨h1, by rw [h2]; exact Below.refl _ _⟩

/-- What an append law asks of a slice type t over elements e. -/
structure Info (P : Program) (t e : TypeId) (z : Value) (size bytes : Nat) : Prop where
  und : P.underlying t = some (.slice e)
  row : (P.info? e).map (fun i => (i.zero, i.size, i.bytes)) = some (some z, size, bytes)
  zs : z.cells.size = size
  pos : 0 < size
  bpos : 0 < bytes

theorem cells_new (w : World) (arr : Array Value) (e : TypeId) : ∀ j u, arr.toList[j]? = some u → (w.alloc (.cells arr e)).cell? ((⟨w.heap.size, 0, none⟩ : Addr).add j) = some u := by
  intro j u hu
  rw [Addr.add_lit, World.cell?_alloc_at _ _ _ _ rfl]
  simpa using hu

/-- 'append(s, x)': one element, laid in a new block just before, goes behind an owned row. -/
theorem append1 {P : Program} {t e : TypeId} {z : Value} {size bytes : Nat} (I : Info P t e z size bytes) {w0 w : World} {B0 B : Nat} {arr : Array Value}
    {ops : Array Oper} {rest : List Oper} {o : Oper} {a : Act} {Q : Exit → Act → World → Prop} (s x : Operand) (hgd : o.guard = none)
    (ho : o.op = .call { callee := .builtin .append, args := #[s, x], argTypes := #[t, t] })
    {a0 : Option Addr} {n c cx : Nat} {xs : List Value} (hown : w.ownsRow B e size (.slice a0 n c) n xs) (hb : Below B0 w0 w) (hB : B0 ≤ B) (hBw : B ≤ w.heap.size)
    (hs : a.eval s = .slice a0 n c) (hx : a.eval x = .slice (some ⟨w.heap.size, 0, none⟩) 1 cx) (harr : arr.size = size) (h1 : ∀ u ∈ arr.toList, u.oneCell' = true)
    (hN : (n + 1) * bytes ≤ 140737488355328)
    (h : ∀ a' c' w', w'.ownsRow B e size (.slice a' (n + 1) c') (n + 1) (xs ++ arr.toList) → Below B0 w0 w' → wpList P ops Q rest (a.put o.dst (.slice a' (n + 1) c')) w') :
    wpList P ops Q (o :: rest) a (w.alloc (.cells arr e)) := by
  obtain ⟨i, hi, hz0, hz1, hz2⟩ := info_parts I.row
  have hm : n + 1 ≤ maxLen := by
    have : n + 1 ≤ (n + 1) * bytes := Nat.le_mul_of_pos_right _ I.bpos
    unfold maxLen; omega
  refine wpList_append_own _ hgd s x t ho B e i z size bytes I.und hi hz0 hz1 hz2 I.zs I.pos _ n xs hs (hown.alloc _) ⟨w.heap.size, 0, none⟩ 1 cx arr.toList hx (by simp [harr]) (cells_new w arr e) h1 hm hN (by simp; omega) ?_
  intro v' w' hown' hg _
  obtain ⟨a', c', rfl⟩ := own_slice hown'
  refine h a' c' w' hown' ?_
  refine (hb.alloc (by have := hb.size; omega) _).grown hg (by simp; omega) ?_
  intro k hk
  cases a0 with
  | none => simp [Value.ownBlock] at hk
  | some y =>
    simp only [Value.ownBlock, Option.some.injEq] at hk
    have := (own_lt hown y rfl).1
    omega

/-- The same for a row of numbers. -/
theorem appendI {P : Program} {t e : TypeId} (I : Info P t e (.int .i64 0) 1 8) {w0 w : World} {B0 B : Nat} {y : Int}
    {ops : Array Oper} {rest : List Oper} {o : Oper} {a : Act} {Q : Exit → Act → World → Prop} (s x : Operand) (hgd : o.guard = none)
    (ho : o.op = .call { callee := .builtin .append, args := #[s, x], argTypes := #[t, t] })
    {a0 : Option Addr} {n c cx : Nat} {xs : List Int} (hown : w.ownsRow B e 1 (.slice a0 n c) n (ints xs)) (hb : Below B0 w0 w) (hB : B0 ≤ B) (hBw : B ≤ w.heap.size)
    (hs : a.eval s = .slice a0 n c) (hx : a.eval x = .slice (some ⟨w.heap.size, 0, none⟩) 1 cx) (hN : n + 1 ≤ 17592186044416)
    (h : ∀ a' c' w', w'.ownsRow B e 1 (.slice a' (n + 1) c') (n + 1) (ints (xs ++ [y])) → Below B0 w0 w' → wpList P ops Q rest (a.put o.dst (.slice a' (n + 1) c')) w') :
    wpList P ops Q (o :: rest) a (w.alloc (.cells #[.int .i64 y] e)) :=
  append1 I s x hgd ho hown hb hB hBw hs hx rfl (by intro u hu; simp at hu; subst hu; rfl) (by omega) (fun a' c' w' h1 h2 => h a' c' w' (by rw [ints_append]; exact h1) h2)

/-- A world in which all that lay at w lies as it did. -/
structure Later (w : World) where
  val : World
  ok : Below w.heap.size w val

instance laterNonempty (w : World) : Nonempty (Later w) := ⟨⟨w, Below.refl _ _⟩⟩

theorem wp_region_later {P : Program} {id : Nat} {Q : Exit → Act → World → Prop} {a : Act} {w : World} {l : List Oper} (hm : P.follows .mixedOrders = true) (hB : Region.lexB .any l.toArray = true)
    (h : wpQuiet P l.toArray (fun w' => ∃ u : Later w, w' = u.val) (fun a' => ∀ w', (∃ u : Later w, w' = u.val) → Q .normal a' w') l a) : (Code.region id l.toArray true).wp P Q a w :=
  wp_region_quiet (C := fun w' => ∃ u : Later w, w' = u.val) hm hB ⟨⟨_, bel_drew (Below.refl _ w)⟩, rfl⟩ (by simpa using h)

theorem calls_later {P : Program} {f : FuncId} {args : Array Value} {w : World} {v : Value} (u : Later w)
    (h : Calls P f args u.val fun e w' => e = .returned v ∧ Below u.val.heap.size u.val w') : Calls P f args u.val fun e w'' => e = .returned v ∧ ∃ u' : Later w, w'' = u'.val :=
  h.mono fun _ w' ⟨h1, h2⟩ => ⟨h1, ⟨w', below_tr' u.ok h2⟩, rfl⟩

theorem later_cell {w : World} {b o : Nat} {v : Value} (h : w.cell? ⟨b, o, none⟩ = some v) : ∀ u : Later w, u.val.cell? ⟨b, o, none⟩ = some v :=
  fun u => (u.ok.cell (p := ⟨b, o, none⟩) (Rd.lt h)).trans h

theorem later_below {w w' : World} (h : ∃ u : Later w, w' = u.val) : Below w.heap.size w w' := by
  obtain ⟨u, rfl⟩ := h; exact u.ok

theorem makeN {P : Program} {t e : TypeId} {z : Value} {bytes : Nat} (I : Info P t e z 1 bytes) {w : World}
    {ops : Array Oper} {rest : List Oper} {o : Oper} {a : Act} {Q : Exit → Act → World → Prop} (l c : Operand) (hgd : o.guard = none) (ho : o.op = Op.makeSlice t l c)
    {kl kc : IntKind} {L C : Int} {n : Nat} (hl : a.eval l = .int kl L) (hc : a.eval c = .int kc C) (hL : L = (n : Int)) (hC : C = (n : Int)) (hN : bytes * n ≤ 281474976710656) (hz : z.cells = #[z])
    (h : ∀ w', w'.ownsRow w.heap.size e 1 (.slice (some ⟨w.heap.size, 0, none⟩) n n) n (List.replicate n z) → Below w.heap.size w w' → wpList P ops Q rest (a.put o.dst (.slice (some ⟨w.heap.size, 0, none⟩) n n)) w') :
    wpList P ops Q (o :: rest) a w := by
  obtain ⟨i, hi, hz0, hz1, hz2⟩ := info_parts I.row
  have hm : n ≤ maxLen := by
    have : n ≤ bytes * n := Nat.le_mul_of_pos_left _ I.bpos
    unfold maxLen; omega
  refine wpList_make_full w hgd l c t ho w.heap.size e i z 1 I.und hi hz0 hz1 kl kc L C n hl hc hL hC (by rw [hz2]; exact hN) hm (Nat.le_refl _) ?_
  intro w' h1 h2
  refine h w' ?_ (grown_none_below h2)
  have e1 : (madeCells z.cells (n * 1)).toList = List.replicate n z := by
    rw [Nat.mul_one, hz, toList_madeCells_one]
  rw [← e1]; exact h1

theorem makeI {P : Program} {t e : TypeId} (I : Info P t e (.int .i64 0) 1 8) {w : World}
    {ops : Array Oper} {rest : List Oper} {o : Oper} {a : Act} {Q : Exit → Act → World → Prop} (l c : Operand) (hgd : o.guard = none) (ho : o.op = Op.makeSlice t l c)
    {kl kc : IntKind} {L C : Int} {n : Nat} (hl : a.eval l = .int kl L) (hc : a.eval c = .int kc C) (hL : L = (n : Int)) (hC : C = (n : Int)) (hN : n ≤ 17592186044416)
    (h : ∀ w', w'.ownsRow w.heap.size e 1 (.slice (some ⟨w.heap.size, 0, none⟩) n n) n (ints (List.replicate n 0)) → Below w.heap.size w w' → wpList P ops Q rest (a.put o.dst (.slice (some ⟨w.heap.size, 0, none⟩) n n)) w') :
    wpList P ops Q (o :: rest) a w := by
  obtain ⟨i, hi, hz0, hz1, hz2⟩ := info_parts I.row
  refine wpList_make_full w hgd l c t ho w.heap.size e i (.int .i64 0) 1 I.und hi hz0 hz1 kl kc L C n hl hc hL hC (by rw [hz2]; omega) (by unfold maxLen; omega) (Nat.le_refl _) ?_
  intro w' h1 h2
  refine h w' ?_ (grown_none_below h2)
  have e1 : (madeCells (Value.int .i64 0).cells (n * 1)).toList = ints (List.replicate n 0) := by
    rw [Nat.mul_one]
    show (madeCells #[Value.int .i64 0] n).toList = _
    rw [toList_madeCells_one]; simp [ints]
  rw [← e1]; exact h1

def Apart (a a2 : Option Addr) : Prop := ∀ x y, a = some x → a2 = some y → x.block ≠ y.block
theorem Apart.symm {a a2 : Option Addr} (h : Apart a a2) : Apart a2 a := fun x y h1 h2 => (h y x h2 h1).symm
/-- What was owned before lies apart from what is owned from here on. -/
theorem apart_of {w w' : World} {B T s n c m T2 s2 n2 c2 m2 : Nat} {a a2 : Option Addr} {cs cs2 : List Value} (h : w.ownsRow B T s (.slice a n c) m cs) (h2 : w'.ownsRow w.heap.size T2 s2 (.slice a2 n2 c2) m2 cs2) : Apart a a2 := by
  intro x y h3 h4
  have h5 := own_lt h x h3
  have h6 := own_lt h2 y h4
  omega

theorem own_kept {w w' : World} {B T s n c m n2 c2 : Nat} {a a2 : Option Addr} {cs : List Value} (h : w.ownsRow B T s (.slice a n c) m cs) (hg : w.grownBy w' (Value.slice a2 n2 c2).ownBlock) (hd : Apart a a2) : w'.ownsRow B T s (.slice a n c) m cs := by
  refine h.kept hg ?_
  cases a with
  | none => exact .inl rfl
  | some x =>
    refine .inr ?_
    cases a2 with
    | none => simp [Value.ownBlock]
    | some y => simpa [Value.ownBlock] using hd x y rfl rfl

theorem below_mark {w w1 w' : World} {B B' T s n c m : Nat} {a : Option Addr} {cs : List Value} (hb : Below B w w1) (ho : w1.ownsRow B' T s (.slice a n c) m cs) (hB : B ≤ w.heap.size) (hB' : B ≤ B') (hg : w1.grownBy w' (Value.slice a n c).ownBlock) : Below B w w' := by
  refine hb.grown hg (Nat.le_trans hB hb.size) ?_
  intro k hk
  cases a with
  | none => simp [Value.ownBlock] at hk
  | some x =>
    simp only [Value.ownBlock, Option.some.injEq] at hk
    have := (own_lt ho x rfl).1
    omega

end Go.Proofs.Ytjghcegacgpehaa
