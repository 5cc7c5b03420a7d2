
/- All but some blocks stay as they are; rows of natural numbers. (Moved together out of several texts.) -/
import Derived.Test.YtjghcegacgpehaaGrowL
import Derived.Test.YtjghcegacgpehaaMatL2
import Derived.Test.YtjghcegacgpehaaBase
import Derived.Laws.EntriesVeiled
import Derived.Deep.Cut
namespace Go.Proofs.Ytjghcegacgpehaa
open Go.RowKit

def intsN (l : List Nat) : List Int := l.map fun i : Nat => (i : Int)
theorem intsN_length (l : List Nat) : (intsN l).length = l.length := by simp [intsN]
theorem intsN_set (s : List Nat) (k v : Nat) : (ints (intsN s)).set k (.int .i64 (v : Int)) = ints (intsN (s.set k v)) := by simp [intsN, ints, List.map_set]
theorem own_natSet {w : World} {B n c g : Nat} {s : List Nat} (ho : w.ownsRow B 3 1 (.slice (some ⟨g, 0, none⟩) n c) n (ints (intsN s))) (k v : Nat) :
    (w.setCell ⟨g, k, none⟩ (.int .i64 (v : Int))).ownsRow B 3 1 (.slice (some ⟨g, 0, none⟩) n c) n (ints (intsN (s.set k v))) := by
  rw [← intsN_set]; exact (ho.stored k _).1
theorem own_natAt {w : World} {B n c g : Nat} {s : List Nat} (ho : w.ownsRow B 3 1 (.slice (some ⟨g, 0, none⟩) n c) n (ints (intsN s))) (k : Nat) (hk : k < n) : w.cell? ⟨g, k, none⟩ = some (.int .i64 ((s.getD k 0 : Nat) : Int)) := by
  have hl := ho.1
  rw [ints_length, intsN_length, Nat.mul_one] at hl
  rw [ho.cellAt k (by omega)]
  rw [ints, intsN, List.getElem?_map, List.getElem?_map, List.getElem?_eq_getElem (by omega), List.getD_eq_getElem?_getD, List.getElem?_eq_getElem (by omega)]; rfl
/-- All but some blocks stay as they are. -/
structure FrL (l : List Nat) (w w' : World) : Prop where
  os : w'.os = w.os
  tape : w'.tape = w.tape
  output : w'.output = w.output
  size : w.heap.size ≤ w'.heap.size
  block : ∀ i, i < w.heap.size → i ∉ l → w'.heap[i]? = w.heap[i]?
theorem FrL.refl (l : List Nat) (w : World) : FrL l w w := ⟨rfl, rfl, rfl, Nat.le_refl _, fun _ _ _ => rfl⟩
theorem FrL.trans {l : List Nat} {w w1 w2 : World} (h : FrL l w w1) (k : FrL l w1 w2) : FrL l w w2 :=
  ⟨k.os.trans h.os, k.tape.trans h.tape, k.output.trans h.output, Nat.le_trans h.size k.size, fun i hi hl => (k.block i (Nat.lt_of_lt_of_le hi h.size) hl).trans (h.block i hi hl)⟩
/-- Blocks that were made since do not count. -/
theorem FrL.then {l l' : List Nat} {w w1 w2 : World} (h : FrL l w w1) (k : FrL l' w1 w2) (hl : ∀ i ∈ l', i ∈ l ∨ w.heap.size ≤ i) : FrL l w w2 :=
  ⟨k.os.trans h.os, k.tape.trans h.tape, k.output.trans h.output, Nat.le_trans h.size k.size, fun i hi hn => (k.block i (Nat.lt_of_lt_of_le hi h.size) (fun h' => by rcases hl i h' with h1 | h1; exact hn h1; omega)).trans (h.block i hi hn)⟩
theorem FrL.mono {l l' : List Nat} {w w' : World} (h : FrL l w w') (hl : ∀ i ∈ l, i ∈ l') : FrL l' w w' := ⟨h.os, h.tape, h.output, h.size, fun i hi hn => h.block i hi fun h' => hn (hl i h')⟩
theorem FrL.of_below {w w' : World} (h : Below w.heap.size w w') (l : List Nat) : FrL l w w' := ⟨h.os, h.tape, h.output, h.size, fun i hi _ => h.block i hi⟩
theorem FrL.of_grown {w w' : World} {row : Option Nat} (h : w.grownBy w' row) (l : List Nat) (hr : ∀ b, row = some b → b ∈ l) : FrL l w w' :=
  ⟨h.os, h.tape, h.output, h.size, fun i hi hn => h.block i hi fun e => hn (hr i e.symm)⟩
theorem FrL.set (w : World) (b j : Nat) (v : Value) (l : List Nat) (hb : b ∈ l) : FrL l w (w.setCell ⟨b, j, none⟩ v) :=
  ⟨rfl, rfl, rfl, by simp, fun i _ hn => heap_setCell_other w ⟨b, j, none⟩ i v (by rintro rfl; exact hn hb)⟩
theorem FrL.inL {l : List Nat} {w w' : World} (h : FrL l w w') : InL w l w' := ⟨h.size, h.block⟩
theorem FrL.below {l : List Nat} {w w' : World} (h : FrL l w w') {B : Nat} (hB : B ≤ w.heap.size) (hl : ∀ i ∈ l, B ≤ i) : Below B w w' :=
  ⟨h.os, h.tape, h.output, h.size, fun i hi => h.block i (by omega) fun h' => by have := hl i h'; omega⟩
theorem FrL.blk {l : List Nat} {w w' : World} (h : FrL l w w') {b : Nat} {o : Obj} (hq : w.heap[b]? = some o) (hb : b ∉ l) : w'.heap[b]? = some o := (h.block b (blk_lt hq) hb).trans hq
theorem own_same2 {w w' : World} {B T s n c m : Nat} {a : Option Addr} {cs : List Value} (h : w.ownsRow B T s (.slice a m c) n cs) (hb : ∀ x, a = some x → w'.heap[x.block]? = w.heap[x.block]?) : w'.ownsRow B T s (.slice a m c) n cs := by
  refine ⟨h.1, ?_⟩
  rcases h.2 with h0 | ⟨g, cap, cur, h1, hB, hg, r⟩
  · exact .inl h0
  · refine .inr ⟨g, cap, cur, h1, hB, ?_, r⟩
    cases h1
    rw [hb ⟨g, 0, none⟩ rfl]; exact hg
theorem FrL.own {l : List Nat} {w w' : World} (h : FrL l w w') {B T s n c m : Nat} {a : Option Addr} {cs : List Value} (ho : w.ownsRow B T s (.slice a m c) n cs) (hb : ∀ x, a = some x → x.block ∉ l) : w'.ownsRow B T s (.slice a m c) n cs :=
  own_same2 ho fun x hx => h.block _ (own_lt ho x hx).2 (hb x hx)
theorem FrL.rd {l : List Nat} {w w' : World} (h : FrL l w w') {a : Option Addr} {cs : List Value} (hx : Rd w a cs) (hb : ∀ x, a = some x → cs ≠ [] → x.block ∉ l) : Rd w' a cs := by
  intro j u hu
  obtain ⟨b, off, rfl, hc⟩ := hx j u hu
  refine ⟨b, off, rfl, ?_⟩
  have h1 := h.block b (Rd.lt hc) (hb _ rfl (by rintro rfl; simp at hu))
  exact (World.cell?_of_block (w := w) (a := ⟨b, off + j, none⟩) h1).trans hc
/-- What a function of the walk's graphs keeps: a state, in some blocks. -/
structure Keeps {σ : Type} (St : σ → List Nat → World → Prop) : Prop where
  stay : ∀ s l w w', St s l w → (∀ i ∈ l, w'.heap[i]? = w.heap[i]?) → St s l w'
  lt : ∀ s l w, St s l w → ∀ i ∈ l, i < w.heap.size
def blks (a : Option Addr) : List Nat := match a with | some x => [x.block] | none => []
theorem blks_mem {a : Option Addr} {i : Nat} : i ∈ blks a ↔ ∃ x, a = some x ∧ x.block = i := by
  cases a with
  | none => simp [blks]
  | some x => simp only [blks, List.mem_singleton, Option.some.injEq]; exact ⟨fun h => ⟨x, rfl, h.symm⟩, fun ⟨y, h1, h2⟩ => by rw [h1]; exact h2.symm⟩
theorem own_blks {w : World} {B T s n c m : Nat} {a : Option Addr} {cs : List Value} (h : w.ownsRow B T s (.slice a m c) n cs) : ∀ i ∈ blks a, B ≤ i ∧ i < w.heap.size := by
  intro i hi
  obtain ⟨x, h1, h2⟩ := blks_mem.1 hi
  have := own_lt h x h1
  omega
theorem blks_own {a : Option Addr} {n c b : Nat} (h : (Value.slice a n c).ownBlock = some b) : b ∈ blks a := by
  cases a with
  | none => simp [Value.ownBlock] at h
  | some x => simpa [Value.ownBlock, blks] using h.symm
theorem set_le {L : List Nat} {k v : Nat} (h : v ≤ L.getD k 0) (u : Nat) : (L.set k v).getD u 0 ≤ L.getD u 0 := by
  rw [List.getD_eq_getElem?_getD, List.getD_eq_getElem?_getD, List.getElem?_set]
  rw [List.getD_eq_getElem?_getD] at h
  split
  · rename_i e
    subst e
    split
    · exact h
    · simp
  · exact Nat.le_refl _
theorem own_rebase2 {w : World} {B B' T s n c m : Nat} {a : Option Addr} {cs : List Value} (h : w.ownsRow B T s (.slice a m c) n cs) (hb : ∀ i, i ∈ blks a → B' ≤ i) : w.ownsRow B' T s (.slice a m c) n cs := by
  refine ⟨h.1, ?_⟩
  rcases h.2 with h2 | ⟨g, cap, cur, h1, hB, hg, hr⟩
  · exact .inl h2
  · cases h1
    exact .inr ⟨g, _, cur, rfl, hb g (by simp [blks]), hg, hr⟩
theorem own_not {w : World} {B T s n c m : Nat} {a : Option Addr} {cs : List Value} (h : w.ownsRow B T s (.slice a m c) n cs) {b : Nat} {ds : Array Value} {T2 : TypeId} {f : Nat × Nat} (hb : w.heap[b]? = some (.cells ds T2 f)) (hT : T ≠ T2) : b ∉ blks a := by
  intro hi
  obtain ⟨x, rfl, rfl⟩ := blks_mem.1 hi
  exact own_ne h hb hT (by simp [Value.ownBlock])
theorem own_ne_lo {w : World} {B T s n c m : Nat} {a : Option Addr} {cs : List Value} (h : w.ownsRow B T s (.slice a m c) n cs) {b : Nat} (hb : b < B) : some b ≠ (Value.slice a m c).ownBlock := by
  rcases h.2 with ⟨h1, h2⟩ | ⟨g, cap, cur, h1, hB, hg, _⟩
  · cases h1; simp [Value.ownBlock]
  · cases h1
    simp only [Value.ownBlock, ne_eq, Option.some.injEq]
    omega
theorem rdN_at {w : World} {a : Option Addr} {L : List Nat} (h : Rd w a (ints (intsN L))) {k : Nat} (hk : k < L.length) : ∃ b off, a = some ⟨b, off, none⟩ ∧ w.cell? ⟨b, off + k, none⟩ = some (.int .i64 ((L.getD k 0 : Nat) : Int)) := by
  obtain ⟨b, off, e, hc⟩ := h.int (k := k) (by rw [intsN_length]; exact hk)
  refine ⟨b, off, e, ?_⟩
  rw [hc]
  simp [intsN, List.getD_eq_getElem?_getD, List.getElem?_eq_getElem hk]
/-- Where an inner row lies, and its capacity as a value. -/
abbrev AtG := Option Addr × Nat
theorem own_kept_kind2 {w w' : World} {B T s n c m B' T' s' n' c' : Nat} {a a' : Option Addr} {cs cs' : List Value} (h : w.ownsRow B T s (.slice a m c) n cs) (h' : w.ownsRow B' T' s' (.slice a' n' c') n' cs') (hT : T ≠ T')
    (hg : w.grownBy w' (Value.slice a' n' c').ownBlock) : w'.ownsRow B T s (.slice a m c) n cs := by
  refine h.kept hg ?_
  rcases own_cases h' with ⟨rfl, _, _⟩ | ⟨g, rfl, _, _⟩
  · cases hv : (Value.slice a m c).ownBlock
    · exact .inl rfl
    · exact .inr (by simp [Value.ownBlock])
  · exact .inr (Ne.symm (own_kinds h h' hT))

end Go.Proofs.Ytjghcegacgpehaa
