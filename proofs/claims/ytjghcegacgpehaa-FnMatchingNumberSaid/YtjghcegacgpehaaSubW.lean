
/- The program's subgraphs: the walk that calls a function with all graphs of some edges with degrees. -/
import Derived.Test.YtjghcegacgpehaaPlainS
import Derived.Test.YtjghcegacgpehaaDelE
import Derived.Test.YtjghcegacgpehaaIdx
import Derived.Test.YtjghcegacgpehaaEach
import Derived.Test.YtjghcegacgpehaaClone
import Derived.Test.YtjghcegacgpehaaCompR
import Derived.Test.YtjghcegacgpehaaWhich
import Derived.Test.YtjghcegacgpehaaAppG
import Derived.Laws.EntriesVeiled
namespace Go.Proofs.Ytjghcegacgpehaa
open Go.RowKit

def en2 (l : List N2) : List E2 := l.map fun e => ((e.1 : Int), (e.2 : Int))
theorem en2_length (l : List N2) : (en2 l).length = l.length := by simp [en2]
theorem en2_append (a b : List N2) : en2 (a ++ b) = en2 a ++ en2 b := by simp [en2]

/-- All but some blocks stay as they are. -/
structure FrL (l : List Nat) (w w' : World) : Prop where
  os : w'.os = w.os
  tape : w'.tape = w.tape
  output : w'.output = w.output
  size : w.heap.size ≤ w'.heap.size
  block : ∀ i, i < w.heap.size → i ∉ l → w'.heap[i]? = w.heap[i]?
theorem FrL.refl (l : List Nat) (w : World) : FrL l w w := ⟨rfl, rfl, rfl, Nat.le_refl _, fun _ _ _ => rfl⟩
theorem FrL.trans {l : List Nat} {w w1 w2 : World} (h : FrL l w w1) (k : FrL l w1 w2) : FrL l w w2 :=
  ⟨k.os.trans h.os, k.tape.trans h.tape, k.output.trans h.output, Nat.le_trans h.size k.size, fun i hi hl => (k.block i (Nat.lt_of_lt_of_le hi h.size) hl).trans (h.block i hi hl)⟩
/-- Blocks that were made since do not count. -/
theorem FrL.then {l l' : List Nat} {w w1 w2 : World} (h : FrL l w w1) (k : FrL l' w1 w2) (hl : ∀ i ∈ l', i ∈ l ∨ w.heap.size ≤ i) : FrL l w w2 :=
  ⟨k.os.trans h.os, k.tape.trans h.tape, k.output.trans h.output, Nat.le_trans h.size k.size, fun i hi hn => (k.block i (Nat.lt_of_lt_of_le hi h.size) (fun h' => by rcases hl i h' with h1 | h1; exact hn h1; omega)).trans (h.block i hi hn)⟩
theorem FrL.mono {l l' : List Nat} {w w' : World} (h : FrL l w w') (hl : ∀ i ∈ l, i ∈ l') : FrL l' w w' := ⟨h.os, h.tape, h.output, h.size, fun i hi hn => h.block i hi fun h' => hn (hl i h')⟩
theorem FrL.of_below {w w' : World} (h : Below w.heap.size w w') (l : List Nat) : FrL l w w' := ⟨h.os, h.tape, h.output, h.size, fun i hi _ => h.block i hi⟩
theorem FrL.of_grown {w w' : World} {row : Option Nat} (h : w.grownBy w' row) (l : List Nat) (hr : ∀ b, row = some b → b ∈ l) : FrL l w w' :=
  ⟨h.os, h.tape, h.output, h.size, fun i hi hn => h.block i hi fun e => hn (hr i e.symm)⟩
theorem FrL.set (w : World) (b j : Nat) (v : Value) (l : List Nat) (hb : b ∈ l) : FrL l w (w.setCell ⟨b, j, none⟩ v) :=
  ⟨rfl, rfl, rfl, by simp, fun i _ hn => heap_setCell_other w ⟨b, j, none⟩ i v (by rintro rfl; exact hn hb)⟩
theorem FrL.inL {l : List Nat} {w w' : World} (h : FrL l w w') : InL w l w' := ⟨h.size, h.block⟩
theorem FrL.below {l : List Nat} {w w' : World} (h : FrL l w w') {B : Nat} (hB : B ≤ w.heap.size) (hl : ∀ i ∈ l, B ≤ i) : Below B w w' :=
  ⟨h.os, h.tape, h.output, h.size, fun i hi => h.block i (by omega) fun h' => by have := hl i h'; omega⟩
theorem FrL.blk {l : List Nat} {w w' : World} (h : FrL l w w') {b : Nat} {o : Obj} (hq : w.heap[b]? = some o) (hb : b ∉ l) : w'.heap[b]? = some o := (h.block b (blk_lt hq) hb).trans hq
theorem own_same2 {w w' : World} {B T s n c m : Nat} {a : Option Addr} {cs : List Value} (h : w.ownsRow B T s (.slice a m c) n cs) (hb : ∀ x, a = some x → w'.heap[x.block]? = w.heap[x.block]?) : w'.ownsRow B T s (.slice a m c) n cs := by
  refine ⟨h.1, ?_⟩
  rcases h.2 with h0 | ⟨g, cap, cur, h1, hB, hg, r⟩
  · exact .inl h0
  · refine .inr ⟨g, cap, cur, h1, hB, ?_, r⟩
    cases h1
    rw [hb ⟨g, 0, none⟩ rfl]; exact hg
theorem FrL.own {l : List Nat} {w w' : World} (h : FrL l w w') {B T s n c m : Nat} {a : Option Addr} {cs : List Value} (ho : w.ownsRow B T s (.slice a m c) n cs) (hb : ∀ x, a = some x → x.block ∉ l) : w'.ownsRow B T s (.slice a m c) n cs :=
  own_same2 ho fun x hx => h.block _ (own_lt ho x hx).2 (hb x hx)
theorem FrL.rd {l : List Nat} {w w' : World} (h : FrL l w w') {a : Option Addr} {cs : List Value} (hx : Rd w a cs) (hb : ∀ x, a = some x → cs ≠ [] → x.block ∉ l) : Rd w' a cs := by
  intro j u hu
  obtain ⟨b, off, rfl, hc⟩ := hx j u hu
  refine ⟨b, off, rfl, ?_⟩
  have h1 := h.block b (Rd.lt hc) (hb _ rfl (by rintro rfl; simp at hu))
  exact (World.cell?_of_block (w := w) (a := ⟨b, off + j, none⟩) h1).trans hc

/-- What a function of the walk's graphs keeps: a state, in some blocks. -/
structure Keeps {σ : Type} (St : σ → List Nat → World → Prop) : Prop where
  stay : ∀ s l w w', St s l w → (∀ i ∈ l, w'.heap[i]? = w.heap[i]?) → St s l w'
  lt : ∀ s l w, St s l w → ∀ i ∈ l, i < w.heap.size
/-- A function value that is called with a graph: it does 'go' to the state. -/
def Takes {σ : Type} (K : Nat) (cap : Array Value) (N : Nat) (M : Nat) (sz : σ → Nat) (St : σ → List Nat → World → Prop) (go : σ → List N2 → σ × Bool) : Prop :=
  Enters Try.prog K ∧ ∀ s l w (a : Option Addr) (c : Nat) (es : List N2), sz s < M → es.length ≤ 1000 → St s l w → w.ownsRow 0 48 2 (.slice a es.length c) es.length (edges (en2 es)) → (∀ x, a = some x → x.block ∉ l) →
    Calls Try.prog K (#[graphV N a es.length es.length] ++ cap) w fun e w' => e = .returned (.bool (go s es).2) ∧ ∃ l', St (go s es).1 l' w' ∧ (∀ i ∈ l', i ∈ l ∨ w.heap.size ≤ i ∨ ∃ x, a = some x ∧ x.block = i) ∧ FrL l w w'

theorem cloneE_any (a : Option Addr) (c n : Nat) (es : List E2) (w : World) (hn : es.length = n) (hx : Rd w a (edges es)) (hl : n ≤ 1048576) (hnil : a = none → n = 0 ∧ c = 0) :
    Calls Try.prog 187 #[.slice a n c] w fun e w' => ∃ a' c', e = .returned (.slice a' n n) ∧ w'.ownsRow w.heap.size 48 2 (.slice a' n c') n (edges es) ∧ Below w.heap.size w w' := by
  have C1 := CloneE_any a c n es w hn hx hl hnil
  go_enter Try.func187, Try.ntmps187
  go_wp2_with fail
  refine C1.mono ?_
  rintro e w1 ⟨a', c', rfl, ho, hb⟩
  have C2 := ClipE_any a' c' n w1 (own_capE ho) (by omega)
  have HO := Lib.hid ho
  clear ho C1
  go_wp2_with fail
  refine C2.mono ?_
  rintro e w2 ⟨rfl, rfl⟩
  clear C2
  go_wp2
  go_ret
  exact ⟨a', c', rfl, HO.out, hb⟩

/-- Where the walk's things lie. -/
structure WalkP where
  B : Nat
  bn : Nat
  bf : Nat
  bk : Nat
  bl : Nat
  bc : Nat
  bw : Nat
  N : Nat
  nf : Nat
  cf : Nat
  af : Option Addr
  K : Nat
  cap : Array Value
  al : Option Addr
  cl : Nat
  cv : Nat
  fs : List N2
def WalkP.fn (P : WalkP) : Value := .func (.func 186) #[] #[.pointer (some ⟨P.bf, 0, none⟩), .pointer (some ⟨P.bl, 0, none⟩), .pointer (some ⟨P.bk, 0, none⟩), .pointer (some ⟨P.bn, 0, none⟩), .pointer (some ⟨P.bc, 0, none⟩), .pointer (some ⟨P.bw, 0, none⟩)]
/-- The blocks of the walk's variables. -/
def WalkP.vars (P : WalkP) : List Nat := [P.bn, P.bf, P.bk, P.bl, P.bc, P.bw]
def blks (a : Option Addr) : List Nat := match a with | some x => [x.block] | none => []
structure WalkOK (P : WalkP) : Prop where
  N7 : P.N ≤ 7
  nf : P.fs.length = P.nf
  nfb : P.nf ≤ 900
  fsb : ∀ e ∈ P.fs, e.1 < P.N ∧ e.2 < P.N ∧ e.1 ≠ e.2
  afB : ∀ i ∈ blks P.af, i < P.B
  varsB : ∀ i ∈ P.vars, P.B ≤ i
  nodup : P.vars.Nodup
structure WalkSt (P : WalkP) (L : List Nat) (es : List N2) (ac : Option Addr) (cc : Nat) (w : World) : Prop where
  hn : w.heap[P.bn]? = some (.cells #[.int .i64 P.N] 3 (0, 0))
  hf : w.heap[P.bf]? = some (.cells #[.slice P.af P.nf P.cf] 23 (0, 0))
  hk : w.heap[P.bk]? = some (.cells #[.func (.func P.K) #[] P.cap] 46 (0, 0))
  hl : w.heap[P.bl]? = some (.cells #[.slice P.al P.N P.cv] 38 (0, 0))
  hc : w.heap[P.bc]? = some (.cells #[.slice ac es.length cc] 23 (0, 0))
  hw : w.heap[P.bw]? = some (.cells #[P.fn] 106 (0, 0))
  ol : w.ownsRow P.B 3 1 (.slice P.al P.N P.cl) P.N (ints (intsN L))
  oc : w.ownsRow P.B 48 2 (.slice ac es.length cc) es.length (edges (en2 es))
  rf : Rd w P.af (edges (en2 P.fs))
  sv : ∀ i ∈ P.vars, i ∉ blks P.al ∧ i ∉ blks ac
  sa : ∀ i ∈ blks P.al, i ∉ blks ac
/-- The state's blocks are none of the walk's. -/
def SepW (P : WalkP) (ac : Option Addr) (l : List Nat) : Prop := ∀ i ∈ l, i ∉ P.vars ∧ i ∉ blks P.al ∧ i ∉ blks ac ∧ i ∉ blks P.af

theorem blks_mem {a : Option Addr} {i : Nat} : i ∈ blks a ↔ ∃ x, a = some x ∧ x.block = i := by
  cases a with
  | none => simp [blks]
  | some x => simp only [blks, List.mem_singleton, Option.some.injEq]; exact ⟨fun h => ⟨x, rfl, h.symm⟩, fun ⟨y, h1, h2⟩ => by rw [h1]; exact h2.symm⟩
theorem own_blks {w : World} {B T s n c m : Nat} {a : Option Addr} {cs : List Value} (h : w.ownsRow B T s (.slice a m c) n cs) : ∀ i ∈ blks a, B ≤ i ∧ i < w.heap.size := by
  intro i hi
  obtain ⟨x, h1, h2⟩ := blks_mem.1 hi
  have := own_lt h x h1
  omega
theorem WalkSt.vlt {P : WalkP} {L : List Nat} {es : List N2} {ac : Option Addr} {cc : Nat} {w : World} (h : WalkSt P L es ac cc w) : ∀ i ∈ P.vars, i < w.heap.size := by
  intro i hi
  simp only [WalkP.vars, List.mem_cons, List.not_mem_nil, or_false] at hi
  rcases hi with rfl | rfl | rfl | rfl | rfl | rfl
  · exact blk_lt h.hn
  · exact blk_lt h.hf
  · exact blk_lt h.hk
  · exact blk_lt h.hl
  · exact blk_lt h.hc
  · exact blk_lt h.hw
theorem mem_vars (P : WalkP) : P.bn ∈ P.vars ∧ P.bf ∈ P.vars ∧ P.bk ∈ P.vars ∧ P.bl ∈ P.vars ∧ P.bc ∈ P.vars ∧ P.bw ∈ P.vars := by simp [WalkP.vars]
/-- What goes on elsewhere leaves the walk's things as they are. -/
theorem WalkSt.frl {P : WalkP} {L : List Nat} {es : List N2} {ac : Option Addr} {cc : Nat} {w w' : World} (h : WalkSt P L es ac cc w) {F : List Nat} (hF : FrL F w w') (hd : SepW P ac F) : WalkSt P L es ac cc w' := by
  obtain ⟨m1, m2, m3, m4, m5, m6⟩ := mem_vars P
  have nv : ∀ b ∈ P.vars, b ∉ F := fun b hb h' => (hd b h').1 hb
  refine ⟨hF.blk h.hn (nv _ m1), hF.blk h.hf (nv _ m2), hF.blk h.hk (nv _ m3), hF.blk h.hl (nv _ m4), hF.blk h.hc (nv _ m5), hF.blk h.hw (nv _ m6), hF.own h.ol ?_, hF.own h.oc ?_, hF.rd h.rf ?_, h.sv, h.sa⟩
  · intro x hx h'; exact (hd _ h').2.1 (blks_mem.2 ⟨x, hx, rfl⟩)
  · intro x hx h'; exact (hd _ h').2.2.1 (blks_mem.2 ⟨x, hx, rfl⟩)
  · intro x hx _ h'; exact (hd _ h').2.2.2 (blks_mem.2 ⟨x, hx, rfl⟩)
theorem SepW.nil (P : WalkP) (ac : Option Addr) : SepW P ac [] := fun i hi => by simp at hi
theorem WalkSt.below {P : WalkP} {L : List Nat} {es : List N2} {ac : Option Addr} {cc : Nat} {w w' : World} (h : WalkSt P L es ac cc w) (hb : Below w.heap.size w w') : WalkSt P L es ac cc w' := h.frl (FrL.of_below hb []) (SepW.nil _ _)
/-- A degree is stored. -/
theorem WalkSt.left {P : WalkP} (hP : WalkOK P) {L : List Nat} {es : List N2} {ac : Option Addr} {cc : Nat} {w : World} (h : WalkSt P L es ac cc w) {g : Nat} (hg : P.al = some ⟨g, 0, none⟩) (k v : Nat) (z : Int) (hz : z = v) : WalkSt P (L.set k v) es ac cc (w.setCell ⟨g, k, none⟩ (.int .i64 z)) := by
  subst hz
  obtain ⟨m1, m2, m3, m4, m5, m6⟩ := mem_vars P
  have hga : g ∈ blks P.al := blks_mem.2 ⟨_, hg, rfl⟩
  have hF := FrL.set w g k (.int .i64 (v : Int)) [g] (by simp)
  have nv : ∀ b ∈ P.vars, b ∉ [g] := fun b hb h' => by rw [List.mem_singleton] at h'; subst h'; exact (h.sv b hb).1 hga
  have hol := h.ol
  rw [hg] at hol
  refine ⟨hF.blk h.hn (nv _ m1), hF.blk h.hf (nv _ m2), hF.blk h.hk (nv _ m3), hF.blk h.hl (nv _ m4), hF.blk h.hc (nv _ m5), hF.blk h.hw (nv _ m6), ?_, hF.own h.oc ?_, hF.rd h.rf ?_, h.sv, h.sa⟩
  · rw [hg]; exact own_natSet hol k v
  · intro x hx h'; rw [List.mem_singleton] at h'; exact h.sa g hga (blks_mem.2 ⟨x, hx, h'⟩)
  · intro x hx _ h'
    rw [List.mem_singleton] at h'
    have h1 := hP.afB g (blks_mem.2 ⟨x, hx, h'⟩)
    have h2 := (own_blks h.ol g hga).1
    omega
theorem blks_own {a : Option Addr} {n c b : Nat} (h : (Value.slice a n c).ownBlock = some b) : b ∈ blks a := by
  cases a with
  | none => simp [Value.ownBlock] at h
  | some x => simpa [Value.ownBlock, blks] using h.symm
/-- An edge is appended to what is chosen, and the slice stored. -/
theorem WalkSt.push {P : WalkP} (hP : WalkOK P) {L : List Nat} {es : List N2} {ac a' : Option Addr} {cc c' : Nat} {w w' : World} (h : WalkSt P L es ac cc w) (e : N2)
    (ho : w'.ownsRow P.B 48 2 (.slice a' (es.length + 1) c') (es.length + 1) (edges (en2 es ++ [((e.1 : Int), (e.2 : Int))]))) (hg : w.grownBy w' (Value.slice ac es.length cc).ownBlock) (hf : ∀ x, a' = some x → (Value.slice ac es.length cc).ownBlock = some x.block ∨ w.heap.size ≤ x.block) :
    WalkSt P L (es ++ [e]) a' c' (w'.setCell ⟨P.bc, 0, none⟩ (.slice a' (es.length + 1) c')) ∧ FrL (P.bc :: blks ac) w (w'.setCell ⟨P.bc, 0, none⟩ (.slice a' (es.length + 1) c')) ∧ (∀ i ∈ blks a', i ∈ blks ac ∨ w.heap.size ≤ i) := by
  obtain ⟨m1, m2, m3, m4, m5, m6⟩ := mem_vars P
  have hnd := hP.nodup
  simp only [WalkP.vars, List.nodup_cons, List.mem_cons, List.not_mem_nil, or_false, not_or, List.nodup_nil, and_true] at hnd
  obtain ⟨⟨_, _, _, n1, _⟩, ⟨_, _, n2, _⟩, ⟨_, n3, _⟩, ⟨n4, _⟩, n5, _⟩ := hnd
  have F1 := FrL.of_grown hg (blks ac) (fun b hb => blks_own hb)
  have F2 := FrL.set w' P.bc 0 (.slice a' (es.length + 1) c') [P.bc] (by simp)
  have hv1 : ∀ b ∈ P.vars, b ∉ blks ac := fun b hb => (h.sv b hb).2
  have hnew : ∀ i ∈ blks a', i ∈ blks ac ∨ w.heap.size ≤ i := by
    intro i hi
    obtain ⟨x, h1, h2⟩ := blks_mem.1 hi
    rcases hf x h1 with h3 | h3
    · left; rw [← h2]; exact blks_own h3
    · right; omega
  have hcnew : P.bc ∉ blks a' := fun hi => by
    rcases hnew _ hi with h1 | h1
    · exact hv1 _ m5 h1
    · have := h.vlt _ m5; omega
  have hane : ∀ x, a' = some x → x.block ∉ [P.bc] := fun x hx h' => by rw [List.mem_singleton] at h'; exact hcnew (blks_mem.2 ⟨x, hx, h'⟩)
  have hab : ∀ x, P.al = some x → x.block ∉ blks ac := fun x hx => h.sa _ (blks_mem.2 ⟨x, hx, rfl⟩)
  have hab2 : ∀ x, P.al = some x → x.block ∉ [P.bc] := fun x hx h' => by rw [List.mem_singleton] at h'; exact (h.sv _ m5).1 (blks_mem.2 ⟨x, hx, h'⟩)
  have key : ∀ {b : Nat} {o : Obj}, w.heap[b]? = some o → b ∈ P.vars → b ≠ P.bc → (w'.setCell ⟨P.bc, 0, none⟩ (.slice a' (es.length + 1) c')).heap[b]? = some o := fun hq hb hne => F2.blk (F1.blk hq (hv1 _ hb)) (by simpa using hne)
  have el : (es ++ [e]).length = es.length + 1 := by simp
  refine ⟨⟨key h.hn m1 n1, key h.hf m2 n2, key h.hk m3 n3, key h.hl m4 n4, ?_, key h.hw m6 (Ne.symm n5), F2.own (F1.own h.ol hab) hab2, ?_, F2.rd (F1.rd h.rf ?_) ?_, ?_, ?_⟩, ?_, hnew⟩
  · rw [el]; exact blk_set (F1.blk h.hc (hv1 _ m5)) 0 _
  · rw [el, en2_append]; exact F2.own ho hane
  · intro x hx _ h'
    have h1 := hP.afB _ (blks_mem.2 ⟨x, hx, rfl⟩)
    have h2 := (own_blks h.oc _ h').1
    omega
  · intro x hx _ h'
    rw [List.mem_singleton] at h'
    have h1 := hP.afB _ (blks_mem.2 ⟨x, hx, h'⟩)
    have h2 := hP.varsB _ m5
    omega
  · intro i hi
    refine ⟨(h.sv i hi).1, fun h' => ?_⟩
    rcases hnew i h' with h1 | h1
    · exact hv1 i hi h1
    · have := h.vlt i hi; omega
  · intro i hi h'
    rcases hnew i h' with h1 | h1
    · exact h.sa i hi h1
    · have := (own_blks h.ol i hi).2; omega
  · exact (F1.mono (fun i hi => List.mem_cons_of_mem _ hi)).trans (F2.mono (fun i hi => by rw [List.mem_singleton] at hi; rw [hi]; exact List.mem_cons_self ..))
/-- The last edge is taken away. -/
theorem WalkSt.pop {P : WalkP} (hP : WalkOK P) {L : List Nat} {es : List N2} {e : N2} {ac : Option Addr} {cc : Nat} {w : World} (h : WalkSt P L (es ++ [e]) ac cc w) : WalkSt P L es ac cc (w.setCell ⟨P.bc, 0, none⟩ (.slice ac es.length cc)) := by
  obtain ⟨m1, m2, m3, m4, m5, m6⟩ := mem_vars P
  have hnd := hP.nodup
  simp only [WalkP.vars, List.nodup_cons, List.mem_cons, List.not_mem_nil, or_false, not_or, List.nodup_nil, and_true] at hnd
  obtain ⟨⟨_, _, _, n1, _⟩, ⟨_, _, n2, _⟩, ⟨_, n3, _⟩, ⟨n4, _⟩, n5, _⟩ := hnd
  have F2 := FrL.set w P.bc 0 (.slice ac es.length cc) [P.bc] (by simp)
  have key : ∀ {b : Nat} {o : Obj}, w.heap[b]? = some o → b ≠ P.bc → (w.setCell ⟨P.bc, 0, none⟩ (.slice ac es.length cc)).heap[b]? = some o := fun hq hne => F2.blk hq (by simpa using hne)
  have hab : ∀ x, ac = some x → x.block ∉ [P.bc] := fun x hx h' => by rw [List.mem_singleton] at h'; exact (h.sv _ m5).2 (blks_mem.2 ⟨x, hx, h'⟩)
  have hab2 : ∀ x, P.al = some x → x.block ∉ [P.bc] := fun x hx h' => by rw [List.mem_singleton] at h'; exact (h.sv _ m5).1 (blks_mem.2 ⟨x, hx, h'⟩)
  have hc0 := h.hc
  have ho0 := h.oc
  have el : (es ++ [e]).length = es.length + 1 := by simp
  rw [el] at ho0
  refine ⟨key h.hn n1, key h.hf n2, key h.hk n3, key h.hl n4, blk_set hc0 0 _, key h.hw (Ne.symm n5), F2.own h.ol hab2, F2.own (?_ : w.ownsRow P.B 48 2 (.slice ac es.length cc) es.length (edges (en2 es))) hab, F2.rd h.rf ?_, h.sv, h.sa⟩
  · refine ⟨by rw [edges_length, en2_length], ?_⟩
    rcases ho0.2 with ⟨h1, h2⟩ | ⟨g, cap, cur, h1, hB, hg, hn, hc, hs, ht⟩
    · omega
    · cases h1
      refine .inr ⟨g, cc, cur, rfl, hB, hg, by omega, hc, hs, ?_⟩
      have e1 : edges (en2 (es ++ [e])) = edges (en2 es) ++ edges (en2 [e]) := by rw [en2_append, edges_append]
      rw [e1] at ht
      have e2 : (edges (en2 es)).length = es.length * 2 := by rw [edges_length, en2_length]
      have e3 := congrArg (List.take (es.length * 2)) ht
      rw [List.take_take, Nat.min_eq_left (by omega)] at e3
      rw [e3, List.take_append_of_le_length (by omega), List.take_of_length_le (by omega)]
  · intro x hx _ h'
    rw [List.mem_singleton] at h'
    have h1 := hP.afB _ (blks_mem.2 ⟨x, hx, h'⟩)
    have h2 := hP.varsB _ m5
    omega

end Go.Proofs.Ytjghcegacgpehaa
