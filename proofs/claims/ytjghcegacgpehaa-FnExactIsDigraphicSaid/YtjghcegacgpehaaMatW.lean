
/- The program's matrices: the state of the walk that calls a function with all matrices with sums. -/
import Derived.Test.YtjghcegacgpehaaFrL
import Derived.Test.YtjghcegacgpehaaPlainMx
import Derived.Test.YtjghcegacgpehaaTrans
namespace Go.Proofs.Ytjghcegacgpehaa
open Go.RowKit

/-- The blocks of a matrix. -/
def mblks (a : Option Addr) (rs : List At) : List Nat := blks a ++ rs.flatMap fun v => blks v.1
theorem mblks_row {a : Option Addr} {rs : List At} {r : Nat} (h : r < rs.length) : ∀ i ∈ blks (rs[r]'h).1, i ∈ mblks a rs := fun _ hi => List.mem_append_right _ (List.mem_flatMap.2 ⟨_, List.getElem_mem h, hi⟩)
theorem OwnM.same {w w' : World} {B n c : Nat} {a : Option Addr} {rs : List At} {m : List (List Int)} (h : OwnM w B a n c rs m) (hs : ∀ i ∈ mblks a rs, w'.heap[i]? = w.heap[i]?) : OwnM w' B a n c rs m :=
  ⟨h.1, h.2.1, own_same2 h.2.2.1 fun x hx => hs x.block (List.mem_append_left _ (blks_mem.2 ⟨x, hx, rfl⟩)), fun r h1 h2 => own_same2 (h.2.2.2.1 r h1 h2) fun x hx => hs x.block (mblks_row h1 _ (blks_mem.2 ⟨x, hx, rfl⟩)), h.2.2.2.2⟩
theorem OwnM.blts {w : World} {B n c : Nat} {a : Option Addr} {rs : List At} {m : List (List Int)} (h : OwnM w B a n c rs m) : ∀ i ∈ mblks a rs, B ≤ i ∧ i < w.heap.size := by
  intro i hi
  rcases List.mem_append.1 hi with h1 | h1
  · exact own_blks h.2.2.1 i h1
  · obtain ⟨v, hv, h2⟩ := List.mem_flatMap.1 h1
    obtain ⟨r, hr, rfl⟩ := List.getElem_of_mem hv
    exact own_blks (h.2.2.2.1 r hr (by have := h.1; have := h.2.1; omega)) i h2
theorem OwnM.rebase {w : World} {B B' n c : Nat} {a : Option Addr} {rs : List At} {m : List (List Int)} (h : OwnM w B a n c rs m) (hB : B' ≤ B) : OwnM w B' a n c rs m := h.mono hB

/-- A matrix with a bit put. -/
theorem valid_set2 {m : List (List Int)} (h : validM m = true) (i k : Nat) {v : Int} (hv : v = 0 ∨ v = 1) : validM (set2 m i k v) = true ∧ (set2 m i k v).length = m.length ∧ colsOf (set2 m i k v) = colsOf m := by
  have hl : (set2 m i k v).length = m.length := by simp [set2]
  have hrow : ∀ r (hr : r < (set2 m i k v).length), ((set2 m i k v)[r]'hr).length = (m[r]'(by rw [← hl]; exact hr)).length := by
    intro r hr
    have hr2 : r < m.length := by rw [← hl]; exact hr
    simp only [set2, List.getElem_set]
    split
    · rename_i e; subst e
      rw [List.length_set, List.getD, List.getElem?_eq_getElem hr2]; rfl
    · rfl
  have h5 := validM_size h
  have hc : colsOf (set2 m i k v) = colsOf m := by
    have h0 : 0 < (set2 m i k v).length := by omega
    have h1 : 0 < m.length := by omega
    unfold colsOf
    rw [List.getD, List.getElem?_eq_getElem h0, List.getD, List.getElem?_eq_getElem h1]
    exact hrow 0 h0
  refine ⟨?_, hl, hc⟩
  rw [validM, Bool.and_eq_true]
  constructor
  · rw [List.all_eq_true]
    intro X hX
    obtain ⟨r, hr, rfl⟩ := List.getElem_of_mem hX
    have hr2 : r < m.length := by rw [← hl]; exact hr
    obtain ⟨e1, e2, e3⟩ := validM_row h hr2
    rw [rowOK, Bool.and_eq_true, Bool.and_eq_true, decide_eq_true_eq, inR_true]
    refine ⟨?_, ?_, allR_yes fun j hj => ?_⟩
    · rw [hrow r hr, e1]; exact hc.symm
    · rw [hrow r hr]; omega
    · rw [inR_true]
      have hmem : ((set2 m i k v)[r]'hr)[j]'hj ∈ (set2 m i k v)[r]'hr := List.getElem_mem hj
      have key : ∀ x ∈ (set2 m i k v)[r]'hr, 0 ≤ x ∧ x ≤ 1 := by
        intro x hx
        simp only [set2, List.getElem_set] at hx
        split at hx
        · rename_i e; subst e
          rcases List.mem_or_eq_of_mem_set hx with h6 | h6
          · refine e3 x ?_
            rw [List.getD, List.getElem?_eq_getElem hr2] at h6; exact h6
          · omega
        · exact e3 x hx
      exact key _ hmem
  · rw [inR_true, hl]; omega

/-- Where the walk's things lie. -/
structure MP where
  B : Nat
  br : Nat
  bc : Nat
  bR : Nat
  bC : Nat
  bk : Nat
  bM : Nat
  bm : Nat
  bw : Nat
  n : Nat
  cl : Nat
  K : Nat
  cap : Array Value
  KM : Nat
  capM : Array Value
  ar : Option Addr
  cr : Nat
  ac : Option Addr
  cc : Nat
  gR : Nat
  vR : Nat
  lR : Nat
  gC : Nat
  vC : Nat
  lC : Nat
  gM : Nat
  cM : Nat
  rs : List At
def MP.fn (P : MP) : Value := .func (.func 162) #[] #[.pointer (some ⟨P.br, 0, none⟩), .pointer (some ⟨P.bc, 0, none⟩), .pointer (some ⟨P.bR, 0, none⟩), .pointer (some ⟨P.bC, 0, none⟩), .pointer (some ⟨P.bk, 0, none⟩), .pointer (some ⟨P.bM, 0, none⟩), .pointer (some ⟨P.bm, 0, none⟩), .pointer (some ⟨P.bw, 0, none⟩)]
/-- The blocks of the walk's variables. -/
def MP.vars (P : MP) : List Nat := [P.br, P.bc, P.bR, P.bC, P.bk, P.bM, P.bm, P.bw]
/-- The blocks of what is counted. -/
def MP.data (P : MP) : List Nat := P.gR :: P.gC :: mblks (some ⟨P.gM, 0, none⟩) P.rs
structure MOK (P : MP) : Prop where
  n1 : 1 ≤ P.n
  n5 : P.n ≤ 5
  c1 : 1 ≤ P.cl
  c5 : P.cl ≤ 5
  sv : ∀ i ∈ P.vars, i ∉ P.data
  rc : P.gR ≠ P.gC
  rm : P.gR ∉ mblks (some ⟨P.gM, 0, none⟩) P.rs
  cm : P.gC ∉ mblks (some ⟨P.gM, 0, none⟩) P.rs
structure MSt (P : MP) (R C : List Nat) (m : List (List Int)) (w : World) : Prop where
  hr : w.heap[P.br]? = some (.cells #[.slice P.ar P.n P.cr] 38 (0, 0))
  hc : w.heap[P.bc]? = some (.cells #[.slice P.ac P.cl P.cc] 38 (0, 0))
  hR : w.heap[P.bR]? = some (.cells #[.slice (some ⟨P.gR, 0, none⟩) P.n P.vR] 38 (0, 0))
  hC : w.heap[P.bC]? = some (.cells #[.slice (some ⟨P.gC, 0, none⟩) P.cl P.vC] 38 (0, 0))
  hk : w.heap[P.bk]? = some (.cells #[.func (.func P.K) #[] P.cap] 36 (0, 0))
  hM : w.heap[P.bM]? = some (.cells #[.slice (some ⟨P.gM, 0, none⟩) P.n P.cM] 34 (0, 0))
  hm : w.heap[P.bm]? = some (.cells #[.func (.func P.KM) #[] P.capM] 79 (0, 0))
  hw : w.heap[P.bw]? = some (.cells #[P.fn] 106 (0, 0))
  oR : w.ownsRow P.B 3 1 (.slice (some ⟨P.gR, 0, none⟩) P.n P.lR) P.n (ints (intsN R))
  oC : w.ownsRow P.B 3 1 (.slice (some ⟨P.gC, 0, none⟩) P.cl P.lC) P.cl (ints (intsN C))
  oM : OwnM w P.B (some ⟨P.gM, 0, none⟩) P.n P.cM P.rs m
  vm : validM m = true
  vc : colsOf m = P.cl
theorem mem_mvars (P : MP) : P.br ∈ P.vars ∧ P.bc ∈ P.vars ∧ P.bR ∈ P.vars ∧ P.bC ∈ P.vars ∧ P.bk ∈ P.vars ∧ P.bM ∈ P.vars ∧ P.bm ∈ P.vars ∧ P.bw ∈ P.vars := by simp [MP.vars]
theorem mem_mdata (P : MP) : P.gR ∈ P.data ∧ P.gC ∈ P.data ∧ ∀ i ∈ mblks (some ⟨P.gM, 0, none⟩) P.rs, i ∈ P.data := by
  refine ⟨by simp [MP.data], by simp [MP.data], fun i hi => ?_⟩
  exact List.mem_cons_of_mem _ (List.mem_cons_of_mem _ hi)
theorem MSt.len {P : MP} {R C : List Nat} {m : List (List Int)} {w : World} (h : MSt P R C m w) : R.length = P.n ∧ C.length = P.cl ∧ m.length = P.n := by
  have h1 := h.oR.1
  have h2 := h.oC.1
  rw [ints_length, intsN_length] at h1 h2
  exact ⟨by omega, by omega, h.oM.2.1⟩
theorem MSt.rect {P : MP} {R C : List Nat} {m : List (List Int)} {w : World} (h : MSt P R C m w) : Rect m P.n P.cl := by
  have := rect_of h.vm
  rw [h.vc, h.len.2.2] at this
  exact this
/-- The state's blocks are none of the walk's. -/
def SepM (P : MP) (l : List Nat) : Prop := ∀ i ∈ l, i ∉ P.vars ∧ i ∉ P.data
theorem MSt.lt {P : MP} {R C : List Nat} {m : List (List Int)} {w : World} (h : MSt P R C m w) : ∀ i, i ∈ P.vars ∨ i ∈ P.data → i < w.heap.size := by
  intro i hi
  rcases hi with hi | hi
  · simp only [MP.vars, List.mem_cons, List.not_mem_nil, or_false] at hi
    rcases hi with rfl | rfl | rfl | rfl | rfl | rfl | rfl | rfl
    · exact blk_lt h.hr
    · exact blk_lt h.hc
    · exact blk_lt h.hR
    · exact blk_lt h.hC
    · exact blk_lt h.hk
    · exact blk_lt h.hM
    · exact blk_lt h.hm
    · exact blk_lt h.hw
  · simp only [MP.data, List.mem_cons] at hi
    rcases hi with rfl | rfl | hi
    · exact (own_blks h.oR _ (by simp [blks])).2
    · exact (own_blks h.oC _ (by simp [blks])).2
    · exact (h.oM.blts i hi).2
/-- What goes on elsewhere leaves the walk's things as they are. -/
theorem MSt.frl {P : MP} {R C : List Nat} {m : List (List Int)} {w w' : World} (h : MSt P R C m w) {F : List Nat} (hF : FrL F w w') (hd : SepM P F) : MSt P R C m w' := by
  obtain ⟨m1, m2, m3, m4, m5, m6, m7, m8⟩ := mem_mvars P
  obtain ⟨d1, d2, d3⟩ := mem_mdata P
  have nv : ∀ b ∈ P.vars, b ∉ F := fun b hb h' => (hd b h').1 hb
  have nd : ∀ b ∈ P.data, b ∉ F := fun b hb h' => (hd b h').2 hb
  exact ⟨hF.blk h.hr (nv _ m1), hF.blk h.hc (nv _ m2), hF.blk h.hR (nv _ m3), hF.blk h.hC (nv _ m4), hF.blk h.hk (nv _ m5), hF.blk h.hM (nv _ m6), hF.blk h.hm (nv _ m7), hF.blk h.hw (nv _ m8),
    hF.own h.oR (fun x hx => by cases hx; exact nd _ d1), hF.own h.oC (fun x hx => by cases hx; exact nd _ d2), h.oM.same (fun i hi => hF.block i (h.oM.blts i hi).2 (nd i (d3 i hi))), h.vm, h.vc⟩
theorem sepM_nil (P : MP) : SepM P [] := fun i hi => by simp at hi
theorem MSt.below {P : MP} {R C : List Nat} {m : List (List Int)} {w w' : World} (h : MSt P R C m w) (hb : Below w.heap.size w w') : MSt P R C m w' := h.frl (FrL.of_below hb []) (sepM_nil P)
theorem own_natSetX {w : World} {B n c g : Nat} {L : List Nat} (ho : w.ownsRow B 3 1 (.slice (some ⟨g, 0, none⟩) n c) n (ints (intsN L))) (k v : Nat) : (w.setCell ⟨g, k, none⟩ (.int .i64 (v : Int))).ownsRow B 3 1 (.slice (some ⟨g, 0, none⟩) n c) n (ints (intsN (L.set k v))) := own_natSet ho k v
/-- What is left of a row is stored. -/
theorem MSt.setR {P : MP} (hP : MOK P) {R C : List Nat} {m : List (List Int)} {w : World} (h : MSt P R C m w) (k v : Nat) (z : Int) (hz : z = v) : MSt P (R.set k v) C m (w.setCell ⟨P.gR, k, none⟩ (.int .i64 z)) := by
  subst hz
  obtain ⟨m1, m2, m3, m4, m5, m6, m7, m8⟩ := mem_mvars P
  obtain ⟨d1, d2, d3⟩ := mem_mdata P
  have hF := FrL.set w P.gR k (.int .i64 (v : Int)) [P.gR] (by simp)
  have nv : ∀ b ∈ P.vars, b ∉ [P.gR] := fun b hb h' => by rw [List.mem_singleton] at h'; subst h'; exact hP.sv _ hb d1
  exact ⟨hF.blk h.hr (nv _ m1), hF.blk h.hc (nv _ m2), hF.blk h.hR (nv _ m3), hF.blk h.hC (nv _ m4), hF.blk h.hk (nv _ m5), hF.blk h.hM (nv _ m6), hF.blk h.hm (nv _ m7), hF.blk h.hw (nv _ m8),
    own_natSetX h.oR k v, hF.own h.oC (fun x hx => by cases hx; simpa using Ne.symm hP.rc), h.oM.same (fun i hi => hF.block i (h.oM.blts i hi).2 (fun h' => by rw [List.mem_singleton] at h'; subst h'; exact hP.rm hi)), h.vm, h.vc⟩
theorem MSt.setC {P : MP} (hP : MOK P) {R C : List Nat} {m : List (List Int)} {w : World} (h : MSt P R C m w) (k v : Nat) (z : Int) (hz : z = v) : MSt P R (C.set k v) m (w.setCell ⟨P.gC, k, none⟩ (.int .i64 z)) := by
  subst hz
  obtain ⟨m1, m2, m3, m4, m5, m6, m7, m8⟩ := mem_mvars P
  obtain ⟨d1, d2, d3⟩ := mem_mdata P
  have hF := FrL.set w P.gC k (.int .i64 (v : Int)) [P.gC] (by simp)
  have nv : ∀ b ∈ P.vars, b ∉ [P.gC] := fun b hb h' => by rw [List.mem_singleton] at h'; subst h'; exact hP.sv _ hb d2
  exact ⟨hF.blk h.hr (nv _ m1), hF.blk h.hc (nv _ m2), hF.blk h.hR (nv _ m3), hF.blk h.hC (nv _ m4), hF.blk h.hk (nv _ m5), hF.blk h.hM (nv _ m6), hF.blk h.hm (nv _ m7), hF.blk h.hw (nv _ m8),
    hF.own h.oR (fun x hx => by cases hx; simpa using hP.rc), own_natSetX h.oC k v, h.oM.same (fun i hi => hF.block i (h.oM.blts i hi).2 (fun h' => by rw [List.mem_singleton] at h'; subst h'; exact hP.cm hi)), h.vm, h.vc⟩
theorem rowB_mem {w : World} {B g n c cl : Nat} {rs : List At} {m : List (List Int)} (h : OwnM w B (some ⟨g, 0, none⟩) n c rs m) (hr : Rect m n cl) (hcl : 0 < cl) {i : Nat} (hi : i < n) : rowB rs i ∈ mblks (some ⟨g, 0, none⟩) rs := by
  obtain ⟨h1, h2, hl, e, _⟩ := h.rowAt hr hcl hi
  refine mblks_row h1 _ ?_
  rw [e]; simp [blks]
theorem MSt.setM {P : MP} (hP : MOK P) {R C : List Nat} {m : List (List Int)} {w : World} (h : MSt P R C m w) {i k : Nat} (hi : i < P.n) (hk : k < P.cl) (v : Int) (hv : v = 0 ∨ v = 1) : MSt P R C (set2 m i k v) (w.setCell ⟨rowB P.rs i, k, none⟩ (.int .i64 v)) := by
  obtain ⟨m1, m2, m3, m4, m5, m6, m7, m8⟩ := mem_mvars P
  obtain ⟨d1, d2, d3⟩ := mem_mdata P
  have hb := rowB_mem h.oM h.rect (by omega) hi
  have hF := FrL.set w (rowB P.rs i) k (.int .i64 v) [rowB P.rs i] (by simp)
  have nv : ∀ b ∈ P.vars, b ∉ [rowB P.rs i] := fun b hb' h' => by rw [List.mem_singleton] at h'; subst h'; exact hP.sv _ hb' (d3 _ hb)
  obtain ⟨v1, v2, v3⟩ := valid_set2 h.vm i k hv
  exact ⟨hF.blk h.hr (nv _ m1), hF.blk h.hc (nv _ m2), hF.blk h.hR (nv _ m3), hF.blk h.hC (nv _ m4), hF.blk h.hk (nv _ m5), hF.blk h.hM (nv _ m6), hF.blk h.hm (nv _ m7), hF.blk h.hw (nv _ m8),
    hF.own h.oR (fun x hx => by cases hx; intro h'; rw [List.mem_singleton] at h'; exact hP.rm (by rw [show P.gR = _ from h']; exact hb)), hF.own h.oC (fun x hx => by cases hx; intro h'; rw [List.mem_singleton] at h'; exact hP.cm (by rw [show P.gC = _ from h']; exact hb)),
    h.oM.put h.rect hi hk v, v1, by rw [v3]; exact h.vc⟩

/-- A function value that is called with a matrix: it does 'go' to the state. -/
def TakesM {σ : Type} (K : Nat) (cap : Array Value) (n cl : Nat) (M : Nat) (sz : σ → Nat) (St : σ → List Nat → World → Prop) (go : σ → List (List Int) → σ × Bool) : Prop :=
  Enters Try.prog K ∧ ∀ s l w (a : Option Addr) (rs : List At) (m : List (List Int)), sz s < M → validM m = true → colsOf m = cl → St s l w → OwnM w 0 a n n rs m → (∀ i ∈ mblks a rs, i ∉ l) →
    Calls Try.prog K (#[.slice a n n] ++ cap) w fun e w' => e = .returned (.bool (go s m).2) ∧ ∃ l', St (go s m).1 l' w' ∧ (∀ i ∈ l', i ∈ l ∨ w.heap.size ≤ i ∨ i ∈ mblks a rs) ∧ FrL l w w'
/-- A function value that tells which places may be 1. -/
def MayM (KM : Nat) (capM : Array Value) (n cl : Nat) (may : Nat → Nat → Bool) : Prop :=
  Enters Try.prog KM ∧ ∀ w (i k : Nat), i < n → k < cl → Calls Try.prog KM (#[.int .i64 (i : Int), .int .i64 (k : Int)] ++ capM) w fun e w' => e = .returned (.bool (may i k)) ∧ w' = w
/-- What a call of the walk does. -/
def MDoes {σ : Type} (St : σ → List Nat → World → Prop) (go : σ → List (List Int) → σ × Bool) (may : Nat → Nat → Bool) (P : MP) (k : Nat) (R C : List Nat) (m : List (List Int)) (s : σ) (l : List Nat) (w : World) (e : Ending) (w' : World) : Prop :=
  e = .returned (.bool (walkX may P.n P.cl go k R C m s).2) ∧ ∃ l', MSt P R C m w' ∧ St (walkX may P.n P.cl go k R C m s).1 l' w' ∧ SepM P l' ∧ (∀ j ∈ l', j ∈ l ∨ w.heap.size ≤ j) ∧ FrL (l ++ P.data) w w'

end Go.Proofs.Ytjghcegacgpehaa
