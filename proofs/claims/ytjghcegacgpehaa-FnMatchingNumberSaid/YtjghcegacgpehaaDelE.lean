
/- slices.Clone and slices.DeleteFunc on edges. -/
import Derived.Test.YtjghcegacgpehaaIsPart2
import Derived.Test.YtjghcegacgpehaaCopy
import Derived.Lib.SliceRun
namespace Go.Proofs.Ytjghcegacgpehaa
open Go.RowKit

set_option maxHeartbeats 400000 in
theorem CloneE_any (a : Option Addr) (c n : Nat) (es : List E2) (w : World) (hn : es.length = n) (hx : Rd w a (edges es)) (hl : n ≤ 1048576) (hnil : a = none → n = 0 ∧ c = 0) :
    Calls Try.prog 177 #[.slice a n c] w fun e w' => ∃ a' c', e = .returned (.slice a' n c') ∧ w'.ownsRow w.heap.size 48 2 (.slice a' n c') n (edges es) ∧ Below w.heap.size w w' := by
  have heq := fun (w : World) => Lib.run_eql_slice_nil (P := Try.prog) w 23 48 a n c 0 0 Try.underlying23
  cases a with
  | none =>
    obtain ⟨rfl, rfl⟩ := hnil rfl
    have hx0 : es = [] := List.eq_nil_of_length_eq_zero hn
    subst hx0
    clear hnil hx hn
    go_enter Try.func177, Try.ntmps177
    go_wp2
    go_ret
    exact ⟨none, 0, rfl, World.ownsRow_nil _ _ _ _, Below.refl _ _⟩
  | some ad =>
    have hB := below_alloc w (.cells #[] 48)
    have hown := World.ownsRow_made (base := w.heap.size) (e := 48) (size := 2) w #[] 0 (Nat.le_refl _) (by decide) rfl
    go_enter Try.func177, Try.ntmps177
    go_wp2_with (at_builtin; refine appendAll Try.infoE _ _ rfl rfl (m := n) hown (hx.below hB) (by rw [edges_length]; omega) (edges_one es) hnil hB (Nat.le_refl _) (by simp) rfl rfl (by omega) ?_; intro a' c' w1 hown1 hb1)
    go_ret
    exact ⟨a', c', by simp, by simpa using hown1, hb1⟩

theorem own_capS2 {w : World} {B T s n c m : Nat} {a : Option Addr} {cs : List Value} (h : w.ownsRow B T s (.slice a m c) n cs) : n ≤ c ∧ c ≤ maxLen := by
  rcases h.2 with ⟨h1, h2⟩ | ⟨g, cap, cur, h1, hB, hg, hn, hc, _⟩
  · cases h1; exact ⟨by omega, by decide⟩
  · cases h1; exact ⟨hn, hc⟩

/-- 'clear(s)' of elements of any number of cells. -/
theorem run_clear_cells {P : Program} (w : World) (t e ty : TypeId) (z : Value) (ht : P.underlying t = some (.slice e)) (hv : ∀ w, (zeroValue e).run P w = .ok z w) (b o n c : Nat) (hn : 0 < n)
    (h1 : ∀ v ∈ (Builtin.zeroCells z.cells n).toList, v.oneCell' = true)
    (hc : ∀ j, j < (Builtin.zeroCells z.cells n).toList.length → (w.cell? ⟨b, o + j, none⟩).isSome = true) (hf : ∀ j, j < (Builtin.zeroCells z.cells n).toList.length → w.frozen? ⟨b, o + j, none⟩ = false) :
    (Builtin.clear_ #[t] ty #[.slice (some ⟨b, o, none⟩) n c]).run P w = .ok (.tuple #[]) (w.setCells b o (Builtin.zeroCells z.cells n).toList) := by
  have hst := run_storeCells_cells (P := P) b o (Builtin.zeroCells z.cells n).toList 0 w (by simpa using hc) (by simpa using hf) h1
  simp only [Nat.add_zero] at hst
  obtain ⟨m, rfl⟩ : ∃ m, n = m + 1 := ⟨n - 1, by omega⟩
  simp [Builtin.clear_, run_underlying ht, hv, hst]

theorem own_setCells {B T s n c g : Nat} : ∀ (vs : List Value) (o : Nat) (w : World) (cs : List Value), w.ownsRow B T s (.slice (some ⟨g, 0, none⟩) n c) n cs →
    ∃ cs', (w.setCells g o vs).ownsRow B T s (.slice (some ⟨g, 0, none⟩) n c) n cs' ∧ cs'.take o = cs.take o ∧ w.grownBy (w.setCells g o vs) (some g)
  | [], o, w, cs, h => ⟨cs, h, rfl, World.grownBy.refl _ _⟩
  | v :: r, o, w, cs, h => by
    have h1 := h.stored o v
    obtain ⟨cs', h2, h3, h4⟩ := own_setCells r (o + 1) (w.setCell ⟨g, o, none⟩ v) (cs.set o v) h1.1
    refine ⟨cs', h2, ?_, grown_trans h1.2 h4⟩
    have e : (cs'.take (o + 1)).take o = ((cs.set o v).take (o + 1)).take o := by rw [h3]
    rw [List.take_take, List.take_take, Nat.min_eq_left (by omega)] at e
    rw [e, List.take_set_of_le (Nat.le_refl _)]

theorem own_prefixS {w : World} {B T s n m c : Nat} {a : Option Addr} {cs : List Value} (h : w.ownsRow B T s (.slice a n c) n cs) (hm : m ≤ n) : w.ownsRow B T s (.slice a m c) m (cs.take (m * s)) := by
  have hms : m * s ≤ n * s := Nat.mul_le_mul_right _ hm
  refine ⟨?_, ?_⟩
  · have := h.1
    rw [List.length_take]; omega
  · rcases h.2 with ⟨h1, h2⟩ | ⟨g, cap, cur, h1, hB, hg, hn, hc, hs, ht⟩
    · have hm0 : m = 0 := by omega
      cases h1
      exact .inl ⟨by rw [hm0], hm0⟩
    · cases h1
      refine .inr ⟨g, c, cur, rfl, hB, hg, by omega, hc, hs, ?_⟩
      rw [← ht, List.take_take, Nat.min_eq_left hms]

theorem edges_take (es : List E2) (k : Nat) : (edges es).take (k * 2) = edges (es.take k) := by
  induction es generalizing k with
  | nil => simp [edges]
  | cons e l ih =>
    cases k with
    | zero => simp [edges]
    | succ k => rw [edges_cons, show (k + 1) * 2 = k * 2 + 1 + 1 by omega, List.take_succ_cons, List.take_succ_cons, ih, List.take_succ_cons, edges_cons]
theorem edges_set2 (es : List E2) (k : Nat) (h : k < es.length) (x y : Int) : ((edges es).set (k * 2) (.int .i64 x)).set (k * 2 + 1) (.int .i64 y) = edges (es.set k (x, y)) := by
  induction es generalizing k with
  | nil => simp at h
  | cons e l ih =>
    rw [edges_cons]
    cases k with
    | zero => simp [edges_cons]
    | succ k =>
      have h' : k < l.length := by simpa using h
      rw [show (k + 1) * 2 = k * 2 + 2 by omega, show k * 2 + 2 + 1 = k * 2 + 1 + 2 by omega]
      simp only [List.set_cons_succ]
      rw [ih k h', edges_cons]

/-- A function value of an edge that answers 'p', over memory that but for one row lies as it did at 'w'. -/
def AnswersG (w : World) (K : Nat) (cap : Array Value) (es : List E2) (p : E2 → Bool) (row : Option Nat) : Prop :=
  Enters Try.prog K ∧ ∀ w' e, w.grownBy w' row → e ∈ es → Calls Try.prog K (#[.agg #[.int .i64 e.1, .int .i64 e.2]] ++ cap) w' fun r w'' => r = .returned (.bool (p e)) ∧ Below w'.heap.size w' w''
theorem grown_of_below {w w' : World} (hb : Below w.heap.size w w') (row : Option Nat) : w.grownBy w' row := ⟨hb.os, hb.tape, hb.output, hb.size, fun i hi _ => hb.block i hi⟩
theorem AnswersG.f {w : World} {K : Nat} {cap : Array Value} {es : List E2} {p : E2 → Bool} {row : Option Nat} (h : AnswersG w K cap es p row) : AnswersF w K cap es p :=
  ⟨h.1, fun w' e hb he => h.2 w' e (grown_of_below hb row) he⟩

def keepL (p : E2 → Bool) (es : List E2) : List E2 := es.filter fun e => !p e
/-- What the loop of DeleteFunc holds: the first q are kept ones of the first k, the others from k on are as they were. -/
def Delled (p : E2 → Bool) (es X : List E2) (k q : Nat) : Prop := X.length = es.length ∧ q < k ∧ k ≤ es.length ∧ X.take q = keepL p (es.take k) ∧ X.drop k = es.drop k
theorem Delled.start {p : E2 → Bool} {es : List E2} {i : Nat} (hi : i < es.length) (hp : p (es[i]'hi) = true) (h : ∀ j (_ : j < i) (hj : j < es.length), p (es[j]'hj) = false) : Delled p es es (i + 1) i := by
  refine ⟨rfl, by omega, by omega, ?_, rfl⟩
  rw [List.take_succ_eq_append_getElem hi, keepL, List.filter_append, List.filter_cons_of_neg (by simp [hp]), List.filter_nil, List.append_nil]
  symm
  rw [List.filter_eq_self]
  intro e he
  obtain ⟨j, hj, rfl⟩ := List.getElem_of_mem he
  rw [List.length_take] at hj
  rw [List.getElem_take, h j (by omega)]; rfl
theorem Delled.at {p : E2 → Bool} {es X : List E2} {k q : Nat} (h : Delled p es X k q) (hk : k < es.length) : X[k]'(by have := h.1; omega) = es[k]'hk := by
  have h1 := h.1
  have e := h.2.2.2.2
  have e1 : (X.drop k)[0]? = (es.drop k)[0]? := by rw [e]
  rw [List.getElem?_drop, List.getElem?_drop, Nat.add_zero, List.getElem?_eq_getElem (by omega), List.getElem?_eq_getElem hk] at e1
  exact Option.some.inj e1
theorem drop_more {X es : List E2} {k : Nat} (h : X.drop k = es.drop k) : X.drop (k + 1) = es.drop (k + 1) := by
  have : (X.drop k).drop 1 = (es.drop k).drop 1 := by rw [h]
  rw [List.drop_drop, List.drop_drop] at this
  exact this
theorem Delled.skip {p : E2 → Bool} {es X : List E2} {k q : Nat} (h : Delled p es X k q) (hk : k < es.length) (hp : p (es[k]'hk) = true) : Delled p es X (k + 1) q := by
  obtain ⟨h1, h2, h3, h4, h5⟩ := h
  refine ⟨h1, by omega, by omega, ?_, drop_more h5⟩
  rw [h4, List.take_succ_eq_append_getElem hk, keepL, keepL, List.filter_append, List.filter_cons_of_neg (by simp [hp]), List.filter_nil, List.append_nil]
theorem Delled.keep {p : E2 → Bool} {es X : List E2} {k q : Nat} (h : Delled p es X k q) (hk : k < es.length) (hp : p (es[k]'hk) = false) : Delled p es (X.set q (es[k]'hk)) (k + 1) (q + 1) := by
  obtain ⟨h1, h2, h3, h4, h5⟩ := h
  refine ⟨by simpa using h1, by omega, by omega, ?_, ?_⟩
  · rw [List.take_succ_eq_append_getElem (by simp; omega), List.getElem_set_self, List.take_set_of_le (Nat.le_refl _), h4, List.take_succ_eq_append_getElem hk, keepL, keepL, List.filter_append, List.filter_cons_of_pos (by simp [hp]), List.filter_nil]
  · rw [List.drop_set_of_lt (by omega)]; exact drop_more h5
theorem Delled.fin {p : E2 → Bool} {es X : List E2} {k q : Nat} (h : Delled p es X k q) (hk : k = es.length) : X.take q = keepL p es ∧ q = (keepL p es).length ∧ q < es.length := by
  obtain ⟨h1, h2, h3, h4, h5⟩ := h
  subst hk
  rw [List.take_length] at h4
  refine ⟨h4, ?_, by omega⟩
  rw [← h4, List.length_take]; omega

theorem zeroCells_two (n : Nat) : (Builtin.zeroCells (Value.agg #[Value.int .i64 0, Value.int .i64 0]).cells n).toList.length = n * 2 := by simp [Builtin.zeroCells, Value.cells]
theorem zeroCells_one (n : Nat) : ∀ v ∈ (Builtin.zeroCells (Value.agg #[Value.int .i64 0, Value.int .i64 0]).cells n).toList, v.oneCell' = true := by
  intro v hv
  simp only [Builtin.zeroCells, Value.cells, Array.toList_map, List.mem_map, Array.mem_toList_iff] at hv
  obtain ⟨i, _, rfl⟩ := hv
  have h2 : i % 2 = 0 ∨ i % 2 = 1 := by omega
  rcases h2 with h | h <;> simp [h] <;> rfl
theorem Try.zeroEdge (w : World) : (zeroValue 48).run Try.prog w = .ok (.agg #[.int .i64 0, .int .i64 0]) w := by kernel_rfl

set_option maxHeartbeats 2000000 in
theorem DeleteFuncE_any (B : Nat) (a : Option Addr) (c n : Nat) (es : List E2) (K : Nat) (cap : Array Value) (p : E2 → Bool) (w : World) (ho0 : w.ownsRow B 48 2 (.slice a n c) n (edges es)) (hn : es.length = n) (hl : n ≤ 1048576) (hf : AnswersG w K cap es p (Value.slice a n c).ownBlock) :
    Calls Try.prog 176 #[.slice a n c, .func (.func K) #[] cap] w fun e w' => ∃ m, e = .returned (.slice a m c) ∧ m = (keepL p es).length ∧ w'.ownsRow B 48 2 (.slice a m c) m (edges (keepL p es)) ∧ w.grownBy w' (Value.slice a n c).ownBlock := by
  have C1 := IndexFuncE_any a c n es K cap p w hn (own_rd ho0) (by omega) hf.f
  cases hi : es.findIdx? p with
  | none =>
    have e1 : idxP p es = -1 := by simp [idxP, hi]
    rw [e1] at C1
    have hke : keepL p es = es := by
      rw [List.findIdx?_eq_none_iff] at hi
      rw [keepL, List.filter_eq_self]
      intro e he
      rw [hi e he]; rfl
    have HK := Lib.hid hke
    have HN := Lib.hid hn
    clear hi e1 hke hn hf
    go_enter Try.func176, Try.ntmps176
    go_wp2_with fail
    refine C1.mono ?_
    rintro e w1 ⟨rfl, hb⟩
    have ho := own_below ho0 hb
    clear C1
    go_wp2
    go_ret
    exact ⟨n, rfl, by rw [HK.out, HN.out], by rw [HK.out]; exact ho, grown_of_below hb _⟩
  | some i0 =>
    have e1 : idxP p es = (i0 : Int) := by simp [idxP, hi]
    rw [e1] at C1
    obtain ⟨hil, hip, hij⟩ := List.findIdx?_eq_some_iff_getElem.1 hi
    have HD := Lib.hid (Delled.start hil hip (fun j hj hj2 => by simpa using hij j hj))
    have hi0 : i0 < n := by omega
    clear hi e1 hil hip hij
    obtain ⟨g, rfl, hgB, hgw⟩ := own_head ho0 (by omega)
    obtain ⟨hK0, hf⟩ := hf
    have hK : ∀ args w, (callFunc K args).run Try.prog w = .ok (.enter K args) w := hK0
    have HF := Lib.hid hf
    clear hf hK0
    have hcap := own_capS2 ho0
    have hb1 : (((i0 : Int)) == -1) = false := beq_eq_false_iff_ne.2 (by omega)
    go_enter Try.func176, Try.ntmps176
    go_wp2_with fail
    refine C1.mono ?_
    rintro e w1 ⟨rfl, hb⟩
    have ho := own_below ho0 hb
    have hg1 := grown_of_below hb (some g)
    clear C1 hb
    go_wp2
    go_loopw [5, 6, 7] (fun i j _ wr => ∃ (k q : Nat) (X : List E2), k ≤ n ∧ j = .int .i64 k ∧ q < k ∧ i = .int .i64 q ∧ Delled p es X k q ∧ wr.ownsRow B 48 2 (.slice (some ⟨g, 0, none⟩) n c) n (edges X) ∧ w.grownBy wr (some g)) (fun _ j _ _ => n - (intOf j).toNat)
    case atStart => exact ⟨i0 + 1, i0, es, by omega, by go_num, by omega, rfl, HD.out, ho, hg1⟩
    case round =>
      clear ho hg1 HD
      obtain ⟨k, q, X, hk, rfl, hq, rfl, hD, ho, hg⟩ := hrel
      by_cases hlt : k < n
      · have hke : k < es.length := by omega
        have hXl : X.length = n := by rw [hD.1]; exact hn
        have hat := hD.at hke
        obtain ⟨b1, o1, e1, c1, c2⟩ := (own_rd ho).edge (k := k) (by omega)
        cases e1
        rw [hat] at c1 c2
        have HS := Lib.hid (fun h => hD.skip hke h)
        have HKp := Lib.hid (fun h => hD.keep hke h)
        have hgA := fun o => grown_trans hg (World.grownBy_alloc wr o (some g))
        have HC := Lib.hid (fun (o : Obj) => HF.out (wr.alloc o) (es[k]'hke) (hgA o) (List.getElem_mem _))
        clear hat hD
        generalize es[k]'hke = e at *
        obtain ⟨x, y⟩ := e
        simp only [Nat.zero_add] at c1 c2
        have q0 := heap_alloc_new wr (.cells #[.int .i64 x, .int .i64 y] 48)
        have hoA := own_below ho (below_alloc wr (.cells #[.int .i64 x, .int .i64 y] 48))
        have hgA := hgA (.cells #[.int .i64 x, .int .i64 y] 48)
        have C2 := HC.out (.cells #[.int .i64 x, .int .i64 y] 48)
        simp only at C2
        clear HC ho hg
        cases hp : p (x, y)
        · rw [hp] at C2
          have HR := Lib.hid (HKp.out hp)
          clear HS HKp hp
          go_wp2_with fail
          refine C2.mono ?_
          rintro e w2 ⟨rfl, hb2⟩
          have q0 := blk_below q0 hb2
          have hoB := own_below hoA hb2
          have hgB2 := grown_trans hgA (grown_of_below hb2 (some g))
          have k0 := blk_cell q0 0 (.int .i64 x) rfl
          have k1 := blk_cell q0 1 (.int .i64 y) rfl
          obtain ⟨v, c3⟩ := own_some hoB (q * 2) (by omega)
          obtain ⟨v2, c4⟩ := own_some hoB (q * 2 + 1) (by omega)
          have f1 := hoB.frozenAt (q * 2)
          have f2 := hoB.frozenAt (q * 2 + 1)
          have s1 := hoB.stored (q * 2) (.int .i64 x)
          have s2 := s1.1.stored (q * 2 + 1) (.int .i64 y)
          have so := s2.1
          rw [edges_set2 X q (by omega)] at so
          have HO := Lib.hid (And.intro so (grown_trans hgB2 (grown_trans s1.2 s2.2)))
          clear s1 s2 so C2 hoA hgA hoB hgB2 c1 c2 hb2
          go_wp2
          go_roundw
          case rel => exact ⟨k + 1, q + 1, X.set q (x, y), by omega, by go_num, by omega, by go_num, HR.out, HO.out.1, HO.out.2⟩
          case measure => simp [intOf]; omega
        · rw [hp] at C2
          have HR := Lib.hid (HS.out hp)
          clear HS HKp hp
          go_wp2_with fail
          refine C2.mono ?_
          rintro e w2 ⟨rfl, hb2⟩
          have HO := Lib.hid (And.intro (own_below hoA hb2) (grown_trans hgA (grown_of_below hb2 (some g))))
          clear C2 hoA hgA hb2 c1 c2 q0
          go_wp2
          go_roundw
          case rel => exact ⟨k + 1, q, X, by omega, by go_num, by omega, rfl, HR.out, HO.out.1, HO.out.2⟩
          case measure => simp [intOf]; omega
      · obtain rfl : k = n := by omega
        obtain ⟨e1, e2, e3⟩ := hD.fin hn.symm
        have hXl : X.length = k := by rw [hD.1]; exact hn
        have hcl : ∀ ty, (Builtin.clear_ #[23] ty #[.slice (some ⟨g, q * 2, none⟩) (k - q) (c - q)]).run Try.prog wr = .ok (.tuple #[]) (wr.setCells g (q * 2) (Builtin.zeroCells (Value.agg #[Value.int .i64 0, Value.int .i64 0]).cells (k - q)).toList) :=
          fun ty => run_clear_cells wr 23 48 ty _ Try.underlying23 Try.zeroEdge g (q * 2) (k - q) (c - q) (by omega) (zeroCells_one _)
            (fun j hj => by rw [zeroCells_two] at hj; obtain ⟨v, h⟩ := own_some ho (q * 2 + j) (by omega); rw [h]; rfl) (fun j _ => ho.frozenAt _)
        obtain ⟨cs', h2, h3, h4⟩ := own_setCells (Builtin.zeroCells (Value.agg #[Value.int .i64 0, Value.int .i64 0]).cells (k - q)).toList (q * 2) wr _ ho
        have h5 := own_prefixS h2 (m := q) (by omega)
        rw [h3, edges_take, e1] at h5
        have HQ := Lib.hid e2
        have HG := Lib.hid (grown_trans hg h4)
        have HO := Lib.hid h5
        clear e1 e2 h2 h3 h4 h5 hD ho hg
        generalize hV : wr.setCells g (q * 2) (Builtin.zeroCells (Value.agg #[Value.int .i64 0, Value.int .i64 0]).cells (k - q)).toList = wz at *
        clear hV
        go_wp2_with (simp only [hcl])
        go_ret
        exact ⟨q, rfl, HQ.out, HO.out, HG.out⟩

end Go.Proofs.Ytjghcegacgpehaa
