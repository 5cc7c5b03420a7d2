
/- slices.Clone and slices.DeleteFunc on numbers. -/
import Derived.Test.YtjghcegacgpehaaEach
import Derived.Test.YtjghcegacgpehaaFrL
import Derived.Test.YtjghcegacgpehaaCopy
import Derived.Test.YtjghcegacgpehaaBlk
import Derived.Lib.SliceRun
namespace Go.Proofs.Ytjghcegacgpehaa
open Go.RowKit

set_option maxHeartbeats 400000 in
theorem CloneI_any (a : Option Addr) (c n : Nat) (xs : List Int) (w : World) (hn : xs.length = n) (hx : Rd w a (ints xs)) (hl : n ≤ 1048576) (hnil : a = none → n = 0 ∧ c = 0) :
    Calls Try.prog 114 #[.slice a n c] w fun e w' => ∃ a' c', e = .returned (.slice a' n c') ∧ w'.ownsRow w.heap.size 3 1 (.slice a' n c') n (ints xs) ∧ Below w.heap.size w w' := by
  have heq := fun (w : World) => Lib.run_eql_slice_nil (P := Try.prog) w 38 3 a n c 0 0 Try.underlying38
  cases a with
  | none =>
    obtain ⟨rfl, rfl⟩ := hnil rfl
    have hx0 : xs = [] := List.eq_nil_of_length_eq_zero hn
    subst hx0
    clear hnil hx hn
    go_enter Try.func114, Try.ntmps114
    go_wp2
    go_ret
    exact ⟨none, 0, rfl, World.ownsRow_nil _ _ _ _, Below.refl _ _⟩
  | some ad =>
    have hB := below_alloc w (.cells #[] 3)
    have hown := World.ownsRow_made (base := w.heap.size) (e := 3) (size := 1) w #[] 0 (Nat.le_refl _) (by decide) rfl
    go_enter Try.func114, Try.ntmps114
    go_wp2_with (at_builtin; refine appendAll Try.infoI _ _ rfl rfl (m := n) hown (hx.below hB) (by rw [ints_length]; omega) (ints_one xs) hnil hB (Nat.le_refl _) (by simp) rfl rfl (by omega) ?_; intro a' c' w1 hown1 hb1)
    go_ret
    exact ⟨a', c', by simp, by simpa using hown1, hb1⟩

theorem own_capS3 {w : World} {B T s n c m : Nat} {a : Option Addr} {cs : List Value} (h : w.ownsRow B T s (.slice a m c) n cs) : n ≤ c ∧ c ≤ maxLen := by
  rcases h.2 with ⟨h1, h2⟩ | ⟨g, cap, cur, h1, hB, hg, hn, hc, _⟩
  · cases h1; exact ⟨by omega, by decide⟩
  · cases h1; exact ⟨hn, hc⟩
theorem own_some3 {w : World} {B T s n c g : Nat} {cs : List Value} (h : w.ownsRow B T s (.slice (some ⟨g, 0, none⟩) n c) n cs) (j : Nat) (hj : j < n * s) : ∃ v, w.cell? ⟨g, j, none⟩ = some v := by
  have hl := h.1
  obtain ⟨b, off, e, hc⟩ := own_rd h j _ (List.getElem?_eq_getElem (show j < cs.length by omega))
  cases e
  exact ⟨_, by simpa using hc⟩

/-- 'clear(s)' of elements of any number of cells. -/
theorem run_clear_cells2 {P : Program} (w : World) (t e ty : TypeId) (z : Value) (ht : P.underlying t = some (.slice e)) (hv : ∀ w, (zeroValue e).run P w = .ok z w) (b o n c : Nat) (hn : 0 < n)
    (h1 : ∀ v ∈ (Builtin.zeroCells z.cells n).toList, v.oneCell' = true)
    (hc : ∀ j, j < (Builtin.zeroCells z.cells n).toList.length → (w.cell? ⟨b, o + j, none⟩).isSome = true) (hf : ∀ j, j < (Builtin.zeroCells z.cells n).toList.length → w.frozen? ⟨b, o + j, none⟩ = false) :
    (Builtin.clear_ #[t] ty #[.slice (some ⟨b, o, none⟩) n c]).run P w = .ok (.tuple #[]) (w.setCells b o (Builtin.zeroCells z.cells n).toList) := by
  have hst := run_storeCells_cells (P := P) b o (Builtin.zeroCells z.cells n).toList 0 w (by simpa using hc) (by simpa using hf) h1
  simp only [Nat.add_zero] at hst
  obtain ⟨m, rfl⟩ : ∃ m, n = m + 1 := ⟨n - 1, by omega⟩
  simp [Builtin.clear_, run_underlying ht, hv, hst]

theorem own_setCells2 {B T s n c g : Nat} : ∀ (vs : List Value) (o : Nat) (w : World) (cs : List Value), w.ownsRow B T s (.slice (some ⟨g, 0, none⟩) n c) n cs →
    ∃ cs', (w.setCells g o vs).ownsRow B T s (.slice (some ⟨g, 0, none⟩) n c) n cs' ∧ cs'.take o = cs.take o ∧ w.grownBy (w.setCells g o vs) (some g)
  | [], o, w, cs, h => ⟨cs, h, rfl, World.grownBy.refl _ _⟩
  | v :: r, o, w, cs, h => by
    have h1 := h.stored o v
    obtain ⟨cs', h2, h3, h4⟩ := own_setCells2 r (o + 1) (w.setCell ⟨g, o, none⟩ v) (cs.set o v) h1.1
    refine ⟨cs', h2, ?_, grown_trans h1.2 h4⟩
    have e : (cs'.take (o + 1)).take o = ((cs.set o v).take (o + 1)).take o := by rw [h3]
    rw [List.take_take, List.take_take, Nat.min_eq_left (by omega)] at e
    rw [e, List.take_set_of_le (Nat.le_refl _)]

theorem own_prefixS2 {w : World} {B T s n m c : Nat} {a : Option Addr} {cs : List Value} (h : w.ownsRow B T s (.slice a n c) n cs) (hm : m ≤ n) : w.ownsRow B T s (.slice a m c) m (cs.take (m * s)) := by
  have hms : m * s ≤ n * s := Nat.mul_le_mul_right _ hm
  refine ⟨?_, ?_⟩
  · have := h.1
    rw [List.length_take]; omega
  · rcases h.2 with ⟨h1, h2⟩ | ⟨g, cap, cur, h1, hB, hg, hn, hc, hs, ht⟩
    · have hm0 : m = 0 := by omega
      cases h1
      exact .inl ⟨by rw [hm0], hm0⟩
    · cases h1
      refine .inr ⟨g, c, cur, rfl, hB, hg, by omega, hc, hs, ?_⟩
      rw [← ht, List.take_take, Nat.min_eq_left hms]

theorem ints_take (xs : List Int) (k : Nat) : (ints xs).take k = ints (xs.take k) := by simp [ints]
theorem ints_setI (xs : List Int) (k : Nat) (x : Int) : (ints xs).set k (.int .i64 x) = ints (xs.set k x) := by simp [ints, List.map_set]
/-- A function value of a number that answers 'p', over memory that but for one row lies as it did at 'w'. -/
def AnswersH (w : World) (K : Nat) (cap : Array Value) (xs : List Int) (p : Int → Bool) (row : Option Nat) : Prop :=
  Enters Try.prog K ∧ ∀ w' x, w.grownBy w' row → x ∈ xs → Calls Try.prog K (#[.int .i64 x] ++ cap) w' fun r w'' => r = .returned (.bool (p x)) ∧ Below w'.heap.size w' w''
theorem grown_of_below3 {w w' : World} (hb : Below w.heap.size w w') (row : Option Nat) : w.grownBy w' row := ⟨hb.os, hb.tape, hb.output, hb.size, fun i hi _ => hb.block i hi⟩
theorem AnswersH.f {w : World} {K : Nat} {cap : Array Value} {xs : List Int} {p : Int → Bool} {row : Option Nat} (h : AnswersH w K cap xs p row) : Answers w K cap xs p :=
  ⟨h.1, fun w' e hb he => h.2 w' e (grown_of_below3 hb row) he⟩

def keepI (p : Int → Bool) (es : List Int) : List Int := es.filter fun e => !p e
/-- What the loop of DeleteFunc holds: the first q are kept ones of the first k, the others from k on are as they were. -/
def DelledI (p : Int → Bool) (es X : List Int) (k q : Nat) : Prop := X.length = es.length ∧ q < k ∧ k ≤ es.length ∧ X.take q = keepI p (es.take k) ∧ X.drop k = es.drop k
theorem DelledI.start {p : Int → Bool} {es : List Int} {i : Nat} (hi : i < es.length) (hp : p (es[i]'hi) = true) (h : ∀ j (_ : j < i) (hj : j < es.length), p (es[j]'hj) = false) : DelledI p es es (i + 1) i := by
  refine ⟨rfl, by omega, by omega, ?_, rfl⟩
  rw [List.take_succ_eq_append_getElem hi, keepI, List.filter_append, List.filter_cons_of_neg (by simp [hp]), List.filter_nil, List.append_nil]
  symm
  rw [List.filter_eq_self]
  intro e he
  obtain ⟨j, hj, rfl⟩ := List.getElem_of_mem he
  rw [List.length_take] at hj
  rw [List.getElem_take, h j (by omega)]; rfl
theorem DelledI.at {p : Int → Bool} {es X : List Int} {k q : Nat} (h : DelledI p es X k q) (hk : k < es.length) : X[k]'(by have := h.1; omega) = es[k]'hk := by
  have h1 := h.1
  have e := h.2.2.2.2
  have e1 : (X.drop k)[0]? = (es.drop k)[0]? := by rw [e]
  rw [List.getElem?_drop, List.getElem?_drop, Nat.add_zero, List.getElem?_eq_getElem (by omega), List.getElem?_eq_getElem hk] at e1
  exact Option.some.inj e1
theorem drop_moreI {X es : List Int} {k : Nat} (h : X.drop k = es.drop k) : X.drop (k + 1) = es.drop (k + 1) := by
  have : (X.drop k).drop 1 = (es.drop k).drop 1 := by rw [h]
  rw [List.drop_drop, List.drop_drop] at this
  exact this
theorem DelledI.skip {p : Int → Bool} {es X : List Int} {k q : Nat} (h : DelledI p es X k q) (hk : k < es.length) (hp : p (es[k]'hk) = true) : DelledI p es X (k + 1) q := by
  obtain ⟨h1, h2, h3, h4, h5⟩ := h
  refine ⟨h1, by omega, by omega, ?_, drop_moreI h5⟩
  rw [h4, List.take_succ_eq_append_getElem hk, keepI, keepI, List.filter_append, List.filter_cons_of_neg (by simp [hp]), List.filter_nil, List.append_nil]
theorem DelledI.keep {p : Int → Bool} {es X : List Int} {k q : Nat} (h : DelledI p es X k q) (hk : k < es.length) (hp : p (es[k]'hk) = false) : DelledI p es (X.set q (es[k]'hk)) (k + 1) (q + 1) := by
  obtain ⟨h1, h2, h3, h4, h5⟩ := h
  refine ⟨by simpa using h1, by omega, by omega, ?_, ?_⟩
  · rw [List.take_succ_eq_append_getElem (by simp; omega), List.getElem_set_self, List.take_set_of_le (Nat.le_refl _), h4, List.take_succ_eq_append_getElem hk, keepI, keepI, List.filter_append, List.filter_cons_of_pos (by simp [hp]), List.filter_nil]
  · rw [List.drop_set_of_lt (by omega)]; exact drop_moreI h5
theorem DelledI.fin {p : Int → Bool} {es X : List Int} {k q : Nat} (h : DelledI p es X k q) (hk : k = es.length) : X.take q = keepI p es ∧ q = (keepI p es).length ∧ q < es.length := by
  obtain ⟨h1, h2, h3, h4, h5⟩ := h
  subst hk
  rw [List.take_length] at h4
  refine ⟨h4, ?_, by omega⟩
  rw [← h4, List.length_take]; omega

theorem zeroCells_int (n : Nat) : (Builtin.zeroCells (Value.int .i64 0).cells n).toList.length = n := by simp [Builtin.zeroCells, Value.cells]
theorem zeroCells_intOne (n : Nat) : ∀ v ∈ (Builtin.zeroCells (Value.int .i64 0).cells n).toList, v.oneCell' = true := by
  intro v hv
  simp only [Builtin.zeroCells, Value.cells, Array.toList_map, List.mem_map, Array.mem_toList_iff] at hv
  obtain ⟨i, _, rfl⟩ := hv
  have h2 : i % 1 = 0 := by omega
  simp [h2]; rfl
theorem Try.zeroInt (w : World) : (zeroValue 3).run Try.prog w = .ok (.int .i64 0) w := by kernel_rfl

set_option maxHeartbeats 2000000 in
theorem DeleteFuncI_any (B : Nat) (a : Option Addr) (c n : Nat) (xs : List Int) (K : Nat) (cap : Array Value) (p : Int → Bool) (w : World) (ho0 : w.ownsRow B 3 1 (.slice a n c) n (ints xs)) (hn : xs.length = n) (hl : n ≤ 1048576) (hf : AnswersH w K cap xs p (Value.slice a n c).ownBlock) :
    Calls Try.prog 113 #[.slice a n c, .func (.func K) #[] cap] w fun e w' => ∃ m, e = .returned (.slice a m c) ∧ m = (keepI p xs).length ∧ w'.ownsRow B 3 1 (.slice a m c) m (ints (keepI p xs)) ∧ w.grownBy w' (Value.slice a n c).ownBlock := by
  have C1 := IndexFunc_any a c n xs K cap p w hn (own_rd ho0) (by omega) hf.f
  cases hi : xs.findIdx? p with
  | none =>
    have e1 : idxI p xs = -1 := by simp [idxI, hi]
    rw [e1] at C1
    have hke : keepI p xs = xs := by
      rw [List.findIdx?_eq_none_iff] at hi
      rw [keepI, List.filter_eq_self]
      intro e he
      rw [hi e he]; rfl
    have HK := Lib.hid hke
    have HN := Lib.hid hn
    clear hi e1 hke hn hf
    go_enter Try.func113, Try.ntmps113
    go_wp2_with fail
    refine C1.mono ?_
    rintro e w1 ⟨rfl, hb⟩
    have ho := own_below ho0 hb
    clear C1
    go_wp2
    go_ret
    exact ⟨n, rfl, by rw [HK.out, HN.out], by rw [HK.out]; exact ho, grown_of_below3 hb _⟩
  | some i0 =>
    have e1 : idxI p xs = (i0 : Int) := by simp [idxI, hi]
    rw [e1] at C1
    obtain ⟨hil, hip, hij⟩ := List.findIdx?_eq_some_iff_getElem.1 hi
    have HD := Lib.hid (DelledI.start hil hip (fun j hj hj2 => by simpa using hij j hj))
    have hi0 : i0 < n := by omega
    clear hi e1 hil hip hij
    obtain ⟨g, rfl, hgB, hgw⟩ := own_head ho0 (by omega)
    obtain ⟨hK0, hf⟩ := hf
    have hK : ∀ args w, (callFunc K args).run Try.prog w = .ok (.enter K args) w := hK0
    have HF := Lib.hid hf
    clear hf hK0
    have hcap := own_capS3 ho0
    have hb1 : (((i0 : Int)) == -1) = false := beq_eq_false_iff_ne.2 (by omega)
    go_enter Try.func113, Try.ntmps113
    go_wp2_with fail
    refine C1.mono ?_
    rintro e w1 ⟨rfl, hb⟩
    have ho := own_below ho0 hb
    have hg1 := grown_of_below3 hb (some g)
    clear C1 hb
    go_wp2
    go_loopw [5, 6, 7] (fun i j _ wr => ∃ (k q : Nat) (X : List Int), k ≤ n ∧ j = .int .i64 k ∧ q < k ∧ i = .int .i64 q ∧ DelledI p xs X k q ∧ wr.ownsRow B 3 1 (.slice (some ⟨g, 0, none⟩) n c) n (ints X) ∧ w.grownBy wr (some g)) (fun _ j _ _ => n - (intOf j).toNat)
    case atStart => exact ⟨i0 + 1, i0, xs, by omega, by go_num, by omega, rfl, HD.out, ho, hg1⟩
    case round =>
      clear ho hg1 HD
      obtain ⟨k, q, X, hk, rfl, hq, rfl, hD, ho, hg⟩ := hrel
      by_cases hlt : k < n
      · have hke : k < xs.length := by omega
        have hXl : X.length = n := by rw [hD.1]; exact hn
        have hat := hD.at hke
        obtain ⟨b1, o1, e1, c1⟩ := (own_rd ho).int (k := k) (by omega)
        cases e1
        rw [hat] at c1
        have HS := Lib.hid (fun h => hD.skip hke h)
        have HKp := Lib.hid (fun h => hD.keep hke h)
        have C2 := HF.out wr (xs[k]'hke) hg (List.getElem_mem _)
        clear hat hD
        generalize xs[k]'hke = x at *
        simp only [Nat.zero_add] at c1
        have HO0 := Lib.hid (And.intro ho hg)
        clear ho hg
        cases hp : p x
        · rw [hp] at C2
          have HR := Lib.hid (HKp.out hp)
          clear HS HKp hp
          go_wp2_with fail
          refine C2.mono ?_
          rintro e w2 ⟨rfl, hb2⟩
          have hoB := own_below HO0.out.1 hb2
          have hgB2 := grown_trans HO0.out.2 (grown_of_below3 hb2 (some g))
          obtain ⟨v, c3⟩ := own_some3 hoB q (by omega)
          have f1 := hoB.frozenAt q
          have s1 := hoB.stored q (.int .i64 x)
          have so := s1.1
          rw [ints_setI X q] at so
          have HO := Lib.hid (And.intro so (grown_trans hgB2 s1.2))
          clear s1 so C2 hoB hgB2 c1 hb2
          go_wp2
          go_roundw
          case rel => exact ⟨k + 1, q + 1, X.set q x, by omega, by go_num, by omega, by go_num, HR.out, HO.out.1, HO.out.2⟩
          case measure => simp [intOf]; omega
        · rw [hp] at C2
          have HR := Lib.hid (HS.out hp)
          clear HS HKp hp
          go_wp2_with fail
          refine C2.mono ?_
          rintro e w2 ⟨rfl, hb2⟩
          have HO := Lib.hid (And.intro (own_below HO0.out.1 hb2) (grown_trans HO0.out.2 (grown_of_below3 hb2 (some g))))
          clear C2 hb2 c1
          go_wp2
          go_roundw
          case rel => exact ⟨k + 1, q, X, by omega, by go_num, by omega, rfl, HR.out, HO.out.1, HO.out.2⟩
          case measure => simp [intOf]; omega
      · obtain rfl : k = n := by omega
        obtain ⟨e1, e2, e3⟩ := hD.fin hn.symm
        have hXl : X.length = k := by rw [hD.1]; exact hn
        have hcl : ∀ ty, (Builtin.clear_ #[38] ty #[.slice (some ⟨g, q, none⟩) (k - q) (c - q)]).run Try.prog wr = .ok (.tuple #[]) (wr.setCells g q (Builtin.zeroCells (Value.int .i64 0).cells (k - q)).toList) :=
          fun ty => run_clear_cells2 wr 38 3 ty _ Try.underlying38 Try.zeroInt g q (k - q) (c - q) (by omega) (zeroCells_intOne _)
            (fun j hj => by rw [zeroCells_int] at hj; obtain ⟨v, h⟩ := own_some3 ho (q + j) (by omega); rw [h]; rfl) (fun j _ => ho.frozenAt _)
        obtain ⟨cs', h2, h3, h4⟩ := own_setCells2 (Builtin.zeroCells (Value.int .i64 0).cells (k - q)).toList q wr _ ho
        have h5 := own_prefixS2 h2 (m := q) (by omega)
        rw [Nat.mul_one, h3, ints_take, e1] at h5
        have HQ := Lib.hid e2
        have HG := Lib.hid (grown_trans hg h4)
        have HO := Lib.hid h5
        clear e1 e2 h2 h3 h4 h5 hD ho hg
        generalize hV : wr.setCells g q (Builtin.zeroCells (Value.int .i64 0).cells (k - q)).toList = wz at *
        clear hV
        go_wp2_with (simp only [hcl])
        go_ret
        exact ⟨q, rfl, HQ.out, HO.out, HG.out⟩

end Go.Proofs.Ytjghcegacgpehaa
