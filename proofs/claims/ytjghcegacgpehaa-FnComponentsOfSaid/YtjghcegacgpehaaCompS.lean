
/- The reference's component and components. (Printed by gen_comp.py.) -/
import Derived.Test.YtjghcegacgpehaaPlainS
import Derived.Test.YtjghcegacgpehaaMatchS
import Derived.Test.YtjghcegacgpehaaRowM
namespace Go.Proofs.Ytjghcegacgpehaa
open Go.RowKit

def bools (s : List Bool) : List Value := s.map Value.bool
theorem bools_length (s : List Bool) : (bools s).length = s.length := by simp [bools]
theorem bools_set (s : List Bool) (k : Nat) (v : Bool) : (bools s).set k (.bool v) = bools (s.set k v) := by simp [bools, List.map_set]
theorem bools_get (s : List Bool) (k : Nat) (h : k < s.length) : (bools s)[k]? = some (.bool (s.getD k false)) := by
  rw [bools, List.getElem?_map, List.getElem?_eq_getElem h, List.getD_eq_getElem?_getD, List.getElem?_eq_getElem h]; rfl
theorem Try.infoBool : (Try.prog.info? 4).map (fun i => (i.zero, i.size, i.bytes)) = some (some (.bool false), 1, 1) := by kernel_rfl
theorem Try.infoBL : Info Try.prog 141 4 (.bool false) 1 1 := ⟨Try.underlying141, Try.infoBool, rfl, by decide, by decide⟩

def ne2 (es : List E2) : List N2 := es.map fun e => (e.1.toNat, e.2.toNat)
theorem ne2_length (es : List E2) : (ne2 es).length = es.length := by simp [ne2]
theorem ne2_okay {es : List E2} {N : Nat} (hE : ∀ k (h : k < es.length), 0 ≤ (es[k]'h).1 ∧ (es[k]'h).1 < (es[k]'h).2 ∧ (es[k]'h).2 < N) : Okay (ne2 es) N := by
  intro e he
  obtain ⟨k, hk, rfl⟩ := List.getElem_of_mem he
  have hk' : k < es.length := by rw [ne2_length] at hk; exact hk
  have := hE k hk'
  simp only [ne2, List.getElem_map]
  omega
theorem sweepS_take {es : List N2} {s : List Bool} {k : Nat} (h : k < es.length) : sweepS (es.take (k + 1)) s = stepS (sweepS (es.take k) s) (es[k]'h) := by
  rw [List.take_succ_eq_append_getElem h, sweepS, List.foldl_append]; rfl
theorem ne2_get {es : List E2} {k : Nat} (h : k < es.length) {x y : Nat} (he : es[k]'h = ((x : Int), (y : Int))) : (ne2 es)[k]'(by rw [ne2_length]; exact h) = (x, y) := by
  simp [ne2, he]
def intsN (l : List Nat) : List Int := l.map fun i : Nat => (i : Int)
theorem intsN_length (l : List Nat) : (intsN l).length = l.length := by simp [intsN]
/-- The members below k. -/
def memK (s : List Bool) (k : Nat) : List Nat := (List.range k).filter fun i => s.getD i false
theorem memK_yes {s : List Bool} {k : Nat} (h : s.getD k false = true) : intsN (memK s (k + 1)) = intsN (memK s k) ++ [(k : Int)] := by simp only [memK, List.range_succ, List.filter_append, List.filter_cons, h]; simp [intsN]
theorem memK_no {s : List Bool} {k : Nat} (h : s.getD k false = false) : memK s (k + 1) = memK s k := by simp only [memK, List.range_succ, List.filter_append, List.filter_cons, h]; simp
theorem memK_len (s : List Bool) (k : Nat) : (memK s k).length ≤ k := by
  have := List.length_filter_le (fun i => s.getD i false) (List.range k)
  simpa [memK] using this
theorem memK_all {s : List Bool} {N : Nat} (h : s.length = N) : memK s N = memS s := by rw [memK, memS, h]
theorem step_on {s : List Bool} {x y : Nat} (h : (s.getD x false || s.getD y false) = true) : stepS s (x, y) = (s.set x true).set y true := if_pos h
theorem step_off {s : List Bool} {x y : Nat} (h : (s.getD x false || s.getD y false) = false) : stepS s (x, y) = s := if_neg (by rw [h]; decide)
theorem own_boolSet {w : World} {B n c g : Nat} {s : List Bool} (ho : w.ownsRow B 4 1 (.slice (some ⟨g, 0, none⟩) n c) n (bools s)) (k : Nat) (v : Bool) :
    (w.setCell ⟨g, k, none⟩ (.bool v)).ownsRow B 4 1 (.slice (some ⟨g, 0, none⟩) n c) n (bools (s.set k v)) := by
  rw [← bools_set]; exact (ho.stored k _).1
theorem own_boolAt {w : World} {B n c g : Nat} {s : List Bool} (ho : w.ownsRow B 4 1 (.slice (some ⟨g, 0, none⟩) n c) n (bools s)) (k : Nat) (hk : k < n) : w.cell? ⟨g, k, none⟩ = some (.bool (s.getD k false)) := by
  have hl := ho.1
  rw [bools_length, Nat.mul_one] at hl
  rw [ho.cellAt k (by omega)]; exact bools_get s k (by omega)
set_option maxHeartbeats 8000000 in
theorem comp_any (N v : Nat) (a : Option Addr) (c n : Nat) (es : List E2) (w : World) (hN : N ≤ 7) (hv : v < N) (hE : ∀ k (h : k < es.length), 0 ≤ (es[k]'h).1 ∧ (es[k]'h).1 < (es[k]'h).2 ∧ (es[k]'h).2 < N) (hn : es.length = n) (hx : Rd w a (edges es)) (hl : n ≤ 1048576) :
    Calls Try.prog 169 #[graphV N a n c, .int .i64 v] w fun e w' => ∃ a' c', e = .returned (.slice a' (memS (compS (ne2 es) N v)).length c') ∧ w'.ownsRow w.heap.size 3 1 (.slice a' (memS (compS (ne2 es) N v)).length c') (memS (compS (ne2 es) N v)).length (ints (intsN (memS (compS (ne2 es) N v)))) ∧ Below w.heap.size w w' := by
  have hB := below_alloc w (.cells #[.int .i64 N, .slice a n c] 25)
  have q0 := heap_alloc_new w (.cells #[.int .i64 N, .slice a n c] 25)
  have hx1 := hx.below hB
  have hWs : w.heap.size < (w.alloc (.cells #[.int .i64 N, .slice a n c] 25)).heap.size := by simp
  generalize hW : w.alloc (.cells #[.int .i64 N, .slice a n c] 25) = W at *
  have HW := Lib.hid hW
  clear hW hx
  have g0 := blk_cell q0 0 (.int .i64 N) rfl
  have g1 := blk_cell q0 1 (.slice a n c) rfl
  have hok := ne2_okay hE
  go_enter Try.func169, Try.ntmps169
  go_wp2_with (first | simp only [HW.out] | (at_make; refine makeN Try.infoBL _ _ rfl rfl rfl rfl rfl rfl (by omega) rfl ?_; intro w1 ho hb; obtain ⟨z, cz⟩ := own_some ho v (by omega); have fz := ho.frozenAt v))
  have hs0 : w1.ownsRow W.heap.size 4 1 (.slice (some ⟨W.heap.size, 0, none⟩) N N) N (bools (List.replicate N false)) := by rw [bools, List.map_replicate]; exact ho
  have HS0 := Lib.hid (own_boolSet hs0 v true)
  have HB0 := Lib.hid (hb.setCell (p := ⟨W.heap.size, v, none⟩) (Nat.le_refl _) (.bool true))
  clear ho hs0 hb cz fz g0 g1
  generalize hV : w1.setCell ⟨W.heap.size, v, none⟩ (.bool true) = w2 at *
  clear hV
  have HC := Lib.hid (fun (wr : World) (hb : Below W.heap.size W wr) => And.intro (blk_cell (blk_below q0 hb) 0 (.int .i64 N) rfl) (blk_cell (blk_below q0 hb) 1 (.slice a n c) rfl))
  have HX := Lib.hid (fun (wr : World) (hb : Below W.heap.size W wr) => hx1.below hb)
  have HSL := Lib.hid (fun k => roundsS_succ (ne2 es) k (startS N v))
  have hlen := fun k => roundsS_length (ne2 es) k (startS N v)
  go_loopw [6, 7, 8] (fun i _ _ wr => ∃ k : Nat, k ≤ N ∧ i = .int .i64 k ∧ wr.ownsRow W.heap.size 4 1 (.slice (some ⟨W.heap.size, 0, none⟩) N N) N (bools (roundsS (ne2 es) k (startS N v))) ∧ Below W.heap.size W wr) (fun i _ _ _ => N - (intOf i).toNat)
  case atStart => exact ⟨0, by omega, rfl, HS0.out, HB0.out⟩
  case round =>
    obtain ⟨k, hk, rfl, ho, hb⟩ := hrel
    obtain ⟨g0, g1⟩ := HC.out _ hb
    by_cases hlt : k < N
    · have hR := roundsS_length (ne2 es) k (startS N v)
      rw [startS_length] at hR
      have HN := Lib.hid (HSL.out k)
      generalize hS : roundsS (ne2 es) k (startS N v) = S0 at *
      clear hS
      go_wp2
      go_loopw [7, 8] (fun i _ wr => ∃ j : Nat, j ≤ n ∧ i = .int .i64 j ∧ wr.ownsRow W.heap.size 4 1 (.slice (some ⟨W.heap.size, 0, none⟩) N N) N (bools (sweepS ((ne2 es).take j) S0)) ∧ Below W.heap.size W wr) (fun i _ _ => n - (intOf i).toNat)
      case atStart => exact ⟨0, by omega, rfl, by simpa [sweepS] using ho, hb⟩
      case round =>
        clear ho hb g0 g1
        obtain ⟨j, hj, rfl, ho, hb⟩ := hrel
        obtain ⟨g0, g1⟩ := HC.out _ hb
        by_cases hlt2 : j < n
        · have hjl : j < es.length := by omega
          have hEj := hE j hjl
          obtain ⟨b1, o1, ea, c1, c2⟩ := (HX.out _ hb).edge hjl
          subst ea
          obtain ⟨x, hx⟩ : ∃ x : Nat, (es[j]'hjl).1 = x := ⟨(es[j]'hjl).1.toNat, by omega⟩
          obtain ⟨y, hy⟩ : ∃ y : Nat, (es[j]'hjl).2 = y := ⟨(es[j]'hjl).2.toNat, by omega⟩
          have hne := ne2_get hjl (x := x) (y := y) (by rw [← hx, ← hy])
          have hst := sweepS_take (s := S0) (k := j) (by rw [ne2_length]; exact hjl)
          rw [hne] at hst
          have HST := Lib.hid hst
          rw [hx] at c1 hEj
          rw [hy] at c2 hEj
          have hxN : x < N := by omega
          have hyN : y < N := by omega
          have hsl := sweepS_length ((ne2 es).take j) S0
          clear hx hy hne hst hEj
          generalize hS : sweepS ((ne2 es).take j) S0 = S1 at *
          clear hS
          have hB1 := below_tr' (Below.refl wr.heap.size wr) (below_alloc wr (.cells #[.int .i64 (x : Int), .int .i64 (y : Int)] 48))
          have qe := heap_alloc_new wr (.cells #[.int .i64 (x : Int), .int .i64 (y : Int)] 48)
          have hoA := own_below ho (below_alloc wr (.cells #[.int .i64 (x : Int), .int .i64 (y : Int)] 48))
          have hbA := hb.trans (hB1.mono hb.size)
          have e0 := blk_cell qe 0 (.int .i64 (x : Int)) rfl
          have e1 := blk_cell qe 1 (.int .i64 (y : Int)) rfl
          have a1 := own_boolAt hoA x hxN
          have a2 := own_boolAt hoA y hyN
          have hne : W.heap.size ≠ wr.heap.size := by
            have := (own_lt ho _ rfl).2
            simp at this; omega
          cases hx1 : S1.getD x false
          · cases hy1 : S1.getD y false
            · rw [hx1] at a1
              rw [hy1] at a2
              have HR := Lib.hid (HST.out.trans (step_off (by rw [hx1, hy1]; rfl)))
              clear HST hx1 hy1 ho hb hB1
              go_wp2
              go_roundw
              case rel => exact ⟨j + 1, by omega, by go_num, by rw [HR.out]; exact hoA, hbA⟩
              case measure => simp [intOf]; omega
            · rw [hx1] at a1
              rw [hy1] at a2
              have HR := Lib.hid (HST.out.trans (step_on (by rw [hx1, hy1]; rfl)))
              clear HST hx1 hy1 ho hb hB1
              obtain ⟨z1, cz1⟩ : ∃ z, (wr.alloc (.cells #[.int .i64 (x : Int), .int .i64 (y : Int)] 48)).cell? ⟨W.heap.size, x, none⟩ = some z := ⟨_, a1⟩
              have f1 := hoA.frozenAt x
              have o1' := own_boolSet hoA x true
              have q1 := blk_set_other qe x (.bool true) (g := W.heap.size) (Ne.symm hne)
              have k1 := blk_cell q1 1 (.int .i64 (y : Int)) rfl
              have cz2 := own_boolAt o1' y hyN
              have f2 := o1'.frozenAt y
              have HO2 := Lib.hid (own_boolSet o1' y true)
              have HB2 := Lib.hid ((hbA.setCell (p := ⟨W.heap.size, x, none⟩) (Nat.le_refl _) (.bool true)).setCell (p := ⟨W.heap.size, y, none⟩) (Nat.le_refl _) (.bool true))
              clear hoA o1' q1 qe hbA
              go_wp2
              go_roundw
              case rel => exact ⟨j + 1, by omega, by go_num, by rw [HR.out]; exact HO2.out, HB2.out⟩
              case measure => simp [intOf]; omega
          · rw [hx1] at a1
            have HR := Lib.hid (HST.out.trans (step_on (by rw [hx1]; rfl)))
            clear HST hx1 ho hb hB1 a2
            obtain ⟨z1, cz1⟩ : ∃ z, (wr.alloc (.cells #[.int .i64 (x : Int), .int .i64 (y : Int)] 48)).cell? ⟨W.heap.size, x, none⟩ = some z := ⟨_, a1⟩
            have f1 := hoA.frozenAt x
            have o1' := own_boolSet hoA x true
            have q1 := blk_set_other qe x (.bool true) (g := W.heap.size) (Ne.symm hne)
            have k1 := blk_cell q1 1 (.int .i64 (y : Int)) rfl
            have cz2 := own_boolAt o1' y hyN
            have f2 := o1'.frozenAt y
            have HO2 := Lib.hid (own_boolSet o1' y true)
            have HB2 := Lib.hid ((hbA.setCell (p := ⟨W.heap.size, x, none⟩) (Nat.le_refl _) (.bool true)).setCell (p := ⟨W.heap.size, y, none⟩) (Nat.le_refl _) (.bool true))
            clear hoA o1' q1 qe hbA
            go_wp2
            go_roundw
            case rel => exact ⟨j + 1, by omega, by go_num, by rw [HR.out]; exact HO2.out, HB2.out⟩
            case measure => simp [intOf]; omega
        · obtain rfl : j = n := by omega
          have e : (ne2 es).take j = ne2 es := List.take_of_length_le (by rw [ne2_length]; omega)
          rw [e] at ho
          rw [← HN.out] at ho
          have HO := Lib.hid ho
          clear ho
          go_wp2
          go_roundw
          case rel => exact ⟨k + 1, by omega, by go_num, HO.out, hb⟩
          case measure => simp [intOf]; omega
    · obtain rfl : k = N := by omega
      have hSl : (roundsS (ne2 es) k (startS k v)).length = k := by rw [roundsS_length, startS_length]
      have HM := Lib.hid (show memK (roundsS (ne2 es) k (startS k v)) k = memS (compS (ne2 es) k v) from memK_all hSl)
      generalize hS : roundsS (ne2 es) k (startS k v) = S at *
      clear hS
      have hsz := hb.size
      have HM2 := Lib.hid HM.out
      have hbN := below_tr' hb (below_alloc wr (.cells #[] 3))
      have hoN := own_below ho (below_alloc wr (.cells #[] 3))
      have hnew : (wr.alloc (.cells #[] 3)).ownsRow W.heap.size 3 1 (.slice (some ⟨wr.heap.size, 0, none⟩) 0 0) 0 (ints (intsN (memK S 0))) := by
        simpa [memK, intsN, ints] using own_mono (World.ownsRow_made (e := 3) (size := 1) wr #[] 0 (Nat.le_refl wr.heap.size) (by decide) rfl) hsz
      have hap : Apart (some ⟨W.heap.size, 0, none⟩) (some ⟨wr.heap.size, 0, none⟩) := by
        intro p r h1 h2
        cases h1; cases h2
        have := (own_lt ho _ rfl).2
        simp at this ⊢; omega
      clear ho
      go_wp2
      go_loopw [9, 10] (fun v i wr => ∃ (j : Nat) (av : Option Addr) (cv : Nat), j ≤ k ∧ i = .int .i64 j ∧ v = .slice av (memK S j).length cv ∧ wr.ownsRow W.heap.size 3 1 (.slice av (memK S j).length cv) (memK S j).length (ints (intsN (memK S j))) ∧ wr.ownsRow W.heap.size 4 1 (.slice (some ⟨W.heap.size, 0, none⟩) k k) k (bools S) ∧ Below W.heap.size W wr) (fun _ i _ => k - (intOf i).toNat)
      case atStart => exact ⟨0, _, 0, by omega, rfl, rfl, hnew, hoN, hbN⟩
      case round =>
        clear hnew hoN hbN hb g0 g1
        obtain ⟨j, av, cv, hj, rfl, rfl, hov, hoB, hb⟩ := hrel
        obtain ⟨g0, g1⟩ := HC.out _ hb
        by_cases hlt2 : j < k
        · have a1 := own_boolAt hoB j hlt2
          have hml := memK_len S j
          have hsz2 := hb.size
          cases hS1 : S.getD j false
          · rw [hS1] at a1
            have HR := Lib.hid (memK_no hS1)
            clear hS1
            go_wp2
            go_roundw
            case rel => exact ⟨j + 1, av, cv, by omega, by go_num, by rw [HR.out], by rw [HR.out]; exact hov, hoB, hb⟩
            case measure => simp [intOf]; omega
          · rw [hS1] at a1
            have HR := Lib.hid (memK_yes hS1)
            have HRL : (memK S (j + 1)).length = (memK S j).length + 1 := by
              have := congrArg List.length HR.out
              simpa [intsN_length] using this
            have HRL := Lib.hid HRL
            have HOB := Lib.hid hoB
            clear hS1
            go_wp2_with (at_builtin; refine append1g Try.infoI _ _ rfl rfl hov (World.grownBy.refl wr _) hsz2 rfl rfl rfl (by intro u hu; simp at hu; subst hu; rfl) (by omega) ?_; intro a' c' w5 ho5 hg5 hf5)
            have HO := Lib.hid ho5
            have HB5 := Lib.hid (below_row hb (Nat.le_refl _) hov hg5)
            have HOB5 := Lib.hid (own_kept_kind HOB.out hov (by decide) hg5)
            clear ho5 hg5 hf5 hov hoB hb HOB a1
            go_roundw
            case rel => exact ⟨j + 1, a', c', by omega, by go_num, by rw [HRL.out], by rw [HRL.out, HR.out, ints_append]; exact HO.out, HOB5.out, HB5.out⟩
            case measure => simp [intOf]; omega
        · obtain rfl : j = k := by omega
          rw [HM2.out] at hov
          have HO := Lib.hid (own_mono hov (Nat.le_of_lt hWs))
          have HBF := below_tr' hB (hb)
          clear hov
          go_wp2
          go_ret
          exact ⟨av, cv, by rw [HM2.out]; rfl, HO.out, HBF⟩

def compsK (es : List N2) (N k : Nat) : List (List Nat) := ((List.range k).map fun v => (v, memS (compS es N v))).filterMap fun p => if p.2.head? = some p.1 then some p.2 else none
theorem compsK_yes {es : List N2} {N k : Nat} (h : (memS (compS es N k)).head? = some k) : compsK es N (k + 1) = compsK es N k ++ [memS (compS es N k)] := by
  simp [compsK, List.range_succ, List.filterMap_append, h]
theorem compsK_no {es : List N2} {N k : Nat} (h : (memS (compS es N k)).head? ≠ some k) : compsK es N (k + 1) = compsK es N k := by
  simp [compsK, List.range_succ, List.filterMap_append, h]
theorem compsK_len (es : List N2) (N k : Nat) : (compsK es N k).length ≤ k := by
  have := List.length_filterMap_le (fun p : Nat × List Nat => if p.2.head? = some p.1 then some p.2 else none) ((List.range k).map fun v => (v, memS (compS es N v)))
  simpa [compsK] using this
theorem memS_len (s : List Bool) : (memS s).length ≤ s.length := by
  have := List.length_filter_le (fun i => s.getD i false) (List.range s.length)
  simpa [memS] using this
/-- The components as rows of numbers. -/
def cpK (es : List E2) (N k : Nat) : List (List Int) := (compsK (ne2 es) N k).map intsN
theorem cpK_len (es : List E2) (N k : Nat) : (cpK es N k).length ≤ k := by rw [cpK, List.length_map]; exact compsK_len _ _ _

set_option maxHeartbeats 8000000 in
theorem comps_any (N : Nat) (a : Option Addr) (c n : Nat) (es : List E2) (w : World) (hN : N ≤ 7) (hE : ∀ k (h : k < es.length), 0 ≤ (es[k]'h).1 ∧ (es[k]'h).1 < (es[k]'h).2 ∧ (es[k]'h).2 < N) (hn : es.length = n) (hx : Rd w a (edges es)) (hl : n ≤ 1048576) :
    Calls Try.prog 102 #[graphV N a n c] w fun e w' => ∃ a' c' rs, e = .returned (.slice a' (cpK es N N).length c') ∧ OwnM w' w.heap.size a' (cpK es N N).length c' rs (cpK es N N) ∧ Below w.heap.size w w' := by
  have hB := below_alloc w (.cells #[.int .i64 N, .slice a n c] 25)
  have q0 := heap_alloc_new w (.cells #[.int .i64 N, .slice a n c] 25)
  have hx1 := hx.below hB
  have hWs : w.heap.size < (w.alloc (.cells #[.int .i64 N, .slice a n c] 25)).heap.size := by simp
  generalize hW : w.alloc (.cells #[.int .i64 N, .slice a n c] 25) = W at *
  have HW := Lib.hid hW
  clear hW hx
  have hok := ne2_okay hE
  have HC := Lib.hid (fun (wr : World) (hb : Below W.heap.size W wr) => And.intro (blk_cell (blk_below q0 hb) 0 (.int .i64 N) rfl) (blk_cell (blk_below q0 hb) 1 (.slice a n c) rfl))
  have HCO := Lib.hid (fun (wr : World) (v : Nat) (hv : v < N) (hb : Below W.heap.size W wr) => comp_any N v a c n es wr hN hv hE hn (hx1.below hb) hl)
  have hM0 := ownM_nil W
  have hbA := below_alloc W (.cells #[] 38)
  clear q0 hx1 hE
  go_enter Try.func102, Try.ntmps102
  go_wp2_with (simp only [HW.out])
  go_loopw [3, 4, 5] (fun v i _ wr => ∃ (k : Nat) (av : Option Addr) (cv : Nat) (rs : List At), k ≤ N ∧ i = .int .i64 k ∧ v = .slice av (cpK es N k).length cv ∧ OwnM wr W.heap.size av (cpK es N k).length cv rs (cpK es N k) ∧ Below W.heap.size W wr) (fun _ i _ _ => N - (intOf i).toNat)
  case atStart => exact ⟨0, some ⟨W.heap.size, 0, none⟩, 0, [], by omega, rfl, rfl, by simpa [cpK, compsK] using hM0, hbA⟩
  case round =>
    clear hM0 hbA
    obtain ⟨k, av, cv, rs, hk, rfl, rfl, hM, hb⟩ := hrel
    obtain ⟨g0, g1⟩ := HC.out _ hb
    by_cases hlt : k < N
    · have C1 := HCO.out wr k hlt hb
      have hkl := cpK_len es N k
      have hml := memS_len (compS (ne2 es) N k)
      rw [compS_length] at hml
      obtain ⟨r, hr⟩ := minS_exists (compS_self hok hlt)
      have hh := memS_head hr
      have HYes := Lib.hid (fun h => show cpK es N (k + 1) = cpK es N k ++ [intsN (memS (compS (ne2 es) N k))] by rw [cpK, compsK_yes h, List.map_append]; rfl)
      have HNo := Lib.hid (fun h => show cpK es N (k + 1) = cpK es N k by rw [cpK, compsK_no h]; rfl)
      clear hr
      generalize hS : memS (compS (ne2 es) N k) = S at *
      clear hS
      cases S with
      | nil => simp at hh
      | cons r' S =>
        obtain rfl : r' = r := by simpa using hh
        generalize hP : cpK es N k = P at *
        clear hP hh
        obtain ⟨L, hL⟩ : ∃ L, L = (r' :: S).length := ⟨_, rfl⟩
        have hL1 : 0 < L := by rw [hL]; simp
        rw [← hL] at C1 hml
        have HL := Lib.hid hL
        clear hL
        have HMR := Lib.hid hM
        clear hM
        go_wp2_with fail
        refine C1.mono ?_
        rintro e w1 ⟨a1, k1, rfl, ho1, hb1⟩
        have hM := HMR.out.below hb1
        have hbB := hb.trans (hb1.mono hb.size)
        have hap := ApartA.fresh HMR.out.2.2.2.1 (by rw [HMR.out.1, HMR.out.2.1]) (a' := a1) (fun x hx => (own_lt ho1 x hx).1)
        have ho1 := own_mono ho1 hb.size
        obtain ⟨g, ea, _, _⟩ := own_head ho1 hL1
        subst ea
        obtain ⟨b9, o9, e9, c1⟩ := (own_rd ho1).int (k := 0) (by simp [intsN])
        cases e9
        simp only [intsN, List.map_cons, List.getElem_cons_zero, Nat.zero_add] at c1
        have hsz := hbB.size
        clear C1 hb1 HMR hb g0 g1
        by_cases hrk : r' = k
        · subst hrk
          have HR := Lib.hid (HYes.out rfl)
          have HRL := Lib.hid (show (cpK es N (r' + 1)).length = P.length + 1 by rw [HR.out, List.length_append]; rfl)
          have hbq : ((r' : Int) == (r' : Int)) = true := by simp
          clear HYes HNo
          go_wp2_with (at_builtin; refine pushRow _ _ rfl rfl hM hap (by rw [intsN_length, HL.out]) ho1 hbB (Nat.le_refl _) hsz rfl rfl (by omega) ?_; intro a' c' w5 hM5 hb5)
          have HM5 := Lib.hid hM5
          clear hM5 hM hap ho1 c1
          go_roundw
          case rel => exact ⟨r' + 1, a', c', _, by omega, by go_num, by rw [HRL.out], by rw [HRL.out, HR.out]; exact HM5.out, hb5⟩
          case measure => simp [intOf]; omega
        · have HR := Lib.hid (HNo.out (by simpa using hrk))
          have hbq : ((r' : Int) == (k : Int)) = false := beq_eq_false_iff_ne.2 (by omega)
          have HM5 := Lib.hid hM
          clear HYes HNo hM hap ho1
          go_wp2
          clear c1
          go_roundw
          case rel => exact ⟨k + 1, av, cv, rs, by omega, by go_num, by rw [HR.out], by rw [HR.out]; exact HM5.out, hbB⟩
          case measure => simp [intOf]; omega
    · obtain rfl : k = N := by omega
      have HM := Lib.hid (hM.mono (Nat.le_of_lt hWs))
      have HBF := below_tr' hB hb
      clear hM
      go_wp2
      go_ret
      exact ⟨av, cv, rs, rfl, HM.out, HBF⟩

end Go.Proofs.Ytjghcegacgpehaa
