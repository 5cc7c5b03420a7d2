
/- Nested graphs: IsNested on both sides. (Printed by gen_nest.py.) -/
import Derived.Test.YtchefkggnncalaaSorted
import Derived.Test.YtchefkggnncalaaIsPart2
import Derived.Test.YtchefkggnncalaaWhich
import Derived.Test.YtchefkggnncalaaFunc
import Derived.Test.YtchefkggnncalaaCopy
namespace Go.Proofs.Ytchefkggnncalaa
open Go.RowKit

def upI (n : Nat) : List Int := (List.range n).map fun i : Nat => (i : Int)
theorem upI_length (n : Nat) : (upI n).length = n := by simp [upI]
theorem upI_succ (n : Nat) : upI (n + 1) = upI n ++ [(n : Int)] := by simp [upI, List.range_succ]
def badM (gs : List E2) (u v x : Int) : Bool := (x != u) && ((x != v) && (hasM gs u x && !hasM gs v x))
def badB (gs : List E2) (u v x : Int) : Bool := (x != u) && ((x != v) && (hasB gs u x && !hasB gs v x))
def nestM (N : Nat) (gs : List E2) (u v : Int) : Bool := !((upI N).any (badM gs u v))
def nestB (N : Nat) (gs : List E2) (u v : Int) : Bool := !((upI N).any (badB gs u v))
theorem nestB_no {N k : Nat} {gs : List E2} {u v : Int} (hk : k < N) : badB gs u v k = true → nestB N gs u v = false := by
  intro h
  have : (upI N).any (badB gs u v) = true := List.any_eq_true.2 ⟨(k : Int), List.mem_map.2 ⟨k, List.mem_range.2 hk, rfl⟩, h⟩
  simp [nestB, this]
theorem nestB_yes {k : Nat} {gs : List E2} {u v : Int} (h : ∀ j : Nat, j < k → badB gs u v j = false) : nestB k gs u v = true := by
  have : (upI k).any (badB gs u v) = false := by
    rw [List.any_eq_false]
    intro x hx
    simp only [upI, List.mem_map, List.mem_range] at hx
    obtain ⟨j, hj, rfl⟩ := hx
    simp [h j hj]
  simp [nestB, this]
theorem nestB_M {N : Nat} {gs : List E2} {u v : Int} (h : ∀ e ∈ gs, e.1 < e.2) : nestB N gs u v = nestM N gs u v := by
  have : badB gs u v = badM gs u v := by
    funext x
    rw [badB, badM, hasB_hasM h, hasB_hasM h]
  rw [nestB, nestM, this]
noncomputable def nestedV (N : Int) (gs : List E2) : Bool := validG N gs && (pairsL N.toNat).all fun e => nestM N.toNat gs e.1 e.2 || nestM N.toNat gs e.2 e.1

theorem indices_any (n : Nat) (w : World) (hn : n ≤ 1000) :
    Calls Try.prog 81 #[.int .i64 n, .int .i64 (-1)] w fun e w' => ∃ a c, e = .returned (.slice a n c) ∧ w'.ownsRow w.heap.size 3 1 (.slice a n c) n (ints (upI n)) ∧ Below w.heap.size w w' := by
  go_enter Try.func81, Try.ntmps81
  go_wp2
  go_loopw [5, 6, 8] (fun v _ i wr => ∃ (k : Nat) (a : Option Addr) (c : Nat), k ≤ n ∧ i = .int .i64 k ∧ v = .slice a k c ∧ wr.ownsRow w.heap.size 3 1 (.slice a k c) k (ints (upI k)) ∧ Below w.heap.size w wr) (fun _ _ i _ => n - (intOf i).toNat)
  case atStart => exact ⟨0, none, 0, by omega, rfl, rfl, World.ownsRow_nil _ _ _ _, Below.refl _ _⟩
  case round =>
    obtain ⟨k, a, c, hk, rfl, rfl, hown, hb⟩ := hrel
    by_cases hlt : k < n
    · have hsz := hb.size
      go_wp2_with (at_builtin; refine appendI Try.infoI _ _ rfl rfl hown hb (Nat.le_refl _) hsz rfl rfl (by omega) ?_; intro a' c' w1 hown1 hb1)
      go_roundw
      case rel => exact ⟨k + 1, a', c', by omega, by go_num, rfl, by rw [upI_succ]; exact hown1, hb1⟩
      case measure => simp [intOf]; omega
    · obtain rfl : k = n := by omega
      go_wp2
      go_ret
      exact ⟨a, c, rfl, hown, hb⟩

theorem nest11_any (N : Nat) (a : Option Addr) (c n : Nat) (gs : List E2) (u v x : Int) (bu bv bg : Nat) (w : World) (qu : w.heap[bu]? = some (.cells #[.int .i64 u] 3 (0, 0))) (qv : w.heap[bv]? = some (.cells #[.int .i64 v] 3 (0, 0))) (qg : w.heap[bg]? = some (.cells #[.int .i64 N, .slice a n c] 29 (0, 0))) (hn : gs.length = n) (hx : Rd w a (edges gs)) (hl : n ≤ 8796093022208) :
    Calls Try.prog 82 #[.int .i64 x, .pointer (some ⟨bu, 0, none⟩), .pointer (some ⟨bv, 0, none⟩), .pointer (some ⟨bg, 0, none⟩)] w fun e w' => e = .returned (.bool (badM gs u v x)) ∧ Below w.heap.size w w' := by
  have u0 := blk_cell qu 0 (.int .i64 u) rfl
  have v0 := blk_cell qv 0 (.int .i64 v) rfl
  have g0 := blk_cell qg 0 (.int .i64 N) rfl
  have g1 := blk_cell qg 1 (.slice a n c) rfl
  cases h1 : (x != u)
  · have HR := Lib.hid (show badM gs u v x = false by simp [badM, h1])
    go_enter Try.func82, Try.ntmps82
    go_wp2
    go_ret
    exact ⟨ret_bool HR.out.symm, Below.refl _ _⟩
  · cases h2 : (x != v)
    · have HR := Lib.hid (show badM gs u v x = false by simp [badM, h1, h2])
      go_enter Try.func82, Try.ntmps82
      go_wp2
      go_ret
      exact ⟨ret_bool HR.out.symm, Below.refl _ _⟩
    · have C1 := has_any N a c n gs u x w hn hx hl
      have HR := Lib.hid (show (hasM gs u x && !hasM gs v x) = badM gs u v x by simp [badM, h1, h2])
      cases hA : hasM gs u x
      · rw [hA] at C1 HR
        go_enter Try.func82, Try.ntmps82
        go_wp2_with fail
        refine C1.mono ?_
        rintro e w1 ⟨rfl, hb⟩
        go_wp2
        go_ret
        exact ⟨ret_bool HR.out, hb⟩
      · rw [hA] at C1 HR
        go_enter Try.func82, Try.ntmps82
        go_wp2_with fail
        refine C1.mono ?_
        rintro e w1 ⟨rfl, hb⟩
        have q2 := blk_below qg hb
        have g0 := blk_cell q2 0 (.int .i64 N) rfl
        have g1 := blk_cell q2 1 (.slice a n c) rfl
        have v0 := blk_cell (blk_below qv hb) 0 (.int .i64 v) rfl
        have C2 := has_any N a c n gs v x w1 hn (hx.below hb) hl
        go_wp2_with fail
        refine C2.mono ?_
        rintro e w2 ⟨rfl, hb2⟩
        go_wp2
        go_ret
        exact ⟨ret_bool HR.out, below_tr' hb hb2⟩

theorem enters_nest11 : Enters Try.prog 82 := enters Try.func82 (by kernel_rfl) rfl
theorem enters_nest1 : Enters Try.prog 79 := enters Try.func79 (by kernel_rfl) rfl
theorem enters_nest2 : Enters Try.prog 83 := enters Try.func83 (by kernel_rfl) rfl

theorem nest1_any (N : Nat) (a : Option Addr) (c n : Nat) (gs : List E2) (u v : Int) (bg : Nat) (w : World) (qg : w.heap[bg]? = some (.cells #[.int .i64 N, .slice a n c] 29 (0, 0))) (hN : N ≤ 1000) (hn : gs.length = n) (hx : Rd w a (edges gs)) (hl : n ≤ 8796093022208) :
    Calls Try.prog 79 #[.int .i64 u, .int .i64 v, .pointer (some ⟨bg, 0, none⟩)] w fun e w' => e = .returned (.bool (nestM N gs u v)) ∧ Below w.heap.size w w' := by
  have hB := below_alloc2 w (.cells #[.int .i64 u] 3) (.cells #[.int .i64 v] 3)
  have qu := blk_below (heap_alloc_new w (.cells #[.int .i64 u] 3)) (below_alloc _ (.cells #[.int .i64 v] 3))
  have qv := heap_alloc_new (w.alloc (.cells #[.int .i64 u] 3)) (.cells #[.int .i64 v] 3)
  rw [show (w.alloc (.cells #[.int .i64 u] 3)).heap.size = w.heap.size + 1 from by simp] at qv
  have qg := blk_below qg hB
  have xg := hx.below hB
  clear hx
  generalize hW : (w.alloc (.cells #[.int .i64 u] 3)).alloc (.cells #[.int .i64 v] 3) = W at *
  have HW := Lib.hid hW
  clear hW
  have g0 := blk_cell qg 0 (.int .i64 N) rfl
  have C1 := indices_any N W hN
  go_enter Try.func79, Try.ntmps79
  go_wp2_with (simp only [HW.out])
  refine C1.mono ?_
  rintro e w1 ⟨aI, cI, rfl, ho, hb⟩
  have hA : Answers w1 82 #[.pointer (some ⟨w.heap.size, 0, none⟩), .pointer (some ⟨w.heap.size + 1, 0, none⟩), .pointer (some ⟨bg, 0, none⟩)] (upI N) (badM gs u v) :=
    ⟨enters_nest11, fun w' x hb' _ => nest11_any N a c n gs u v x w.heap.size (w.heap.size + 1) bg w' (blk_below (blk_below qu hb) hb') (blk_below (blk_below qv hb) hb') (blk_below (blk_below qg hb) hb') hn ((xg.below hb).below hb') hl⟩
  have C2 := ContainsFunc_any aI cI N (upI N) _ _ _ w1 (upI_length N) (own_rd ho) (by omega) hA
  have HR := Lib.hid (show (!((upI N).any (badM gs u v))) = nestM N gs u v from rfl)
  generalize (upI N).any (badM gs u v) = B at *
  clear hA C1 ho qu qv qg g0 xg
  go_wp2_with fail
  refine C2.mono ?_
  rintro e w2 ⟨rfl, hb2⟩
  clear C2
  go_wp2
  go_ret
  exact ⟨ret_bool HR.out, below_tr' hB (below_tr' hb hb2)⟩

theorem nest2_any (N : Nat) (a : Option Addr) (c n : Nat) (gs : List E2) (x y : Int) (bc bg : Nat) (w : World) (qc : w.heap[bc]? = some (.cells #[.func (.func 79) #[] #[.pointer (some ⟨bg, 0, none⟩)]] 63 (0, 0))) (qg : w.heap[bg]? = some (.cells #[.int .i64 N, .slice a n c] 29 (0, 0))) (hN : N ≤ 1000) (hn : gs.length = n) (hx : Rd w a (edges gs)) (hl : n ≤ 8796093022208) :
    Calls Try.prog 83 #[.agg #[.int .i64 x, .int .i64 y], .pointer (some ⟨bc, 0, none⟩)] w fun e w' => e = .returned (.bool (!nestM N gs x y && !nestM N gs y x)) ∧ Below w.heap.size w w' := by
  have hK : ∀ args w, (callFunc 79 args).run Try.prog w = .ok (.enter 79 args) w := enters_nest1
  have hB := below_alloc w (.cells #[.int .i64 x, .int .i64 y] 59)
  have qe := heap_alloc_new w (.cells #[.int .i64 x, .int .i64 y] 59)
  have qc := blk_below qc hB
  have qg := blk_below qg hB
  have xg := hx.below hB
  clear hx
  generalize hW : w.alloc (.cells #[.int .i64 x, .int .i64 y] 59) = W at *
  have HW := Lib.hid hW
  clear hW
  have e0 := blk_cell qe 0 (.int .i64 x) rfl
  have e1 := blk_cell qe 1 (.int .i64 y) rfl
  have c0 := blk_cell qc 0 (.func (.func 79) #[] #[.pointer (some ⟨bg, 0, none⟩)]) rfl
  have C1 := nest1_any N a c n gs x y bg W qg hN hn xg hl
  cases hA : nestM N gs x y
  · rw [hA] at C1
    go_enter Try.func83, Try.ntmps83
    go_wp2_with (simp only [HW.out])
    refine C1.mono ?_
    rintro e w1 ⟨rfl, hb⟩
    clear e0 e1 c0 C1
    have qe := blk_below qe hb
    have qc := blk_below qc hb
    have e0 := blk_cell qe 0 (.int .i64 x) rfl
    have e1 := blk_cell qe 1 (.int .i64 y) rfl
    have c0 := blk_cell qc 0 (.func (.func 79) #[] #[.pointer (some ⟨bg, 0, none⟩)]) rfl
    have C2 := nest1_any N a c n gs y x bg w1 (blk_below qg hb) hN hn (xg.below hb) hl
    go_wp2_with fail
    refine C2.mono ?_
    rintro e w2 ⟨rfl, hb2⟩
    go_wp2
    go_ret
    exact ⟨ret_bool (by simp), below_tr' hB (below_tr' hb hb2)⟩
  · rw [hA] at C1
    go_enter Try.func83, Try.ntmps83
    go_wp2_with (simp only [HW.out])
    refine C1.mono ?_
    rintro e w1 ⟨rfl, hb⟩
    go_wp2
    go_ret
    exact ⟨ret_bool (by simp), below_tr' hB hb⟩

set_option maxHeartbeats 1000000 in
theorem specNested_any (N : Nat) (a : Option Addr) (c n : Nat) (gs : List E2) (u v : Int) (w : World) (hN : N ≤ 1000) (hn : gs.length = n) (hx : Rd w a (edges gs)) (hl : n ≤ 8796093022208) :
    Calls Try.prog 78 #[graphV N a n c, .int .i64 u, .int .i64 v] w fun e w' => e = .returned (.bool (nestB N gs u v)) ∧ Below w.heap.size w w' := by
  have hB := below_alloc w (.cells #[.int .i64 N, .slice a n c] 29)
  have qg := heap_alloc_new w (.cells #[.int .i64 N, .slice a n c] 29)
  generalize hW : w.alloc (.cells #[.int .i64 N, .slice a n c] 29) = W at *
  have HW := Lib.hid hW
  clear hW
  have xg := hx.below hB
  clear hx
  go_enter Try.func78, Try.ntmps78
  go_wp2_with (simp only [HW.out])
  go_loopw [7] (fun i wr => ∃ k : Nat, k ≤ N ∧ i = .int .i64 k ∧ (∀ j : Nat, j < k → badB gs u v j = false) ∧ Below W.heap.size W wr) (fun i _ => N - (intOf i).toNat)
  case atStart => exact ⟨0, by omega, rfl, by intro j hj; omega, Below.refl _ _⟩
  case round =>
    obtain ⟨k, hk, rfl, hno, hb⟩ := hrel
    have rg := blk_below qg hb
    have g0 := blk_cell rg 0 (.int .i64 N) rfl
    have g1 := blk_cell rg 1 (.slice a n c) rfl
    by_cases hlt : k < N
    · have HNx : badB gs u v k = false → ∀ j : Nat, j < k + 1 → badB gs u v j = false := by
        intro h0 j hj
        by_cases e : j = k
        · subst e; exact h0
        · exact hno j (by omega)
      have HNx := Lib.hid HNx
      have HYx := Lib.hid (nestB_no (N := N) (gs := gs) (u := u) (v := v) hlt)
      clear hno
      cases h1 : ((k : Int) != u)
      · skip
        have HR := Lib.hid (HNx.out (by simp [badB, h1]))
        clear HNx HYx
        go_wp2
        go_roundw
        case rel => exact ⟨k + 1, by omega, by go_num, HR.out, hb⟩
        case measure => simp [intOf]; omega
      · cases h2 : ((k : Int) != v)
        · skip
          have HR := Lib.hid (HNx.out (by simp [badB, h1, h2]))
          clear HNx HYx
          go_wp2
          go_roundw
          case rel => exact ⟨k + 1, by omega, by go_num, HR.out, hb⟩
          case measure => simp [intOf]; omega
        · have C1 := specHasEdge_any N a c n gs u k wr hn (xg.below hb) hl
          cases hA : hasB gs u k
          · rw [hA] at C1
            have HR := Lib.hid (HNx.out (by simp [badB, hA]))
            clear HNx HYx
            go_wp2_with fail
            refine C1.mono ?_
            rintro e w1 ⟨rfl, hb1⟩
            have hb1 := below_tr' hb hb1
            clear C1
            go_wp2
            go_roundw
            case rel => exact ⟨k + 1, by omega, by go_num, HR.out, hb1⟩
            case measure => simp [intOf]; omega
          · rw [hA] at C1
            go_wp2_with fail
            refine C1.mono ?_
            rintro e w1 ⟨rfl, hb1⟩
            have hb1 := below_tr' hb hb1
            clear C1 g0 g1
            have r1 := blk_below qg hb1
            have g0 := blk_cell r1 0 (.int .i64 N) rfl
            have g1 := blk_cell r1 1 (.slice a n c) rfl
            have C2 := specHasEdge_any N a c n gs v k w1 hn (xg.below hb1) hl
            cases hA2 : hasB gs v k
            · rw [hA2] at C2
              have HR := Lib.hid (HYx.out (by simp [badB, h1, h2, hA, hA2]))
              clear HNx HYx
              go_wp2_with fail
              refine C2.mono ?_
              rintro e w2 ⟨rfl, hb2⟩
              have hb2 := below_tr' hB (below_tr' hb1 hb2)
              clear C2
              go_wp2
              go_ret
              exact ⟨ret_bool HR.out.symm, hb2⟩
            · rw [hA2] at C2
              have HR := Lib.hid (HNx.out (by simp [badB, hA2]))
              clear HNx HYx
              go_wp2_with fail
              refine C2.mono ?_
              rintro e w2 ⟨rfl, hb2⟩
              have hb2 := below_tr' hb1 hb2
              clear C2
              go_wp2
              go_roundw
              case rel => exact ⟨k + 1, by omega, by go_num, HR.out, hb2⟩
              case measure => simp [intOf]; omega
    · obtain rfl : k = N := by omega
      have HR := Lib.hid (nestB_yes hno)
      clear hno
      go_wp2
      go_ret
      exact ⟨ret_bool HR.out.symm, below_tr' hB hb⟩

end Go.Proofs.Ytchefkggnncalaa
