
/- Nested graphs: IsNested on both sides. (Printed by gen_nest.py.) -/
import Derived.Test.YtjghcegacgpehaaSorted
import Derived.Test.YtjghcegacgpehaaIdx
import Derived.Test.YtjghcegacgpehaaIsPart2
import Derived.Test.YtjghcegacgpehaaWhich
import Derived.Test.YtjghcegacgpehaaEach
import Derived.Test.YtjghcegacgpehaaCopy
namespace Go.Proofs.Ytjghcegacgpehaa
open Go.RowKit

def badM (gs : List E2) (u v x : Int) : Bool := (x != u) && ((x != v) && (hasM gs u x && !hasM gs v x))
def badB (gs : List E2) (u v x : Int) : Bool := (x != u) && ((x != v) && (hasB gs u x && !hasB gs v x))
def nestM (N : Nat) (gs : List E2) (u v : Int) : Bool := !((upI N).any (badM gs u v))
def nestB (N : Nat) (gs : List E2) (u v : Int) : Bool := !((upI N).any (badB gs u v))
theorem nestB_no {N k : Nat} {gs : List E2} {u v : Int} (hk : k < N) : badB gs u v k = true → nestB N gs u v = false := by
  intro h
  have : (upI N).any (badB gs u v) = true := List.any_eq_true.2 ⟨(k : Int), List.mem_map.2 ⟨k, List.mem_range.2 hk, rfl⟩, h⟩
  simp [nestB, this]
theorem nestB_yes {k : Nat} {gs : List E2} {u v : Int} (h : ∀ j : Nat, j < k → badB gs u v j = false) : nestB k gs u v = true := by
  have : (upI k).any (badB gs u v) = false := by
    rw [List.any_eq_false]
    intro x hx
    simp only [upI, List.mem_map, List.mem_range] at hx
    obtain ⟨j, hj, rfl⟩ := hx
    simp [h j hj]
  simp [nestB, this]
theorem nestB_M {N : Nat} {gs : List E2} {u v : Int} (h : ∀ e ∈ gs, e.1 < e.2) : nestB N gs u v = nestM N gs u v := by
  have : badB gs u v = badM gs u v := by
    funext x
    rw [badB, badM, hasB_hasM h, hasB_hasM h]
  rw [nestB, nestM, this]
noncomputable def nestedV (N : Int) (gs : List E2) : Bool := validG N gs && (pairsL N.toNat).all fun e => nestM N.toNat gs e.1 e.2 || nestM N.toNat gs e.2 e.1

theorem nest11_any (N : Nat) (a : Option Addr) (c n : Nat) (gs : List E2) (u v x : Int) (bu bv bg : Nat) (w : World) (qu : w.heap[bu]? = some (.cells #[.int .i64 u] 3 (0, 0))) (qv : w.heap[bv]? = some (.cells #[.int .i64 v] 3 (0, 0))) (qg : w.heap[bg]? = some (.cells #[.int .i64 N, .slice a n c] 25 (0, 0))) (hn : gs.length = n) (hx : Rd w a (edges gs)) (hl : n ≤ 8796093022208) :
    Calls Try.prog 118 #[.int .i64 x, .pointer (some ⟨bu, 0, none⟩), .pointer (some ⟨bv, 0, none⟩), .pointer (some ⟨bg, 0, none⟩)] w fun e w' => e = .returned (.bool (badM gs u v x)) ∧ Below w.heap.size w w' := by
  have u0 := blk_cell qu 0 (.int .i64 u) rfl
  have v0 := blk_cell qv 0 (.int .i64 v) rfl
  have g0 := blk_cell qg 0 (.int .i64 N) rfl
  have g1 := blk_cell qg 1 (.slice a n c) rfl
  cases h1 : (x != u)
  · have HR := Lib.hid (show badM gs u v x = false by simp [badM, h1])
    go_enter Try.func118, Try.ntmps118
    go_wp2
    go_ret
    exact ⟨ret_bool HR.out.symm, Below.refl _ _⟩
  · cases h2 : (x != v)
    · have HR := Lib.hid (show badM gs u v x = false by simp [badM, h1, h2])
      go_enter Try.func118, Try.ntmps118
      go_wp2
      go_ret
      exact ⟨ret_bool HR.out.symm, Below.refl _ _⟩
    · have C1 := has_any N a c n gs u x w hn hx hl
      have HR := Lib.hid (show (hasM gs u x && !hasM gs v x) = badM gs u v x by simp [badM, h1, h2])
      cases hA : hasM gs u x
      · rw [hA] at C1 HR
        go_enter Try.func118, Try.ntmps118
        go_wp2_with fail
        refine C1.mono ?_
        rintro e w1 ⟨rfl, hb⟩
        go_wp2
        go_ret
        exact ⟨ret_bool HR.out, hb⟩
      · rw [hA] at C1 HR
        go_enter Try.func118, Try.ntmps118
        go_wp2_with fail
        refine C1.mono ?_
        rintro e w1 ⟨rfl, hb⟩
        have q2 := blk_below qg hb
        have g0 := blk_cell q2 0 (.int .i64 N) rfl
        have g1 := blk_cell q2 1 (.slice a n c) rfl
        have v0 := blk_cell (blk_below qv hb) 0 (.int .i64 v) rfl
        have C2 := has_any N a c n gs v x w1 hn (hx.below hb) hl
        go_wp2_with fail
        refine C2.mono ?_
        rintro e w2 ⟨rfl, hb2⟩
        go_wp2
        go_ret
        exact ⟨ret_bool HR.out, below_tr' hb hb2⟩

theorem enters_nest11 : Enters Try.prog 118 := enters Try.func118 (by kernel_rfl) rfl
theorem enters_nest1 : Enters Try.prog 116 := enters Try.func116 (by kernel_rfl) rfl
theorem enters_nest2 : Enters Try.prog 119 := enters Try.func119 (by kernel_rfl) rfl

theorem nest1_any (N : Nat) (a : Option Addr) (c n : Nat) (gs : List E2) (u v : Int) (bg : Nat) (w : World) (qg : w.heap[bg]? = some (.cells #[.int .i64 N, .slice a n c] 25 (0, 0))) (hN : N ≤ 1000) (hn : gs.length = n) (hx : Rd w a (edges gs)) (hl : n ≤ 8796093022208) :
    Calls Try.prog 116 #[.int .i64 u, .int .i64 v, .pointer (some ⟨bg, 0, none⟩)] w fun e w' => e = .returned (.bool (nestM N gs u v)) ∧ Below w.heap.size w w' := by
  have hB := below_alloc2 w (.cells #[.int .i64 u] 3) (.cells #[.int .i64 v] 3)
  have qu := blk_below (heap_alloc_new w (.cells #[.int .i64 u] 3)) (below_alloc _ (.cells #[.int .i64 v] 3))
  have qv := heap_alloc_new (w.alloc (.cells #[.int .i64 u] 3)) (.cells #[.int .i64 v] 3)
  rw [show (w.alloc (.cells #[.int .i64 u] 3)).heap.size = w.heap.size + 1 from by simp] at qv
  have qg := blk_below qg hB
  have xg := hx.below hB
  clear hx
  generalize hW : (w.alloc (.cells #[.int .i64 u] 3)).alloc (.cells #[.int .i64 v] 3) = W at *
  have HW := Lib.hid hW
  clear hW
  have g0 := blk_cell qg 0 (.int .i64 N) rfl
  have C1 := indices_any N W hN
  go_enter Try.func116, Try.ntmps116
  go_wp2_with (simp only [HW.out])
  refine C1.mono ?_
  rintro e w1 ⟨aI, cI, rfl, ho, hb⟩
  have hA : Answers w1 118 #[.pointer (some ⟨w.heap.size, 0, none⟩), .pointer (some ⟨w.heap.size + 1, 0, none⟩), .pointer (some ⟨bg, 0, none⟩)] (upI N) (badM gs u v) :=
    ⟨enters_nest11, fun w' x hb' _ => nest11_any N a c n gs u v x w.heap.size (w.heap.size + 1) bg w' (blk_below (blk_below qu hb) hb') (blk_below (blk_below qv hb) hb') (blk_below (blk_below qg hb) hb') hn ((xg.below hb).below hb') hl⟩
  have C2 := ContainsFunc_any aI cI N (upI N) _ _ _ w1 (upI_length N) (own_rd ho) (by omega) hA
  have HR := Lib.hid (show (!((upI N).any (badM gs u v))) = nestM N gs u v from rfl)
  generalize (upI N).any (badM gs u v) = B at *
  clear hA C1 ho qu qv qg g0 xg
  go_wp2_with fail
  refine C2.mono ?_
  rintro e w2 ⟨rfl, hb2⟩
  clear C2
  go_wp2
  go_ret
  exact ⟨ret_bool HR.out, below_tr' hB (below_tr' hb hb2)⟩

theorem nest2_any (N : Nat) (a : Option Addr) (c n : Nat) (gs : List E2) (x y : Int) (bc bg : Nat) (w : World) (qc : w.heap[bc]? = some (.cells #[.func (.func 116) #[] #[.pointer (some ⟨bg, 0, none⟩)]] 79 (0, 0))) (qg : w.heap[bg]? = some (.cells #[.int .i64 N, .slice a n c] 25 (0, 0))) (hN : N ≤ 1000) (hn : gs.length = n) (hx : Rd w a (edges gs)) (hl : n ≤ 8796093022208) :
    Calls Try.prog 119 #[.agg #[.int .i64 x, .int .i64 y], .pointer (some ⟨bc, 0, none⟩)] w fun e w' => e = .returned (.bool (!nestM N gs x y && !nestM N gs y x)) ∧ Below w.heap.size w w' := by
  have hK : ∀ args w, (callFunc 116 args).run Try.prog w = .ok (.enter 116 args) w := enters_nest1
  have hB := below_alloc w (.cells #[.int .i64 x, .int .i64 y] 48)
  have qe := heap_alloc_new w (.cells #[.int .i64 x, .int .i64 y] 48)
  have qc := blk_below qc hB
  have qg := blk_below qg hB
  have xg := hx.below hB
  clear hx
  generalize hW : w.alloc (.cells #[.int .i64 x, .int .i64 y] 48) = W at *
  have HW := Lib.hid hW
  clear hW
  have e0 := blk_cell qe 0 (.int .i64 x) rfl
  have e1 := blk_cell qe 1 (.int .i64 y) rfl
  have c0 := blk_cell qc 0 (.func (.func 116) #[] #[.pointer (some ⟨bg, 0, none⟩)]) rfl
  have C1 := nest1_any N a c n gs x y bg W qg hN hn xg hl
  cases hA : nestM N gs x y
  · rw [hA] at C1
    go_enter Try.func119, Try.ntmps119
    go_wp2_with (simp only [HW.out])
    refine C1.mono ?_
    rintro e w1 ⟨rfl, hb⟩
    clear e0 e1 c0 C1
    have qe := blk_below qe hb
    have qc := blk_below qc hb
    have e0 := blk_cell qe 0 (.int .i64 x) rfl
    have e1 := blk_cell qe 1 (.int .i64 y) rfl
    have c0 := blk_cell qc 0 (.func (.func 116) #[] #[.pointer (some ⟨bg, 0, none⟩)]) rfl
    have C2 := nest1_any N a c n gs y x bg w1 (blk_below qg hb) hN hn (xg.below hb) hl
    go_wp2_with fail
    refine C2.mono ?_
    rintro e w2 ⟨rfl, hb2⟩
    go_wp2
    go_ret
    exact ⟨ret_bool (by simp), below_tr' hB (below_tr' hb hb2)⟩
  · rw [hA] at C1
    go_enter Try.func119, Try.ntmps119
    go_wp2_with (simp only [HW.out])
    refine C1.mono ?_
    rintro e w1 ⟨rfl, hb⟩
    go_wp2
    go_ret
    exact ⟨ret_bool (by simp), below_tr' hB hb⟩

end Go.Proofs.Ytjghcegacgpehaa
