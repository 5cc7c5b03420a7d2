
/- IsNested itself, both sides. (Printed by gen_nest2.py.) -/
import Derived.Test.YtjghcegacgpehaaNest
import Derived.Laws.EntriesVeiled
namespace Go.Proofs.Ytjghcegacgpehaa
open Go.RowKit

theorem nestedV_M {M : Nat} {gs : List E2} (h : validG M gs = true) : nestedV M gs = !((pairsL M).any fun e => !nestM M gs e.1 e.2 && !nestM M gs e.2 e.1) := by
  have h1 : nestedV M gs = (pairsL M).all fun e => nestM M gs e.1 e.2 || nestM M gs e.2 e.1 := by rw [nestedV, h, Bool.true_and]; rfl
  rw [h1, List.all_eq_not_any_not]
  congr 2
  funext e
  rw [Bool.not_or]
theorem nestedV_B {M : Nat} {gs : List E2} (h : validG M gs = true) : nestedV M gs = (pairsL M).all fun e => nestB M gs e.1 e.2 || nestB M gs e.2 e.1 := by
  have h1 : nestedV M gs = (pairsL M).all fun e => nestM M gs e.1 e.2 || nestM M gs e.2 e.1 := by rw [nestedV, h, Bool.true_and]; rfl
  rw [h1]
  congr 1
  funext e
  rw [nestB_M (valid_lt h), nestB_M (valid_lt h)]

set_option maxHeartbeats 1000000 in
theorem implIsNested_any (N : Int) (a : Option Addr) (c n : Nat) (gs : List E2) (w : World) (hN : N ≤ 9223372036854775807) (hn : gs.length = n) (hx : Rd w a (edges gs)) (hl : n ≤ 8796093022208) :
    Calls Try.prog 47 #[graphV N a n c] w fun e w' => e = .returned (.bool (nestedV N gs)) ∧ Below w.heap.size w w' := by
  have hB := below_alloc w (.cells #[.int .i64 N, .slice a n c] 25)
  have qg := heap_alloc_new w (.cells #[.int .i64 N, .slice a n c] 25)
  have xg := hx.below hB
  clear hx
  generalize hW : w.alloc (.cells #[.int .i64 N, .slice a n c] 25) = W at *
  have HW := Lib.hid hW
  clear hW
  have g0 := blk_cell qg 0 (.int .i64 N) rfl
  have g1 := blk_cell qg 1 (.slice a n c) rfl
  have C1 := implValidGraph_any N a c n gs W hN hn xg hl
  cases hv : validG N gs
  · rw [hv] at C1
    have HR := Lib.hid (show nestedV N gs = false by simp [nestedV, hv])
    go_enter Try.func47, Try.ntmps47
    go_wp2_with (simp only [HW.out])
    refine C1.mono ?_
    rintro e w1 ⟨rfl, hb⟩
    go_wp2
    go_ret
    exact ⟨ret_bool HR.out.symm, below_tr' hB hb⟩
  · rw [hv] at C1
    have h7 := (validG_true.1 hv).2
    obtain ⟨M, rfl⟩ : ∃ M : Nat, N = M := ⟨N.toNat, by omega⟩
    have HR := Lib.hid (nestedV_M hv)
    go_enter Try.func47, Try.ntmps47
    go_wp2_with (simp only [HW.out])
    refine C1.mono ?_
    rintro e w1 ⟨rfl, hb⟩
    clear C1 g0 g1
    have qg := blk_below qg hb
    have xg := xg.below hb
    have hB := below_tr' hB hb
    have hA := below_alloc w1 (.cells #[.nilFunc] 79)
    have qc := heap_alloc_new w1 (.cells #[.nilFunc] 79)
    have qg := blk_below qg hA
    have hgs := blk_lt qg
    generalize hV0 : w1.alloc (.cells #[.nilFunc] 79) = V0 at *
    have HV0 := Lib.hid hV0
    clear hV0
    have zc := blk_cell qc 0 .nilFunc rfl
    have fc := blk_free qc 0
    have hne : w.heap.size ≠ w1.heap.size := by
      intro e
      rw [e] at qg
      rw [qg] at qc
      simp at qc
    have qc := blk_set qc 0 (.func (.func 116) #[] #[.pointer (some ⟨w.heap.size, 0, none⟩)])
    have qg := blk_set_other qg 0 (.func (.func 116) #[] #[.pointer (some ⟨w.heap.size, 0, none⟩)]) hne
    have hA := hA.setCell (p := ⟨w1.heap.size, 0, none⟩) (Nat.le_refl _) (.func (.func 116) #[] #[.pointer (some ⟨w.heap.size, 0, none⟩)])
    have xg := xg.below hA
    have hB := below_tr' hB hA
    generalize hV : V0.setCell ⟨w1.heap.size, 0, none⟩ (.func (.func 116) #[] #[.pointer (some ⟨w.heap.size, 0, none⟩)]) = V at *
    have HV := Lib.hid hV
    clear hV hA
    have g0 := blk_cell qg 0 (.int .i64 M) rfl
    have C2 := implPairs_any M V (by omega)
    go_wp2_with (first | simp only [HV0.out] | simp only [HV.out])
    refine C2.mono ?_
    rintro e w3 ⟨aL, cL, rfl, hoL, hb3⟩
    have hAn : AnswersF w3 119 #[.pointer (some ⟨w1.heap.size, 0, none⟩)] (pairsL M) (fun e => !nestM M gs e.1 e.2 && !nestM M gs e.2 e.1) :=
      ⟨enters_nest2, fun w' e hb' _ => nest2_any M a c n gs e.1 e.2 w1.heap.size w.heap.size w' (blk_below (blk_below qc hb3) hb') (blk_below (blk_below qg hb3) hb') (by omega) hn ((xg.below hb3).below hb') hl⟩
    have hpl := pairsL_len (N := M) (by omega)
    have C3 := ContainsFuncE_any aL cL (pairsL M).length (pairsL M) _ _ _ w3 rfl (own_rd hoL) (by omega) hAn
    generalize (pairsL M).any (fun e => !nestM M gs e.1 e.2 && !nestM M gs e.2 e.1) = B at *
    generalize (pairsL M).length = m at *
    clear hAn C2 hoL qc qg g0 xg
    go_wp2_with fail
    refine C3.mono ?_
    rintro e w4 ⟨rfl, hb4⟩
    clear C3
    go_wp2
    go_ret
    exact ⟨ret_bool HR.out.symm, below_tr' hB (below_tr' hb3 hb4)⟩

end Go.Proofs.Ytjghcegacgpehaa
