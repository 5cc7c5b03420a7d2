
/- The program's CountRealizations. -/
import Derived.Test.YtjmiafkkbganlaaReal
import Derived.Test.YtjmiafkkbganlaaSubW4
import Derived.Test.YtjmiafkkbganlaaWhich
namespace Go.Proofs.Ytjmiafkkbganlaa
open Go.RowKit

theorem implListed_any (a : Option Addr) (c n m : Nat) (xs : List Int) (w : World) (hn : xs.length = n) (hx : Rd w a (ints xs)) (hl : n ≤ 140737488351232) :
    Calls Try.prog 53 #[.slice a n c, .int .i64 m] w fun e w' => e = .returned (.bool (validD xs && decide (n ≤ m))) ∧ Below w.heap.size w w' := by
  have C1 := implVD_any a c n xs w hn hx hl
  have hd : decide ((n : Int) ≤ (m : Int)) = decide (n ≤ m) := by simp only [decide_eq_decide]; omega
  clear hx
  cases hv : validD xs
  · rw [hv] at C1
    clear hv
    go_enter Try.func53, Try.ntmps53
    go_wp2_with fail
    refine C1.mono ?_
    rintro e w1 ⟨rfl, hb⟩
    clear C1
    go_wp2
    go_ret
    exact ⟨rfl, hb⟩
  · rw [hv] at C1
    clear hv
    go_enter Try.func53, Try.ntmps53
    go_wp2_with fail
    refine C1.mono ?_
    rintro e w1 ⟨rfl, hb⟩
    clear C1
    go_wp2
    go_ret
    exact ⟨by rw [Bool.true_and, ← hd]; rfl, hb⟩

/-- The state of the counter: the number in its cell. -/
def CntSt (A : Nat) (s : Nat) (l : List Nat) (w : World) : Prop := l = [A] ∧ w.heap[A]? = some (.cells #[.int .i64 (s : Int)] 3 (0, 0))
theorem cnt_keeps (A : Nat) : Keeps (CntSt A) := by
  refine ⟨?_, ?_⟩
  · rintro s l w w' ⟨rfl, h⟩ hs
    exact ⟨rfl, (hs A (List.mem_singleton.2 rfl)).trans h⟩
  · rintro s l w ⟨rfl, h⟩ i hi
    rw [List.mem_singleton.1 hi]
    exact blk_lt h
theorem enters_cnt : Enters Try.prog 56 := enters Try.func56 (by kernel_rfl) rfl
set_option maxHeartbeats 1000000 in
theorem cnt_takes (A N : Nat) : Takes 56 #[.pointer (some ⟨A, 0, none⟩)] N 2097152 id (CntSt A) (fun s _ => (s + 1, true)) := by
  refine ⟨enters_cnt, ?_⟩
  rintro s l w a c es hs hes ⟨rfl, hq⟩ ho hne
  have hB := below_alloc w (.cells #[.int .i64 (N : Int), .slice a es.length es.length] 29)
  have hq1 := blk_below hq hB
  have k := blk_cell hq1 0 (.int .i64 (s : Int)) rfl
  have f := blk_free hq1 0
  have hs' : s < 2097152 := hs
  have HS := Lib.hid (show CntSt A (s + 1) [A] ((w.alloc (.cells #[.int .i64 (N : Int), .slice a es.length es.length] 29)).setCell ⟨A, 0, none⟩ (.int .i64 ((s : Int) + 1))) from ⟨rfl, by rw [blk_set hq1]; rfl⟩)
  have HF := Lib.hid ((FrL.of_below hB [A]).trans (FrL.set (w.alloc (.cells #[.int .i64 (N : Int), .slice a es.length es.length] 29)) A 0 (.int .i64 ((s : Int) + 1)) [A] (List.mem_singleton.2 rfl)))
  clear hq ho hne hs hB hq1
  go_enter Try.func56, Try.ntmps56
  go_wp2
  go_ret
  exact ⟨rfl, [A], HS.out, fun i hi => .inl hi, HF.out⟩

set_option maxHeartbeats 1000000 in
theorem implCountRealizations_any (a : Option Addr) (c n : Nat) (xs : List Int) (w : World) (hn : xs.length = n) (hx : Rd w a (ints xs)) (hl : n ≤ 140737488351232) (hnil : a = none → n = 0 ∧ c = 0) :
    Calls Try.prog 22 #[.slice a n c] w fun e w' => e = .returned (.int .i64 (countR 6 xs)) ∧ Below w.heap.size w w' := by
  have C1 := implListed_any a c n 6 xs w hn hx hl
  by_cases hv : validD xs = true ∧ n ≤ 6
  · have HR := Lib.hid (show countR 6 xs = ((realsN xs).length : Int) by rw [countR, if_pos ⟨hv.1, by rw [hn]; exact hv.2⟩])
    have h6 := hv.2
    obtain ⟨v1, v2, v3⟩ := validD_toN hv.1
    obtain ⟨p1, p2, p3, p4, p5⟩ := pairsN_facts n (by omega)
    have hTL := toN_length xs
    have hlr := reals_len v2
    have hRE : solsN (pairsN n) (toN xs) [] = realsN xs := by rw [realsN, hn]
    have HC := fun w => implPairs_any n w (by omega)
    rw [← p1] at HC
    have hel := en2_length (pairsN n)
    rw [hel] at HC
    have hb1 : (validD xs && decide (n ≤ 6)) = true := by simp [hv.1, hv.2]
    rw [hb1] at C1
    generalize hps : pairsN n = ps at *
    generalize hrs : realsN xs = rs at *
    clear hps p1 p2 hel hb1 hv hrs
    go_enter Try.func22, Try.ntmps22
    go_wp2_with fail
    refine C1.mono ?_
    rintro e w1 ⟨rfl, hb1⟩
    clear C1
    go_wp2_with fail
    have hB2 := below_tr' hb1 (below_alloc w1 (.cells #[.int .i64 0] 3))
    have hq := heap_alloc_new w1 (.cells #[.int .i64 0] 3)
    have hgs := hb1.size
    have hsz : (w1.alloc (.cells #[.int .i64 0] 3)).heap.size = w1.heap.size + 1 := by simp
    generalize w1.alloc (.cells #[.int .i64 0] 3) = w2 at *
    generalize w1.heap.size = A at *
    refine (HC w2).mono ?_
    rintro e w3 ⟨a3, c3, rfl, ho3, hb3⟩
    have HB := below_tr' hB2 hb3
    have hq := blk_below hq hb3
    have C3 := subgraphs_any (M := 2097152) n a3 a ps.length c3 c 56 #[.pointer (some ⟨A, 0, none⟩)] ps (toN xs) 0 [A] w3 (cnt_keeps A) (cnt_takes A n) (fun s x => Nat.le_refl _) (by omega) rfl (by omega) (fun e he => by have := p4 e he; omega) (by omega) v3 (by rw [hRE]; simp only [id]; omega) (own_rd ho3) (fun i hi => by have := own_blks ho3 i hi; refine ⟨this.2, fun h => ?_⟩; have := List.mem_singleton.1 h; omega) (by rw [v1]; exact hx.below HB) hnil ⟨rfl, hq⟩
    rw [hRE, fold_count] at C3
    clear HC ho3 hb3 hx hB2 hb1 hsz
    go_wp2_with fail
    refine C3.mono ?_
    rintro e w4 ⟨⟨v, rfl⟩, l', ⟨rfl, hq4⟩, _, hF⟩
    have k := blk_cell hq4 0 (.int .i64 _) rfl
    have HF := Lib.hid (HB.trans (hF.below (B := w.heap.size) HB.size (fun i hi => by rw [List.mem_singleton.1 hi]; exact hgs)))
    clear C3 hq4 hF
    rw [Nat.zero_add] at k
    go_wp2
    go_ret
    exact ⟨by rw [HR.out]; rfl, HF.out⟩
  · have HR := Lib.hid (show countR 6 xs = -1 by rw [countR, if_neg (fun h => hv ⟨h.1, by rw [← hn]; exact h.2⟩)])
    have hb1 : (validD xs && decide (n ≤ 6)) = false := by
      cases h1 : validD xs <;> simp_all
    rw [hb1] at C1
    clear hv hx hb1
    go_enter Try.func22, Try.ntmps22
    go_wp2_with fail
    refine C1.mono ?_
    rintro e w1 ⟨rfl, hb1⟩
    clear C1
    go_wp2
    go_ret
    exact ⟨by rw [HR.out]; rfl, hb1⟩

end Go.Proofs.Ytjmiafkkbganlaa
