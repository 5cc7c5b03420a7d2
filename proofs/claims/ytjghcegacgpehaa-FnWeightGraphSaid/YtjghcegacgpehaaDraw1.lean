
/- Equal graphs (laws); drawn inputs that are one graph. (Printed by gen_draw1.py.) -/
import Derived.Test.YtjghcegacgpehaaSome
import Derived.Test.YtjghcegacgpehaaHas
import Derived.Test.YtjghcegacgpehaaCodeOK
namespace Go.Proofs.Ytjghcegacgpehaa
open Go.RowKit

@[go_sem] theorem Try.run_neE (x y p q : Int) (w : World) : (binOp .neq 48 (.agg #[.int .i64 x, .int .i64 y]) (.agg #[.int .i64 p, .int .i64 q])).run Try.prog w = .ok (.bool (!((x == p) && (y == q)))) w := by
  have h1 := Try.run_eqE x y p q w
  rw [run_eql_struct] at h1
  rw [run_neq_struct]
  generalize (Op.equalIn 10000 48 (.agg #[.int .i64 x, .int .i64 y]) (.agg #[.int .i64 p, .int .i64 q])).run Try.prog w = r at h1 ⊢
  cases r with
  | ok b w1 => simp only [Result.andThen, Result.ok.injEq, Value.bool.injEq] at h1 ⊢; rw [h1.1, h1.2]; exact ⟨rfl, rfl⟩
  | halt x w1 => simp [Result.andThen] at h1

set_option maxHeartbeats 1000000 in
theorem equalEdges_any (a b : Option Addr) (ca cb na nb : Nat) (es fs : List E2) (w : World) (hn : es.length = na) (hm : fs.length = nb) (hx : Rd w a (edges es)) (hy : Rd w b (edges fs)) (hl : na ≤ 8796093022208) (hl2 : nb ≤ 8796093022208) :
    Calls Try.prog 77 #[.slice a na ca, .slice b nb cb] w fun e w' => e = .returned (.bool (decide (es = fs))) ∧ Below w.heap.size w w' := by
  by_cases hne : na = nb
  · subst hne
    go_enter Try.func77, Try.ntmps77
    go_wp2
    go_loopw [5] (fun i wr => ∃ k : Nat, k ≤ na ∧ i = .int .i64 k ∧ es.take k = fs.take k ∧ Below w.heap.size w wr) (fun i _ => na - (intOf i).toNat)
    case atStart => exact ⟨0, by omega, rfl, by simp, Below.refl _ _⟩
    case round =>
      obtain ⟨k, hk, rfl, heq, hb⟩ := hrel
      by_cases hlt : k < na
      · obtain ⟨b1, o1, rfl, c1, c2⟩ := (hx.below hb).edge (k := k) (by omega)
        obtain ⟨b2, o2, rfl, c3, c4⟩ := (hy.below hb).edge (k := k) (by omega)
        have HT : (es[k]'(by omega)) = (fs[k]'(by omega)) → es.take (k + 1) = fs.take (k + 1) := fun h => by
          rw [List.take_succ_eq_append_getElem (by omega), List.take_succ_eq_append_getElem (by omega), heq, h]
        have HF : (es[k]'(by omega)) ≠ (fs[k]'(by omega)) → decide (es = fs) = false := fun h => by
          refine decide_eq_false ?_
          rintro rfl
          exact h rfl
        have HT := Lib.hid HT
        have HF := Lib.hid HF
        clear heq
        generalize (es[k]'(by omega)) = P at *
        generalize (fs[k]'(by omega)) = Q at *
        obtain ⟨X, Y⟩ := P
        obtain ⟨Z, U⟩ := Q
        simp only at c1 c2 c3 c4
        have d1 := later_cell c1
        have d2 := later_cell c2
        have d3 := later_cell c3
        have d4 := later_cell c4
        clear c1 c2 c3 c4
        cases h1 : (X == Z)
        · have HR := Lib.hid (HF.out (by intro e; cases e; simp at h1))
          clear HT HF
          go_wp2
          refine wp_region_flags [true, true, true, true, true, true, true, true, false] 8 (C := fun w' => ∃ u : Later wr, w' = u.val) (by kernel_rfl) (by kernel_rfl) ⟨⟨_, bel_drew (Below.refl _ _)⟩, rfl⟩ ?_
          simp only [pickT, pickF]
          repeat (go_big_quiet_step (fail))
          refine wpQuiet_nil ?_
          clear d1 d2 d3 d4
          refine tail_last fun K hK => ?_
          go_wp2
          go_ret
          exact ⟨by rw [HR.out]; rfl, bel_drew hb⟩
        · cases h2 : (Y == U)
          · have HR := Lib.hid (HF.out (by intro e; cases e; simp at h2))
            clear HT HF
            go_wp2
            refine wp_region_flags [true, true, true, true, true, true, true, true, false] 8 (C := fun w' => ∃ u : Later wr, w' = u.val) (by kernel_rfl) (by kernel_rfl) ⟨⟨_, bel_drew (Below.refl _ _)⟩, rfl⟩ ?_
            simp only [pickT, pickF]
            repeat (go_big_quiet_step (fail))
            refine wpQuiet_nil ?_
            clear d1 d2 d3 d4
            refine tail_last fun K hK => ?_
            go_wp2
            go_ret
            exact ⟨by rw [HR.out]; rfl, bel_drew hb⟩
          · have HR := Lib.hid (HT.out (by simp only [beq_iff_eq] at h1 h2; rw [h1, h2]))
            clear HT HF
            go_wp2
            refine wp_region_flags [true, true, true, true, true, true, true, true, false] 8 (C := fun w' => ∃ u : Later wr, w' = u.val) (by kernel_rfl) (by kernel_rfl) ⟨⟨_, bel_drew (Below.refl _ _)⟩, rfl⟩ ?_
            simp only [pickT, pickF]
            repeat (go_big_quiet_step (fail))
            refine wpQuiet_nil ?_
            clear d1 d2 d3 d4
            refine tail_last fun K hK => ?_
            go_wp2
            go_roundw
            case rel => exact ⟨k + 1, by omega, by go_num, HR.out, bel_drew hb⟩
            case measure => simp [intOf]; omega
      · have e : k = na := by omega
        subst e
        have hE : es = fs := by
          rw [← List.take_length (l := es), ← List.take_length (l := fs), hn, hm]; exact heq
        have HE := Lib.hid (decide_eq_true hE)
        clear hE heq
        go_wp2
        go_ret
        exact ⟨by rw [HE.out]; rfl, hb⟩
  · have HE := Lib.hid (show decide (es = fs) = false from decide_eq_false (by rintro rfl; exact hne (hn.symm.trans hm)))
    have hne' : (na : Int) ≠ nb := by omega
    go_enter Try.func77, Try.ntmps77
    go_wp2
    go_ret
    exact ⟨by rw [HE.out]; rfl, Below.refl _ _⟩

theorem equalGraph_any (Na Nb : Int) (a b : Option Addr) (ca cb na nb : Nat) (es fs : List E2) (w : World) (hn : es.length = na) (hm : fs.length = nb) (hx : Rd w a (edges es)) (hy : Rd w b (edges fs)) (hl : na ≤ 8796093022208) (hl2 : nb ≤ 8796093022208) :
    Calls Try.prog 17 #[graphV Na a na ca, graphV Nb b nb cb] w fun e w' => e = .returned (.bool (decide (Na = Nb ∧ es = fs))) ∧ Below w.heap.size w w' := by
  have hB := below_alloc2 w (.cells #[.int .i64 Na, .slice a na ca] 25) (.cells #[.int .i64 Nb, .slice b nb cb] 25)
  have C1 := equalEdges_any a b ca cb na nb es fs _ hn hm (hx.below hB) (hy.below hB) hl hl2
  by_cases hN : Na = Nb
  · have hD : decide (Na = Nb ∧ es = fs) = decide (es = fs) := by simp [hN]
    rw [hD]
    subst hN
    go_enter Try.func17, Try.ntmps17
    go_wp2_with fail
    refine C1.mono ?_
    rintro e w1 ⟨rfl, hb⟩
    go_wp2
    go_ret
    exact ⟨rfl, below_tr' hB hb⟩
  · have HD := Lib.hid (show decide (Na = Nb ∧ es = fs) = false from decide_eq_false (fun h => hN h.1))
    go_enter Try.func17, Try.ntmps17
    go_wp2
    go_ret
    exact ⟨by rw [HD.out]; rfl, hB⟩

set_option maxHeartbeats 1000000 in
theorem DrawMatchingNumber_any (a0 : Option Addr) (c0 n0 : Nat) (bs : List Int) (w : World) (hc : CodeOK w a0 c0 n0 bs) (hl : n0 ≤ 1048576) :
    Calls Try.prog 55 #[.slice a0 n0 c0] w fun e w' => ∃ (N : Int) (es : List E2) (a : Option Addr) (c : Nat), e = .returned (graphV N a es.length c) ∧ (-1 ≤ N ∧ N ≤ 8) ∧ es.length ≤ 50 ∧
      w'.ownsRow w.heap.size 48 2 (.slice a es.length c) es.length (edges es) ∧ Below w.heap.size w w' := by
  have hB := below_alloc w (.cells #[.int .i64 0, .slice none 0 0] 25)
  have r0 := heap_alloc_new w (.cells #[.int .i64 0, .slice none 0 0] 25)
  have hs1 : (w.alloc (.cells #[.int .i64 0, .slice none 0 0] 25)).heap.size = w.heap.size + 1 := by simp
  generalize hW : w.alloc (.cells #[.int .i64 0, .slice none 0 0] 25) = W at *
  have HW := Lib.hid hW
  clear hW
  have hc := hc.below hB
  have C1 := newReader_any a0 c0 n0 bs W hc.1 hl hc.2.1 hc.2.2.1 hc.2.2.2.1 hc.2.2.2.2
  go_enter Try.func55, Try.ntmps55
  go_wp2_with (simp only [HW.out])
  refine C1.mono ?_
  rintro e w1 ⟨rfl, hr, hb1⟩
  have r0 := blk_below r0 hb1
  have hB1 := below_tr' hB hb1
  rw [hs1] at hr
  rw [hs1]
  have C2 := someGraph_any (w.heap.size + 1) 0 w1 hr (by omega)
  clear C1 hc hs1
  go_wp2_with fail
  refine C2.mono ?_
  rintro e w2 ⟨N, es, a, c, p', rfl, hN, hes, ho, _, _, hg⟩
  have r0 := blk_grown r0 hg (by simp)
  have ho := own_mono ho hB1.size
  have hB2 := hB1.grown hg hB1.size (fun k hk => by simp only [Option.some.injEq] at hk; omega)
  obtain ⟨n, hn⟩ : ∃ n, n = es.length := ⟨_, rfl⟩
  rw [← hn] at ho hes
  have CN : (graphV N a es.length c) = graphV N a n c := by rw [hn]
  rw [CN]
  have HN := Lib.hid hn
  clear hn CN C2 hg hB1 hr
  have z0 := blk_cell r0 0 (.int .i64 0) rfl
  have z1 := blk_cell r0 1 (.slice none 0 0) rfl
  have f0 := blk_free r0 0
  have f1 := blk_free r0 1
  have SO := Lib.hid (own_setOther (own_setOther ho (w.heap.size) 0 (.int .i64 N) (own_ne ho r0 (by decide))) (w.heap.size) 1 (.slice a n c) (own_ne ho r0 (by decide)))
  have SB := Lib.hid ((hB2.setCell (p := ⟨w.heap.size, 0, none⟩) (Nat.le_refl _) (.int .i64 N)).setCell (p := ⟨w.heap.size, 1, none⟩) (Nat.le_refl _) (.slice a n c))
  clear ho hB2 r0
  go_wp2
  refine bodyPost_ret (v := graphV N a n c) (by simp [results, Try.results55, go_sem, z0, z1]) rfl ⟨N, es, a, c, by rw [HN.out], hN, by rw [← HN.out]; exact hes, by rw [← HN.out]; exact SO.out, SB.out⟩

set_option maxHeartbeats 1000000 in
theorem DrawComponentsOf_any (a0 : Option Addr) (c0 n0 : Nat) (bs : List Int) (w : World) (hc : CodeOK w a0 c0 n0 bs) (hl : n0 ≤ 1048576) :
    Calls Try.prog 37 #[.slice a0 n0 c0] w fun e w' => ∃ (N : Int) (es : List E2) (a : Option Addr) (c : Nat), e = .returned (graphV N a es.length c) ∧ (-1 ≤ N ∧ N ≤ 8) ∧ es.length ≤ 50 ∧
      w'.ownsRow w.heap.size 48 2 (.slice a es.length c) es.length (edges es) ∧ Below w.heap.size w w' := by
  have hB := below_alloc w (.cells #[.int .i64 0, .slice none 0 0] 25)
  have r0 := heap_alloc_new w (.cells #[.int .i64 0, .slice none 0 0] 25)
  have hs1 : (w.alloc (.cells #[.int .i64 0, .slice none 0 0] 25)).heap.size = w.heap.size + 1 := by simp
  generalize hW : w.alloc (.cells #[.int .i64 0, .slice none 0 0] 25) = W at *
  have HW := Lib.hid hW
  clear hW
  have hc := hc.below hB
  have C1 := newReader_any a0 c0 n0 bs W hc.1 hl hc.2.1 hc.2.2.1 hc.2.2.2.1 hc.2.2.2.2
  go_enter Try.func37, Try.ntmps37
  go_wp2_with (simp only [HW.out])
  refine C1.mono ?_
  rintro e w1 ⟨rfl, hr, hb1⟩
  have r0 := blk_below r0 hb1
  have hB1 := below_tr' hB hb1
  rw [hs1] at hr
  rw [hs1]
  have C2 := someGraph_any (w.heap.size + 1) 0 w1 hr (by omega)
  clear C1 hc hs1
  go_wp2_with fail
  refine C2.mono ?_
  rintro e w2 ⟨N, es, a, c, p', rfl, hN, hes, ho, _, _, hg⟩
  have r0 := blk_grown r0 hg (by simp)
  have ho := own_mono ho hB1.size
  have hB2 := hB1.grown hg hB1.size (fun k hk => by simp only [Option.some.injEq] at hk; omega)
  obtain ⟨n, hn⟩ : ∃ n, n = es.length := ⟨_, rfl⟩
  rw [← hn] at ho hes
  have CN : (graphV N a es.length c) = graphV N a n c := by rw [hn]
  rw [CN]
  have HN := Lib.hid hn
  clear hn CN C2 hg hB1 hr
  have z0 := blk_cell r0 0 (.int .i64 0) rfl
  have z1 := blk_cell r0 1 (.slice none 0 0) rfl
  have f0 := blk_free r0 0
  have f1 := blk_free r0 1
  have SO := Lib.hid (own_setOther (own_setOther ho (w.heap.size) 0 (.int .i64 N) (own_ne ho r0 (by decide))) (w.heap.size) 1 (.slice a n c) (own_ne ho r0 (by decide)))
  have SB := Lib.hid ((hB2.setCell (p := ⟨w.heap.size, 0, none⟩) (Nat.le_refl _) (.int .i64 N)).setCell (p := ⟨w.heap.size, 1, none⟩) (Nat.le_refl _) (.slice a n c))
  clear ho hB2 r0
  go_wp2
  refine bodyPost_ret (v := graphV N a n c) (by simp [results, Try.results37, go_sem, z0, z1]) rfl ⟨N, es, a, c, by rw [HN.out], hN, by rw [← HN.out]; exact hes, by rw [← HN.out]; exact SO.out, SB.out⟩

end Go.Proofs.Ytjghcegacgpehaa
