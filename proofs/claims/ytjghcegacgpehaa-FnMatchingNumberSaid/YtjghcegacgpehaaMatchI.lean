
/- impl.matching, the program's MatchingNumber and DeficiencyOf. (Printed by gen_match.py.) -/
import Derived.Test.YtjghcegacgpehaaMatchS
import Derived.Test.YtjghcegacgpehaaDelE
import Derived.Test.YtjghcegacgpehaaAddE
namespace Go.Proofs.Ytjghcegacgpehaa
open Go.RowKit

theorem own_form3 {w : World} {B T s n c : Nat} {a : Option Addr} {cs : List Value} (h : w.ownsRow B T s (.slice a n c) n cs) : n ≤ c ∧ c ≤ maxLen ∧ (a = none → n = 0 ∧ c = 0) := ⟨(own_capS2 h).1, (own_capS2 h).2, own_nilc h⟩
theorem enters_match : Enters Try.prog 178 := enters Try.func178 (by kernel_rfl) rfl
set_option maxHeartbeats 1000000 in
theorem match1_any (x y p q : Int) (b : Nat) (w : World) (hq : w.heap[b]? = some (.cells #[.int .i64 x, .int .i64 y] 48 (0, 0))) :
    Calls Try.prog 178 (#[.agg #[.int .i64 p, .int .i64 q]] ++ #[.pointer (some ⟨b, 0, none⟩)]) w fun e w' => e = .returned (.bool (meetE (x, y) (p, q))) ∧ Below w.heap.size w w' := by
  have hB := below_alloc w (.cells #[.int .i64 p, .int .i64 q] 48)
  have q1 := blk_below hq hB
  have g0 := blk_cell q1 0 (.int .i64 x) rfl
  have g1 := blk_cell q1 1 (.int .i64 y) rfl
  have HM := Lib.hid (show meetE (x, y) (p, q) = ((p == x) || ((p == y) || ((q == x) || (q == y)))) from rfl)
  clear hq q1
  cases h1 : p == x
  · cases h2 : p == y
    · cases h3 : q == x
      · cases h4 : q == y
        · rw [h1, h2, h3, h4] at HM
          go_enter Try.func178, Try.ntmps178
          go_wp2
          go_ret
          exact ⟨ret_bool HM.out.symm, hB⟩
        · rw [h1, h2, h3, h4] at HM
          go_enter Try.func178, Try.ntmps178
          go_wp2
          go_ret
          exact ⟨ret_bool HM.out.symm, hB⟩
      · rw [h1, h2, h3] at HM
        go_enter Try.func178, Try.ntmps178
        go_wp2
        go_ret
        exact ⟨ret_bool HM.out.symm, hB⟩
    · rw [h1, h2] at HM
      go_enter Try.func178, Try.ntmps178
      go_wp2
      go_ret
      exact ⟨ret_bool HM.out.symm, hB⟩
  · rw [h1] at HM
    go_enter Try.func178, Try.ntmps178
    go_wp2
    go_ret
    exact ⟨ret_bool HM.out.symm, hB⟩

theorem answers_match {w : World} {x y : Int} {b : Nat} {es : List E2} {row : Option Nat} (hq : w.heap[b]? = some (.cells #[.int .i64 x, .int .i64 y] 48 (0, 0))) (hr : some b ≠ row) :
    AnswersG w 178 #[.pointer (some ⟨b, 0, none⟩)] es (meetE (x, y)) row :=
  ⟨enters_match, fun w' e hg _ => match1_any x y e.1 e.2 b w' (blk_grown hq hg hr)⟩

set_option maxHeartbeats 4000000 in
theorem matching_any : ∀ (d n : Nat) (es : List E2) (a : Option Addr) (c : Nat) (w : World), n ≤ d → es.length = n → n ≤ 1048576 → Rd w a (edges es) → n ≤ c → c ≤ maxLen →
    Calls Try.prog 130 #[.slice a n c] w fun e w' => e = .returned (.int .i64 (matchN es : Nat)) ∧ Below w.heap.size w w' := by
  intro d
  induction d with
  | zero =>
    intro n es a c w hd hn hl hx hc1 hc2
    obtain rfl : n = 0 := by omega
    obtain rfl : es = [] := List.eq_nil_of_length_eq_zero hn
    have HM := Lib.hid matchN_nil
    clear hx hn
    go_enter Try.func130, Try.ntmps130
    go_wp2
    go_ret
    exact ⟨ret_int (by rw [HM.out]; rfl), Below.refl _ _⟩
  | succ d ih =>
    intro n es a c w hd hn hl hx hc1 hc2
    have IH := Lib.hid ih
    clear ih
    cases es with
    | nil =>
      obtain rfl : n = 0 := by rw [← hn]; rfl
      have HM := Lib.hid matchN_nil
      clear hx hn
      go_enter Try.func130, Try.ntmps130
      go_wp2
      go_ret
      exact ⟨ret_int (by rw [HM.out]; rfl), Below.refl _ _⟩
    | cons e t =>
      obtain ⟨X, Y⟩ := e
      obtain ⟨m, rfl⟩ : ∃ m, n = m + 1 := ⟨n - 1, by simp at hn; omega⟩
      have hm : t.length = m := by simpa using hn
      obtain ⟨b1, o1, ea, c1, c2⟩ := hx.edge (k := 0) (by simp)
      subst ea
      simp only [List.getElem_cons_zero, Nat.zero_mul, Nat.add_zero] at c1 c2
      have hT := hx.drop 1
      simp only [List.drop_succ_cons, List.drop_zero, Nat.one_mul] at hT
      have hb0 : (((m + 1 : Nat) : Int) == 0) = false := beq_eq_false_iff_ne.2 (by omega)
      have HC := Lib.hid (matchN_cons (X, Y) t)
      have hl1 := matchN_le t
      have hl2 := matchN_le (keepL (meetE (X, Y)) t)
      have hl3 : (keepL (meetE (X, Y)) t).length ≤ m := by rw [← hm]; exact List.length_filter_le _ _
      have HKF := Lib.hid (show (keepL (meetE (X, Y)) t) = t.filter fun f => !meetE (X, Y) f from rfl)
      obtain ⟨ck, hck⟩ : ∃ ck, c = ck + 1 := ⟨c - 1, by omega⟩
      subst hck
      have hBA := below_alloc w (.cells #[.int .i64 X, .int .i64 Y] 48)
      have q := heap_alloc_new w (.cells #[.int .i64 X, .int .i64 Y] 48)
      rcases Nat.eq_zero_or_pos ck with h0 | h0
      · subst h0
        obtain rfl : m = 0 := by omega
        obtain rfl : t = [] := List.eq_nil_of_length_eq_zero (by omega)
        simp only [Nat.zero_add] at *
        have HTB := Lib.hid (fun (v : World) (hb : Below w.heap.size w v) => show Rd v (some ⟨b1, o1, none⟩) (edges []) from Rd.nil _ _)
        have CC := CloneE_any (some ⟨b1, o1, none⟩) (0) 0 [] _ hm (HTB.out _ hBA) (by omega) (by intro h; cases h)
        clear hx hT
        go_enter Try.func130, Try.ntmps130
        go_wp2_with fail
        refine CC.mono ?_
        rintro e w1 ⟨a1, k1, rfl, ho, hb1⟩
        have q1 := blk_below q hb1
        have hB1 := below_tr' hBA hb1
        have hne : some w.heap.size ≠ (Value.slice a1 0 k1).ownBlock := by
          intro h
          have := (ho.lt _ h.symm).1
          rw [show (w.alloc (.cells #[.int .i64 X, .int .i64 Y] 48)).heap.size = w.heap.size + 1 from by simp] at this
          omega
        have CD := DeleteFuncE_any _ a1 k1 0 [] 178 #[.pointer (some ⟨w.heap.size, 0, none⟩)] (meetE (X, Y)) w1 ho hm (by omega) (answers_match q1 hne)
        clear CC hb1 q1 hne c1 c2 q
        go_wp2_with fail
        refine CD.mono ?_
        rintro e w2 ⟨mm, rfl, hmm, ho2, hg2⟩
        have hB2 := below_row hB1 (Nat.le_refl _) (own_mono ho hBA.size) hg2
        have hcap := own_capS2 ho2
        have HMM := Lib.hid hmm
        rw [← hmm] at hl2 hl3
        clear hmm
        have CM := IH.out 0 [] (some ⟨b1, o1, none⟩) (0) w2 (by omega) hm (by omega) (HTB.out _ hB2) (by omega) (by unfold maxLen at *; omega)
        clear CD ho hg2
        go_wp2_with fail
        refine CM.mono ?_
        rintro e w3 ⟨rfl, hb3⟩
        have hB3 := below_tr' hB2 hb3
        have ho3 := own_rd (own_below ho2 hb3)
        have CN := IH.out mm (keepL (meetE (X, Y)) []) a1 k1 w3 (by omega) HMM.out.symm (by omega) ho3 hcap.1 hcap.2
        rw [HKF.out] at CN
        clear CM ho2 ho3 hb3
        obtain ⟨M3, hM3⟩ : ∃ M, M = matchN ([].filter fun f => !meetE (X, Y) f) := ⟨_, rfl⟩
        obtain ⟨M2, hM2⟩ : ∃ M, M = matchN [] := ⟨_, rfl⟩
        have hl2' : M3 ≤ mm := by rw [hM3, ← HKF.out]; exact hl2
        rw [← hM3] at CN
        rw [← hM2] at hl1 ⊢
        have HR := Lib.hid (show matchN ([(X, Y)]) = max M2 (1 + M3) by rw [HC.out, ← hM2, ← hM3])
        clear hM2 hM3 hl2
        go_wp2_with fail
        refine CN.mono ?_
        rintro e w4 ⟨rfl, hb4⟩
        have hB4 := below_tr' hB3 hb4
        clear CN hb4
        go_wp2
        all_goals
          go_ret
          exact ⟨ret_int (by rw [HR.out]; omega), hB4⟩
      · have hne0 : (ck = 0) = False := eq_false (by omega)
        have HTB := Lib.hid (fun (v : World) (hb : Below w.heap.size w v) => show Rd v (some ⟨b1, o1 + 2, none⟩) (edges t) from hT.below hb)
        have CC := CloneE_any (some ⟨b1, o1 + 2, none⟩) (ck) m t _ hm (HTB.out _ hBA) (by omega) (by intro h; cases h)
        clear hx hT
        go_enter Try.func130, Try.ntmps130
        go_wp2_with fail
        refine CC.mono ?_
        rintro e w1 ⟨a1, k1, rfl, ho, hb1⟩
        have q1 := blk_below q hb1
        have hB1 := below_tr' hBA hb1
        have hne : some w.heap.size ≠ (Value.slice a1 m k1).ownBlock := by
          intro h
          have := (ho.lt _ h.symm).1
          rw [show (w.alloc (.cells #[.int .i64 X, .int .i64 Y] 48)).heap.size = w.heap.size + 1 from by simp] at this
          omega
        have CD := DeleteFuncE_any _ a1 k1 m t 178 #[.pointer (some ⟨w.heap.size, 0, none⟩)] (meetE (X, Y)) w1 ho hm (by omega) (answers_match q1 hne)
        clear CC hb1 q1 hne c1 c2 q
        go_wp2_with fail
        refine CD.mono ?_
        rintro e w2 ⟨mm, rfl, hmm, ho2, hg2⟩
        have hB2 := below_row hB1 (Nat.le_refl _) (own_mono ho hBA.size) hg2
        have hcap := own_capS2 ho2
        have HMM := Lib.hid hmm
        rw [← hmm] at hl2 hl3
        clear hmm
        have CM := IH.out m t (some ⟨b1, o1 + 2, none⟩) (ck) w2 (by omega) hm (by omega) (HTB.out _ hB2) (by omega) (by unfold maxLen at *; omega)
        clear CD ho hg2
        go_wp2_with fail
        refine CM.mono ?_
        rintro e w3 ⟨rfl, hb3⟩
        have hB3 := below_tr' hB2 hb3
        have ho3 := own_rd (own_below ho2 hb3)
        have CN := IH.out mm (keepL (meetE (X, Y)) t) a1 k1 w3 (by omega) HMM.out.symm (by omega) ho3 hcap.1 hcap.2
        rw [HKF.out] at CN
        clear CM ho2 ho3 hb3
        obtain ⟨M3, hM3⟩ : ∃ M, M = matchN (t.filter fun f => !meetE (X, Y) f) := ⟨_, rfl⟩
        obtain ⟨M2, hM2⟩ : ∃ M, M = matchN t := ⟨_, rfl⟩
        have hl2' : M3 ≤ mm := by rw [hM3, ← HKF.out]; exact hl2
        rw [← hM3] at CN
        rw [← hM2] at hl1 ⊢
        have HR := Lib.hid (show matchN ((X, Y) :: t) = max M2 (1 + M3) by rw [HC.out, ← hM2, ← hM3])
        clear hM2 hM3 hl2
        go_wp2_with fail
        refine CN.mono ?_
        rintro e w4 ⟨rfl, hb4⟩
        have hB4 := below_tr' hB3 hb4
        clear CN hb4
        go_wp2
        all_goals
          go_ret
          exact ⟨ret_int (by rw [HR.out]; omega), hB4⟩

theorem implMatchingNumber_any (N : Int) (a : Option Addr) (c n : Nat) (es : List E2) (w : World) (hN : N ≤ 9223372036854775807) (hn : es.length = n) (hx : Rd w a (edges es)) (hl : n ≤ 1048576) (hform : n ≤ c ∧ c ≤ maxLen ∧ (a = none → n = 0 ∧ c = 0)) :
    Calls Try.prog 56 #[graphV N a n c] w fun e w' => e = .returned (.int .i64 (matchV N es)) ∧ Below w.heap.size w w' := by
  have hB := below_alloc w (.cells #[.int .i64 N, .slice a n c] 25)
  have q := heap_alloc_new w (.cells #[.int .i64 N, .slice a n c] 25)
  have C1 := implValidGraph_any N a c n es _ hN hn (hx.below hB) (by omega)
  have HX := Lib.hid (fun (v : World) (hb : Below w.heap.size w v) => hx.below hb)
  clear hx
  have g0 := blk_cell q 0 (.int .i64 N) rfl
  have g1 := blk_cell q 1 (.slice a n c) rfl
  generalize hW : w.alloc (.cells #[.int .i64 N, .slice a n c] 25) = W at *
  have HW := Lib.hid hW
  clear hW
  cases hv : validG N es
  · rw [hv] at C1
    have HR := Lib.hid (show (matchV N es) = -1 by simp [matchV, hv])
    clear hv
    go_enter Try.func56, Try.ntmps56
    go_wp2_with (simp only [HW.out])
    refine C1.mono ?_
    rintro e w1 ⟨rfl, hb⟩
    have hBB := below_tr' hB hb
    clear C1
    go_wp2
    go_ret
    exact ⟨ret_int HR.out.symm, hBB⟩
  · rw [hv] at C1
    have hm := matchN_le es
    have HR := Lib.hid (show (matchV N es) = (matchN es : Int) by simp [matchV, hv])
    clear hv
    go_enter Try.func56, Try.ntmps56
    go_wp2_with (simp only [HW.out])
    refine C1.mono ?_
    rintro e w1 ⟨rfl, hb⟩
    have hBB := below_tr' hB hb
    have q1 := blk_below q hb
    have k1 := blk_cell q1 1 (.slice a n c) rfl
    have C2 := matching_any n n es a c w1 (Nat.le_refl _) hn hl (HX.out _ hBB) hform.1 hform.2.1
    clear C1 g0 g1
    go_wp2_with fail
    refine C2.mono ?_
    rintro e w2 ⟨rfl, hb2⟩
    have hBC := below_tr' hBB hb2
    clear C2 k1
    go_wp2
    go_ret
    exact ⟨ret_int HR.out.symm, hBC⟩

end Go.Proofs.Ytjghcegacgpehaa
