
/- The reference's rows of bits with a sum; the least of numbers. -/
import Derived.Test.YtjghcegacgpehaaListX
import Derived.Test.YtjghcegacgpehaaPlainMx
import Derived.Test.YtjghcegacgpehaaClone
namespace Go.Proofs.Ytjghcegacgpehaa
open Go.RowKit

theorem Try.infoRow2 : Info Try.prog 34 38 (.slice none 0 0) 1 24 := Try.infoII
/-- The least of numbers and 0. -/
def leastI (xs : List Int) : Int := xs.foldl min 0
theorem leastI_snoc (xs : List Int) (x : Int) : leastI (xs ++ [x]) = min (leastI xs) x := by simp [leastI]
theorem leastI_zero {xs : List Int} : leastI xs = 0 ↔ ∀ x ∈ xs, 0 ≤ x := by
  have h1 : ∀ (xs : List Int) (v : Int), xs.foldl min v = v ↔ ∀ x ∈ xs, v ≤ x := by
    intro xs
    induction xs with
    | nil => intro v; simp
    | cons a t ih =>
      intro v
      have hle : ∀ (l : List Int) (u : Int), l.foldl min u ≤ u := by
        intro l
        induction l with
        | nil => intro u; exact Int.le_refl _
        | cons b l ih => intro u; rw [List.foldl_cons]; have := ih (min u b); omega
      rw [List.foldl_cons]
      by_cases e : v ≤ a
      · rw [Int.min_eq_left e, ih]
        constructor
        · intro h x hx
          rcases List.mem_cons.1 hx with rfl | h2
          · exact e
          · exact h x h2
        · intro h x hx; exact h x (List.mem_cons_of_mem _ hx)
      · constructor
        · intro h
          have := hle t (min v a)
          omega
        · intro h; exact absurd (h a (List.mem_cons_self ..)) e
  exact h1 xs 0
set_option maxHeartbeats 1000000 in
theorem least_any (a : Option Addr) (c n : Nat) (xs : List Int) (w : World) (hn : xs.length = n) (hx : Rd w a (ints xs)) (hl : n ≤ 1048576) :
    Calls Try.prog 183 #[.slice a n c] w fun e w' => e = .returned (.int .i64 (leastI xs)) ∧ w' = w := by
  have HN := Lib.hid hn
  clear hn
  go_enter Try.func183, Try.ntmps183
  go_wp2
  go_loopw [3, 4] (fun v i wr => ∃ k : Nat, k ≤ n ∧ i = .int .i64 k ∧ v = .int .i64 (leastI (xs.take k)) ∧ wr = w) (fun _ i _ => n - (intOf i).toNat)
  case atStart => exact ⟨0, by omega, rfl, rfl, rfl⟩
  case round =>
    obtain ⟨k, hk, rfl, rfl, rfl⟩ := hrel
    by_cases hlt : k < n
    · have hkx : k < xs.length := by rw [HN.out]; exact hlt
      obtain ⟨b, off, rfl, hc⟩ := hx.int hkx
      have HT := Lib.hid (show leastI (xs.take (k + 1)) = min (leastI (xs.take k)) (xs[k]'hkx) by rw [List.take_succ_eq_append_getElem hkx, leastI_snoc])
      generalize leastI (xs.take k) = V at *
      generalize xs[k]'hkx = X at *
      go_wp2
      go_roundw
      case rel => exact ⟨k + 1, by omega, by go_num, by rw [HT.out]; exact congrArg _ (by rw [Int.min_def]; split <;> split <;> omega), trivial⟩
      case measure => simp [intOf]; omega
    · have e : k = n := by omega
      subst e
      have HT := Lib.hid (show leastI (xs.take k) = leastI xs by rw [← HN.out, List.take_length])
      generalize leastI (xs.take k) = V at *
      go_wp2
      go_ret
      exact ⟨ret_int HT.out, rfl⟩

theorem rows_head (d t : Nat) (head : List Int) : (rowsL (d + 1) t).map (head ++ ·) = (if 0 < t then (rowsL d (t - 1)).map ((head ++ [1]) ++ ·) else []) ++ (rowsL d t).map ((head ++ [0]) ++ ·) := by
  rw [rowsL, List.map_append, List.map_map]
  congr 1
  · split
    · rw [List.map_map]
      refine List.map_congr_left fun x _ => ?_
      simp
    · rfl
  · refine List.map_congr_left fun x _ => ?_
    simp
set_option maxHeartbeats 4000000 in
theorem rowsOf_any (n : Nat) : ∀ (d t : Nat) (head : List Int) (ah : Option Addr) (ch k : Nat) (w : World), head.length = k → k + d = n → n ≤ 5 → t ≤ 900 → Rd w ah (ints head) → (ah = none → k = 0 ∧ ch = 0) →
    Calls Try.prog 182 #[.slice ah k ch, .int .i64 (n : Int), .int .i64 (t : Int)] w fun e w' => ∃ a c vs, e = .returned (.slice a ((rowsL d t).map (head ++ ·)).length c) ∧ ListR w' w.heap.size a c vs ((rowsL d t).map (head ++ ·)) ∧ Below w.heap.size w w' := by
  intro d
  induction d with
  | zero =>
    intro t head ah ch k w hk hkn hn ht hx hnil
    obtain rfl : k = n := by omega
    have C1 := copyInts_any ah ch k head w hk hx (by omega) hnil
    have hb0 : ((k : Int) == (k : Int)) = true := by simp
    by_cases h0 : t = 0
    · have HR := Lib.hid (show (rowsL 0 t).map (head ++ ·) = [head] by rw [rowsL, if_pos h0]; simp)
      have hb1 : ((t : Int) == 0) = true := by simp [h0]
      have HK := Lib.hid hk
      clear h0 hx hnil hk
      go_enter Try.func182, Try.ntmps182
      go_wp2_with fail
      refine C1.mono ?_
      rintro e w1 ⟨a1, c1, rfl, ho, hb⟩
      have hB2 := below_tr' hb (below_alloc w1 (.cells #[.slice a1 k c1] 38))
      have qn := heap_alloc_new w1 (.cells #[.slice a1 k c1] 38)
      have hr := (rowI_own ho HK.out).below (below_alloc w1 (.cells #[.slice a1 k c1] 38))
      have HO := Lib.hid (show ListR (w1.alloc (.cells #[.slice a1 k c1] 38)) w.heap.size (some ⟨w1.heap.size, 0, none⟩) 1 [(a1, c1)] [head] from listX_one (by rw [HK.out]; exact qn) hb.size hr)
      clear C1 ho qn hr
      go_wp2
      go_ret
      exact ⟨_, 1, [(a1, c1)], by rw [HR.out]; rfl, by rw [HR.out]; exact HO.out, hB2⟩
    · have HR := Lib.hid (show (rowsL 0 t).map (head ++ ·) = [] by rw [rowsL, if_neg h0]; rfl)
      have hb1 : ((t : Int) == 0) = false := beq_eq_false_iff_ne.2 (by omega)
      clear h0 C1
      have HO := Lib.hid (show ListR (w.alloc (.cells #[] 38)) w.heap.size (some ⟨w.heap.size, 0, none⟩) 0 [] [] from listX_nil w (Nat.le_refl _))
      have hB2 := below_alloc w (.cells #[] 38)
      go_enter Try.func182, Try.ntmps182
      go_wp2
      go_ret
      exact ⟨_, 0, [], by rw [HR.out]; rfl, by rw [HR.out]; exact HO.out, hB2⟩
  | succ d ih =>
    intro t head ah ch k w hk hkn hn ht hx hnil
    have hb0 : ((k : Int) == (n : Int)) = false := beq_eq_false_iff_ne.2 (by omega)
    have hlen := rowsL_len d
    have hpow : 2 ^ d ≤ 2 ^ 5 := Nat.pow_le_pow_right (by omega) (by omega)
    have IH := Lib.hid ih
    have HK := Lib.hid hk
    have HX := Lib.hid (fun (w1 : World) (hb : Below w.heap.size w w1) => hx.below hb)
    have HRR := Lib.hid (rows_head d t head)
    have HNI := Lib.hid hnil
    clear ih hk hx hnil
    have hB1 := below_alloc w (.cells #[] 38)
    have HL1 := Lib.hid (show ListR (w.alloc (.cells #[] 38)) w.heap.size (some ⟨w.heap.size, 0, none⟩) 0 [] [] from listX_nil w (Nat.le_refl _))
    obtain ⟨W1, hW1⟩ : ∃ W, W = w.alloc (.cells #[] 38) := ⟨_, rfl⟩
    rw [← hW1] at hB1 HL1
    have HW1 := Lib.hid hW1
    clear hW1
    obtain ⟨a0, ha0⟩ : ∃ a : Option Addr, a = some ⟨w.heap.size, 0, none⟩ := ⟨_, rfl⟩
    rw [← ha0] at HL1
    -- the second part, from a world where 'out' has the rows G
    have second : ∀ (wk : World) (G : List (List Int)) (ao : Option Addr) (co : Nat) (vo : List AtG), Below w.heap.size w wk → ListR wk w.heap.size ao co vo G → G.length ≤ 32 →
        ∀ (w4 : World) (a4 : Option Addr) (c4 : Nat), Below wk.heap.size wk w4 → w4.ownsRow wk.heap.size 3 1 (.slice a4 (k + 1) c4) (k + 1) (ints (head ++ [0])) →
        Calls Try.prog 182 #[.slice a4 (k + 1) c4, .int .i64 (n : Int), .int .i64 (t : Int)] w4 fun e w5 => ∃ a c vs, e = .returned (.slice a ((rowsL d t).map ((head ++ [0]) ++ ·)).length c) ∧ ListR w5 w4.heap.size a c vs ((rowsL d t).map ((head ++ [0]) ++ ·)) ∧ Below w4.heap.size w4 w5 ∧ ListR w5 w.heap.size ao co vo G ∧ Below w.heap.size w w5 := by
      intro wk G ao co vo hb hL hG w4 a4 c4 hb4 ho
      refine (IH.out t (head ++ [0]) a4 c4 (k + 1) w4 (by rw [List.length_append, HK.out]; rfl) (by omega) hn ht (own_rd ho) (fun h => by have := own_shape ho; have := this.2.2 h; omega)).mono ?_
      rintro e w5 ⟨a, c, vs, rfl, h1, h2⟩
      exact ⟨a, c, vs, rfl, h1, h2, (hL.below stabI hb4).below stabI h2, below_tr' (below_tr' hb hb4) h2⟩
    have SEC := Lib.hid second
    clear second
    by_cases ht0 : 0 < t
    · have hd1 : decide ((0 : Int) < (t : Int)) = true := decide_eq_true (by omega)
      have HR := Lib.hid (HRR.out.trans (by rw [if_pos ht0]))
      clear HRR
      obtain ⟨t1, rfl⟩ : ∃ t1, t = t1 + 1 := ⟨t - 1, by omega⟩
      rw [Nat.add_sub_cancel] at HR
      have C1 := copyInts_any ah ch k head W1 HK.out (HX.out _ hB1) (by omega) HNI.out
      go_enter Try.func182, Try.ntmps182
      go_wp2_with (simp only [← HW1.out])
      rw [← ha0]
      refine C1.mono ?_
      rintro e w2 ⟨a2, c2, rfl, ho2, hb2⟩
      have hs1 := hB1.size
      have hs2 := hb2.size
      clear C1
      go_wp2_with (at_builtin; refine appendI Try.infoI _ _ rfl rfl ho2 hb2 (Nat.le_refl _) hs2 rfl rfl (by omega) ?_; intro a3 c3 w3 ho3 hb3)
      have C2 := IH.out t1 (head ++ [1]) a3 c3 (k + 1) w3 (by rw [List.length_append, HK.out]; rfl) (by omega) hn (by omega) (own_rd ho3) (fun h => by have := own_shape ho3; have := this.2.2 h; omega)
      have hL3 := HL1.out.below stabI hb3
      have HB3 := below_tr' hB1 hb3
      have hlt := hlen t1
      clear ho3 ho2 hb2 hb3
      generalize hG : (rowsL d t1).map ((head ++ [1]) ++ ·) = G at *
      have hGl : G.length ≤ 32 := by rw [← hG, List.length_map]; omega
      clear hG
      go_wp2_with fail
      refine C2.mono ?_
      rintro e w4 ⟨a4, c4, v4, rfl, hL4, hb4⟩
      have hL3 := hL3.below stabI hb4
      have HB4 := below_tr' HB3 hb4
      have hs4 := HB4.size
      have hL4 := hL4.see
      subst ha0
      clear C2 hb4
      go_wp2_with (at_builtin; refine appendX Try.infoRow2 stabI _ _ rfl rfl hL3 hL4 HB4 (Nat.le_refl _) hs4 rfl rfl (by simp; omega) ?_; intro ao co wk hLk HBk hgk)
      have hs5 := HBk.size
      have C3 := copyInts_any ah ch k head wk HK.out (HX.out _ HBk) (by omega) HNI.out
      clear HB4 HB3 hs1 hs2 hs4 hgk
      go_wp2_with fail
      refine C3.mono ?_
      rintro e w6 ⟨a6, c6, rfl, ho6, hb6⟩
      have hs6 := hb6.size
      clear C3
      go_wp2_with (at_builtin; refine appendI Try.infoI _ _ rfl rfl ho6 hb6 (Nat.le_refl _) hs6 rfl rfl (by omega) ?_; intro a7 c7 w7 ho7 hb7)
      have C4 := SEC.out wk ([] ++ G) ao co _ HBk hLk (by simp; omega) w7 a7 c7 hb7 ho7
      have hl2 := hlen (t1 + 1)
      have hs7 := hb7.size
      generalize hG2 : (rowsL d (t1 + 1)).map ((head ++ [0]) ++ ·) = G2 at *
      have hGl2 : G2.length ≤ 32 := by rw [← hG2, List.length_map]; omega
      clear hG2 SEC ho6 hb6 ho7 hb7 hLk HBk hL3 hL4
      go_wp2_with fail
      refine C4.mono ?_
      rintro e w8 ⟨a8, c8, v8, rfl, hL8, hb8, hLo, HB8⟩
      have hs8 := hb8.size
      have hL8 := hL8.see
      clear C4 hb8
      go_wp2_with (at_builtin; refine appendX Try.infoRow2 stabI _ _ rfl rfl hLo hL8 HB8 (Nat.le_refl _) (by omega) rfl rfl (by simp; omega) ?_; intro a9 c9 w9 hL9 HB9 hg9)
      have HO := Lib.hid hL9
      clear hL9 hg9 hL8 hLo
      go_ret
      exact ⟨a9, c9, _, by rw [HR.out, List.length_append]; first | rfl | simp, by rw [HR.out]; exact HO.out, HB9⟩
    · have hd1 : decide ((0 : Int) < (t : Int)) = false := decide_eq_false (by omega)
      have HR := Lib.hid (HRR.out.trans (by rw [if_neg ht0]))
      clear HRR
      have hs5 := hB1.size
      have C3 := copyInts_any ah ch k head W1 HK.out (HX.out _ hB1) (by omega) HNI.out
      go_enter Try.func182, Try.ntmps182
      go_wp2_with (simp only [← HW1.out])
      subst ha0
      refine C3.mono ?_
      rintro e w6 ⟨a6, c6, rfl, ho6, hb6⟩
      have hs6 := hb6.size
      clear C3
      go_wp2_with (at_builtin; refine appendI Try.infoI _ _ rfl rfl ho6 hb6 (Nat.le_refl _) hs6 rfl rfl (by omega) ?_; intro a7 c7 w7 ho7 hb7)
      have C4 := SEC.out W1 [] _ 0 [] hB1 HL1.out (by simp) w7 a7 c7 hb7 ho7
      have hl2 := hlen t
      have hs7 := hb7.size
      generalize hG2 : (rowsL d t).map ((head ++ [0]) ++ ·) = G2 at *
      have hGl2 : G2.length ≤ 32 := by rw [← hG2, List.length_map]; omega
      clear hG2 SEC ho6 hb6 ho7 hb7 HL1 hB1
      go_wp2_with fail
      refine C4.mono ?_
      rintro e w8 ⟨a8, c8, v8, rfl, hL8, hb8, hLo, HB8⟩
      have hs8 := hb8.size
      have hL8 := hL8.see
      clear C4 hb8
      go_wp2_with (at_builtin; refine appendX Try.infoRow2 stabI _ _ rfl rfl hLo hL8 HB8 (Nat.le_refl _) (by omega) rfl rfl (by simp; omega) ?_; intro a9 c9 w9 hL9 HB9 hg9)
      have HO := Lib.hid hL9
      clear hL9 hg9 hL8 hLo
      go_ret
      exact ⟨a9, c9, _, by rw [HR.out, List.length_append]; first | rfl | simp, by rw [HR.out]; exact HO.out, HB9⟩

end Go.Proofs.Ytjghcegacgpehaa
