
/- Drawn weights: the reference's DrawWeightGraph: some numbers and a limit. -/
import Derived.Test.YtjghcegacgpehaaDegD
namespace Go.Proofs.Ytjghcegacgpehaa
open Go.RowKit

/-- Weights that may be drawn. -/
def OkW (xs : List Int) : Prop := xs.length ≤ 8 ∧ ∀ x ∈ xs, -21 ≤ x ∧ x ≤ 21
theorem OkW.set {xs : List Int} (h : OkW xs) (k : Nat) {v : Int} (hv : -21 ≤ v ∧ v ≤ 21) : OkW (xs.set k v) :=
  ⟨by rw [List.length_set]; exact h.1, fun x hx => by
    rcases List.mem_or_eq_of_mem_set hx with h1 | h1
    · exact h.2 x h1
    · rw [h1]; exact hv⟩
theorem OkW.snoc {xs : List Int} (h : OkW xs) {v : Int} (hl : xs.length < 8) (hv : -21 ≤ v ∧ v ≤ 21) : OkW (xs ++ [v]) :=
  ⟨by rw [List.length_append]; simp; omega, fun x hx => by
    rcases List.mem_append.1 hx with h1 | h1
    · exact h.2 x h1
    · rw [List.mem_singleton.1 h1]; exact hv⟩
theorem ints_nil3 (w : World) (B c : Nat) (a : Option Addr) (xs : List Int) (h : w.ownsRow B 3 1 (.slice a 0 c) 0 (ints xs)) : xs = [] := by
  have := h.1
  rw [ints_length] at this
  exact List.eq_nil_of_length_eq_zero (by omega)

set_option maxHeartbeats 4000000 in
theorem DrawWeightGraph_any (a0 : Option Addr) (c0 n0 : Nat) (bs : List Int) (w : World) (hc : CodeOK w a0 c0 n0 bs) (hl : n0 ≤ 1048576) :
    Calls Try.prog 43 #[.slice a0 n0 c0] w fun e w' => ∃ (ys : List Int) (a : Option Addr) (c n : Nat) (lim : Int), e = .returned (.tuple #[.slice a n c, .int .i64 lim]) ∧ OkW ys ∧ ys.length = n ∧ Rd w' a (ints ys) ∧ Below w.heap.size w w' := by
  have C1 := newReader_any a0 c0 n0 bs w hc.1 hl hc.2.1 hc.2.2.1 hc.2.2.2.1 hc.2.2.2.2
  go_enter Try.func43, Try.ntmps43
  go_wp2_with fail
  refine C1.mono ?_
  rintro e w1 ⟨rfl, hr, hb1⟩
  have hRw := hr.lt
  have hs1 := hb1.size
  clear C1 hc
  generalize hR : w.heap.size = R at *
  have HR := Lib.hid hR
  clear hR
  -- the empty row; the row of which their number is drawn
  have hA1 := below_alloc w1 (.cells #[] 3)
  have hA2 := below_alloc (w1.alloc (.cells #[] 3)) (.cells #[.int .i64 4, .int .i64 5, .int .i64 3, .int .i64 2, .int .i64 6, .int .i64 7, .int .i64 1, .int .i64 0, .int .i64 8] 3)
  have ho0 : (w1.alloc (.cells #[] 3)).ownsRow w1.heap.size 3 1 (.slice (some ⟨w1.heap.size, 0, none⟩) 0 0) 0 (ints []) := World.ownsRow_made w1 #[] 0 (Nat.le_refl _) (by decide) rfl
  have hr0 := (hr.below hA1).below hA2
  have hA := below_tr' hA1 hA2
  have hx0 : Rd ((w1.alloc (.cells #[] 3)).alloc (.cells #[.int .i64 4, .int .i64 5, .int .i64 3, .int .i64 2, .int .i64 6, .int .i64 7, .int .i64 1, .int .i64 0, .int .i64 8] 3)) (some ⟨w1.heap.size + 1, 0, none⟩) (ints [4, 5, 3, 2, 6, 7, 1, 0, 8]) := rd_blk (by have := heap_alloc_new (w1.alloc (.cells #[] 3)) (.cells #[.int .i64 4, .int .i64 5, .int .i64 3, .int .i64 2, .int .i64 6, .int .i64 7, .int .i64 1, .int .i64 0, .int .i64 8] 3); simpa using this) rfl
  have C1 := one_any R 0 (some ⟨w1.heap.size + 1, 0, none⟩) 9 9 [4, 5, 3, 2, 6, 7, 1, 0, 8] _ hr0 (by omega) rfl (by omega) (by omega) hx0 (by intro x h; cases h; simp; omega)
  have hg0 := below_grownby hA (some R)
  have ho := own_below ho0 hA2
  have HO := Lib.hid ho
  clear ho ho0 hA1 hA2 hA hr hr0 hx0
  go_wp2_with fail
  refine C1.mono ?_
  rintro e w2 ⟨v, hv, rfl, hr1, hg1⟩
  have hv5 : 0 ≤ v ∧ v ≤ 8 := by
    simp only [List.mem_cons, List.not_mem_nil, or_false] at hv
    omega
  obtain ⟨t, rfl⟩ : ∃ t : Nat, v = t := ⟨v.toNat, by omega⟩
  have ht : t ≤ 8 := by omega
  have ho := own_grownR3 HO.out hg1 hRw
  have hg := grown_trans hg0 hg1
  have HO := Lib.hid ho
  clear hv hv5 C1 hg0 hg1 ho
  go_wp2
  go_loopw [5, 6] (fun a i wr => ∃ (k : Nat) (ys : List Int) (a' : Option Addr) (c n q : Nat), i = .int .i64 k ∧ a = .slice a' n c ∧ n + k ≤ 8 ∧ ys.length = n ∧ OkW ys ∧ wr.ownsRow w1.heap.size 3 1 (.slice a' n c) n (ints ys) ∧ RdrAt wr R q ∧ q + k ≤ 10 ∧ w1.grownBy wr (some R)) (fun _ i _ => (intOf i).toNat)
  case atStart => exact ⟨t, [], _, 0, 0, 1, rfl, rfl, by omega, rfl, ⟨by simp, by simp⟩, HO.out, hr1, by omega, hg⟩
  case round =>
    clear HO hr1 hg ht
    obtain ⟨k, ys, a, c, n, q, rfl, rfl, hk, hlen, hx, ho, hr, hq, hg⟩ := hrel
    by_cases hlt : 0 < k
    · obtain ⟨p, rfl⟩ : ∃ p, k = p + 1 := ⟨k - 1, by omega⟩
      have hA := below_alloc wr (.cells #[.int .i64 1, .int .i64 2, .int .i64 3, .int .i64 0, .int .i64 (-1), .int .i64 (-2), .int .i64 5, .int .i64 20, .int .i64 (-20)] 3)
      have hr0 := hr.below hA
      have hg0 := grown_below hg hA
      have ho0 := own_below ho hA
      have hx0 : Rd (wr.alloc (.cells #[.int .i64 1, .int .i64 2, .int .i64 3, .int .i64 0, .int .i64 (-1), .int .i64 (-2), .int .i64 5, .int .i64 20, .int .i64 (-20)] 3)) (some ⟨wr.heap.size, 0, none⟩) (ints [1, 2, 3, 0, -1, -2, 5, 20, -20]) := rd_blk (heap_alloc_new _ _) rfl
      have hRr := hr.lt
      have C1 := one_any R q (some ⟨wr.heap.size, 0, none⟩) 9 9 [1, 2, 3, 0, -1, -2, 5, 20, -20] _ hr0 (by omega) rfl (by omega) (by omega) hx0 (by intro x h; cases h; simp; omega)
      have HO := Lib.hid ho0
      clear ho ho0 hA hr hg hr0 hx0
      go_wp2_with fail
      refine C1.mono ?_
      rintro e w3 ⟨v, hv, rfl, hr3, hg3⟩
      have hv5 : -21 ≤ v ∧ v ≤ 21 := by
        simp only [List.mem_cons, List.not_mem_nil, or_false] at hv
        omega
      have ho := own_grownR3 HO.out hg3 hRw
      have hg := grown_trans hg0 hg3
      have hs := hg.size
      have hb0 := (Below.refl w3.heap.size w3).mono hs
      clear C1 HO hg3 hg0 hv
      go_wp2_with (at_builtin; refine appendI Try.infoI _ _ rfl rfl ho hb0 (Nat.le_refl _) hs rfl rfl (by omega) ?_; intro a' c' w5 ho5 hb5)
      have HG := Lib.hid (grown_low3 hg hb5)
      have HO := Lib.hid ho5
      have HX := Lib.hid (hx.snoc (v := v) (by omega) hv5)
      have HR5 := Lib.hid (hr3.low3 hb5 (by omega))
      have HLL := Lib.hid (show (ys ++ [v]).length = n + 1 by rw [List.length_append, hlen]; rfl)
      clear ho5 hb5 hb0 ho hg hx hr3
      go_wp2
      go_roundw
      case rel => exact ⟨p, ys ++ [v], a', c', n + 1, q + 1, by go_num, rfl, by omega, HLL.out, HX.out, HO.out, HR5.out, by omega, HG.out⟩
      case measure => simp [intOf]
    · obtain rfl : k = 0 := by omega
      have HO := Lib.hid ho
      clear ho
      by_cases hn0 : n = 0
      · subst hn0
        have hA := below_alloc wr (.cells #[.int .i64 0, .int .i64 1, .int .i64 2, .int .i64 3, .int .i64 (-2), .int .i64 4611686018427387904] 3)
        have hr0 := hr.below hA
        have hg0 := grown_below hg hA
        have ho0 := own_below HO.out hA
        have hx0 : Rd (wr.alloc (.cells #[.int .i64 0, .int .i64 1, .int .i64 2, .int .i64 3, .int .i64 (-2), .int .i64 4611686018427387904] 3)) (some ⟨wr.heap.size, 0, none⟩) (ints [0, 1, 2, 3, -2, 4611686018427387904]) := rd_blk (heap_alloc_new _ _) rfl
        have hRr := hr.lt
        have C1 := one_any R (q) (some ⟨wr.heap.size, 0, none⟩) 6 6 [0, 1, 2, 3, -2, 4611686018427387904] _ hr0 (by omega) rfl (by omega) (by omega) hx0 (by intro x h; cases h; simp; omega)
        have HO := Lib.hid ho0
        clear ho0 hA hr hg hr0 hx0
        go_wp2_with fail
        refine C1.mono ?_
        rintro e w9 ⟨v9, hv9, rfl, hr9, hg9⟩
        have HX := Lib.hid (own_rd (own_grownR3 HO.out hg9 hRw))
        have HG := Lib.hid (hb1.grown (grown_trans hg0 hg9) hs1 (fun k hk => by simp only [Option.some.injEq] at hk; omega))
        clear C1 HO hg9 hg0 hv9 hr9
        go_wp2
        refine bodyPost_ret (v := .tuple #[.slice a _ c, .int .i64 v9]) (by simp [results, Try.results43, go_sem]) rfl ⟨ys, a, c, _, v9, rfl, hx, hlen, HX.out, by rw [HR.out]; exact HG.out⟩
      · obtain ⟨p, rfl⟩ : ∃ p, n = p + 1 := ⟨n - 1, by omega⟩
        have C2 := pick_any R q 24 wr hr (by omega) (by omega)
        clear hr
        go_wp2_with fail
        refine C2.mono ?_
        rintro e w4 ⟨v2, rfl, hv2, hr, hg4⟩
        have ho := own_grownR3 HO.out hg4 hRw
        have hg := grown_trans hg hg4
        clear C2 HO hg4 hv2
        have HO := Lib.hid ho
        clear ho
        by_cases hz : v2 = 0
        · subst hz
          obtain ⟨g, rfl, hgB, _⟩ := own_head HO.out (by omega)
          have hA := below_alloc w4 (.cells #[.int .i64 21, .int .i64 (-21)] 3)
          have hr0 := hr.below hA
          have hg0 := grown_below hg hA
          have ho0 := own_below HO.out hA
          have hx0 : Rd (w4.alloc (.cells #[.int .i64 21, .int .i64 (-21)] 3)) (some ⟨w4.heap.size, 0, none⟩) (ints [21, -21]) := rd_blk (heap_alloc_new _ _) rfl
          have hRr := hr.lt
          have C1 := one_any R (q + 1) (some ⟨w4.heap.size, 0, none⟩) 2 2 [21, -21] _ hr0 (by omega) rfl (by omega) (by omega) hx0 (by intro x h; cases h; simp; omega)
          have HO := Lib.hid ho0
          clear ho0 hA hr hg hr0 hx0
          go_wp2_with fail
          refine C1.mono ?_
          rintro e w5 ⟨v, hv, rfl, hr, hg5⟩
          have hv5 : -21 ≤ v ∧ v ≤ 21 := by
            simp only [List.mem_cons, List.not_mem_nil, or_false] at hv
            omega
          have ho := own_grownR3 HO.out hg5 hRw
          have hg := grown_trans hg0 hg5
          clear C1 HO hg5 hg0 hv
          obtain ⟨b1, o1, e1, c1⟩ := (own_rd ho).int (k := 0) (by omega)
          cases e1
          simp only [Nat.zero_add] at c1
          have f1 := ho.frozenAt 0
          have HO := Lib.hid (own_setI ho 0 v)
          have HG0 := Lib.hid (grown_setNew hg g 0 (.int .i64 v) hgB)
          have hRg : R < g := by omega
          have HR0 := Lib.hid (hr.setOther g 0 (.int .i64 v) hRg)
          have HX0 := Lib.hid (hx.set 0 hv5)
          have HLL := Lib.hid (show (ys.set 0 v).length = p + 1 by rw [List.length_set, hlen])
          have c2 : (w5.setCell ⟨g, 0, none⟩ (.int .i64 v)).heap.size = w5.heap.size := by simp
          clear ho hg hr hx
          have hr := HR0.out
          have hg := HG0.out
          clear HR0 HG0
          have hA := below_alloc (w5.setCell ⟨g, 0, none⟩ (.int .i64 v)) (.cells #[.int .i64 0, .int .i64 1, .int .i64 2, .int .i64 3, .int .i64 (-2), .int .i64 4611686018427387904] 3)
          have hr0 := hr.below hA
          have hg0 := grown_below hg hA
          have ho0 := own_below HO.out hA
          have hx0 : Rd ((w5.setCell ⟨g, 0, none⟩ (.int .i64 v)).alloc (.cells #[.int .i64 0, .int .i64 1, .int .i64 2, .int .i64 3, .int .i64 (-2), .int .i64 4611686018427387904] 3)) (some ⟨w5.heap.size, 0, none⟩) (ints [0, 1, 2, 3, -2, 4611686018427387904]) := rd_blk (by have := heap_alloc_new (w5.setCell ⟨g, 0, none⟩ (.int .i64 v)) (.cells #[.int .i64 0, .int .i64 1, .int .i64 2, .int .i64 3, .int .i64 (-2), .int .i64 4611686018427387904] 3); rw [c2] at this; exact this) rfl
          have hRr : R < w5.heap.size := by have := hr.lt; omega
          have C1 := one_any R (q + 1 + 1) (some ⟨w5.heap.size, 0, none⟩) 6 6 [0, 1, 2, 3, -2, 4611686018427387904] _ hr0 (by omega) rfl (by omega) (by omega) hx0 (by intro x h; cases h; simp; omega)
          have HO := Lib.hid ho0
          clear ho0 hA hr hg hr0 hx0 c2
          go_wp2_with fail
          refine C1.mono ?_
          rintro e w9 ⟨v9, hv9, rfl, hr9, hg9⟩
          have HX := Lib.hid (own_rd (own_grownR3 HO.out hg9 hRw))
          have HG := Lib.hid (hb1.grown (grown_trans hg0 hg9) hs1 (fun k hk => by simp only [Option.some.injEq] at hk; omega))
          clear C1 HO hg9 hg0 hv9 hr9
          go_wp2
          refine bodyPost_ret (v := .tuple #[.slice _ _ c, .int .i64 v9]) (by simp [results, Try.results43, go_sem]) rfl ⟨ys.set 0 v, _, c, _, v9, rfl, HX0.out, HLL.out, HX.out, by rw [HR.out]; exact HG.out⟩
        · have hA := below_alloc w4 (.cells #[.int .i64 0, .int .i64 1, .int .i64 2, .int .i64 3, .int .i64 (-2), .int .i64 4611686018427387904] 3)
          have hr0 := hr.below hA
          have hg0 := grown_below hg hA
          have ho0 := own_below HO.out hA
          have hx0 : Rd (w4.alloc (.cells #[.int .i64 0, .int .i64 1, .int .i64 2, .int .i64 3, .int .i64 (-2), .int .i64 4611686018427387904] 3)) (some ⟨w4.heap.size, 0, none⟩) (ints [0, 1, 2, 3, -2, 4611686018427387904]) := rd_blk (heap_alloc_new _ _) rfl
          have hRr := hr.lt
          have C1 := one_any R (q + 1) (some ⟨w4.heap.size, 0, none⟩) 6 6 [0, 1, 2, 3, -2, 4611686018427387904] _ hr0 (by omega) rfl (by omega) (by omega) hx0 (by intro x h; cases h; simp; omega)
          have HO := Lib.hid ho0
          clear ho0 hA hr hg hr0 hx0
          go_wp2_with fail
          refine C1.mono ?_
          rintro e w9 ⟨v9, hv9, rfl, hr9, hg9⟩
          have HX := Lib.hid (own_rd (own_grownR3 HO.out hg9 hRw))
          have HG := Lib.hid (hb1.grown (grown_trans hg0 hg9) hs1 (fun k hk => by simp only [Option.some.injEq] at hk; omega))
          clear C1 HO hg9 hg0 hv9 hr9
          go_wp2
          refine bodyPost_ret (v := .tuple #[.slice a _ c, .int .i64 v9]) (by simp [results, Try.results43, go_sem]) rfl ⟨ys, a, c, _, v9, rfl, hx, hlen, HX.out, by rw [HR.out]; exact HG.out⟩

end Go.Proofs.Ytjghcegacgpehaa
