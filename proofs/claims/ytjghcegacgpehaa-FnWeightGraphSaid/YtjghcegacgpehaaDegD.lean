
/- Drawn degrees: the reference's lifted, bent, goodDegrees, someDegrees and DrawComplementDegrees. -/
import Derived.Test.YtjghcegacgpehaaSome
import Derived.Test.YtjghcegacgpehaaDegs
import Derived.Test.YtjghcegacgpehaaSorted
import Derived.Test.YtjghcegacgpehaaCodeOK
namespace Go.Proofs.Ytjghcegacgpehaa
open Go.RowKit

/-- Numbers that may be drawn. -/
def OkD (xs : List Int) : Prop := xs.length ≤ 8 ∧ ∀ x ∈ xs, -1 ≤ x ∧ x ≤ 200
theorem OkD.set {xs : List Int} (h : OkD xs) (k : Nat) {v : Int} (hv : -1 ≤ v ∧ v ≤ 200) : OkD (xs.set k v) :=
  ⟨by rw [List.length_set]; exact h.1, fun x hx => by
    rcases List.mem_or_eq_of_mem_set hx with h1 | h1
    · exact h.2 x h1
    · rw [h1]; exact hv⟩
theorem OkD.at {xs : List Int} (h : OkD xs) (k : Nat) : -1 ≤ xs.getD k 0 ∧ xs.getD k 0 ≤ 200 := by
  rw [List.getD_eq_getElem?_getD]
  cases hg : xs[k]? with
  | none => simp
  | some y => exact h.2 y (List.mem_of_getElem? hg)
theorem own_grownR3 {w w' : World} {B R T s k c2 n2 : Nat} {a2 : Option Addr} {cs : List Value} (ho : w.ownsRow B T s (.slice a2 k c2) n2 cs) (hg : w.grownBy w' (some R)) (hR : R < B) : w'.ownsRow B T s (.slice a2 k c2) n2 cs :=
  own_grown ho hg fun e => by have := (ho.lt R e.symm).1; omega
theorem RdrAt.low3 {w w' : World} {R p B : Nat} (h : RdrAt w R p) (hb : Below B w w') (hR : R < B) : RdrAt w' R p := by
  obtain ⟨ab, nb, cb, bs, h1, h2, h3, h4, h5, h6⟩ := h
  refine ⟨ab, nb, cb, bs, (hb.block R hR).trans h1, h2, h3, ?_, h5, h6⟩
  by_cases hbs : bs = []
  · subst hbs; exact Rd.nil _ _
  · intro j u hu
    obtain ⟨b, off, e, hc⟩ := h4 j u hu
    have := h6 _ e hbs
    refine ⟨b, off, e, ?_⟩
    rw [hb.cell (p := ⟨b, off + j, none⟩) (by simp at this ⊢; omega)]; exact hc
theorem grown_low3 {w w1 w2 : World} {row : Option Nat} (h : w.grownBy w1 row) (hb : Below w.heap.size w1 w2) : w.grownBy w2 row :=
  ⟨hb.os.trans h.os, hb.tape.trans h.tape, hb.output.trans h.output, Nat.le_trans h.size hb.size, fun i hi hr => (hb.block i hi).trans (h.block i hi hr)⟩

theorem own_setI {w : World} {B T n c g : Nat} {xs : List Int} (ho : w.ownsRow B T 1 (.slice (some ⟨g, 0, none⟩) n c) n (ints xs)) (i : Nat) (v : Int) :
    (w.setCell ⟨g, i, none⟩ (.int .i64 v)).ownsRow B T 1 (.slice (some ⟨g, 0, none⟩) n c) n (ints (xs.set i v)) := by
  have := (ho.stored i (.int .i64 v)).1
  rw [ints_set] at this
  exact this

set_option maxHeartbeats 4000000 in
theorem lifted_any (R p c n g : Nat) (xs : List Int) (w0 w : World) (h : RdrAt w R p) (hp : p ≤ 1000000) (hR : R < w0.heap.size) (hg : w0.grownBy w (some R)) (ho : w.ownsRow w0.heap.size 3 1 (.slice (some ⟨g, 0, none⟩) n c) n (ints xs)) (hx : OkD xs) :
    Calls Try.prog 194 #[.pointer (some ⟨R, 0, none⟩), .slice (some ⟨g, 0, none⟩) n c] w fun e w' => ∃ (ys : List Int) (p' : Nat), e = .returned (.slice (some ⟨g, 0, none⟩) n c) ∧ OkD ys ∧ w'.ownsRow w0.heap.size 3 1 (.slice (some ⟨g, 0, none⟩) n c) n (ints ys) ∧ RdrAt w' R p' ∧ p' ≤ p + 10 ∧ w0.grownBy w' (some R) := by
  have hlen : xs.length = n := by have := ho.1; rw [ints_length] at this; omega
  have hn8 := hx.1
  by_cases h2 : n < 2
  · have HO := Lib.hid ho
    clear ho
    go_enter Try.func194, Try.ntmps194
    go_wp2
    go_ret
    exact ⟨xs, p, rfl, hx, HO.out, h, by omega, hg⟩
  have hA := below_alloc w (.cells #[.int .i64 0, .int .i64 1, .int .i64 2, .int .i64 2, .int .i64 3] 3)
  have hr0 := h.below hA
  have hg0 := grown_below hg hA
  have ho0 := own_below ho hA
  have hx0 : Rd (w.alloc (.cells #[.int .i64 0, .int .i64 1, .int .i64 2, .int .i64 2, .int .i64 3] 3)) (some ⟨w.heap.size, 0, none⟩) (ints [0, 1, 2, 2, 3]) := rd_blk (heap_alloc_new _ _) rfl
  have hRw := h.lt
  have C1 := one_any R p (some ⟨w.heap.size, 0, none⟩) 5 5 [0, 1, 2, 2, 3] _ hr0 (by omega) rfl (by omega) (by omega) hx0 (by intro x h; cases h; simp; omega)
  have HO := Lib.hid ho0
  clear h hA ho ho0
  go_enter Try.func194, Try.ntmps194
  go_wp2_with fail
  refine C1.mono ?_
  rintro e w1 ⟨v, hv, rfl, hr1, hg1⟩
  have hv5 : 0 ≤ v ∧ v ≤ 3 := by
    simp only [List.mem_cons, List.not_mem_nil, or_false] at hv
    omega
  obtain ⟨t, rfl⟩ : ∃ t : Nat, v = t := ⟨v.toNat, by omega⟩
  have ht : t ≤ 3 := by omega
  have ho := own_grownR3 HO.out hg1 hR
  have hg := grown_trans hg0 hg1
  have HO := Lib.hid ho
  clear hv hv5 C1 hr0 hg0 hx0 hg1 hRw ho
  go_wp2
  have ho := HO.out
  clear HO
  go_loopw [5, 6] (fun i _ wr => ∃ (k : Nat) (ys : List Int) (q : Nat), k ≤ 3 ∧ i = .int .i64 k ∧ ys.length = n ∧ OkD ys ∧ wr.ownsRow w0.heap.size 3 1 (.slice (some ⟨g, 0, none⟩) n c) n (ints ys) ∧ RdrAt wr R q ∧ q + 2 * k ≤ p + 7 ∧ w0.grownBy wr (some R)) (fun i _ _ => (intOf i).toNat)
  case atStart => exact ⟨t, xs, p + 1, ht, rfl, hlen, hx, ho, hr1, by omega, hg⟩
  case round =>
    clear ho hr1 hg hx hlen
    obtain ⟨k, ys, q, hk, rfl, hlen, hx, ho, hr, hq, hg⟩ := hrel
    by_cases hlt : 0 < k
    · have hn9 := hx.1
      have C1 := pick_any R q n wr hr (by omega) (by omega)
      have HO := Lib.hid ho
      clear ho
      go_wp2_with fail
      refine C1.mono ?_
      rintro e w2 ⟨v, rfl, hv, hr1, hg1⟩
      have ho := own_grownR3 HO.out hg1 hR
      have hg := grown_trans hg hg1
      have hvn : v < n := by omega
      have hRw := hr1.lt
      obtain ⟨b1, o1, e1, c1⟩ := (own_rd ho).int (k := v) (by omega)
      cases e1
      have hgR : some g ≠ some R := by have := (own_lt ho ⟨g, 0, none⟩ rfl).1; simp at this ⊢; omega
      have hX := hx.2 _ (List.getElem_mem (l := ys) (n := v) (by omega))
      simp only [Nat.zero_add] at c1
      generalize ys[v]'(by omega) = X at *
      have d1 := grow_cell c1 hgR
      have bd := bel_drew (Below.refl w2.heap.size w2)
      have gd := below_grownby bd (some R)
      have CV := one_any R (q + 1) (some ⟨w2.drew.heap.size, 0, none⟩) 4 4 [1, -1, 1, 2] (w2.drew.alloc (.cells #[.int .i64 1, .int .i64 (-1), .int .i64 1, .int .i64 2] 3)) ((hr1.below bd).below (below_alloc _ _)) (by omega) rfl (by omega) (by omega) (rd_blk (heap_alloc_new w2.drew (.cells #[.int .i64 1, .int .i64 (-1), .int .i64 1, .int .i64 2] 3)) rfl) (by intro x h; cases h; simp; omega)
      have ga := grown_below gd (below_alloc w2.drew (.cells #[.int .i64 1, .int .i64 (-1), .int .i64 1, .int .i64 2] 3))
      clear C1 hv hr HO hg1
      have HO := Lib.hid ho
      have HC := Lib.hid c1
      clear ho c1
      go_wp2
      refine wp_region_flags [true, true, true, true, true, true, true, false, false, false, false, true, true, true, false, false, false] 16 (C := fun w' => ∃ u : Grow w2 (some R), w' = u.val) (by kernel_rfl) (by kernel_rfl) ⟨⟨_, grown_drew (World.grownBy.refl _ _)⟩, rfl⟩ ?_
      simp only [pickT, pickF]
      repeat (go_big_quiet_step (fail))
      refine wpQuiet_nil ?_
      clear d1
      refine tail_step fun K hK => ?_
      go_wp2
      refine hK _ _ ⟨⟨_, ga⟩, rfl⟩ ?_
      clear hK
      refine tail_step fun K hK => ?_
      go_wp2_with fail
      refine CV.mono ?_
      rintro e w4 ⟨v4, hv4, rfl, hr4, hg4⟩
      have hg4 := grown_trans ga hg4
      have hv4 : -1 ≤ v4 ∧ v4 ≤ 2 := by
        simp only [List.mem_cons, List.not_mem_nil, or_false] at hv4
        omega
      go_wp2
      refine hK _ _ ⟨⟨_, hg4⟩, rfl⟩ ?_
      clear hK CV ga gd bd
      have HS := Lib.hid (fun (V : Int) (hV : -1 ≤ V ∧ V ≤ 200) => And.intro (own_setI (own_grownR3 HO.out hg4 hR) v V) (And.intro (hr4.setOther g v (.int .i64 V) (by have := (own_lt HO.out ⟨g, 0, none⟩ rfl).1; simp at this; omega)) (And.intro (grown_setNew (grown_trans hg hg4) g v (.int .i64 V) (own_lt HO.out ⟨g, 0, none⟩ rfl).1) (hx.set v hV))))
      have ho := own_grownR3 HO.out hg4 hR
      have c1 := hg4.cell HC.out hgR
      have f1 := ho.frozenAt v
      clear ho hr4 hg HO HC hx hv4
      refine tail_step fun K hK => ?_
      go_wp2
      refine hK _ _ ⟨⟨_, hg4⟩, rfl⟩ ?_
      clear hK
      refine tail_step fun K hK => ?_
      go_wp2
      all_goals
        refine hK _ _ ⟨⟨_, hg4⟩, rfl⟩ ?_
        clear hK
        refine tail_step fun K hK => ?_
        go_wp2
      all_goals
        refine hK _ _ ⟨⟨_, hg4⟩, rfl⟩ ?_
        clear hK
        refine tail_step fun K hK => ?_
        go_wp2
        refine hK _ _ ⟨⟨_, hg4⟩, rfl⟩ ?_
        clear hK
        refine tail_last fun K hK => ?_
        go_wp2
        go_roundw
        case rel => exact ⟨k - 1, ys.set v _, q + 2, by omega, by go_num, by rw [List.length_set]; exact hlen, (HS.out _ (by omega)).2.2.2, (HS.out _ (by omega)).1, (HS.out _ (by omega)).2.1, by omega, (HS.out _ (by omega)).2.2.1⟩
        case measure => simp [intOf]; omega
    · have HO := Lib.hid ho
      clear ho
      go_wp2
      go_ret
      exact ⟨ys, q, rfl, hx, HO.out, hr, by omega, hg⟩

theorem lifted2_any (R p c n : Nat) (a : Option Addr) (xs : List Int) (w0 w : World) (h : RdrAt w R p) (hp : p ≤ 1000000) (hR : R < w0.heap.size) (hg : w0.grownBy w (some R)) (ho : w.ownsRow w0.heap.size 3 1 (.slice a n c) n (ints xs)) (hx : OkD xs) :
    Calls Try.prog 194 #[.pointer (some ⟨R, 0, none⟩), .slice a n c] w fun e w' => ∃ (ys : List Int) (p' : Nat), e = .returned (.slice a n c) ∧ OkD ys ∧ w'.ownsRow w0.heap.size 3 1 (.slice a n c) n (ints ys) ∧ RdrAt w' R p' ∧ p' ≤ p + 10 ∧ w0.grownBy w' (some R) := by
  rcases own_cases ho with ⟨rfl, rfl, rfl⟩ | ⟨g, rfl, _, _⟩
  · go_enter Try.func194, Try.ntmps194
    have HO := Lib.hid ho
    clear ho
    go_wp2
    go_ret
    exact ⟨xs, p, rfl, hx, HO.out, h, by omega, hg⟩
  · exact lifted_any R p c n g xs w0 w h hp hR hg ho hx

set_option maxHeartbeats 4000000 in
theorem bent_any (R p c n : Nat) (a : Option Addr) (xs : List Int) (w0 w : World) (h : RdrAt w R p) (hp : p ≤ 1000000) (hR : R < w0.heap.size) (hg : w0.grownBy w (some R)) (ho : w.ownsRow w0.heap.size 3 1 (.slice a n c) n (ints xs)) (hx : OkD xs) (hn7 : n ≤ 7) :
    Calls Try.prog 164 #[.pointer (some ⟨R, 0, none⟩), .slice a n c] w fun e w' => ∃ (ys : List Int) (a' : Option Addr) (c' : Nat), e = .returned (.slice a' ys.length c') ∧ OkD ys ∧ w'.ownsRow w0.heap.size 3 1 (.slice a' ys.length c') ys.length (ints ys) ∧ w0.grownBy w' (some R) := by
  have hlen : xs.length = n := by have := ho.1; rw [ints_length] at this; omega
  have HL := Lib.hid hlen
  have C1 := pick_any R p 24 w h (by omega) (by omega)
  have HO := Lib.hid ho
  clear ho h hlen
  go_enter Try.func164, Try.ntmps164
  go_wp2_with fail
  refine C1.mono ?_
  rintro e w1 ⟨v, rfl, hv, hr1, hg1⟩
  have ho := own_grownR3 HO.out hg1 hR
  have hg := grown_trans hg hg1
  clear C1 HO hg1 hv
  by_cases hv0 : v = 0
  · subst hv0
    have hA := below_alloc w1 (.cells #[.int .i64 (-1), .int .i64 7, .int .i64 8, .int .i64 0] 3)
    have hr0 := hr1.below hA
    have hg0 := grown_below hg hA
    have ho0 := own_below ho hA
    have hx0 : Rd (w1.alloc (.cells #[.int .i64 (-1), .int .i64 7, .int .i64 8, .int .i64 0] 3)) (some ⟨w1.heap.size, 0, none⟩) (ints [-1, 7, 8, 0]) := rd_blk (heap_alloc_new _ _) rfl
    have hRw := hr1.lt
    have C1 := one_any R (p + 1) (some ⟨w1.heap.size, 0, none⟩) 4 4 [-1, 7, 8, 0] _ hr0 (by omega) rfl (by omega) (by omega) hx0 (by intro x h; cases h; simp; omega)
    have HO := Lib.hid ho0
    clear ho ho0 hA hr1 hg
    go_wp2_with fail
    refine C1.mono ?_
    rintro e w2 ⟨v, hv, rfl, hr2, hg2⟩
    have hv5 : -1 ≤ v ∧ v ≤ 8 := by
      simp only [List.mem_cons, List.not_mem_nil, or_false] at hv
      omega
    have ho := own_grownR3 HO.out hg2 hR
    have hg := grown_trans hg0 hg2
    have hs := hg.size
    have hb0 := (Below.refl w2.heap.size w2).mono hs
    clear C1 HO hg2 hg0 hr0 hx0 hv
    go_wp2_with (at_builtin; refine appendI Try.infoI _ _ rfl rfl ho hb0 (Nat.le_refl _) hs rfl rfl (by omega) ?_; intro a' c' w5 ho5 hb5)
    have HG := Lib.hid (grown_low3 hg hb5)
    have HO := Lib.hid ho5
    have HX := Lib.hid (show OkD (xs ++ [v]) from ⟨by rw [List.length_append, HL.out]; simp; omega, fun y hy => by
      rcases List.mem_append.1 hy with h1 | h1
      · exact hx.2 y h1
      · rw [List.mem_singleton.1 h1]; omega⟩)
    have HLL := Lib.hid (show (xs ++ [v]).length = n + 1 by rw [List.length_append, HL.out]; rfl)
    clear ho5 hb5 hb0 ho hg hx
    go_wp2
    go_ret
    exact ⟨xs ++ [v], a', c', by rw [HLL.out]; rfl, HX.out, by rw [HLL.out]; exact HO.out, HG.out⟩
  · by_cases hn0 : n = 0
    · subst hn0
      have HO := Lib.hid ho
      have HG := Lib.hid hg
      clear ho hg
      go_wp2
      go_ret
      exact ⟨xs, a, c, by rw [HL.out]; rfl, hx, by rw [HL.out]; exact HO.out, HG.out⟩
    · have C2 := pick_any R (p + 1) 30 w1 hr1 (by omega) (by omega)
      have HO := Lib.hid ho
      clear ho hr1
      go_wp2_with fail
      refine C2.mono ?_
      rintro e w2 ⟨v2, rfl, hv2, hr2, hg2⟩
      have ho := own_grownR3 HO.out hg2 hR
      have hg := grown_trans hg hg2
      clear C2 HO hg2 hv2
      by_cases hz : v2 = 0
      · subst hz
        obtain ⟨g, rfl, hgB, _⟩ := own_head ho (by omega)
        have C3 := pick_any R (p + 1 + 1) n w2 hr2 (by omega) (by omega)
        have HO := Lib.hid ho
        clear ho hr2
        go_wp2_with fail
        refine C3.mono ?_
        rintro e w3 ⟨v3, rfl, hv3, hr3, hg3⟩
        have ho := own_grownR3 HO.out hg3 hR
        have hg := grown_trans hg hg3
        have hk : v3 < n := by omega
        clear C3 HO hg3 hv3
        have hA := below_alloc w3 (.cells #[.int .i64 (-1), .int .i64 7, .int .i64 6] 3)
        have hr0 := hr3.below hA
        have hg0 := grown_below hg hA
        have ho0 := own_below ho hA
        have hx0 : Rd (w3.alloc (.cells #[.int .i64 (-1), .int .i64 7, .int .i64 6] 3)) (some ⟨w3.heap.size, 0, none⟩) (ints [-1, 7, 6]) := rd_blk (heap_alloc_new _ _) rfl
        have hRw := hr3.lt
        have C1 := one_any R (p + 1 + 1 + 1) (some ⟨w3.heap.size, 0, none⟩) 3 3 [-1, 7, 6] _ hr0 (by omega) rfl (by omega) (by omega) hx0 (by intro x h; cases h; simp; omega)
        have HO := Lib.hid ho0
        clear ho ho0 hA hr3 hg
        go_wp2_with fail
        refine C1.mono ?_
        rintro e w4 ⟨v, hv, rfl, hr4, hg4⟩
        have hv5 : -1 ≤ v ∧ v ≤ 200 := by
          simp only [List.mem_cons, List.not_mem_nil, or_false] at hv
          omega
        have ho := own_grownR3 HO.out hg4 hR
        have hg := grown_trans hg0 hg4
        clear C1 HO hg4 hg0 hr0 hx0 hv
        obtain ⟨b1, o1, e1, c1⟩ := (own_rd ho).int (k := v3) (by rw [HL.out]; exact hk)
        cases e1
        simp only [Nat.zero_add] at c1
        have f1 := ho.frozenAt v3
        have HO := Lib.hid (own_setI ho v3 v)
        have HG := Lib.hid (grown_setNew hg g v3 (.int .i64 v) hgB)
        have HX := Lib.hid (hx.set v3 hv5)
        have HLL := Lib.hid (show (xs.set v3 v).length = n by rw [List.length_set, HL.out])
        clear ho hg hx
        go_wp2
        go_ret
        exact ⟨xs.set v3 v, _, c, by rw [HLL.out]; rfl, HX.out, by rw [HLL.out]; exact HO.out, HG.out⟩
      · have HO := Lib.hid ho
        have HG := Lib.hid hg
        clear ho hg
        go_wp2
        go_ret
        exact ⟨xs, a, c, by rw [HL.out]; rfl, hx, by rw [HL.out]; exact HO.out, HG.out⟩

set_option maxHeartbeats 4000000 in
theorem goodDegrees_any (R p : Nat) (w : World) (h : RdrAt w R p) (hp : p ≤ 100000) :
    Calls Try.prog 165 #[.pointer (some ⟨R, 0, none⟩)] w fun e w' => ∃ (ys : List Int) (a : Option Addr) (n c p' : Nat), e = .returned (.slice a n c) ∧ n ≤ 7 ∧ OkD ys ∧ w'.ownsRow w.heap.size 3 1 (.slice a n c) n (ints ys) ∧ RdrAt w' R p' ∧ p' ≤ p + 100 ∧ w.grownBy w' (some R) := by
  have C1 := goodGraph_any R p w h (by omega)
  have hRw := h.lt
  clear h
  go_enter Try.func165, Try.ntmps165
  go_wp2_with fail
  refine C1.mono ?_
  rintro e w1 ⟨N, es, a, c, p1, rfl, hN, hes, ho, hr1, hp1, hg1⟩
  have hpl : (pairsL N).length ≤ 49 := by
    have h1 := pairsUpto_length N N
    have h2 : N * N ≤ 7 * 7 := Nat.mul_le_mul (by omega) (by omega)
    unfold pairsL; omega
  have hll := hes.length_le
  have C2 := specDegs_any N a c es.length es w1 (by omega) (fun k hk => by have := mem_pairsL.1 (hes.subset (List.getElem_mem hk)); omega) rfl (own_rd ho) (by omega)
  have hs1 := hg1.size
  have HD : OkD (degsL N es) := ⟨by rw [← degs_all, degs_length]; omega, fun x hx => by rw [← degs_all] at hx; have := degs_bound N es es.length x hx; omega⟩
  clear C1 ho hes hpl
  generalize degsL N es = ds at *
  obtain ⟨L, hL⟩ : ∃ L, L = es.length := ⟨_, rfl⟩
  rw [← hL] at C2 ⊢
  clear hL
  go_wp2_with fail
  refine C2.mono ?_
  rintro e w2 ⟨a2, rfl, ho2, hb2⟩
  have ho := own_mono ho2 hs1
  have hr2 := hr1.below hb2
  have hg := grown_below hg1 hb2
  clear C2 ho2 hb2 hr1 hg1
  have C3 := pick_any R p1 2 w2 hr2 (by omega) (by omega)
  have HO := Lib.hid ho
  clear ho hr2
  go_wp2_with fail
  refine C3.mono ?_
  rintro e w3 ⟨v, rfl, hv, hr3, hg3⟩
  have ho := own_grownR3 HO.out hg3 hRw
  have hg := grown_trans hg hg3
  clear C3 HO hg3
  by_cases hz : v = 0
  · subst hz
    have C4 := lifted2_any R (p1 + 1) N N a2 ds w w3 hr3 (by omega) hRw hg ho HD
    clear ho hr3 hg
    go_wp2_with fail
    refine C4.mono ?_
    rintro e w4 ⟨ys, p4, rfl, hys, ho4, hr4, hp4, hg4⟩
    have HO := Lib.hid ho4
    clear C4 ho4
    go_wp2
    go_ret
    exact ⟨ys, a2, N, N, p4, rfl, hN, hys, HO.out, hr4, by omega, hg4⟩
  · have HO := Lib.hid ho
    clear ho
    go_wp2
    go_ret
    exact ⟨ds, a2, N, N, p1 + 1, rfl, hN, HD, HO.out, hr3, by omega, hg⟩

theorem someDegrees_any (R p : Nat) (w : World) (h : RdrAt w R p) (hp : p ≤ 100000) :
    Calls Try.prog 97 #[.pointer (some ⟨R, 0, none⟩)] w fun e w' => ∃ (ys : List Int) (a : Option Addr) (c : Nat), e = .returned (.slice a ys.length c) ∧ OkD ys ∧ w'.ownsRow w.heap.size 3 1 (.slice a ys.length c) ys.length (ints ys) ∧ w.grownBy w' (some R) := by
  have C1 := goodDegrees_any R p w h hp
  have hRw := h.lt
  clear h
  go_enter Try.func97, Try.ntmps97
  go_wp2_with fail
  refine C1.mono ?_
  rintro e w1 ⟨ys, a, n, c, p1, rfl, hn, hys, ho, hr1, hp1, hg1⟩
  have C2 := bent_any R p1 c n a ys w w1 hr1 (by omega) hRw hg1 ho hys hn
  clear C1 ho hr1 hg1
  go_wp2_with fail
  refine C2.mono ?_
  rintro e w2 ⟨zs, a2, c2, rfl, hzs, ho2, hg2⟩
  have HO := Lib.hid ho2
  clear C2 ho2
  obtain ⟨L, hL⟩ : ∃ L, L = zs.length := ⟨_, rfl⟩
  rw [← hL]
  have HL := Lib.hid hL
  clear hL
  go_wp2
  go_ret
  exact ⟨zs, a2, c2, by rw [← HL.out]; rfl, hzs, HO.out, hg2⟩

theorem DrawComplementDegrees_any (a0 : Option Addr) (c0 n0 : Nat) (bs : List Int) (w : World) (hc : CodeOK w a0 c0 n0 bs) (hl : n0 ≤ 1048576) :
    Calls Try.prog 32 #[.slice a0 n0 c0] w fun e w' => ∃ (ys : List Int) (a : Option Addr) (c : Nat), e = .returned (.slice a ys.length c) ∧ OkD ys ∧ Rd w' a (ints ys) ∧ Below w.heap.size w w' := by
  have C1 := newReader_any a0 c0 n0 bs w hc.1 hl hc.2.1 hc.2.2.1 hc.2.2.2.1 hc.2.2.2.2
  go_enter Try.func32, Try.ntmps32
  go_wp2_with fail
  refine C1.mono ?_
  rintro e w1 ⟨rfl, hr, hb1⟩
  have C2 := someDegrees_any w.heap.size 0 w1 hr (by omega)
  clear C1 hc
  go_wp2_with fail
  refine C2.mono ?_
  rintro e w2 ⟨zs, a, c, rfl, hzs, ho, hg⟩
  have hB2 := hb1.grown hg hb1.size (fun k hk => by simp only [Option.some.injEq] at hk; omega)
  have HX := Lib.hid (own_rd ho)
  clear C2 hg hr ho
  obtain ⟨n, hn⟩ : ∃ n, n = zs.length := ⟨_, rfl⟩
  rw [← hn]
  have HN := Lib.hid hn
  clear hn
  go_wp2
  go_ret
  exact ⟨zs, a, c, by rw [← HN.out]; rfl, hzs, HX.out, hB2⟩

end Go.Proofs.Ytjghcegacgpehaa
