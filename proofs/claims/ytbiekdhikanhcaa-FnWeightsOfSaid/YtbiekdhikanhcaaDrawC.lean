
/- Drawn codes; equal rows of numbers. (Printed by gen_drawc.py.) -/
import Derived.Test.YtbiekdhikanhcaaDraw1
import Derived.Laws.Concat
namespace Go.Proofs.Ytbiekdhikanhcaa
open Go.RowKit

def strsV (ss : List ByteArray) : List Value := ss.map Value.string

theorem of_any (R p : Nat) (a : Option Addr) (c n : Nat) (ss : List ByteArray) (w : World) (h : RdrAt w R p) (hp : p ≤ 1099511627776) (hn : ss.length = n) (h0 : 0 < n) (hl : n ≤ 1048576) (hx : Rd w a (strsV ss)) (hr : ∀ x, a = some x → x.block ≠ R) :
    Calls Try.prog 112 #[.pointer (some ⟨R, 0, none⟩), .slice a n c] w fun e w' => ∃ v ∈ ss, e = .returned (.string v) ∧ RdrAt w' R (p + 1) ∧ w.grownBy w' (some R) := by
  have C1 := pick_any R p n w h hp (by omega)
  go_enter Try.func112, Try.ntmps112
  go_wp2_with fail
  refine C1.mono ?_
  rintro e w1 ⟨v, rfl, hv, hq, hg⟩
  have hv : v < n := by omega
  obtain ⟨b1, o1, rfl, k1⟩ := hx.grown hg (fun x h e => hr x h (by simpa using e)) v (.string (ss[v]'(by omega))) (by simp [strsV, hn, hv])
  have HM := Lib.hid (List.getElem_mem (l := ss) (n := v) (by omega))
  generalize ss[v]'(by omega) = y at *
  go_wp2
  go_ret
  exact ⟨y, HM.out, rfl, hq, hg⟩

set_option maxHeartbeats 1000000 in
theorem aCode_any (R p : Nat) (w : World) (h : RdrAt w R p) (hp : p ≤ 1000000) :
    Calls Try.prog 111 #[.pointer (some ⟨R, 0, none⟩)] w fun e w' => ∃ (s : ByteArray) (p' : Nat), e = .returned (.string s) ∧ s.size ≤ 7 ∧ RdrAt w' R p' ∧ p' ≤ p + 10 ∧ w.grownBy w' (some R) := by
  have hB := below_alloc w (.cells #[.int .i64 4, .int .i64 3, .int .i64 5, .int .i64 2, .int .i64 1, .int .i64 0, .int .i64 6] 3)
  have rS := rd_blk (heap_alloc_new w (.cells #[.int .i64 4, .int .i64 3, .int .i64 5, .int .i64 2, .int .i64 1, .int .i64 0, .int .i64 6] 3)) (cs := Go.Proofs.Ytbiekdhikanhcaa.ints [4, 3, 5, 2, 1, 0, 6]) rfl
  have hRw := h.lt
  have hr := h.below hB
  have hg := below_grownby hB (some R)
  clear h
  generalize hW : w.alloc (.cells #[.int .i64 4, .int .i64 3, .int .i64 5, .int .i64 2, .int .i64 1, .int .i64 0, .int .i64 6] 3) = W at *
  have HW := Lib.hid hW
  clear hW
  have CO := one_any R p (some ⟨w.heap.size, 0, none⟩) 7 7 [4, 3, 5, 2, 1, 0, 6] W hr (by omega) rfl (by omega) (by omega) rS (by intro x h; cases h; simp; omega)
  clear rS
  go_enter Try.func111, Try.ntmps111
  go_wp2_with (simp only [HW.out])
  refine CO.mono ?_
  rintro e w1 ⟨v, hv, rfl, hr1, hg1⟩
  have hv6 : 0 ≤ v ∧ v ≤ 6 := by
    simp only [List.mem_cons, List.not_mem_nil, or_false] at hv
    omega
  obtain ⟨m, rfl⟩ : ∃ m : Nat, v = m := ⟨v.toNat, by omega⟩
  have hm6 : m ≤ 6 := by omega
  have hg := grown_trans hg hg1
  clear CO hr hv hg1 hB
  go_wp2
  go_loopw [3, 4] (fun t i wr => ∃ (k : Nat) (s : ByteArray) (q : Nat), i = .int .i64 k ∧ t = .string s ∧ s.size + k ≤ 7 ∧ RdrAt wr R q ∧ q + k ≤ p + 1 + m ∧ w.grownBy wr (some R)) (fun _ i _ => (intOf i).toNat)
  case atStart => exact ⟨m, ⟨#[105]⟩, p + 1, rfl, rfl, by show 1 + m ≤ 7; omega, hr1, by omega, hg⟩
  case round =>
    clear hr1 hg
    obtain ⟨k, s, q, rfl, rfl, hs, hr, hq, hg⟩ := hrel
    by_cases hz : 0 < k
    · have hA := below_alloc wr (.cells #[.string ⟨#[105]⟩, .string ⟨#[100]⟩] 9)
      have rT := rd_blk (heap_alloc_new wr (.cells #[.string ⟨#[105]⟩, .string ⟨#[100]⟩] 9)) (cs := strsV [⟨#[105]⟩, ⟨#[100]⟩]) rfl
      have hRr := hr.lt
      have hr := hr.below hA
      have hg := grown_below hg hA
      generalize hV : wr.alloc (.cells #[.string ⟨#[105]⟩, .string ⟨#[100]⟩] 9) = V at *
      have HV := Lib.hid hV
      clear hV hA
      have CO := of_any R q (some ⟨wr.heap.size, 0, none⟩) 2 2 [⟨#[105]⟩, ⟨#[100]⟩] V hr (by omega) rfl (by omega) (by omega) rT (by intro x h; cases h; simp; omega)
      go_wp2_with (simp only [HV.out])
      refine CO.mono ?_
      rintro e w2 ⟨u, hu, rfl, hr2, hg2⟩
      have hu1 : u.size ≤ 1 := by
        simp only [List.mem_cons, List.not_mem_nil, or_false] at hu
        rcases hu with rfl | rfl <;> exact Nat.le_refl _
      have hg := grown_trans hg hg2
      have hsz : (s ++ u).size = s.size + u.size := ByteArray.size_append
      clear CO hu hr rT hg2
      go_wp2
      go_roundw
      case rel => exact ⟨k - 1, s ++ u, q + 1, by go_num, rfl, by omega, hr2, by omega, hg⟩
      case measure => simp [intOf]; omega
    · obtain rfl : k = 0 := by omega
      go_wp2
      go_ret
      exact ⟨s, q, rfl, by omega, hr, by omega, hg⟩

set_option maxHeartbeats 1000000 in
theorem someCode_any (R p : Nat) (w : World) (h : RdrAt w R p) (hp : p ≤ 100000) :
    Calls Try.prog 69 #[.pointer (some ⟨R, 0, none⟩)] w fun e w' => ∃ (s : ByteArray) (p' : Nat), e = .returned (.string s) ∧ s.size ≤ 13 ∧ RdrAt w' R p' ∧ w.grownBy w' (some R) := by
  have CA := aCode_any R p w h (by omega)
  go_enter Try.func69, Try.ntmps69
  go_wp2_with fail
  refine CA.mono ?_
  rintro e w1 ⟨s, q, rfl, hs, hr, hq, hg⟩
  have CP := pick_any R q 12 w1 hr (by omega) (by omega)
  clear CA
  go_wp2_with fail
  refine CP.mono ?_
  rintro e w2 ⟨v, rfl, hv, hr2, hg2⟩
  have hg := grown_trans hg hg2
  clear CP hg2 hr
  by_cases hv0 : v = 0
  · subst hv0
    have hA := below_alloc w2 (.cells #[.string ⟨#[]⟩, .string ⟨#[100]⟩, .string (s ++ ⟨#[120]⟩), .string (⟨#[100]⟩ ++ s), .string (s ++ ⟨#[105, 105, 105, 105, 105, 105]⟩)] 9)
    have rT := rd_blk (heap_alloc_new w2 (.cells #[.string ⟨#[]⟩, .string ⟨#[100]⟩, .string (s ++ ⟨#[120]⟩), .string (⟨#[100]⟩ ++ s), .string (s ++ ⟨#[105, 105, 105, 105, 105, 105]⟩)] 9)) (cs := strsV [⟨#[]⟩, ⟨#[100]⟩, (s ++ ⟨#[120]⟩), (⟨#[100]⟩ ++ s), (s ++ ⟨#[105, 105, 105, 105, 105, 105]⟩)]) rfl
    have hRr := hr2.lt
    have hr := hr2.below hA
    have hg := grown_below hg hA
    generalize hV : w2.alloc (.cells #[.string ⟨#[]⟩, .string ⟨#[100]⟩, .string (s ++ ⟨#[120]⟩), .string (⟨#[100]⟩ ++ s), .string (s ++ ⟨#[105, 105, 105, 105, 105, 105]⟩)] 9) = V at *
    have HV := Lib.hid hV
    clear hV hA
    have CO := of_any R (q + 1) (some ⟨w2.heap.size, 0, none⟩) 5 5 [⟨#[]⟩, ⟨#[100]⟩, (s ++ ⟨#[120]⟩), (⟨#[100]⟩ ++ s), (s ++ ⟨#[105, 105, 105, 105, 105, 105]⟩)] V hr (by omega) rfl (by omega) (by omega) rT (by intro x h; cases h; simp; omega)
    clear rT
    go_wp2_with (simp only [HV.out])
    refine CO.mono ?_
    rintro e w3 ⟨u, hu, rfl, hr3, hg3⟩
    have hu1 : u.size ≤ 13 := by
      simp only [List.mem_cons, List.not_mem_nil, or_false] at hu
      rcases hu with rfl | rfl | rfl | rfl | rfl
      · exact Nat.zero_le _
      · show 1 ≤ 13; omega
      · rw [ByteArray.size_append]; show s.size + 1 ≤ 13; omega
      · rw [ByteArray.size_append]; show 1 + s.size ≤ 13; omega
      · rw [ByteArray.size_append]; show s.size + 6 ≤ 13; omega
    have hg := grown_trans hg hg3
    clear CO hu hg3
    go_wp2
    go_ret
    exact ⟨u, q + 1 + 1, rfl, hu1, hr3, hg⟩
  · have hv1 : ((v : Int) == 0) = false := by simp [hv0]
    go_wp2
    go_ret
    exact ⟨s, q + 1, rfl, by omega, hr2, hg⟩

theorem DrawWeightsOf_any (a0 : Option Addr) (c0 n0 : Nat) (bs : List Int) (w : World) (hc : CodeOK w a0 c0 n0 bs) (hl : n0 ≤ 1048576) :
    Calls Try.prog 22 #[.slice a0 n0 c0] w fun e w' => ∃ s : ByteArray, e = .returned (.string s) ∧ s.size ≤ 13 ∧ Below w.heap.size w w' := by
  have C1 := newReader_any a0 c0 n0 bs w hc.1 hl hc.2.1 hc.2.2.1 hc.2.2.2.1 hc.2.2.2.2
  go_enter Try.func22, Try.ntmps22
  go_wp2_with fail
  refine C1.mono ?_
  rintro e w1 ⟨rfl, hr, hb1⟩
  have C2 := someCode_any w.heap.size 0 w1 hr (by omega)
  clear C1 hc
  go_wp2_with fail
  refine C2.mono ?_
  rintro e w2 ⟨s, p', rfl, hs, hr2, hg⟩
  have hB := hb1.grown hg hb1.size (fun k hk => by simp only [Option.some.injEq] at hk; omega)
  clear C2
  go_wp2
  go_ret
  exact ⟨s, rfl, hs, hB⟩

theorem equalInts_any (a b : Option Addr) (ca cb n : Nat) (xs : List Int) (w : World) (hn : xs.length = n) (hx : Rd w a (Go.Proofs.Ytbiekdhikanhcaa.ints xs)) (hy : Rd w b (Go.Proofs.Ytbiekdhikanhcaa.ints xs)) (hl : n ≤ 8796093022208) :
    Calls Try.prog 25 #[.slice a n ca, .slice b n cb] w fun e w' => e = .returned (.bool true) ∧ Below w.heap.size w w' := by
  go_enter Try.func25, Try.ntmps25
  go_wp2
  go_loopw [5] (fun i wr => ∃ k : Nat, k ≤ n ∧ i = .int .i64 k ∧ Below w.heap.size w wr) (fun i _ => n - (intOf i).toNat)
  case atStart => exact ⟨0, by omega, rfl, Below.refl _ _⟩
  case round =>
    obtain ⟨k, hk, rfl, hb⟩ := hrel
    by_cases hlt : k < n
    · obtain ⟨b1, o1, rfl, c1⟩ := (hx.below hb).int (k := k) (by omega)
      obtain ⟨b2, o2, rfl, c2⟩ := (hy.below hb).int (k := k) (by omega)
      generalize (xs[k]'(by omega)) = X at *
      have d1 := later_cell c1
      have d2 := later_cell c2
      clear c1 c2
      go_wp2
      refine wp_region_later (by kernel_rfl) (by kernel_rfl) ?_
      repeat (go_big_quiet_step (fail))
      refine wpQuiet_nil ?_
      intro w1 hw'
      have hb1 := below_tr' hb (later_below hw')
      clear hw' d1 d2
      go_wp2
      go_roundw
      case rel => exact ⟨k + 1, by omega, by go_num, hb1⟩
      case measure => simp [intOf]; omega
    · go_wp2
      go_ret
      exact ⟨rfl, hb⟩

end Go.Proofs.Ytbiekdhikanhcaa
