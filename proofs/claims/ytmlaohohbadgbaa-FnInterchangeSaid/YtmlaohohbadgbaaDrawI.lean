
/- The drawn input of Interchange: a matrix and a switch. (Printed by gen_drawi.py.) -/
import Derived.Test.YtmlaohohbadgbaaDrawM3
import Derived.Test.YtmlaohohbadgbaaIcs
import Derived.Test.YtmlaohohbadgbaaVMat
import Derived.Test.YtmlaohohbadgbaaTree
namespace Go.Proofs.Ytmlaohohbadgbaa
open Go.RowKit

theorem HoldsM.setR {w w' : World} {lo hi n R : Nat} {a : Option Addr} {m : List (List Int)} (h : HoldsM lo hi a n m w) (hg : w.grownBy w' (some R)) (hR : R < lo) (hw : hi ≤ w.heap.size) : HoldsM lo hi a n m w' :=
  h.stays fun i h1 h2 => hg.block i (by omega) (by simp; omega)
theorem HoldsM.setOld {w : World} {lo hi n : Nat} {a : Option Addr} {m : List (List Int)} (h : HoldsM lo hi a n m w) (b j : Nat) (v : Value) (hb : b < lo) : HoldsM lo hi a n m (w.setCell ⟨b, j, none⟩ v) :=
  h.stays fun i h1 _ => heap_setCell_other w ⟨b, j, none⟩ i v (by simp; omega)

set_option maxHeartbeats 8000000 in
theorem DrawInterchange_any (a0 : Option Addr) (c0 n0 : Nat) (bs : List Int) (w : World) (hc : CodeOK w a0 c0 n0 bs) (hl : n0 ≤ 1048576) :
    Calls Try.prog 23 #[.slice a0 n0 c0] w fun e w' => ∃ (m : List (List Int)) (a : Option Addr) (c : Nat) (A B C D : Int), e = .returned (.tuple #[.slice a m.length c, .agg #[.int .i64 A, .int .i64 B, .int .i64 C, .int .i64 D]]) ∧ SmallM m ∧ RdM w' a m ∧ Below w.heap.size w w' := by
  have hB := below_alloc w (.cells #[.int .i64 0, .int .i64 0, .int .i64 0, .int .i64 0] 32)
  have q0 := heap_alloc_new w (.cells #[.int .i64 0, .int .i64 0, .int .i64 0, .int .i64 0] 32)
  have hs1 : (w.alloc (.cells #[.int .i64 0, .int .i64 0, .int .i64 0, .int .i64 0] 32)).heap.size = w.heap.size + 1 := by simp
  generalize hW : w.alloc (.cells #[.int .i64 0, .int .i64 0, .int .i64 0, .int .i64 0] 32) = W at *
  have HW := Lib.hid hW
  clear hW
  have hc := hc.below hB
  have C1 := newReader_any a0 c0 n0 bs W hc.1 hl hc.2.1 hc.2.2.1 hc.2.2.2.1 hc.2.2.2.2
  obtain ⟨R, hR⟩ : ∃ R, R = W.heap.size := ⟨_, rfl⟩
  rw [← hR] at C1
  go_enter Try.func23, Try.ntmps23
  go_wp2_with (simp only [HW.out])
  refine C1.mono ?_
  rintro e w1 ⟨rfl, hr, hb1⟩
  have q0 := blk_below q0 (by rw [← hR]; exact hb1)
  have hB1 := below_tr' hB (by rw [← hR]; exact hb1)
  have hlt1 := hr.lt
  have C2 := someMatrix_any R 0 w1 hr (by omega)
  have hR1 : w.heap.size < R := by omega
  have hR2 : R < w1.heap.size := hlt1
  clear C1 hc hs1 hR hb1 hB
  go_wp2_with fail
  refine C2.mono ?_
  rintro e w2 ⟨m, a, c, p, rfl, hs, hxN, hrN, hp, hg⟩
  have q0 := blk_grown q0 hg (by simp; omega)
  have HBN := hB1.grown hg hB1.size (fun k hk => by simp only [Option.some.injEq] at hk; omega)
  have hsN := HBN.size
  obtain ⟨n, hn⟩ : ∃ n, m.length = n := ⟨_, rfl⟩
  rw [hn] at hxN ⊢
  have hsz := hs.size
  rw [hn] at hsz
  obtain ⟨SZ, hSZ⟩ : ∃ SZ, SZ = w2.heap.size := ⟨_, rfl⟩
  have hszN : SZ ≤ w2.heap.size := by omega
  rw [← hSZ] at hxN
  have HN := Lib.hid hn
  have C3 := specValidMatrix_any a c n m w2 hn hxN.rdM (by omega)
  clear C2 hg hr hB1 hSZ
  cases hv : validM m
  · rw [hv] at C3
    clear hn hv
    go_wp2_with fail
    refine C3.mono ?_
    rintro e wN ⟨rfl, hb⟩
    have q0 := blk_below q0 hb
    have hxN := hxN.below hb
    have hrN := hrN.below hb
    have HBN := below_tr' HBN hb
    have hszN := Nat.le_trans hszN hb.size
    clear C3 hb
    have CP := pick_any R (p + 0) 5 wN hrN (by omega) (by omega)
    go_wp2_with fail
    refine CP.mono ?_
    rintro e wp0 ⟨v0, rfl, hv0, hr, hg⟩
    have q0 := blk_grown q0 hg (by simp; omega)
    have hxN := hxN.setR hg (by omega) (by omega)
    have HBN := HBN.grown hg HBN.size (fun k hk => by simp only [Option.some.injEq] at hk; omega)
    have hsN := HBN.size
    have hszN := Nat.le_trans hszN hg.size
    clear hrN hg CP
    have hrN := hr
    clear hr
    have CP := pick_any R (p + 1) 5 wp0 hrN (by omega) (by omega)
    go_wp2_with fail
    refine CP.mono ?_
    rintro e wp1 ⟨v1, rfl, hv1, hr, hg⟩
    have q0 := blk_grown q0 hg (by simp; omega)
    have hxN := hxN.setR hg (by omega) (by omega)
    have HBN := HBN.grown hg HBN.size (fun k hk => by simp only [Option.some.injEq] at hk; omega)
    have hsN := HBN.size
    have hszN := Nat.le_trans hszN hg.size
    clear hrN hg CP
    have hrN := hr
    clear hr
    have CP := pick_any R (p + 2) 5 wp1 hrN (by omega) (by omega)
    go_wp2_with fail
    refine CP.mono ?_
    rintro e wp2 ⟨v2, rfl, hv2, hr, hg⟩
    have q0 := blk_grown q0 hg (by simp; omega)
    have hxN := hxN.setR hg (by omega) (by omega)
    have HBN := HBN.grown hg HBN.size (fun k hk => by simp only [Option.some.injEq] at hk; omega)
    have hsN := HBN.size
    have hszN := Nat.le_trans hszN hg.size
    clear hrN hg CP
    have hrN := hr
    clear hr
    have CP := pick_any R (p + 3) 5 wp2 hrN (by omega) (by omega)
    go_wp2_with fail
    refine CP.mono ?_
    rintro e wp3 ⟨v3, rfl, hv3, hr, hg⟩
    have q0 := blk_grown q0 hg (by simp; omega)
    have hxN := hxN.setR hg (by omega) (by omega)
    have HBN := HBN.grown hg HBN.size (fun k hk => by simp only [Option.some.injEq] at hk; omega)
    have hsN := HBN.size
    have hszN := Nat.le_trans hszN hg.size
    clear hrN hg CP
    have hrN := hr
    clear hr
    have hA := below_alloc wp3 (.cells #[.int .i64 v3, .int .i64 (-1)] 3)
    have hra := heap_alloc_new wp3 (.cells #[.int .i64 v3, .int .i64 (-1)] 3)
    have q0 := blk_below q0 hA
    have hxN := hxN.below hA
    have hrN2 := hrN.below hA
    have HBN := below_tr' HBN hA
    have CO := one_any R (p + 4) (some ⟨wp3.heap.size, 0, none⟩) 2 2 [(v3 : Int), -1] _ hrN2 (by omega) rfl (by omega) (by omega) (rd_blkM hra rfl) (by intro x h; cases h; have := hrN.lt; simp; omega)
    have hszN : SZ ≤ (wp3.alloc (.cells #[.int .i64 v3, .int .i64 (-1)] 3)).heap.size := Nat.le_trans hszN hA.size
    clear hrN hrN2 hra hA
    go_wp2_with fail
    refine CO.mono ?_
    rintro e wq ⟨v4, hv4, rfl, hr, hg⟩
    have q0 := blk_grown q0 hg (by simp; omega)
    have hxN := hxN.setR hg (by omega) hszN
    have HBN := HBN.grown hg HBN.size (fun k hk => by simp only [Option.some.injEq] at hk; omega)
    clear hr hg CO
    have r0 := q0
    have z0 := blk_cell r0 0 (.int .i64 0) rfl
    have f0 := blk_free r0 0
    have z1 := blk_cell r0 1 (.int .i64 0) rfl
    have f1 := blk_free r0 1
    have z2 := blk_cell r0 2 (.int .i64 0) rfl
    have f2 := blk_free r0 2
    have z3 := blk_cell r0 3 (.int .i64 0) rfl
    have f3 := blk_free r0 3
    have SB := Lib.hid ((((HBN.setCell (p := ⟨w.heap.size, 0, none⟩) (Nat.le_refl _) (.int .i64 (v0 : Int))).setCell (p := ⟨w.heap.size, 1, none⟩) (Nat.le_refl _) (.int .i64 (v1 : Int))).setCell (p := ⟨w.heap.size, 2, none⟩) (Nat.le_refl _) (.int .i64 (v2 : Int))).setCell (p := ⟨w.heap.size, 3, none⟩) (Nat.le_refl _) (.int .i64 v4))
    have SX := Lib.hid ((((hxN.setOld w.heap.size 0 (.int .i64 (v0 : Int)) (by omega)).setOld w.heap.size 1 (.int .i64 (v1 : Int)) (by omega)).setOld w.heap.size 2 (.int .i64 (v2 : Int)) (by omega)).setOld w.heap.size 3 (.int .i64 v4) (by omega)).rdM
    clear r0 q0 HBN hxN
    go_wp2
    refine bodyPost_ret (v := .tuple #[.slice a n c, .agg #[(.int .i64 (v0 : Int)), (.int .i64 (v1 : Int)), (.int .i64 (v2 : Int)), (.int .i64 v4)]]) (by simp [results, Try.results23, go_sem, z0, z1, z2, z3]) rfl ⟨m, a, c, _, _, _, _, by rw [HN.out], hs, SX.out, SB.out⟩
  · rw [hv] at C3
    have h5 := validM_cols hv
    rw [hn] at h5
    go_wp2_with fail
    refine C3.mono ?_
    rintro e w3 ⟨rfl, hb⟩
    have q0 := blk_below q0 hb
    have hxN := hxN.below hb
    have hrN := hrN.below hb
    have HBN := below_tr' HBN hb
    have hszN := Nat.le_trans hszN hb.size
    have hlR3 := hrN.lt
    have C4 := specIcs_in a c n (colsOf m) m w3 hv hn rfl hxN.rdM
    have hil := ic1_small m (cl := colsOf m) (n := n) (k := n) h5.2.2.2 h5.2.1 (Nat.le_refl _)
    generalize ic1 m (colsOf m) n n = l at *
    clear C3 hb hn hv h5
    go_wp2_with fail
    refine C4.mono ?_
    rintro e wN ⟨al, cl, rfl, hol, hb⟩
    have q0 := blk_below q0 hb
    have hxN := hxN.below hb
    have hrN := hrN.below hb
    have HBN := below_tr' HBN hb
    have hs3 := hszN
    have hszN := Nat.le_trans hszN hb.size
    have hlR := hrN.lt
    clear C4 hb
    obtain ⟨k, hk⟩ : ∃ k, l.length = k := ⟨_, rfl⟩
    rw [hk] at hol hil
    rw [hk]
    have HK := Lib.hid hk
    clear hk
    by_cases h0 : k = 0
    · subst h0
      clear hol
      have CP := pick_any R (p + 0) 5 wN hrN (by omega) (by omega)
      go_wp2_with fail
      refine CP.mono ?_
      rintro e wp0 ⟨v0, rfl, hv0, hr, hg⟩
      have q0 := blk_grown q0 hg (by simp; omega)
      have hxN := hxN.setR hg (by omega) (by omega)
      have HBN := HBN.grown hg HBN.size (fun k hk => by simp only [Option.some.injEq] at hk; omega)
      have hsN := HBN.size
      have hszN := Nat.le_trans hszN hg.size
      clear hrN hg CP
      have hrN := hr
      clear hr
      have CP := pick_any R (p + 1) 5 wp0 hrN (by omega) (by omega)
      go_wp2_with fail
      refine CP.mono ?_
      rintro e wp1 ⟨v1, rfl, hv1, hr, hg⟩
      have q0 := blk_grown q0 hg (by simp; omega)
      have hxN := hxN.setR hg (by omega) (by omega)
      have HBN := HBN.grown hg HBN.size (fun k hk => by simp only [Option.some.injEq] at hk; omega)
      have hsN := HBN.size
      have hszN := Nat.le_trans hszN hg.size
      clear hrN hg CP
      have hrN := hr
      clear hr
      have CP := pick_any R (p + 2) 5 wp1 hrN (by omega) (by omega)
      go_wp2_with fail
      refine CP.mono ?_
      rintro e wp2 ⟨v2, rfl, hv2, hr, hg⟩
      have q0 := blk_grown q0 hg (by simp; omega)
      have hxN := hxN.setR hg (by omega) (by omega)
      have HBN := HBN.grown hg HBN.size (fun k hk => by simp only [Option.some.injEq] at hk; omega)
      have hsN := HBN.size
      have hszN := Nat.le_trans hszN hg.size
      clear hrN hg CP
      have hrN := hr
      clear hr
      have CP := pick_any R (p + 3) 5 wp2 hrN (by omega) (by omega)
      go_wp2_with fail
      refine CP.mono ?_
      rintro e wp3 ⟨v3, rfl, hv3, hr, hg⟩
      have q0 := blk_grown q0 hg (by simp; omega)
      have hxN := hxN.setR hg (by omega) (by omega)
      have HBN := HBN.grown hg HBN.size (fun k hk => by simp only [Option.some.injEq] at hk; omega)
      have hsN := HBN.size
      have hszN := Nat.le_trans hszN hg.size
      clear hrN hg CP
      have hrN := hr
      clear hr
      have hA := below_alloc wp3 (.cells #[.int .i64 v3, .int .i64 (-1)] 3)
      have hra := heap_alloc_new wp3 (.cells #[.int .i64 v3, .int .i64 (-1)] 3)
      have q0 := blk_below q0 hA
      have hxN := hxN.below hA
      have hrN2 := hrN.below hA
      have HBN := below_tr' HBN hA
      have CO := one_any R (p + 4) (some ⟨wp3.heap.size, 0, none⟩) 2 2 [(v3 : Int), -1] _ hrN2 (by omega) rfl (by omega) (by omega) (rd_blkM hra rfl) (by intro x h; cases h; have := hrN.lt; simp; omega)
      have hszN : SZ ≤ (wp3.alloc (.cells #[.int .i64 v3, .int .i64 (-1)] 3)).heap.size := Nat.le_trans hszN hA.size
      clear hrN hrN2 hra hA
      go_wp2_with fail
      refine CO.mono ?_
      rintro e wq ⟨v4, hv4, rfl, hr, hg⟩
      have q0 := blk_grown q0 hg (by simp; omega)
      have hxN := hxN.setR hg (by omega) hszN
      have HBN := HBN.grown hg HBN.size (fun k hk => by simp only [Option.some.injEq] at hk; omega)
      clear hr hg CO
      have r0 := q0
      have z0 := blk_cell r0 0 (.int .i64 0) rfl
      have f0 := blk_free r0 0
      have z1 := blk_cell r0 1 (.int .i64 0) rfl
      have f1 := blk_free r0 1
      have z2 := blk_cell r0 2 (.int .i64 0) rfl
      have f2 := blk_free r0 2
      have z3 := blk_cell r0 3 (.int .i64 0) rfl
      have f3 := blk_free r0 3
      have SB := Lib.hid ((((HBN.setCell (p := ⟨w.heap.size, 0, none⟩) (Nat.le_refl _) (.int .i64 (v0 : Int))).setCell (p := ⟨w.heap.size, 1, none⟩) (Nat.le_refl _) (.int .i64 (v1 : Int))).setCell (p := ⟨w.heap.size, 2, none⟩) (Nat.le_refl _) (.int .i64 (v2 : Int))).setCell (p := ⟨w.heap.size, 3, none⟩) (Nat.le_refl _) (.int .i64 v4))
      have SX := Lib.hid ((((hxN.setOld w.heap.size 0 (.int .i64 (v0 : Int)) (by omega)).setOld w.heap.size 1 (.int .i64 (v1 : Int)) (by omega)).setOld w.heap.size 2 (.int .i64 (v2 : Int)) (by omega)).setOld w.heap.size 3 (.int .i64 v4) (by omega)).rdM
      clear r0 q0 HBN hxN
      go_wp2
      refine bodyPost_ret (v := .tuple #[.slice a n c, .agg #[(.int .i64 (v0 : Int)), (.int .i64 (v1 : Int)), (.int .i64 (v2 : Int)), (.int .i64 v4)]]) (by simp [results, Try.results23, go_sem, z0, z1, z2, z3]) rfl ⟨m, a, c, _, _, _, _, by rw [HN.out], hs, SX.out, SB.out⟩
    · have CP := pick_any R p 6 wN hrN (by omega) (by omega)
      have hd0 : decide ((0 : Int) < (k : Int)) = true := by simp; omega
      go_wp2_with fail
      refine CP.mono ?_
      rintro e wM ⟨v, rfl, hv6, hr, hg⟩
      have q0 := blk_grown q0 hg (by simp; omega)
      have hxN := hxN.setR hg (by omega) (by omega)
      have hol := own_grownR hol hg (by omega)
      have HBN := HBN.grown hg HBN.size (fun k hk => by simp only [Option.some.injEq] at hk; omega)
      have hszN := Nat.le_trans hszN hg.size
      have hrN := hr
      have hlR := hrN.lt
      clear CP hr hg
      by_cases hv0 : v = 0
      · subst hv0
        clear hol
        have CP := pick_any R ((p + 1) + 0) 5 wM hrN (by omega) (by omega)
        go_wp2_with fail
        refine CP.mono ?_
        rintro e wp0 ⟨v0, rfl, hv0, hr, hg⟩
        have q0 := blk_grown q0 hg (by simp; omega)
        have hxN := hxN.setR hg (by omega) (by omega)
        have HBN := HBN.grown hg HBN.size (fun k hk => by simp only [Option.some.injEq] at hk; omega)
        have hsN := HBN.size
        have hszN := Nat.le_trans hszN hg.size
        clear hrN hg CP
        have hrN := hr
        clear hr
        have CP := pick_any R ((p + 1) + 1) 5 wp0 hrN (by omega) (by omega)
        go_wp2_with fail
        refine CP.mono ?_
        rintro e wp1 ⟨v1, rfl, hv1, hr, hg⟩
        have q0 := blk_grown q0 hg (by simp; omega)
        have hxN := hxN.setR hg (by omega) (by omega)
        have HBN := HBN.grown hg HBN.size (fun k hk => by simp only [Option.some.injEq] at hk; omega)
        have hsN := HBN.size
        have hszN := Nat.le_trans hszN hg.size
        clear hrN hg CP
        have hrN := hr
        clear hr
        have CP := pick_any R ((p + 1) + 2) 5 wp1 hrN (by omega) (by omega)
        go_wp2_with fail
        refine CP.mono ?_
        rintro e wp2 ⟨v2, rfl, hv2, hr, hg⟩
        have q0 := blk_grown q0 hg (by simp; omega)
        have hxN := hxN.setR hg (by omega) (by omega)
        have HBN := HBN.grown hg HBN.size (fun k hk => by simp only [Option.some.injEq] at hk; omega)
        have hsN := HBN.size
        have hszN := Nat.le_trans hszN hg.size
        clear hrN hg CP
        have hrN := hr
        clear hr
        have CP := pick_any R ((p + 1) + 3) 5 wp2 hrN (by omega) (by omega)
        go_wp2_with fail
        refine CP.mono ?_
        rintro e wp3 ⟨v3, rfl, hv3, hr, hg⟩
        have q0 := blk_grown q0 hg (by simp; omega)
        have hxN := hxN.setR hg (by omega) (by omega)
        have HBN := HBN.grown hg HBN.size (fun k hk => by simp only [Option.some.injEq] at hk; omega)
        have hsN := HBN.size
        have hszN := Nat.le_trans hszN hg.size
        clear hrN hg CP
        have hrN := hr
        clear hr
        have hA := below_alloc wp3 (.cells #[.int .i64 v3, .int .i64 (-1)] 3)
        have hra := heap_alloc_new wp3 (.cells #[.int .i64 v3, .int .i64 (-1)] 3)
        have q0 := blk_below q0 hA
        have hxN := hxN.below hA
        have hrN2 := hrN.below hA
        have HBN := below_tr' HBN hA
        have CO := one_any R ((p + 1) + 4) (some ⟨wp3.heap.size, 0, none⟩) 2 2 [(v3 : Int), -1] _ hrN2 (by omega) rfl (by omega) (by omega) (rd_blkM hra rfl) (by intro x h; cases h; have := hrN.lt; simp; omega)
        have hszN : SZ ≤ (wp3.alloc (.cells #[.int .i64 v3, .int .i64 (-1)] 3)).heap.size := Nat.le_trans hszN hA.size
        clear hrN hrN2 hra hA
        go_wp2_with fail
        refine CO.mono ?_
        rintro e wq ⟨v4, hv4, rfl, hr, hg⟩
        have q0 := blk_grown q0 hg (by simp; omega)
        have hxN := hxN.setR hg (by omega) hszN
        have HBN := HBN.grown hg HBN.size (fun k hk => by simp only [Option.some.injEq] at hk; omega)
        clear hr hg CO
        have r0 := q0
        have z0 := blk_cell r0 0 (.int .i64 0) rfl
        have f0 := blk_free r0 0
        have z1 := blk_cell r0 1 (.int .i64 0) rfl
        have f1 := blk_free r0 1
        have z2 := blk_cell r0 2 (.int .i64 0) rfl
        have f2 := blk_free r0 2
        have z3 := blk_cell r0 3 (.int .i64 0) rfl
        have f3 := blk_free r0 3
        have SB := Lib.hid ((((HBN.setCell (p := ⟨w.heap.size, 0, none⟩) (Nat.le_refl _) (.int .i64 (v0 : Int))).setCell (p := ⟨w.heap.size, 1, none⟩) (Nat.le_refl _) (.int .i64 (v1 : Int))).setCell (p := ⟨w.heap.size, 2, none⟩) (Nat.le_refl _) (.int .i64 (v2 : Int))).setCell (p := ⟨w.heap.size, 3, none⟩) (Nat.le_refl _) (.int .i64 v4))
        have SX := Lib.hid ((((hxN.setOld w.heap.size 0 (.int .i64 (v0 : Int)) (by omega)).setOld w.heap.size 1 (.int .i64 (v1 : Int)) (by omega)).setOld w.heap.size 2 (.int .i64 (v2 : Int)) (by omega)).setOld w.heap.size 3 (.int .i64 v4) (by omega)).rdM
        clear r0 q0 HBN hxN
        go_wp2
        refine bodyPost_ret (v := .tuple #[.slice a n c, .agg #[(.int .i64 (v0 : Int)), (.int .i64 (v1 : Int)), (.int .i64 (v2 : Int)), (.int .i64 v4)]]) (by simp [results, Try.results23, go_sem, z0, z1, z2, z3]) rfl ⟨m, a, c, _, _, _, _, by rw [HN.out], hs, SX.out, SB.out⟩
      · have hdv : decide ((0 : Int) < (v : Int)) = true := by simp; omega
        have CP := pick_any R (p + 1) k wM.drew (hrN.below (bel_drew (Below.refl _ _))) (by omega) (by omega)
        have gd := below_grownby (bel_drew (Below.refl wM.heap.size wM)) (some R)
        go_wp2
        refine wp_region_heads [true, true, true, true, true, false, false, false, false, false] 9 5 (C := fun w' => ∃ u : Grow wM (some R), w' = u.val) (by kernel_rfl) (by kernel_rfl) ⟨⟨_, gd⟩, rfl⟩ ?_
        simp only [pickT]
        repeat (go_big_quiet_step (fail))
        refine wpQuiet_nil ?_
        refine any_one (i := 5) (by kernel_rfl) rfl ?_
        intro K hK
        go_wp2_with fail
        refine CP.mono ?_
        rintro e wq ⟨v5, rfl, hv5, hr, hg⟩
        have hgq := grown_trans gd hg
        go_wp2
        refine hK _ _ (fun _ => ⟨⟨_, hgq⟩, rfl⟩) ?_
        clear hK CP gd hg
        have hkl : v5 < l.length := by rw [HK.out]; omega
        have hk5 : v5 < k := by omega
        obtain ⟨b9, o9, ea, x0, x1, x2, x3⟩ := (own_rd hol).sw hkl
        have hb9 : some b9 ≠ some R := by
          have := (own_lt hol _ ea).1
          simp at this ⊢; omega
        subst ea
        generalize (l[v5]'hkl) = S at *
        obtain ⟨A, B, C, D⟩ := S
        simp only at x0 x1 x2 x3
        have d0 := grow_cell x0 hb9
        have d1 := grow_cell x1 hb9
        have d2 := grow_cell x2 hb9
        have d3 := grow_cell x3 hb9
        clear x0 x1 x2 x3
        refine any_heads (id := 3) (n := 1) [false, false, false, false, false, false, true, true, true, false] #[true, true, true, true, true, true, true, true, true, false] (by kernel_rfl) ⟨⟨_, hgq⟩, rfl⟩ ?_
        simp only [pickT]
        repeat (go_big_quiet_step (fail))
        refine wpQuiet_nil ?_
        clear d0 d1 d2 d3
        have q0 := blk_grown q0 hgq (by simp; omega)
        have hxN := hxN.setR hgq (by omega) hszN
        have HBN := HBN.grown hgq HBN.size (fun k hk => by simp only [Option.some.injEq] at hk; omega)
        clear hol hr
        refine any_one (i := 9) (by kernel_rfl) rfl ?_
        intro K hK
        have r0 := q0
        have z0 := blk_cell r0 0 (.int .i64 0) rfl
        have f0 := blk_free r0 0
        have z1 := blk_cell r0 1 (.int .i64 0) rfl
        have f1 := blk_free r0 1
        have z2 := blk_cell r0 2 (.int .i64 0) rfl
        have f2 := blk_free r0 2
        have z3 := blk_cell r0 3 (.int .i64 0) rfl
        have f3 := blk_free r0 3
        have SB := Lib.hid ((((HBN.setCell (p := ⟨w.heap.size, 0, none⟩) (Nat.le_refl _) (.int .i64 A)).setCell (p := ⟨w.heap.size, 1, none⟩) (Nat.le_refl _) (.int .i64 B)).setCell (p := ⟨w.heap.size, 2, none⟩) (Nat.le_refl _) (.int .i64 C)).setCell (p := ⟨w.heap.size, 3, none⟩) (Nat.le_refl _) (.int .i64 D))
        have SX := Lib.hid ((((hxN.setOld w.heap.size 0 (.int .i64 A) (by omega)).setOld w.heap.size 1 (.int .i64 B) (by omega)).setOld w.heap.size 2 (.int .i64 C) (by omega)).setOld w.heap.size 3 (.int .i64 D) (by omega)).rdM
        clear r0 q0 HBN hxN
        go_wp2
        refine hK _ _ (fun h => absurd rfl h) ?_
        clear hK
        refine any_end (by kernel_rfl) ?_
        go_wp2
        refine bodyPost_ret (v := .tuple #[.slice a n c, .agg #[.int .i64 A, .int .i64 B, .int .i64 C, .int .i64 D]]) (by simp [results, Try.results23, go_sem, z0, z1, z2, z3]) rfl ⟨m, a, c, A, B, C, D, by rw [HN.out], hs, SX.out, SB.out⟩

end Go.Proofs.Ytmlaohohbadgbaa
