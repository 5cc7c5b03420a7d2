
/- The program's factor and FactorOf. (Printed by gen_factv.py.) -/
import Derived.Test.YtjghcegacgpehaaFactV
import Derived.Test.YtjghcegacgpehaaSubW4
import Derived.Test.YtjghcegacgpehaaGrowL
namespace Go.Proofs.Ytjghcegacgpehaa
open Go.RowKit

theorem own_rebase {w : World} {B B' T s n c m : Nat} {a : Option Addr} {cs : List Value} (h : w.ownsRow B T s (.slice a m c) n cs) (hb : ∀ i ∈ blks a, B' ≤ i) : w.ownsRow B' T s (.slice a m c) n cs := by
  refine ⟨h.1, ?_⟩
  rcases h.2 with h2 | ⟨g, cap, cur, h1, hB, hg, hr⟩
  · exact .inl h2
  · cases h1
    exact .inr ⟨g, _, cur, rfl, hb g (by simp [blks]), hg, hr⟩
/-- The state of the search for one: the graph found, in its cell. -/
def FctSt (A N : Nat) (s : Option (List N2)) (l : List Nat) (w : World) : Prop :=
  ∃ v0 v1 b r, l = A :: (A + 1) :: r ∧ w.heap[A]? = some (.cells #[v0, v1] 25 (0, 0)) ∧ w.heap[A + 1]? = some (.cells #[.bool b] 4 (0, 0)) ∧
    match s with
    | none => v0 = .int .i64 0 ∧ v1 = .slice none 0 0 ∧ b = false ∧ r = []
    | some es => b = true ∧ v0 = .int .i64 (N : Int) ∧ ∃ a c, v1 = .slice a es.length es.length ∧ r = blks a ∧ w.ownsRow 0 48 2 (.slice a es.length c) es.length (edges (en2 es))
theorem fct_keeps (A N : Nat) : Keeps (FctSt A N) := by
  refine ⟨?_, ?_⟩
  · rintro s l w w' ⟨v0, v1, b, r, rfl, h1, h2, h3⟩ hs
    refine ⟨v0, v1, b, r, rfl, (hs A (by simp)).trans h1, (hs (A + 1) (by simp)).trans h2, ?_⟩
    cases s with
    | none => exact h3
    | some es =>
      obtain ⟨g1, g2, a, c, g3, rfl, g4⟩ := h3
      exact ⟨g1, g2, a, c, g3, rfl, own_same2 g4 fun x hx => hs x.block (by subst hx; simp [blks])⟩
  · rintro s l w ⟨v0, v1, b, r, rfl, h1, h2, h3⟩ i hi
    rcases List.mem_cons.1 hi with rfl | hi
    · exact blk_lt h1
    rcases List.mem_cons.1 hi with rfl | hi
    · exact blk_lt h2
    cases s with
    | none =>
      obtain ⟨_, _, _, rfl⟩ := h3
      simp at hi
    | some es =>
      obtain ⟨_, _, a, c, _, rfl, g4⟩ := h3
      exact (own_blks g4 i hi).2
theorem enters_fct : Enters Try.prog 181 := enters Try.func181 (by kernel_rfl) rfl
set_option maxHeartbeats 1000000 in
theorem fct_takes (A N : Nat) : Takes 181 #[.pointer (some ⟨A, 0, none⟩), .pointer (some ⟨A + 1, 0, none⟩)] N 2097153 (fun _ => 0) (FctSt A N) (fun _ x => (some x, false)) := by
  refine ⟨enters_fct, ?_⟩
  rintro s l w a c es _ hes ⟨v0, v1, b, r, rfl, hq, hq2, _⟩ ho hne
  have hB := below_alloc w (.cells #[.int .i64 (N : Int), .slice a es.length es.length] 25)
  have q1 := blk_below hq hB
  have q2 := blk_below hq2 hB
  have qb := heap_alloc_new w (.cells #[.int .i64 (N : Int), .slice a es.length es.length] 25)
  have ho := own_below ho hB
  have g0 := blk_cell qb 0 (.int .i64 (N : Int)) rfl
  have g1 := blk_cell qb 1 (.slice a es.length es.length) rfl
  have k0 := blk_cell q1 0 v0 rfl
  have k1 := blk_cell q1 1 v1 rfl
  have f0 := blk_free q1 0
  have f1 := blk_free q1 1
  have k2 := blk_cell q2 0 (.bool b) rfl
  have f2 := blk_free q2 0
  generalize hW : w.alloc (.cells #[.int .i64 (N : Int), .slice a es.length es.length] 25) = W at *
  have HW := Lib.hid hW
  have n1 := own_ne ho q1 (by decide)
  have n2 := own_ne ho q2 (by decide)
  have HS := Lib.hid (show FctSt A N (some es) (A :: (A + 1) :: blks a) (((W.setCell ⟨A, 0, none⟩ (.int .i64 (N : Int))).setCell ⟨A, 1, none⟩ (.slice a es.length es.length)).setCell ⟨A + 1, 0, none⟩ (.bool true)) from
    ⟨_, _, true, _, rfl, blk_set_other (blk_set (blk_set q1 0 (.int .i64 (N : Int))) 1 (.slice a es.length es.length)) 0 (.bool true) (by omega), blk_set (blk_set_other (blk_set_other q2 0 (.int .i64 (N : Int)) (by omega)) 1 (.slice a es.length es.length) (by omega)) 0 (.bool true), rfl, rfl, a, c, rfl, rfl, own_setOther (own_setOther (own_setOther ho A 0 (.int .i64 (N : Int)) n1) A 1 (.slice a es.length es.length) n1) (A + 1) 0 (.bool true) n2⟩)
  have HF := Lib.hid ((((FrL.of_below hB (A :: (A + 1) :: r)).trans (FrL.set W A 0 (.int .i64 (N : Int)) _ (by simp))).trans (FrL.set (W.setCell ⟨A, 0, none⟩ (.int .i64 (N : Int))) A 1 (.slice a es.length es.length) _ (by simp))).trans (FrL.set ((W.setCell ⟨A, 0, none⟩ (.int .i64 (N : Int))).setCell ⟨A, 1, none⟩ (.slice a es.length es.length)) (A + 1) 0 (.bool true) _ (by simp)))
  have hAA : A ≠ A + 1 := by omega
  clear hW hq hq2 ho q1 q2 qb hB n1 n2 hne
  go_enter Try.func181, Try.ntmps181
  go_wp2_with (simp only [HW.out])
  go_ret
  refine ⟨rfl, _, HS.out, fun i hi => ?_, HF.out⟩
  rcases List.mem_cons.1 hi with rfl | hi
  · exact .inl (by simp)
  rcases List.mem_cons.1 hi with rfl | hi
  · exact .inl (by simp)
  · obtain ⟨x, hx, h2⟩ := blks_mem.1 hi
    exact .inr (.inr ⟨x, hx, h2⟩)

/-- As FactRes; the value's capacity may be less than the block's. -/
def FactResI (B N : Nat) (w' : World) (r : Option (List N2)) (e : Ending) : Prop :=
  match r with
  | some es => ∃ a c d, e = .returned (.tuple #[graphV N a es.length c, .bool true]) ∧ w'.ownsRow B 48 2 (.slice a es.length d) es.length (edges (en2 es))
  | none => e = .returned (.tuple #[graphV 0 none 0 0, .bool false])
set_option maxHeartbeats 2000000 in
theorem implFactor_any (N : Nat) (ag ad : Option Addr) (cg ng c n : Nat) (g : List E2) (xs : List Int) (w : World) (hv : validG N g = true) (hd : validD xs = true) (hnN : n = N) (hng : g.length = ng) (hn : xs.length = n) (hg : Rd w ag (edges g)) (hbg : ∀ i ∈ blks ag, i < w.heap.size) (hx : Rd w ad (ints xs)) (hnil : ad = none → n = 0 ∧ c = 0) :
    Calls Try.prog 132 #[graphV N ag ng cg, .slice ad n c] w fun e w' => FactResI w.heap.size N w' (factN (ne2 g) (toN xs) []) e ∧ Below w.heap.size w w' := by
  obtain ⟨v1, v2, v3⟩ := validD_toN hd
  have hTL := toN_length xs
  have hel := en2_ne2 hv
  have hin := ne2_in hv
  have hasc := ne2_asc hv
  have hlen := valid21 hv
  have hnl := ne2_length g
  have hN7 := (validG_true.1 hv).2.2
  have hFS := fact_sols (rises_of hasc fun e he => (hin e he).2.2) (toN xs) []
  have hsl := sols_len (ne2 g) (toN xs) []
  have hsl2 : 2 ^ (ne2 g).length ≤ 2 ^ 21 := Nat.pow_le_pow_right (by omega) (by omega)
  subst hnN
  obtain ⟨W4, hW4⟩ : ∃ W, W = ((((w.alloc (.cells #[.int .i64 (n : Int), .slice ag ng cg] 25)).alloc (.cells #[.int .i64 0, .slice none 0 0] 25)).alloc (.cells #[.int .i64 0, .slice none 0 0] 25)).alloc (.cells #[.bool false] 4)) := ⟨_, rfl⟩
  have hB2 := below_alloc2 w (.cells #[.int .i64 (n : Int), .slice ag ng cg] 25) (.cells #[.int .i64 0, .slice none 0 0] 25)
  have hB4 : Below w.heap.size w W4 := by rw [hW4]; exact below_tr' (below_tr' hB2 (below_alloc _ _)) (below_alloc _ _)
  have hs4 : W4.heap.size = w.heap.size + 4 := by rw [hW4]; simp
  have qb : W4.heap[w.heap.size]? = some (.cells #[.int .i64 (n : Int), .slice ag ng cg] 25 (0, 0)) := by
    rw [hW4, heap_alloc_old _ _ (by simp; omega), heap_alloc_old _ _ (by simp; omega), heap_alloc_old _ _ (by simp), heap_alloc_new]
  have qr : W4.heap[w.heap.size + 1]? = some (.cells #[.int .i64 0, .slice none 0 0] 25 (0, 0)) := by
    rw [hW4, heap_alloc_old _ _ (by simp), heap_alloc_old _ _ (by simp), show w.heap.size + 1 = (w.alloc (.cells #[.int .i64 (n : Int), .slice ag ng cg] 25)).heap.size from by simp, heap_alloc_new]
  have qo : W4.heap[w.heap.size + 2]? = some (.cells #[.int .i64 0, .slice none 0 0] 25 (0, 0)) := by
    rw [hW4, heap_alloc_old _ _ (by simp), show w.heap.size + 2 = ((w.alloc (.cells #[.int .i64 (n : Int), .slice ag ng cg] 25)).alloc (.cells #[.int .i64 0, .slice none 0 0] 25)).heap.size from by simp, heap_alloc_new]
  have qf : W4.heap[w.heap.size + 2 + 1]? = some (.cells #[.bool false] 4 (0, 0)) := by
    rw [hW4, show w.heap.size + 2 + 1 = (((w.alloc (.cells #[.int .i64 (n : Int), .slice ag ng cg] 25)).alloc (.cells #[.int .i64 0, .slice none 0 0] 25)).alloc (.cells #[.int .i64 0, .slice none 0 0] 25)).heap.size from by simp, heap_alloc_new]
  have x0 := blk_cell qf 0 (.bool false) rfl
  have y0 := blk_free qf 0
  have hB4 : Below w.heap.size w (W4.setCell ⟨w.heap.size + 2 + 1, 0, none⟩ (.bool false)) := hB4.setCell (p := ⟨w.heap.size + 2 + 1, 0, none⟩) (by simp; omega) (.bool false)
  have qb := blk_set_other qb 0 (.bool false) (g := w.heap.size + 2 + 1) (by omega)
  have qr := blk_set_other qr 0 (.bool false) (g := w.heap.size + 2 + 1) (by omega)
  have qo := blk_set_other qo 0 (.bool false) (g := w.heap.size + 2 + 1) (by omega)
  have qf := blk_set qf 0 (.bool false)
  have hs5 : (W4.setCell ⟨w.heap.size + 2 + 1, 0, none⟩ (.bool false)).heap.size = w.heap.size + 4 := by simp [hs4]
  have k0 := blk_cell qb 0 (.int .i64 (n : Int)) rfl
  have k1 := blk_cell qb 1 (.slice ag ng cg) rfl
  generalize hW5 : W4.setCell ⟨w.heap.size + 2 + 1, 0, none⟩ (.bool false) = W5 at *
  have HW5 := Lib.hid hW5
  have C1 := subgraphs_any (M := 2097153) (sz := fun _ => 0) (St := FctSt (w.heap.size + 2) n) (go := fun _ x => (some x, false)) n ag ad ng cg c 181 #[.pointer (some ⟨w.heap.size + 2, 0, none⟩), .pointer (some ⟨w.heap.size + 2 + 1, 0, none⟩)] (ne2 g) (toN xs) none [w.heap.size + 2, w.heap.size + 2 + 1] W5 (fct_keeps _ _) (fct_takes _ _) (fun s x => by simp) (by omega) (by omega) (by omega) (fun e he => by have := hin e he; omega) (by omega) v3 (by omega) (by rw [hel]; exact hg.below hB4) (fun i hi => by have := hbg i hi; refine ⟨by omega, ?_⟩; simp; omega) (by rw [v1]; exact hx.below hB4) hnil ⟨_, _, false, [], rfl, qo, qf, rfl, rfl, rfl, rfl⟩
  have hfo := fold_first none (solsN (ne2 g) (toN xs) [])
  have hfo2 : (foldGo (fun (_ : Option (List N2)) x => (some x, false)) none (solsN (ne2 g) (toN xs) [])).1 = factN (ne2 g) (toN xs) [] := by
    rw [hfo, hFS]
    cases solsN (ne2 g) (toN xs) [] <;> rfl
  rw [hfo2] at C1
  obtain ⟨r, hrr⟩ : ∃ r, r = factN (ne2 g) (toN xs) [] := ⟨_, rfl⟩
  rw [← hrr] at C1 ⊢
  have HW4 := Lib.hid hW4
  clear hrr hfo hfo2 hFS hsl hsl2 hin hasc hel hg hx hbg hTL hnl v1 v3 hW4 hW5 hs4 hng hlen hB2
  go_enter Try.func132, Try.ntmps132
  go_wp2_with (simp only [← HW4.out, HW5.out])
  refine C1.mono ?_
  rintro e w5 ⟨⟨v, rfl⟩, l', hS, hnew, hF⟩
  have HB := hB4.trans (hF.below (B := w.heap.size) hB4.size (fun i hi => by simp at hi; omega))
  have qr := hF.blk qr (by simp)
  have hbd := bel_drew (Below.refl w5.heap.size w5)
  have hI0 : InL w5 [w.heap.size + 1] w5.drew := ⟨Nat.le_refl _, fun _ _ _ => rfl⟩
  obtain ⟨u0, u1, ub, ur, rfl, q1, q2, h3⟩ := hS
  have d0 := growl_cell (l := [w.heap.size + 1]) (blk_cell q1 0 u0 rfl) (by simp)
  have d1 := growl_cell (l := [w.heap.size + 1]) (blk_cell q1 1 u1 rfl) (by simp)
  have d2 := growl_cell (l := [w.heap.size + 1]) (blk_cell q2 0 (.bool ub) rfl) (by simp)
  clear C1 hF hB4 qo qf qb k0 k1 q1 q2 HW4 HW5 x0 y0
  go_upto_region 4 with (fail)
  have HB := below_tr' HB hbd
  have qr := blk_below qr hbd
  cases r with
  | none =>
    obtain ⟨rfl, rfl, rfl, rfl⟩ := h3
    clear hnew hbd
    refine wp_region_flags [true, true, false, false] 3 (C := fun w' => ∃ u : GrowL w5 [w.heap.size + 1], w' = u.val) (by kernel_rfl) (by kernel_rfl) ⟨⟨_, hI0⟩, rfl⟩ ?_
    simp only [pickT, pickF]
    repeat (go_big_quiet_step (fail))
    refine wpQuiet_nil ?_
    clear d0 d1 d2
    have hI0 : InL w5 [w.heap.size + 1] w5.drew := hI0
    generalize w5.drew = wd at *
    have z0 := blk_cell qr 0 (.int .i64 0) rfl
    have z1 := blk_cell qr 1 (.slice none 0 0) rfl
    have f0 := blk_free qr 0
    have f1 := blk_free qr 1
    have ST := Lib.hid (fact_set (B := w.heap.size) HB qr 0 (.slice none 0 0))
    have I5 := Lib.hid ((hI0.set (w.heap.size + 1) 0 (.int .i64 0) (.inl (by simp))).set (w.heap.size + 1) 1 (.slice none 0 0) (.inl (by simp)))
    clear qr HB hI0 
    refine tail_step fun K hK => ?_
    go_wp2
    refine hK _ _ ⟨⟨_, I5.out⟩, rfl⟩ ?_
    clear hK
    refine tail_last fun K hK => ?_
    go_wp2
    refine bodyPost_ret (v := .tuple #[graphV 0 none 0 0, .bool false]) (by simp [results, Try.results132, go_sem, z0, z1]) rfl ⟨rfl, ST.out.1⟩
  | some es =>
    obtain ⟨rfl, rfl, a5, c5, rfl, rfl, ho⟩ := h3
    have ho := own_rebase (B' := w.heap.size) ho fun i hi => by
      rcases hnew i (by simp [hi]) with h | h
      · simp at h; omega
      · omega
    have ho := own_below ho hbd
    clear hnew hbd
    refine wp_region_flags [true, true, false, false] 3 (C := fun w' => ∃ u : GrowL w5 [w.heap.size + 1], w' = u.val) (by kernel_rfl) (by kernel_rfl) ⟨⟨_, hI0⟩, rfl⟩ ?_
    simp only [pickT, pickF]
    repeat (go_big_quiet_step (fail))
    refine wpQuiet_nil ?_
    clear d0 d1 d2
    have hI0 : InL w5 [w.heap.size + 1] w5.drew := hI0
    generalize w5.drew = wd at *
    have z0 := blk_cell qr 0 (.int .i64 0) rfl
    have z1 := blk_cell qr 1 (.slice none 0 0) rfl
    have f0 := blk_free qr 0
    have f1 := blk_free qr 1
    have ST := Lib.hid (fact_set (B := w.heap.size) HB qr n (.slice a5 es.length es.length))
    have HO := Lib.hid (ST.out.2 ho)
    have I5 := Lib.hid ((hI0.set (w.heap.size + 1) 0 (.int .i64 n) (.inl (by simp))).set (w.heap.size + 1) 1 (.slice a5 es.length es.length) (.inl (by simp)))
    clear qr HB hI0 ho
    refine tail_step fun K hK => ?_
    go_wp2
    refine hK _ _ ⟨⟨_, I5.out⟩, rfl⟩ ?_
    clear hK
    refine tail_last fun K hK => ?_
    go_wp2
    refine bodyPost_ret (v := .tuple #[graphV n a5 es.length es.length, .bool true]) (by simp [results, Try.results132, go_sem, z0, z1]) rfl ⟨⟨a5, es.length, c5, rfl, HO.out⟩, ST.out.1⟩

set_option maxHeartbeats 2000000 in
theorem implFactorOf_any (N : Int) (ag ad : Option Addr) (cg ng c n : Nat) (g : List E2) (xs : List Int) (w : World) (hng : g.length = ng) (hn : xs.length = n) (hg : Rd w ag (edges g)) (hx : Rd w ad (ints xs)) (hbg : ∀ i ∈ blks ag, i < w.heap.size) (hNb : N ≤ 9223372036854775807) (hl : ng ≤ 1048576) (hl2 : n ≤ 1048576) (hnil : ad = none → n = 0 ∧ c = 0) :
    Calls Try.prog 58 #[graphV N ag ng cg, .slice ad n c] w fun e w' => FactOut w w' N g xs e := by
  have HX := Lib.hid (fun (v : World) (hb : Below w.heap.size w v) => hx.below hb)
  have HG := Lib.hid (fun (v : World) (hb : Below w.heap.size w v) => hg.below hb)
  clear hx hg
  have hB := below_alloc2 w (.cells #[.int .i64 N, .slice ag ng cg] 25) (.cells #[.int .i64 0, .slice none 0 0] 25)
  have qb := blk_below (heap_alloc_new w (.cells #[.int .i64 N, .slice ag ng cg] 25)) (below_alloc _ (.cells #[.int .i64 0, .slice none 0 0] 25))
  have qr := heap_alloc_new (w.alloc (.cells #[.int .i64 N, .slice ag ng cg] 25)) (.cells #[.int .i64 0, .slice none 0 0] 25)
  rw [show (w.alloc (.cells #[.int .i64 N, .slice ag ng cg] 25)).heap.size = w.heap.size + 1 from by simp] at qr
  have l0 := blk_cell qb 0 (.int .i64 N) rfl
  have l1 := blk_cell qb 1 (.slice ag ng cg) rfl
  have C1 := implValidGraph_any N ag cg ng g _ hNb hng (HG.out _ hB) (by omega)
  generalize hW : (w.alloc (.cells #[.int .i64 N, .slice ag ng cg] 25)).alloc (.cells #[.int .i64 0, .slice none 0 0] 25) = W at *
  have HW := Lib.hid hW
  clear hW
  cases hv : validG N g
  · have HR := Lib.hid (show factV N g xs = none by rw [factV, if_neg]; rintro ⟨h1, _⟩; rw [hv] at h1; cases h1)
    rw [hv] at C1
    clear hv
    go_enter Try.func58, Try.ntmps58
    go_wp2_with (simp only [HW.out])
    refine C1.mono ?_
    rintro e w1 ⟨rfl, hb⟩
    have HB := below_tr' hB hb
    have qr := blk_below qr hb
    clear C1 l0 l1 qb hB hb
    have z0 := blk_cell qr 0 (.int .i64 0) rfl
    have z1 := blk_cell qr 1 (.slice none 0 0) rfl
    have f0 := blk_free qr 0
    have f1 := blk_free qr 1
    have ST := Lib.hid (fact_set (B := w.heap.size) HB qr 0 (.slice none 0 0))
    clear qr HB
    go_wp2
    refine bodyPost_ret (v := .tuple #[graphV 0 none 0 0, .bool false]) (by simp [results, Try.results58, go_sem, z0, z1]) rfl (factOut_none HR.out ST.out.1)
  rw [hv] at C1
  have C2 := fun (v : World) (hb : Below w.heap.size w v) => implVD_any ad c n xs v hn (HX.out _ hb) (by omega)
  cases hd : validD xs
  · have HR := Lib.hid (show factV N g xs = none by rw [factV, if_neg]; rintro ⟨_, h1, _⟩; rw [hd] at h1; cases h1)
    rw [hd] at C2
    clear hv hd
    go_enter Try.func58, Try.ntmps58
    go_wp2_with (simp only [HW.out])
    refine C1.mono ?_
    rintro e w1 ⟨rfl, hb⟩
    have HB := below_tr' hB hb
    have qr := blk_below qr hb
    have C3 := C2 w1 HB
    clear C1 C2 l0 l1 qb hB hb
    go_wp2_with fail
    refine C3.mono ?_
    rintro e w2 ⟨rfl, hb2⟩
    have HB := below_tr' HB hb2
    have qr := blk_below qr hb2
    clear C3 hb2
    have z0 := blk_cell qr 0 (.int .i64 0) rfl
    have z1 := blk_cell qr 1 (.slice none 0 0) rfl
    have f0 := blk_free qr 0
    have f1 := blk_free qr 1
    have ST := Lib.hid (fact_set (B := w.heap.size) HB qr 0 (.slice none 0 0))
    clear qr HB
    go_wp2
    refine bodyPost_ret (v := .tuple #[graphV 0 none 0 0, .bool false]) (by simp [results, Try.results58, go_sem, z0, z1]) rfl (factOut_none HR.out ST.out.1)
  rw [hd] at C2
  by_cases hnN : (n : Int) = N
  · have HR := Lib.hid (show factV N g xs = factN (ne2 g) (toN xs) [] by rw [factV, if_pos ⟨hv, hd, by rw [hn]; exact hnN⟩])
    subst hnN
    have C4 := fun (v : World) (hb : Below w.heap.size w v) => implFactor_any n ag ad cg ng c n g xs v hv hd rfl hng hn (HG.out _ hb) (fun i hi => Nat.lt_of_lt_of_le (hbg i hi) hb.size) (HX.out _ hb) hnil
    clear hv hd
    have hne : ((n : Int) != (n : Int)) = false := by simp
    go_enter Try.func58, Try.ntmps58
    go_wp2_with (simp only [HW.out])
    refine C1.mono ?_
    rintro e w1 ⟨rfl, hb⟩
    have HB := below_tr' hB hb
    have qr := blk_below qr hb
    have qb := blk_below qb hb
    have C3 := C2 w1 HB
    clear C1 C2 l0 l1 hB hb
    have l0 := blk_cell qb 0 (.int .i64 (n : Int)) rfl
    have l1 := blk_cell qb 1 (.slice ag ng cg) rfl
    go_wp2_with fail
    refine C3.mono ?_
    rintro e w2 ⟨rfl, hb2⟩
    have HB := below_tr' HB hb2
    have qr := blk_below qr hb2
    have qb := blk_below qb hb2
    clear C3 hb2 l0 l1
    have l0 := blk_cell qb 0 (.int .i64 (n : Int)) rfl
    have l1 := blk_cell qb 1 (.slice ag ng cg) rfl
    have C5 := C4 w2 HB
    clear C4
    go_wp2_with fail
    refine C5.mono ?_
    rintro e w5 ⟨hr, hb⟩
    have hBS := HB.size
    have HB := below_tr' HB hb
    have qr := blk_below qr hb
    clear C5 l0 l1 qb hb
    cases hrr : factN (ne2 g) (toN xs) [] with
    | none =>
      rw [hrr] at hr HR
      simp only [FactResI] at hr
      subst hr
      clear hrr
      have z0 := blk_cell qr 0 (.int .i64 0) rfl
      have z1 := blk_cell qr 1 (.slice none 0 0) rfl
      have f0 := blk_free qr 0
      have f1 := blk_free qr 1
      have ST := Lib.hid (fact_set (B := w.heap.size) HB qr 0 (.slice none 0 0))
      clear qr HB
      go_wp2
      refine bodyPost_ret (v := .tuple #[graphV 0 none 0 0, .bool false]) (by simp [results, Try.results58, go_sem, z0, z1]) rfl (factOut_none HR.out ST.out.1)
    | some es =>
      rw [hrr] at hr HR
      simp only [FactResI] at hr
      obtain ⟨a5, d5, c5, rfl, ho⟩ := hr
      have ho := own_mono (B' := w.heap.size) ho hBS
      clear hrr hBS
      have z0 := blk_cell qr 0 (.int .i64 0) rfl
      have z1 := blk_cell qr 1 (.slice none 0 0) rfl
      have f0 := blk_free qr 0
      have f1 := blk_free qr 1
      have ST := Lib.hid (fact_set (B := w.heap.size) HB qr n (.slice a5 es.length d5))
      have HO := Lib.hid (ST.out.2 ho)
      clear qr HB ho
      go_wp2
      refine bodyPost_ret (v := .tuple #[graphV n a5 es.length d5, .bool true]) (by simp [results, Try.results58, go_sem, z0, z1]) rfl (factOut_some HR.out ST.out.1 HO.out)
  · have HR := Lib.hid (show factV N g xs = none by rw [factV, if_neg]; rintro ⟨_, _, h1⟩; rw [hn] at h1; exact hnN h1)
    have hne : ((n : Int) != N) = true := by simp [hnN]
    clear hv hd
    go_enter Try.func58, Try.ntmps58
    go_wp2_with (simp only [HW.out])
    refine C1.mono ?_
    rintro e w1 ⟨rfl, hb⟩
    have HB := below_tr' hB hb
    have qr := blk_below qr hb
    have qb := blk_below qb hb
    have C3 := C2 w1 HB
    clear C1 C2 l0 l1 hB hb
    have l0 := blk_cell qb 0 (.int .i64 N) rfl
    have l1 := blk_cell qb 1 (.slice ag ng cg) rfl
    go_wp2_with fail
    refine C3.mono ?_
    rintro e w2 ⟨rfl, hb2⟩
    have HB := below_tr' HB hb2
    have qr := blk_below qr hb2
    have qb := blk_below qb hb2
    clear C3 hb2 l0 l1
    have l0 := blk_cell qb 0 (.int .i64 N) rfl
    have l1 := blk_cell qb 1 (.slice ag ng cg) rfl
    clear qb
    have z0 := blk_cell qr 0 (.int .i64 0) rfl
    have z1 := blk_cell qr 1 (.slice none 0 0) rfl
    have f0 := blk_free qr 0
    have f1 := blk_free qr 1
    have ST := Lib.hid (fact_set (B := w.heap.size) HB qr 0 (.slice none 0 0))
    clear qr HB
    go_wp2
    refine bodyPost_ret (v := .tuple #[graphV 0 none 0 0, .bool false]) (by simp [results, Try.results58, go_sem, z0, z1]) rfl (factOut_none HR.out ST.out.1)

end Go.Proofs.Ytjghcegacgpehaa
