
/- The reference's search and realizations. (Printed by gen_search.py.) -/
import Derived.Test.YtjghcegacgpehaaGraphs
import Derived.Test.YtjghcegacgpehaaSubW3
import Derived.Test.YtjghcegacgpehaaBlk
import Derived.Test.YtjghcegacgpehaaEach
import Derived.Test.YtjghcegacgpehaaCompR
import Derived.Deep.Cut
namespace Go.Proofs.Ytjghcegacgpehaa
open Go.RowKit

def BelN (f e : N2) : Prop := f.1 < e.1 ∨ (f.1 = e.1 ∧ f.2 < e.2)
theorem ins_end {es : List N2} {x y : Nat} (h : ∀ f ∈ es, BelN f (x, y)) : insE (en2 es) ((x : Int), (y : Int)) = en2 (es ++ [(x, y)]) := by
  have hk : insK (en2 es) ((x : Int), (y : Int)) = (en2 es).length := by
    rw [insK, List.findIdx_eq_length]
    intro e he
    simp only [en2, List.mem_map] at he
    obtain ⟨f, hf, rfl⟩ := he
    have := h f hf
    unfold BelN at this
    simp only at this
    simp only [belowE]
    rcases this with h1 | ⟨h1, h2⟩
    · simp; omega
    · simp; omega
  rw [insE, hk, List.take_length, List.drop_length, en2_append]; rfl
theorem may_falseN {L : List Nat} {x y : Nat} (h : ¬ (0 < L.getD x 0 ∧ 0 < L.getD y 0)) : mayN L (x, y) = false := by
  cases hm : mayN L (x, y)
  · rfl
  · simp only [mayN, Bool.and_eq_true, decide_eq_true_eq] at hm
    exact absurd hm h
theorem may_trueN {L : List Nat} {x y : Nat} (h : 0 < L.getD x 0 ∧ 0 < L.getD y 0) : mayN L (x, y) = true := by
  simp only [mayN, Bool.and_eq_true, decide_eq_true_eq]; exact h
theorem own_ne_lo {w : World} {B T s n c m : Nat} {a : Option Addr} {cs : List Value} (h : w.ownsRow B T s (.slice a m c) n cs) {b : Nat} (hb : b < B) : some b ≠ (Value.slice a m c).ownBlock := by
  rcases h.2 with ⟨h1, h2⟩ | ⟨g, cap, cur, h1, hB, hg, _⟩
  · cases h1; simp [Value.ownBlock]
  · cases h1
    simp only [Value.ownBlock, ne_eq, Option.some.injEq]
    omega
theorem search_len (N : Nat) (t : List N2) (L : List Nat) (es : List N2) : (searchN N t L es).length ≤ 2 ^ t.length := by
  induction t generalizing L es with
  | nil => rw [searchN]; split <;> simp
  | cons e t ih =>
    rw [searchN, List.length_append, List.length_cons, Nat.pow_succ]
    have h1 : (if mayN L e = true then searchN N t (stepN L e) (es ++ [e]) else []).length ≤ 2 ^ t.length := by split; exact ih _ _; simp
    have h2 : (if e.2 + 1 < N ∨ L.getD e.1 0 = 0 then searchN N t L es else []).length ≤ 2 ^ t.length := by split; exact ih _ _; simp
    omega
theorem intsN_sum (L : List Nat) : (intsN L).sum = ((L.sum : Nat) : Int) := by
  induction L with
  | nil => rfl
  | cons a t ih => simp only [intsN, List.map_cons, List.sum_cons] at ih ⊢; rw [ih]; omega
theorem small_intsN {L : List Nat} (h : ∀ v, L.getD v 0 ≤ 900) : Small (intsN L) := by
  intro x hx
  simp only [intsN, List.mem_map] at hx
  obtain ⟨n, hn, rfl⟩ := hx
  obtain ⟨i, hi, rfl⟩ := List.getElem_of_mem hn
  have := h i
  rw [List.getD_eq_getElem?_getD, List.getElem?_eq_getElem hi] at this
  simp only [Option.getD_some] at this
  omega
theorem rdN_at {w : World} {a : Option Addr} {L : List Nat} (h : Rd w a (ints (intsN L))) {k : Nat} (hk : k < L.length) : ∃ b off, a = some ⟨b, off, none⟩ ∧ w.cell? ⟨b, off + k, none⟩ = some (.int .i64 ((L.getD k 0 : Nat) : Int)) := by
  obtain ⟨b, off, e, hc⟩ := h.int (k := k) (by rw [intsN_length]; exact hk)
  refine ⟨b, off, e, ?_⟩
  rw [hc]
  simp [intsN, List.getD_eq_getElem?_getD, List.getElem?_eq_getElem hk]

section
variable {N nf cf : Nat} {af : Option Addr} {fs : List N2}
set_option maxHeartbeats 8000000 in
theorem search_nil (hN : N ≤ 7) (L : List Nat) (es : List N2) (ag : Option Addr) (cg : Nat) (ad : Option Addr) (cd : Nat) (w : World) (hg : RowG w ag cg es) (hd : Rd w ad (ints (intsN L))) (hL : L.length = N) (hLb : ∀ v, L.getD v 0 ≤ 900) :
    Calls Try.prog 185 #[graphV N ag es.length cg, .slice ad N cd, .slice af nf cf, .int .i64 (nf : Int)] w fun e w' => ∃ a c vs, e = .returned (.slice a (searchN N [] L es).length c) ∧ ListG w' w.heap.size a c N vs (searchN N [] L es) ∧ Below w.heap.size w w' := by
  have hB := below_alloc w (.cells #[.int .i64 N, .slice ag es.length cg] 25)
  have q := heap_alloc_new w (.cells #[.int .i64 N, .slice ag es.length cg] 25)
  have C1 := specSum_any ad cd N (intsN L) (w.alloc (.cells #[.int .i64 N, .slice ag es.length cg] 25)) (by rw [intsN_length]; exact hL) (hd.below hB) (by omega) (small_intsN hLb)
  rw [intsN_sum] at C1
  have hbn : ((nf : Int) == (nf : Int)) = true := by simp
  obtain ⟨S, hS⟩ : ∃ S, L.sum = S := ⟨_, rfl⟩
  rw [hS] at C1
  generalize hW : w.alloc (.cells #[.int .i64 N, .slice ag es.length cg] 25) = W at *
  have HW := Lib.hid hW
  clear hW
  go_enter Try.func185, Try.ntmps185
  go_wp2_with (simp only [HW.out])
  refine C1.mono ?_
  rintro e w1 ⟨rfl, rfl⟩
  clear C1
  by_cases h0 : S = 0
  · have hR : searchN N [] L es = [es] := by rw [searchN, if_pos (by rw [hS]; exact h0)]
    have HR := Lib.hid hR
    have hb0 : ((S : Int) == 0) = true := by simp [h0]
    have hB2 := below_tr' hB (below_alloc w1 (.cells #[.int .i64 N, .slice ag es.length cg] 25))
    have qn := heap_alloc_new w1 (.cells #[.int .i64 N, .slice ag es.length cg] 25)
    have k0 := blk_cell q 0 (.int .i64 N) rfl
    have k1 := blk_cell q 1 (.slice ag es.length cg) rfl
    have HO := Lib.hid (show ListG (w1.alloc (.cells #[.int .i64 N, .slice ag es.length cg] 25)) w.heap.size (some ⟨w1.heap.size, 0, none⟩) 1 N [(ag, cg)] [es] from
      ⟨rfl, ⟨rfl, .inr ⟨w1.heap.size, 1, _, rfl, hB.size, qn, Nat.le_refl _, by decide, rfl, rfl⟩⟩, fun r h1 h2 => by
        have e : r = 0 := by simp at h1; omega
        subst e
        exact hg.below hB2⟩)
    clear hS h0 hR qn
    go_wp2
    go_ret
    exact ⟨_, 1, [(ag, cg)], by rw [HR.out]; rfl, by rw [HR.out]; exact HO.out, hB2⟩
  · have hR : searchN N [] L es = [] := by rw [searchN, if_neg (by rw [hS]; exact h0)]
    have HR := Lib.hid hR
    have hb0 : ((S : Int) == 0) = false := beq_eq_false_iff_ne.2 (by omega)
    have hB2 := below_tr' hB (below_alloc w1 (.cells #[] 25))
    have HO := Lib.hid (show ListG (w1.alloc (.cells #[] 25)) w.heap.size (some ⟨w1.heap.size, 0, none⟩) 0 N [] [] from
      ⟨rfl, own_mono (World.ownsRow_made w1 #[] 0 (Nat.le_refl _) (by decide) rfl) hB.size, fun r h1 h2 => by simp at h1⟩)
    clear hS h0 hR
    go_wp2
    go_ret
    exact ⟨_, 0, [], by rw [HR.out]; rfl, by rw [HR.out]; exact HO.out, hB2⟩

set_option maxHeartbeats 16000000 in
theorem search_any (hN : N ≤ 7) (hnf : fs.length = nf) (hnf2 : nf ≤ 900) (hfs : ∀ e ∈ fs, e.1 < N ∧ e.2 < N ∧ e.1 < e.2) : ∀ (t pre : List N2) (L : List Nat) (es : List N2) (ag : Option Addr) (cg : Nat) (ad : Option Addr) (cd : Nat) (w : World), pre ++ t = fs → (∀ f ∈ es, ∀ e ∈ t, BelN f e) → (t).Pairwise BelN → RowG w ag cg es → Rd w ad (ints (intsN L)) → (ad = none → N = 0 ∧ cd = 0) → L.length = N → (∀ v, L.getD v 0 ≤ 900) → es.length + (t).length ≤ 900 → (t).length ≤ 30 → Rd w af (edges (en2 fs)) →
    Calls Try.prog 185 #[graphV N ag es.length cg, .slice ad N cd, .slice af nf cf, .int .i64 (pre.length : Int)] w fun e w' => ∃ a c vs, e = .returned (.slice a (searchN N t L es).length c) ∧ ListG w' w.heap.size a c N vs (searchN N t L es) ∧ Below w.heap.size w w' := by
  intro t
  induction t with
  | nil =>
    intro pre L es ag cg ad cd w hpre _ _ hg hd _ hL hLb _ _ _
    have hl : pre.length = nf := by rw [← hnf, ← hpre, List.append_nil]
    rw [hl]
    exact search_nil hN L es ag cg ad cd w hg hd hL hLb
  | cons e t ih =>
    intro pre L es ag cg ad cd w hpre ho1 ho2 hg hd hni hL hLb hes htl hxf
    obtain ⟨x, y⟩ := e
    have hi : pre.length < fs.length := by rw [← hpre, List.length_append, List.length_cons]; omega
    have hfe : fs[pre.length]'hi = (x, y) := by
      have : (pre ++ (x, y) :: t)[pre.length]'(by rw [hpre]; exact hi) = (x, y) := by simp
      simpa only [hpre] using this
    have hb3 := hfs (x, y) (by rw [← hpre]; simp)
    have hpre2 : (pre ++ [(x, y)]) ++ t = fs := by rw [← hpre]; simp
    have hlen2 : (((pre ++ [(x, y)]).length : Nat) : Int) = (pre.length : Int) + 1 := by simp
    simp only at hb3
    obtain ⟨hx, hy, hxy⟩ := hb3
    rw [List.pairwise_cons] at ho2
    rw [List.length_cons] at hes htl
    obtain ⟨b1, o1, haf, c1, c2⟩ := hxf.edge (k := pre.length) (by rw [en2_length]; exact hi)
    have hxi : (en2 fs)[pre.length]'(by rw [en2_length]; exact hi) = ((x : Int), (y : Int)) := by simp [en2, hfe]
    rw [hxi] at c1 c2
    simp only at c1 c2
    have IH := Lib.hid (ih (pre ++ [(x, y)]))
    rw [hlen2] at IH
    have HPRE := Lib.hid hpre2
    obtain ⟨i, hii⟩ : ∃ i, i = pre.length := ⟨_, rfl⟩
    rw [← hii] at IH hi c1 c2 ⊢
    have hne : ((i : Int) == (nf : Int)) = false := beq_eq_false_iff_ne.2 (by omega)
    have HO1 := Lib.hid (fun f hf e he => ho1 f hf e (List.mem_cons_of_mem _ he))
    have HO2 := Lib.hid ho2.2
    have HO3 := Lib.hid (show ∀ f ∈ es ++ [(x, y)], ∀ e ∈ t, BelN f e from fun f hf e he => by
      rcases List.mem_append.1 hf with h1 | h1
      · exact ho1 f h1 e (List.mem_cons_of_mem _ he)
      · rw [List.mem_singleton.1 h1]; exact ho2.1 e he)
    have HINS := Lib.hid (ins_end (fun f hf => ho1 f hf (x, y) (List.mem_cons_self ..)))
    have HXG := Lib.hid (fun (v : World) (hb : Below w.heap.size w v) => hg.below hb)
    have HXD := Lib.hid (fun (v : World) (hb : Below w.heap.size w v) => hd.below hb)
    have HXF := Lib.hid (fun (v : World) (hb : Below w.heap.size w v) => hxf.below hb)
    have HNI := Lib.hid hni
    have HL0 := Lib.hid hL
    have HLB := Lib.hid hLb
    obtain ⟨b2, o2, had, a1'⟩ := rdN_at hd (k := x) (by omega)
    obtain ⟨b2', o2', had', a2'⟩ := rdN_at hd (k := y) (by omega)
    rw [had] at had'
    cases had'
    have hgf := hg
    clear ih hpre hpre2 hlen2 hfe hii hxi ho1 ho2 hg hd hxf hni
    subst haf had
    obtain ⟨p, hp⟩ : ∃ p, L.getD x 0 = p := ⟨_, rfl⟩
    obtain ⟨q, hq⟩ : ∃ q, L.getD y 0 = q := ⟨_, rfl⟩
    rw [hp] at a1'
    rw [hq] at a2'
    have hpb : p ≤ 900 := by have := hLb x; omega
    have hqb : q ≤ 900 := by have := hLb y; omega
    have HA1 := Lib.hid (fun (v : World) (hb : Below w.heap.size w v) => (hb.cell (p := ⟨b2, o2 + x, none⟩) (Rd.lt a1')).trans a1')
    have HA2 := Lib.hid (fun (v : World) (hb : Below w.heap.size w v) => (hb.cell (p := ⟨b2, o2 + y, none⟩) (Rd.lt a2')).trans a2')
    have HSR := Lib.hid (show searchN N ((x, y) :: t) L es = (if mayN L (x, y) = true then searchN N t (stepN L (x, y)) (es ++ [(x, y)]) else []) ++ (if y + 1 < N ∨ p = 0 then searchN N t L es else []) by rw [searchN, ← hp])
    have HMT := Lib.hid (fun (h : 0 < p ∧ 0 < q) => may_trueN (L := L) (x := x) (y := y) (by rw [hp, hq]; exact h))
    have HMF := Lib.hid (fun (h : ¬ (0 < p ∧ 0 < q)) => may_falseN (L := L) (x := x) (y := y) (by rw [hp, hq]; exact h))
    have HST := Lib.hid (show stepN L (x, y) = (L.set x (p - 1)).set y (q - 1) by simp only [stepN, hp, hq])
    have HGY := Lib.hid (show (L.set x (p - 1)).getD y 0 = q by rw [List.getD_eq_getElem?_getD, List.getElem?_set_ne (by omega), ← List.getD_eq_getElem?_getD]; exact hq)
    have HP0 := Lib.hid hp
    have HQ0 := Lib.hid hq
    obtain ⟨W3, hW3⟩ : ∃ W, W = ((w.alloc (.cells #[.int .i64 N, .slice ag es.length cg] 25)).alloc (.cells #[.int .i64 (x : Int), .int .i64 (y : Int)] 48)).alloc (.cells #[] 25) := ⟨_, rfl⟩
    have hB3 : Below w.heap.size w W3 := by rw [hW3]; exact below_tr' (below_alloc2 w _ _) (below_alloc _ _)
    have hs3 : W3.heap.size = w.heap.size + 1 + 1 + 1 := by rw [hW3]; simp
    have qb : W3.heap[w.heap.size]? = some (.cells #[.int .i64 N, .slice ag es.length cg] 25 (0, 0)) := by
      rw [hW3, heap_alloc_old _ _ (by simp; omega), heap_alloc_old _ _ (by simp), heap_alloc_new]
    have qe : W3.heap[w.heap.size + 1]? = some (.cells #[.int .i64 (x : Int), .int .i64 (y : Int)] 48 (0, 0)) := by
      rw [hW3, heap_alloc_old _ _ (by simp), show w.heap.size + 1 = (w.alloc (.cells #[.int .i64 N, .slice ag es.length cg] 25)).heap.size from by simp, heap_alloc_new]
    have qo : W3.heap[w.heap.size + 1 + 1]? = some (.cells #[] 25 (0, 0)) := by
      rw [hW3, show w.heap.size + 1 + 1 = ((w.alloc (.cells #[.int .i64 N, .slice ag es.length cg] 25)).alloc (.cells #[.int .i64 (x : Int), .int .i64 (y : Int)] 48)).heap.size from by simp, heap_alloc_new]
    have HL : ListG W3 (w.heap.size + 1) (some ⟨w.heap.size + 1 + 1, 0, none⟩) 0 N [] [] :=
      ⟨rfl, ⟨rfl, .inr ⟨w.heap.size + 1 + 1, 0, #[], rfl, by omega, qo, Nat.le_refl _, by decide, rfl, rfl⟩⟩, fun r h1 h2 => by simp at h1⟩
    have e0 := blk_cell qe 0 (.int .i64 (x : Int)) rfl
    have e1 := blk_cell qe 1 (.int .i64 (y : Int)) rfl
    have a1 := HA1.out _ hB3
    have a2 := HA2.out _ hB3
    have HW3 := Lib.hid hW3
    clear hW3 qo hp hq hL hLb
    have hcb : ((w.alloc (.cells #[.int .i64 N, .slice ag es.length cg] 25))).cell? ⟨b1, o1 + i * 2, none⟩ = some (.int .i64 (x : Int)) := ((below_alloc w _).cell (p := ⟨b1, o1 + i * 2, none⟩) (Rd.lt c1)).trans c1
    have hcb2 : ((w.alloc (.cells #[.int .i64 N, .slice ag es.length cg] 25))).cell? ⟨b1, o1 + i * 2 + 1, none⟩ = some (.int .i64 (y : Int)) := ((below_alloc w _).cell (p := ⟨b1, o1 + i * 2 + 1, none⟩) (Rd.lt c2)).trans c2
    have hgs3 := hB3.size
    by_cases hmay : 0 < p ∧ 0 < q
    · have hd1 : decide ((0 : Int) < (p : Int)) = true := decide_eq_true (by omega)
      have hd2 : decide ((0 : Int) < (q : Int)) = true := decide_eq_true (by omega)
      go_enter Try.func185, Try.ntmps185
      go_upto_region 8 with (simp only [← HW3.out])
      obtain ⟨p1, rfl⟩ : ∃ p1, p = p1 + 1 := ⟨p - 1, by omega⟩
      obtain ⟨q1, rfl⟩ : ∃ q1, q = q1 + 1 := ⟨q - 1, by omega⟩
      have C1 := copyInts_any (some ⟨b2, o2, none⟩) cd N (intsN L) W3 (by rw [intsN_length]; exact HL0.out) (HXD.out _ hB3) (by omega) HNI.out
      clear a1 a2 e0 e1
      go_wp2_with fail
      refine C1.mono ?_
      rintro e' w4 ⟨an, cn, rfl, hon, hb4⟩
      have HB := below_tr' hB3 hb4
      have qb := blk_below qb hb4
      have qe := blk_below qe hb4
      have HL := HL.below hb4
      obtain ⟨h, rfl, hh1, _⟩ := own_head hon (by omega)
      have hon := own_mono hon hB3.size
      clear C1 hb4 hB3
      have e0 := blk_cell qe 0 (.int .i64 (x : Int)) rfl
      have n1 := own_natAt hon x hx
      rw [HP0.out, show (((p1 + 1 : Nat)) : Int) = (p1 : Int) + 1 from by omega] at n1
      have d0 := later_cell e0
      have d1 := later_cell n1
      have bd := bel_drew (Below.refl w4.heap.size w4)
      have hon0 := own_below hon bd
      have HB0 := below_tr' HB bd
      have qe0 := blk_below qe bd
      have qb0 := blk_below qb bd
      have HL0' := HL.below bd
      clear hon HB qe qb HL e0 n1
      go_wp2
      refine wp_region_flags [true, true, true, true, true, true, true, true, true, true, false] 10 (C := fun w' => ∃ u : Later w4, w' = u.val) (by kernel_rfl) (by kernel_rfl) ⟨⟨_, bd⟩, rfl⟩ ?_
      simp only [pickT, pickF]
      repeat (go_big_quiet_step (fail))
      refine wpQuiet_nil ?_
      clear d0 d1 bd
      generalize w4.drew = wd at *
      have x1 := own_natAt hon0 x hx
      have f1 := hon0.frozenAt x
      have hne1 : w.heap.size ≠ h := by omega
      have hne2 : w.heap.size + 1 ≠ h := by omega
      have ST := Lib.hid (And.intro (own_natSet hon0 x p1) (And.intro (HB0.setCell (p := ⟨h, x, none⟩) (by show w.heap.size ≤ h; omega) (.int .i64 (p1 : Int))) (And.intro (blk_set_other qe0 x (.int .i64 (p1 : Int)) hne2) (And.intro (blk_set_other qb0 x (.int .i64 (p1 : Int)) hne1) (HL0'.setRow hon0 x (.int .i64 (p1 : Int)))))))
      clear hon0 HB0 qe0 qb0 HL0'
      refine tail_last fun K hK => ?_
      go_upto_region 10 with (fail)
      generalize hV : wd.setCell ⟨h, x, none⟩ (.int .i64 (p1 : Int)) = w5 at *
      obtain ⟨hon, HB, qe, qb, HL⟩ := ST.out
      clear hV x1 f1 ST
      rw [Nat.add_sub_cancel] at HGY
      have e0 := blk_cell qe 1 (.int .i64 (y : Int)) rfl
      have n1 := own_natAt hon y hy
      rw [HGY.out, show (((q1 + 1 : Nat)) : Int) = (q1 : Int) + 1 from by omega] at n1
      have d0 := later_cell e0
      have d1 := later_cell n1
      have bd := bel_drew (Below.refl w5.heap.size w5)
      have hon0 := own_below hon bd
      have HB0 := below_tr' HB bd
      have qe0 := blk_below qe bd
      have qb0 := blk_below qb bd
      have HL0' := HL.below bd
      clear hon HB qe qb HL e0 n1
      go_wp2
      refine wp_region_flags [true, true, true, true, true, true, true, true, true, true, false] 10 (C := fun w' => ∃ u : Later w5, w' = u.val) (by kernel_rfl) (by kernel_rfl) ⟨⟨_, bd⟩, rfl⟩ ?_
      simp only [pickT, pickF]
      repeat (go_big_quiet_step (fail))
      refine wpQuiet_nil ?_
      clear d0 d1 bd
      generalize w5.drew = wd at *
      have x1 := own_natAt hon0 y hy
      have f1 := hon0.frozenAt y
      have hne1 : w.heap.size ≠ h := by omega
      have hne2 : w.heap.size + 1 ≠ h := by omega
      have ST := Lib.hid (And.intro (own_natSet hon0 y q1) (And.intro (HB0.setCell (p := ⟨h, y, none⟩) (by show w.heap.size ≤ h; omega) (.int .i64 (q1 : Int))) (And.intro (blk_set_other qe0 y (.int .i64 (q1 : Int)) hne2) (And.intro (blk_set_other qb0 y (.int .i64 (q1 : Int)) hne1) (HL0'.setRow hon0 y (.int .i64 (q1 : Int)))))))
      clear hon0 HB0 qe0 qb0 HL0'
      refine tail_last fun K hK => ?_
      go_upto_region 11 with (fail)
      generalize hV : wd.setCell ⟨h, y, none⟩ (.int .i64 (q1 : Int)) = w6 at *
      obtain ⟨hon, HB, qe, qb, HL⟩ := ST.out
      clear hV x1 f1 ST
      have HSTE := Lib.hid (show stepN L (x, y) = (L.set x p1).set y q1 by have := HST.out; simpa using this)
      have k0 := blk_cell qb 0 (.int .i64 N) rfl
      have k1 := blk_cell qb 1 (.slice ag es.length cg) rfl
      have e0 := blk_cell qe 0 (.int .i64 (x : Int)) rfl
      have e1 := blk_cell qe 1 (.int .i64 (y : Int)) rfl
      obtain ⟨g1, g2, g3, g4, g5, g6⟩ := HXG.out _ HB
      have C2 := specAddEdge_any N ag cg es.length (en2 es) x y w6 (en2_length es) g1 (by omega) g2 (by unfold maxLen at g3; omega) g4 g5 (by omega)
      rw [HINS.out] at C2
      clear g1 g2 g3 g4 g5 g6
      go_wp2_with fail
      refine C2.mono ?_
      rintro e' w7 ⟨ag1, cg1, rfl, hog, hb7⟩
      have HB := below_tr' HB hb7
      have qb := blk_below qb hb7
      have qe := blk_below qe hb7
      have HL := HL.below hb7
      have hon := own_rd (own_below hon hb7)
      rw [← HSTE.out] at hon
      have el : (es ++ [(x, y)]).length = es.length + 1 := by simp
      have hrg : RowG w7 ag1 cg1 (es ++ [(x, y)]) := rowG_own (by rw [el]; exact hog)
      have HLBS := Lib.hid (show ∀ v, (stepN L (x, y)).getD v 0 ≤ 900 from fun v => by
        rw [HSTE.out]
        exact Nat.le_trans (set_le (by rw [HGY.out]; omega) v) (Nat.le_trans (set_le (by rw [HP0.out]; omega) v) (HLB.out v)))
      have C3 := IH.out (stepN L (x, y)) (es ++ [(x, y)]) ag1 cg1 (some ⟨h, 0, none⟩) cn w7 HPRE.out HO3.out HO2.out hrg hon (fun h0 => by cases h0) (by rw [stepN_length]; exact HL0.out) HLBS.out (by rw [el]; omega) (by omega) (HXF.out _ HB)
      rw [el] at C3
      have hsl := search_len N t (stepN L (x, y)) (es ++ [(x, y)])
      have hsl2 : 2 ^ t.length ≤ 2 ^ 30 := Nat.pow_le_pow_right (by omega) (by omega)
      clear C2 hog hrg hon hb7 k0 k1 e0 e1 el
      go_wp2_with fail
      refine C3.mono ?_
      rintro e' wS ⟨aS, cS, vS, rfl, hLS, hbS⟩
      have hHL := HL.below hbS
      have HBS := below_tr' HB hbS
      have hLS := hLS.mono (show w.heap.size + 1 ≤ _ by have := blk_lt qe; omega)
      have hszS := HBS.size
      have qb := blk_below qb hbS
      have qe := blk_below qe hbS
      clear C3 hbS HL HB
      obtain ⟨G1, hG1⟩ : ∃ G1, G1 = searchN N t (stepN L (x, y)) (es ++ [(x, y)]) := ⟨_, rfl⟩
      rw [← hG1] at hLS hsl ⊢
      have HG1 := Lib.hid hG1
      clear hG1
      have hneb := own_ne_lo hHL.2.1 (Nat.lt_succ_self _)
      have hnee := own_ne hHL.2.1 qe (by decide)
      go_upto_region 12 with (at_builtin; refine appendGs2 _ _ rfl rfl hHL hLS HBS (Nat.le_succ _) (show w.heap.size + 1 ≤ _ by have := blk_lt qe; omega) rfl rfl (by simp; omega) ?_; intro ao co wk HL HB hgk)
      have qb := blk_grown qb hgk hneb
      have qe := blk_grown qe hgk hnee
      obtain ⟨vo, hvo⟩ : ∃ vo, vo = ([] ++ vS : List AtG) := ⟨_, rfl⟩
      rw [← hvo] at HL
      have hG0 : ([] ++ G1 : List (List N2)) = G1 := List.nil_append _
      rw [hG0] at HL
      have HL := HL.mono (Nat.le_succ _)
      clear hvo hG0 hgk hHL hLS HBS hneb hnee
      by_cases hyn : y + 1 < N
      · have HR := Lib.hid (show searchN N ((x, y) :: t) L es = G1 ++ searchN N t L es by rw [HSR.out]; rw [if_pos (HMT.out hmay), HG1.out]; rw [if_pos (Or.inl hyn)])
        have hdc : decide ((y : Int) + 1 < (N : Int)) = true := decide_eq_true (by omega)
        have k0 := blk_cell qb 0 (.int .i64 N) rfl
        have k1 := blk_cell qb 1 (.slice ag es.length cg) rfl
        have e0 := blk_cell qe 0 (.int .i64 (x : Int)) rfl
        have e1 := blk_cell qe 1 (.int .i64 (y : Int)) rfl
        have a1 := HA1.out _ HB
        have C2 := IH.out L es ag cg _ cd wk HPRE.out HO1.out HO2.out (HXG.out _ HB) (HXD.out _ HB) HNI.out HL0.out HLB.out (by omega) (by omega) (HXF.out _ HB)
        have hsl := search_len N t L es
        have hsl2 : 2 ^ t.length ≤ 2 ^ 30 := Nat.pow_le_pow_right (by omega) (by omega)
        go_wp2_with fail
        refine C2.mono ?_
        rintro e' wS ⟨aS, cS, vS, rfl, hLS, hbS⟩
        have hHL := HL.below hbS
        have HBS := below_tr' HB hbS
        have hLS := hLS.mono HB.size
        have hszS := HBS.size
        clear C2 k0 k1 e0 e1 a1 hbS HL
        obtain ⟨GS, hGS⟩ : ∃ GS, GS = searchN N t L es := ⟨_, rfl⟩
        rw [← hGS] at hLS hsl ⊢
        have HGS := Lib.hid hGS
        clear hGS
        go_wp2_with (at_builtin; refine appendGs _ _ rfl rfl hHL hLS HBS (Nat.le_refl _) hszS rfl rfl (by (try simp only [List.length_nil]); omega) ?_; intro a9 c9 w9 hL9 hb9)
        have H9 := Lib.hid hL9
        clear hL9 hHL hLS
        go_wp2
        go_ret
        exact ⟨a9, c9, _, by rw [HR.out, ← HGS.out]; first | rfl | (rw [List.length_append]; rfl) | (rw [List.nil_append]; rfl), by rw [HR.out, ← HGS.out]; exact H9.out, hb9⟩
      · have hdc : decide ((y : Int) + 1 < (N : Int)) = false := decide_eq_false (by omega)
        have HR := Lib.hid (show searchN N ((x, y) :: t) L es = G1 ++ [] by rw [HSR.out]; rw [if_pos (HMT.out hmay), HG1.out]; rw [if_neg (show ¬ (y + 1 < N ∨ p1 + 1 = 0) by omega)])
        have hpz : (((p1 : Int) + 1 : Int) == 0) = false := beq_eq_false_iff_ne.2 (by omega)
        have k0 := blk_cell qb 0 (.int .i64 N) rfl
        have k1 := blk_cell qb 1 (.slice ag es.length cg) rfl
        have e0 := blk_cell qe 0 (.int .i64 (x : Int)) rfl
        have e1 := blk_cell qe 1 (.int .i64 (y : Int)) rfl
        have a1 := HA1.out _ HB
        have H9 := Lib.hid HL
        clear HL
        go_wp2
        go_ret
        exact ⟨ao, _, _, by rw [HR.out, List.append_nil]; rfl, by rw [HR.out, List.append_nil]; exact H9.out, HB⟩
    · obtain ⟨ao, hao⟩ : ∃ ao : Option Addr, ao = some ⟨w.heap.size + 1 + 1, 0, none⟩ := ⟨_, rfl⟩
      have HB := hB3
      by_cases hp0 : 0 < p
      · have hd1 : decide ((0 : Int) < (p : Int)) = true := decide_eq_true (by omega)
        have hd2 : decide ((0 : Int) < (q : Int)) = false := decide_eq_false (by omega)
        go_enter Try.func185, Try.ntmps185
        go_upto_region 12 with (simp only [← HW3.out])
        clear a1 a2 e0 e1 hcb hcb2
        have HL := HL.mono (Nat.le_succ _)
        rw [← hao] at HL ⊢
        clear hB3 hao
        generalize W3 = wk at *
        by_cases hyn : y + 1 < N
        · have HR := Lib.hid (show searchN N ((x, y) :: t) L es = [] ++ searchN N t L es by rw [HSR.out]; rw [if_neg (by rw [HMF.out hmay]; decide)]; rw [if_pos (Or.inl hyn)])
          have hdc : decide ((y : Int) + 1 < (N : Int)) = true := decide_eq_true (by omega)
          have k0 := blk_cell qb 0 (.int .i64 N) rfl
          have k1 := blk_cell qb 1 (.slice ag es.length cg) rfl
          have e0 := blk_cell qe 0 (.int .i64 (x : Int)) rfl
          have e1 := blk_cell qe 1 (.int .i64 (y : Int)) rfl
          have a1 := HA1.out _ HB
          have C2 := IH.out L es ag cg _ cd wk HPRE.out HO1.out HO2.out (HXG.out _ HB) (HXD.out _ HB) HNI.out HL0.out HLB.out (by omega) (by omega) (HXF.out _ HB)
          have hsl := search_len N t L es
          have hsl2 : 2 ^ t.length ≤ 2 ^ 30 := Nat.pow_le_pow_right (by omega) (by omega)
          go_wp2_with fail
          refine C2.mono ?_
          rintro e' wS ⟨aS, cS, vS, rfl, hLS, hbS⟩
          have hHL := HL.below hbS
          have HBS := below_tr' HB hbS
          have hLS := hLS.mono HB.size
          have hszS := HBS.size
          clear C2 k0 k1 e0 e1 a1 hbS HL
          obtain ⟨GS, hGS⟩ : ∃ GS, GS = searchN N t L es := ⟨_, rfl⟩
          rw [← hGS] at hLS hsl ⊢
          have HGS := Lib.hid hGS
          clear hGS
          go_wp2_with (at_builtin; refine appendGs _ _ rfl rfl hHL hLS HBS (Nat.le_refl _) hszS rfl rfl (by (try simp only [List.length_nil]); omega) ?_; intro a9 c9 w9 hL9 hb9)
          have H9 := Lib.hid hL9
          clear hL9 hHL hLS
          go_wp2
          go_ret
          exact ⟨a9, c9, _, by rw [HR.out, ← HGS.out]; first | rfl | (rw [List.length_append]; rfl) | (rw [List.nil_append]; rfl), by rw [HR.out, ← HGS.out]; exact H9.out, hb9⟩
        · have hdc : decide ((y : Int) + 1 < (N : Int)) = false := decide_eq_false (by omega)
          have HR := Lib.hid (show searchN N ((x, y) :: t) L es = [] ++ [] by rw [HSR.out]; rw [if_neg (by rw [HMF.out hmay]; decide)]; rw [if_neg (show ¬ (y + 1 < N ∨ p = 0) by omega)])
          have hpz : ((p : Int) == 0) = false := beq_eq_false_iff_ne.2 (by omega)
          have k0 := blk_cell qb 0 (.int .i64 N) rfl
          have k1 := blk_cell qb 1 (.slice ag es.length cg) rfl
          have e0 := blk_cell qe 0 (.int .i64 (x : Int)) rfl
          have e1 := blk_cell qe 1 (.int .i64 (y : Int)) rfl
          have a1 := HA1.out _ HB
          have H9 := Lib.hid HL
          clear HL
          go_wp2
          go_ret
          exact ⟨ao, _, _, by rw [HR.out, List.append_nil]; rfl, by rw [HR.out, List.append_nil]; exact H9.out, HB⟩
      · have hd1 : decide ((0 : Int) < (p : Int)) = false := decide_eq_false (by omega)
        go_enter Try.func185, Try.ntmps185
        go_upto_region 12 with (simp only [← HW3.out])
        clear a1 a2 e0 e1 hcb hcb2
        have HL := HL.mono (Nat.le_succ _)
        rw [← hao] at HL ⊢
        clear hB3 hao
        generalize W3 = wk at *
        by_cases hyn : y + 1 < N
        · have HR := Lib.hid (show searchN N ((x, y) :: t) L es = [] ++ searchN N t L es by rw [HSR.out]; rw [if_neg (by rw [HMF.out hmay]; decide)]; rw [if_pos (Or.inl hyn)])
          have hdc : decide ((y : Int) + 1 < (N : Int)) = true := decide_eq_true (by omega)
          have k0 := blk_cell qb 0 (.int .i64 N) rfl
          have k1 := blk_cell qb 1 (.slice ag es.length cg) rfl
          have e0 := blk_cell qe 0 (.int .i64 (x : Int)) rfl
          have e1 := blk_cell qe 1 (.int .i64 (y : Int)) rfl
          have a1 := HA1.out _ HB
          have C2 := IH.out L es ag cg _ cd wk HPRE.out HO1.out HO2.out (HXG.out _ HB) (HXD.out _ HB) HNI.out HL0.out HLB.out (by omega) (by omega) (HXF.out _ HB)
          have hsl := search_len N t L es
          have hsl2 : 2 ^ t.length ≤ 2 ^ 30 := Nat.pow_le_pow_right (by omega) (by omega)
          go_wp2_with fail
          refine C2.mono ?_
          rintro e' wS ⟨aS, cS, vS, rfl, hLS, hbS⟩
          have hHL := HL.below hbS
          have HBS := below_tr' HB hbS
          have hLS := hLS.mono HB.size
          have hszS := HBS.size
          clear C2 k0 k1 e0 e1 a1 hbS HL
          obtain ⟨GS, hGS⟩ : ∃ GS, GS = searchN N t L es := ⟨_, rfl⟩
          rw [← hGS] at hLS hsl ⊢
          have HGS := Lib.hid hGS
          clear hGS
          go_wp2_with (at_builtin; refine appendGs _ _ rfl rfl hHL hLS HBS (Nat.le_refl _) hszS rfl rfl (by (try simp only [List.length_nil]); omega) ?_; intro a9 c9 w9 hL9 hb9)
          have H9 := Lib.hid hL9
          clear hL9 hHL hLS
          go_wp2
          go_ret
          exact ⟨a9, c9, _, by rw [HR.out, ← HGS.out]; first | rfl | (rw [List.length_append]; rfl) | (rw [List.nil_append]; rfl), by rw [HR.out, ← HGS.out]; exact H9.out, hb9⟩
        · have hdc : decide ((y : Int) + 1 < (N : Int)) = false := decide_eq_false (by omega)
          have HR := Lib.hid (show searchN N ((x, y) :: t) L es = [] ++ searchN N t L es by rw [HSR.out]; rw [if_neg (by rw [HMF.out hmay]; decide)]; rw [if_pos (show y + 1 < N ∨ p = 0 by omega)])
          have hpz : ((p : Int) == 0) = true := by simp; omega
          have k0 := blk_cell qb 0 (.int .i64 N) rfl
          have k1 := blk_cell qb 1 (.slice ag es.length cg) rfl
          have e0 := blk_cell qe 0 (.int .i64 (x : Int)) rfl
          have e1 := blk_cell qe 1 (.int .i64 (y : Int)) rfl
          have a1 := HA1.out _ HB
          have C2 := IH.out L es ag cg _ cd wk HPRE.out HO1.out HO2.out (HXG.out _ HB) (HXD.out _ HB) HNI.out HL0.out HLB.out (by omega) (by omega) (HXF.out _ HB)
          have hsl := search_len N t L es
          have hsl2 : 2 ^ t.length ≤ 2 ^ 30 := Nat.pow_le_pow_right (by omega) (by omega)
          go_wp2_with fail
          refine C2.mono ?_
          rintro e' wS ⟨aS, cS, vS, rfl, hLS, hbS⟩
          have hHL := HL.below hbS
          have HBS := below_tr' HB hbS
          have hLS := hLS.mono HB.size
          have hszS := HBS.size
          clear C2 k0 k1 e0 e1 a1 hbS HL
          obtain ⟨GS, hGS⟩ : ∃ GS, GS = searchN N t L es := ⟨_, rfl⟩
          rw [← hGS] at hLS hsl ⊢
          have HGS := Lib.hid hGS
          clear hGS
          go_wp2_with (at_builtin; refine appendGs _ _ rfl rfl hHL hLS HBS (Nat.le_refl _) hszS rfl rfl (by (try simp only [List.length_nil]); omega) ?_; intro a9 c9 w9 hL9 hb9)
          have H9 := Lib.hid hL9
          clear hL9 hHL hLS
          go_wp2
          go_ret
          exact ⟨a9, c9, _, by rw [HR.out, ← HGS.out]; first | rfl | (rw [List.length_append]; rfl) | (rw [List.nil_append]; rfl), by rw [HR.out, ← HGS.out]; exact H9.out, hb9⟩
end

end Go.Proofs.Ytjghcegacgpehaa
