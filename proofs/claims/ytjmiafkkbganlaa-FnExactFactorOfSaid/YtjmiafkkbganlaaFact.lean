
/- The reference's findFactor and factorOf. (Printed by gen_fact.py.) -/
import Derived.Test.YtjmiafkkbganlaaSearch
namespace Go.Proofs.Ytjmiafkkbganlaa
open Go.RowKit

def FactRes (B N : Nat) (w' : World) (r : Option (List N2)) (e : Ending) : Prop :=
  match r with
  | some es => ∃ a c, e = .returned (.tuple #[graphV N a es.length c, .bool true]) ∧ w'.ownsRow B 71 2 (.slice a es.length c) es.length (edges (en2 es))
  | none => e = .returned (.tuple #[graphV 0 none 0 0, .bool false])
theorem fact_set {w v : World} {B : Nat} (HB : Below w.heap.size w v) (qr : v.heap[w.heap.size + 1]? = some (.cells #[.int .i64 0, .slice none 0 0] 29 (0, 0))) (p : Int) (q : Value) :
    Below w.heap.size w ((v.setCell ⟨w.heap.size + 1, 0, none⟩ (.int .i64 p)).setCell ⟨w.heap.size + 1, 1, none⟩ q) ∧ ∀ {a : Option Addr} {n c : Nat} {cs : List Value}, v.ownsRow B 71 2 (.slice a n c) n cs → ((v.setCell ⟨w.heap.size + 1, 0, none⟩ (.int .i64 p)).setCell ⟨w.heap.size + 1, 1, none⟩ q).ownsRow B 71 2 (.slice a n c) n cs :=
  ⟨(HB.setCell (p := ⟨w.heap.size + 1, 0, none⟩) (by simp) (.int .i64 p)).setCell (p := ⟨w.heap.size + 1, 1, none⟩) (by simp) q, fun ho => own_setOther (own_setOther ho (w.heap.size + 1) 0 (.int .i64 p) (own_ne ho qr (by decide))) (w.heap.size + 1) 1 q (own_ne ho qr (by decide))⟩
theorem take_leN (L : List Nat) (x u : Nat) : (L.take x).getD u 0 ≤ L.getD u 0 := by
  rw [List.getD_eq_getElem?_getD, List.getD_eq_getElem?_getD, List.getElem?_take]
  split <;> simp
theorem rd_takeN {w : World} {a : Option Addr} {L : List Nat} (h : Rd w a (ints (intsN L))) (x : Nat) : Rd w a (ints (intsN (L.take x))) := by
  intro j u hu
  refine h j u ?_
  simp only [ints, intsN, List.map_take, List.getElem?_take] at hu
  split at hu
  · simpa only [ints, intsN] using hu
  · cases hu

section
variable {N nf cf B : Nat} {af : Option Addr} {fs : List N2}
set_option maxHeartbeats 8000000 in
theorem fact_nil (hN : N ≤ 7) (L : List Nat) (es : List N2) (ag : Option Addr) (cg : Nat) (ad : Option Addr) (cd : Nat) (w : World) (hg : w.ownsRow B 71 2 (.slice ag es.length cg) es.length (edges (en2 es))) (hd : Rd w ad (ints (intsN L))) (hL : L.length = N) (hLb : ∀ v, L.getD v 0 ≤ 900) :
    Calls Try.prog 73 #[graphV N ag es.length cg, .slice ad N cd, .slice af nf cf, .int .i64 (nf : Int)] w fun e w' => FactRes B N w' (factN [] L es) e ∧ Below w.heap.size w w' := by
  have hB2 : Below w.heap.size w ((w.alloc (.cells #[.int .i64 N, .slice ag es.length cg] 29)).alloc (.cells #[.int .i64 0, .slice none 0 0] 29)) := below_alloc2 w _ _
  have hs2 : ((w.alloc (.cells #[.int .i64 N, .slice ag es.length cg] 29)).alloc (.cells #[.int .i64 0, .slice none 0 0] 29)).heap.size = w.heap.size + 1 + 1 := by simp
  have qb : ((w.alloc (.cells #[.int .i64 N, .slice ag es.length cg] 29)).alloc (.cells #[.int .i64 0, .slice none 0 0] 29)).heap[w.heap.size]? = some (.cells #[.int .i64 N, .slice ag es.length cg] 29 (0, 0)) := by
    rw [heap_alloc_old _ _ (by simp), heap_alloc_new]
  have qr : ((w.alloc (.cells #[.int .i64 N, .slice ag es.length cg] 29)).alloc (.cells #[.int .i64 0, .slice none 0 0] 29)).heap[w.heap.size + 1]? = some (.cells #[.int .i64 0, .slice none 0 0] 29 (0, 0)) := by
    rw [show w.heap.size + 1 = (w.alloc (.cells #[.int .i64 N, .slice ag es.length cg] 29)).heap.size from by simp, heap_alloc_new]
  generalize hW2 : (w.alloc (.cells #[.int .i64 N, .slice ag es.length cg] 29)).alloc (.cells #[.int .i64 0, .slice none 0 0] 29) = W2 at *
  have HW2 := Lib.hid hW2
  clear hW2
  have C1 := specSum_any ad cd N (intsN L) W2 (by rw [intsN_length]; exact hL) (hd.below hB2) (by omega) (small_intsN hLb)
  rw [intsN_sum] at C1
  have hbn : ((nf : Int) == (nf : Int)) = true := by simp
  obtain ⟨S, hS⟩ : ∃ S, L.sum = S := ⟨_, rfl⟩
  rw [hS] at C1
  go_enter Try.func73, Try.ntmps73
  go_wp2_with (simp only [HW2.out])
  refine C1.mono ?_
  rintro e w1 ⟨rfl, rfl⟩
  clear C1
  have HB := hB2
  have ho := own_below hg hB2
  by_cases h0 : S = 0
  · have HR := Lib.hid (show factN [] L es = some es by rw [factN, if_pos (by rw [hS]; exact h0)])
    have hb0 : ((S : Int) == 0) = true := by simp [h0]
    have k0 := blk_cell qb 0 (.int .i64 N) rfl
    have k1 := blk_cell qb 1 (.slice ag es.length cg) rfl
    clear hS h0 hB2 hg qb
    have z0 := blk_cell qr 0 (.int .i64 0) rfl
    have z1 := blk_cell qr 1 (.slice none 0 0) rfl
    have f0 := blk_free qr 0
    have f1 := blk_free qr 1
    have ST := Lib.hid (fact_set (B := B) HB qr N (.slice ag es.length cg))
    have HO := Lib.hid (ST.out.2 ho)
    clear qr HB ho
    go_wp2
    refine bodyPost_ret (v := .tuple #[graphV N ag es.length cg, .bool true]) (by simp [results, Try.results73, go_sem, z0, z1]) rfl ⟨by rw [HR.out]; exact ⟨ag, cg, rfl, HO.out⟩, ST.out.1⟩
  · have HR := Lib.hid (show factN [] L es = none by rw [factN, if_neg (by rw [hS]; exact h0)])
    have hb0 : ((S : Int) == 0) = false := beq_eq_false_iff_ne.2 (by omega)
    clear hS h0 hB2 hg qb ho
    have z0 := blk_cell qr 0 (.int .i64 0) rfl
    have z1 := blk_cell qr 1 (.slice none 0 0) rfl
    have f0 := blk_free qr 0
    have f1 := blk_free qr 1
    have ST := Lib.hid (fact_set (B := B) HB qr 0 (.slice none 0 0))
    clear qr HB
    go_wp2
    refine bodyPost_ret (v := .tuple #[graphV 0 none 0 0, .bool false]) (by simp [results, Try.results73, go_sem, z0, z1]) rfl ⟨by rw [HR.out]; exact rfl, ST.out.1⟩

set_option maxHeartbeats 16000000 in
theorem fact_any (hN : N ≤ 7) (hnf : fs.length = nf) (hnf2 : nf ≤ 900) (hfs : ∀ e ∈ fs, e.1 < N ∧ e.2 < N ∧ e.1 < e.2) : ∀ (t pre : List N2) (L : List Nat) (es : List N2) (ag : Option Addr) (cg : Nat) (ad : Option Addr) (cd : Nat) (w : World), pre ++ t = fs → (∀ f ∈ es, ∀ e ∈ t, BelN f e) → (t).Pairwise BelN → B ≤ w.heap.size → w.ownsRow B 71 2 (.slice ag es.length cg) es.length (edges (en2 es)) → Rd w ad (ints (intsN L)) → (ad = none → N = 0 ∧ cd = 0) → N ≤ cd ∧ cd ≤ maxLen → L.length = N → (∀ v, L.getD v 0 ≤ 900) → es.length + (t).length ≤ 900 → Rd w af (edges (en2 fs)) →
    Calls Try.prog 73 #[graphV N ag es.length cg, .slice ad N cd, .slice af nf cf, .int .i64 (pre.length : Int)] w fun e w' => FactRes B N w' (factN t L es) e ∧ Below w.heap.size w w' := by
  intro t
  induction t with
  | nil =>
    intro pre L es ag cg ad cd w hpre _ _ _ hg hd _ _ hL hLb _ _
    have hl : pre.length = nf := by rw [← hnf, ← hpre, List.append_nil]
    rw [hl]
    exact fact_nil hN L es ag cg ad cd w hg hd hL hLb
  | cons e t ih =>
    intro pre L es ag cg ad cd w hpre ho1 ho2 hBB hg hd hni hcd hL hLb hes hxf
    obtain ⟨x, y⟩ := e
    have hi : pre.length < fs.length := by rw [← hpre, List.length_append, List.length_cons]; omega
    have hfe : fs[pre.length]'hi = (x, y) := by
      have : (pre ++ (x, y) :: t)[pre.length]'(by rw [hpre]; exact hi) = (x, y) := by simp
      simpa only [hpre] using this
    have hb3 := hfs (x, y) (by rw [← hpre]; simp)
    have hpre2 : (pre ++ [(x, y)]) ++ t = fs := by rw [← hpre]; simp
    have hlen2 : (((pre ++ [(x, y)]).length : Nat) : Int) = (pre.length : Int) + 1 := by simp
    simp only at hb3
    obtain ⟨hx, hy, hxy⟩ := hb3
    rw [List.pairwise_cons] at ho2
    rw [List.length_cons] at hes
    obtain ⟨b1, o1, haf, c1, c2⟩ := hxf.edge (k := pre.length) (by rw [en2_length]; exact hi)
    have hxi : (en2 fs)[pre.length]'(by rw [en2_length]; exact hi) = ((x : Int), (y : Int)) := by simp [en2, hfe]
    rw [hxi] at c1 c2
    simp only at c1 c2
    have IH := Lib.hid (ih (pre ++ [(x, y)]))
    rw [hlen2] at IH
    have HPRE := Lib.hid hpre2
    obtain ⟨i, hii⟩ : ∃ i, i = pre.length := ⟨_, rfl⟩
    rw [← hii] at IH hi c1 c2 ⊢
    have hne : ((i : Int) == (nf : Int)) = false := beq_eq_false_iff_ne.2 (by omega)
    have HO1 := Lib.hid (fun f hf e he => ho1 f hf e (List.mem_cons_of_mem _ he))
    have HO2 := Lib.hid ho2.2
    have HO3 := Lib.hid (show ∀ f ∈ es ++ [(x, y)], ∀ e ∈ t, BelN f e from fun f hf e he => by
      rcases List.mem_append.1 hf with h1 | h1
      · exact ho1 f h1 e (List.mem_cons_of_mem _ he)
      · rw [List.mem_singleton.1 h1]; exact ho2.1 e he)
    have HINS := Lib.hid (ins_end (fun f hf => ho1 f hf (x, y) (List.mem_cons_self ..)))
    have HXO := Lib.hid (fun (v : World) (hb : Below w.heap.size w v) => own_below hg hb)
    have HXD := Lib.hid (fun (v : World) (hb : Below w.heap.size w v) => hd.below hb)
    have HXF := Lib.hid (fun (v : World) (hb : Below w.heap.size w v) => hxf.below hb)
    have HNI := Lib.hid hni
    have HCD := Lib.hid hcd
    have HBB := Lib.hid hBB
    have HL0 := Lib.hid hL
    have HLB := Lib.hid hLb
    have hcd1 := hcd.1
    have hcd2 : cd ≤ maxLen := hcd.2
    unfold maxLen at hcd2
    obtain ⟨b2, o2, had, a1'⟩ := rdN_at hd (k := x) (by omega)
    obtain ⟨b2', o2', had', a2'⟩ := rdN_at hd (k := y) (by omega)
    rw [had] at had'
    cases had'
    have hB2 : Below w.heap.size w ((w.alloc (.cells #[.int .i64 N, .slice ag es.length cg] 29)).alloc (.cells #[.int .i64 0, .slice none 0 0] 29)) := below_alloc2 w _ _
    have hs2 : ((w.alloc (.cells #[.int .i64 N, .slice ag es.length cg] 29)).alloc (.cells #[.int .i64 0, .slice none 0 0] 29)).heap.size = w.heap.size + 1 + 1 := by simp
    have qb : ((w.alloc (.cells #[.int .i64 N, .slice ag es.length cg] 29)).alloc (.cells #[.int .i64 0, .slice none 0 0] 29)).heap[w.heap.size]? = some (.cells #[.int .i64 N, .slice ag es.length cg] 29 (0, 0)) := by
      rw [heap_alloc_old _ _ (by simp), heap_alloc_new]
    have qr : ((w.alloc (.cells #[.int .i64 N, .slice ag es.length cg] 29)).alloc (.cells #[.int .i64 0, .slice none 0 0] 29)).heap[w.heap.size + 1]? = some (.cells #[.int .i64 0, .slice none 0 0] 29 (0, 0)) := by
      rw [show w.heap.size + 1 = (w.alloc (.cells #[.int .i64 N, .slice ag es.length cg] 29)).heap.size from by simp, heap_alloc_new]
    generalize hW2 : (w.alloc (.cells #[.int .i64 N, .slice ag es.length cg] 29)).alloc (.cells #[.int .i64 0, .slice none 0 0] 29) = W2 at *
    have HW2 := Lib.hid hW2
    clear hW2
    have C1 := specSum_any ad cd N (intsN L) W2 (by rw [intsN_length]; exact hL) (hd.below hB2) (by omega) (small_intsN hLb)
    rw [intsN_sum] at C1
    subst haf had
    obtain ⟨S, hS⟩ : ∃ S, L.sum = S := ⟨_, rfl⟩
    rw [hS] at C1
    obtain ⟨p, hp⟩ : ∃ p, L.getD x 0 = p := ⟨_, rfl⟩
    obtain ⟨q, hq⟩ : ∃ q, L.getD y 0 = q := ⟨_, rfl⟩
    obtain ⟨S2, hS2⟩ : ∃ S, (L.take x).sum = S := ⟨_, rfl⟩
    rw [hp] at a1'
    rw [hq] at a2'
    have hpb : p ≤ 900 := by have := hLb x; omega
    have hqb : q ≤ 900 := by have := hLb y; omega
    have HA1 := Lib.hid (fun (v : World) (hb : Below w.heap.size w v) => (hb.cell (p := ⟨b2, o2 + x, none⟩) (Rd.lt a1')).trans a1')
    have HA2 := Lib.hid (fun (v : World) (hb : Below w.heap.size w v) => (hb.cell (p := ⟨b2, o2 + y, none⟩) (Rd.lt a2')).trans a2')
    have HFR := Lib.hid (show factN ((x, y) :: t) L es = if S = 0 then some es else if 0 < S2 then none else if mayN L (x, y) = true then (match factN t (stepN L (x, y)) (es ++ [(x, y)]) with | some x => some x | none => factN t L es) else factN t L es by rw [factN, hS, hS2]; rfl)
    have HMT := Lib.hid (fun (h : 0 < p ∧ 0 < q) => may_trueN (L := L) (x := x) (y := y) (by rw [hp, hq]; exact h))
    have HMF := Lib.hid (fun (h : ¬ (0 < p ∧ 0 < q)) => may_falseN (L := L) (x := x) (y := y) (by rw [hp, hq]; exact h))
    have HST := Lib.hid (show stepN L (x, y) = (L.set x (p - 1)).set y (q - 1) by simp only [stepN, hp, hq])
    have HGY := Lib.hid (show (L.set x (p - 1)).getD y 0 = q by rw [List.getD_eq_getElem?_getD, List.getElem?_set_ne (by omega), ← List.getD_eq_getElem?_getD]; exact hq)
    have HP0 := Lib.hid hp
    have HQ0 := Lib.hid hq
    have C2 := fun (v : World) (hb : Below w.heap.size w v) => specSum_any (some ⟨b2, o2, none⟩) cd x (intsN (L.take x)) v (by rw [intsN_length, List.length_take]; omega) (rd_takeN (hd.below hb) x) (by omega) (small_intsN (fun u => Nat.le_trans (by rw [List.getD_eq_getElem?_getD, List.getElem?_take, List.getD_eq_getElem?_getD]; split <;> simp) (hLb u)))
    rw [intsN_sum, hS2] at C2
    have HC2 := Lib.hid C2
    clear C2 ih hpre hpre2 hlen2 hfe hii hxi ho1 ho2 hg hd hxf hni hcd hBB hp hq hL hLb a1' a2' hS2
    have HB := hB2
    go_enter Try.func73, Try.ntmps73
    go_wp2_with (simp only [HW2.out])
    refine C1.mono ?_
    rintro e w1 ⟨rfl, rfl⟩
    clear C1
    by_cases h0 : S = 0
    · have HR := Lib.hid (HFR.out.trans (if_pos h0))
      have hb0 : ((S : Int) == 0) = true := by simp [h0]
      have k0 := blk_cell qb 0 (.int .i64 N) rfl
      have k1 := blk_cell qb 1 (.slice ag es.length cg) rfl
      have ho := HXO.out _ hB2
      clear hS h0 hB2 qb c1 c2
      have z0 := blk_cell qr 0 (.int .i64 0) rfl
      have z1 := blk_cell qr 1 (.slice none 0 0) rfl
      have f0 := blk_free qr 0
      have f1 := blk_free qr 1
      have ST := Lib.hid (fact_set (B := B) HB qr N (.slice ag es.length cg))
      have HO := Lib.hid (ST.out.2 ho)
      clear qr HB ho
      go_wp2
      refine bodyPost_ret (v := .tuple #[graphV N ag es.length cg, .bool true]) (by simp [results, Try.results73, go_sem, z0, z1]) rfl ⟨by rw [HR.out]; exact ⟨ag, cg, rfl, HO.out⟩, ST.out.1⟩
    have HFR2 := Lib.hid (HFR.out.trans (if_neg h0))
    have hb0 : ((S : Int) == 0) = false := beq_eq_false_iff_ne.2 (by omega)
    have g1 := (hB2.cell (p := ⟨b1, o1 + i * 2, none⟩) (Rd.lt c1)).trans c1
    have g2 := (hB2.cell (p := ⟨b1, o1 + i * 2 + 1, none⟩) (Rd.lt c2)).trans c2
    have hB3 := below_tr' hB2 (below_alloc w1 (.cells #[.int .i64 (x : Int), .int .i64 (y : Int)] 71))
    have qe := heap_alloc_new w1 (.cells #[.int .i64 (x : Int), .int .i64 (y : Int)] 71)
    have qb := blk_below qb (below_alloc w1 (.cells #[.int .i64 (x : Int), .int .i64 (y : Int)] 71))
    have qr := blk_below qr (below_alloc w1 (.cells #[.int .i64 (x : Int), .int .i64 (y : Int)] 71))
    have hs3 : (w1.alloc (.cells #[.int .i64 (x : Int), .int .i64 (y : Int)] 71)).heap.size = w.heap.size + 1 + 1 + 1 := by simp [hs2]
    generalize hW3 : w1.alloc (.cells #[.int .i64 (x : Int), .int .i64 (y : Int)] 71) = W3 at *
    have HW3 := Lib.hid hW3
    rw [hs2] at qe
    have e0 := blk_cell qe 0 (.int .i64 (x : Int)) rfl
    have e1 := blk_cell qe 1 (.int .i64 (y : Int)) rfl
    have C3 := HC2.out W3 hB3
    clear hW3 hS c1 c2 HB hB2
    go_wp2_with (simp only [HW3.out])
    refine C3.mono ?_
    rintro e w4 ⟨rfl, rfl⟩
    clear C3 hs2 HW3
    have HB := hB3
    by_cases h2 : 0 < S2
    · have HR := Lib.hid (HFR2.out.trans (if_pos h2))
      have hd2 : decide ((0 : Int) < (S2 : Int)) = true := decide_eq_true (by omega)
      clear h0 hB3 qb qe e0 e1 g1 g2
      have z0 := blk_cell qr 0 (.int .i64 0) rfl
      have z1 := blk_cell qr 1 (.slice none 0 0) rfl
      have f0 := blk_free qr 0
      have f1 := blk_free qr 1
      have ST := Lib.hid (fact_set (B := B) HB qr 0 (.slice none 0 0))
      clear qr HB
      go_wp2
      refine bodyPost_ret (v := .tuple #[graphV 0 none 0 0, .bool false]) (by simp [results, Try.results73, go_sem, z0, z1]) rfl ⟨by rw [HR.out]; exact rfl, ST.out.1⟩
    have HFR3 := Lib.hid (HFR2.out.trans (if_neg h2))
    have hd2 : decide ((0 : Int) < (S2 : Int)) = false := decide_eq_false (by omega)
    have a1 := HA1.out _ hB3
    have a2 := HA2.out _ hB3
    clear g1 g2 h0
    by_cases hmay : 0 < p ∧ 0 < q
    · have HFR4 := Lib.hid (HFR3.out.trans (if_pos (HMT.out hmay)))
      have hd3 : decide ((0 : Int) < (p : Int)) = true := decide_eq_true (by omega)
      have hd4 : decide ((0 : Int) < (q : Int)) = true := decide_eq_true (by omega)
      go_upto_region 9 with (fail)
      obtain ⟨p1, rfl⟩ : ∃ p1, p = p1 + 1 := ⟨p - 1, by omega⟩
      obtain ⟨q1, rfl⟩ : ∃ q1, q = q1 + 1 := ⟨q - 1, by omega⟩
      have C4 := copyInts_any (some ⟨b2, o2, none⟩) cd N (intsN L) w4 (by rw [intsN_length]; exact HL0.out) (HXD.out _ hB3) (by omega) HNI.out
      go_wp2_with fail
      clear a1 a2 e0 e1
      refine C4.mono ?_
      rintro e' w5 ⟨an, cn, rfl, hon, hb4⟩
      have HB := below_tr' hB3 hb4
      have qb := blk_below qb hb4
      have qe := blk_below qe hb4
      have qr := blk_below qr hb4
      obtain ⟨h, rfl, hh1, _⟩ := own_head hon (by omega)
      have hcn := (own_shape hon).1
      have hcn2 := (own_shape hon).2.1
      have hon := own_mono hon hB3.size
      clear C4 hb4 hB3
      have e0 := blk_cell qe 0 (.int .i64 (x : Int)) rfl
      have n1 := own_natAt hon x hx
      rw [HP0.out, show (((p1 + 1 : Nat)) : Int) = (p1 : Int) + 1 from by omega] at n1
      have d0 := later_cell e0
      have d1 := later_cell n1
      have bd := bel_drew (Below.refl w5.heap.size w5)
      have hon0 := own_below hon bd
      have HB0 := below_tr' HB bd
      have qe0 := blk_below qe bd
      have qb0 := blk_below qb bd
      have qr0 := blk_below qr bd
      clear hon HB qe qb qr e0 n1
      go_wp2
      refine wp_region_flags [true, true, true, true, true, true, true, true, true, true, false] 10 (C := fun w' => ∃ u : Later w5, w' = u.val) (by kernel_rfl) (by kernel_rfl) ⟨⟨_, bd⟩, rfl⟩ ?_
      simp only [pickT, pickF]
      repeat (go_big_quiet_step (fail))
      refine wpQuiet_nil ?_
      clear d0 d1 bd
      generalize w5.drew = wd at *
      have x1 := own_natAt hon0 x hx
      have f1 := hon0.frozenAt x
      have hne1 : w.heap.size ≠ h := by omega
      have hne2 : w.heap.size + 1 ≠ h := by omega
      have hne3 : w.heap.size + 1 + 1 ≠ h := by omega
      have ST := Lib.hid (And.intro (own_natSet hon0 x p1) (And.intro (HB0.setCell (p := ⟨h, x, none⟩) (by show w.heap.size ≤ h; omega) (.int .i64 (p1 : Int))) (And.intro (blk_set_other qe0 x (.int .i64 (p1 : Int)) hne3) (And.intro (blk_set_other qb0 x (.int .i64 (p1 : Int)) hne1) (blk_set_other qr0 x (.int .i64 (p1 : Int)) hne2)))))
      clear hon0 HB0 qe0 qb0 qr0
      refine tail_last fun K hK => ?_
      go_upto_region 11 with (fail)
      generalize hV : wd.setCell ⟨h, x, none⟩ (.int .i64 (p1 : Int)) = w6 at *
      obtain ⟨hon, HB, qe, qb, qr⟩ := ST.out
      clear hV x1 f1 ST
      rw [Nat.add_sub_cancel] at HGY
      have e0 := blk_cell qe 1 (.int .i64 (y : Int)) rfl
      have n1 := own_natAt hon y hy
      rw [HGY.out, show (((q1 + 1 : Nat)) : Int) = (q1 : Int) + 1 from by omega] at n1
      have d0 := later_cell e0
      have d1 := later_cell n1
      have bd := bel_drew (Below.refl w6.heap.size w6)
      have hon0 := own_below hon bd
      have HB0 := below_tr' HB bd
      have qe0 := blk_below qe bd
      have qb0 := blk_below qb bd
      have qr0 := blk_below qr bd
      clear hon HB qe qb qr e0 n1
      go_wp2
      refine wp_region_flags [true, true, true, true, true, true, true, true, true, true, false] 10 (C := fun w' => ∃ u : Later w6, w' = u.val) (by kernel_rfl) (by kernel_rfl) ⟨⟨_, bd⟩, rfl⟩ ?_
      simp only [pickT, pickF]
      repeat (go_big_quiet_step (fail))
      refine wpQuiet_nil ?_
      clear d0 d1 bd
      generalize w6.drew = wd at *
      have x1 := own_natAt hon0 y hy
      have f1 := hon0.frozenAt y
      have hne1 : w.heap.size ≠ h := by omega
      have hne2 : w.heap.size + 1 ≠ h := by omega
      have hne3 : w.heap.size + 1 + 1 ≠ h := by omega
      have ST := Lib.hid (And.intro (own_natSet hon0 y q1) (And.intro (HB0.setCell (p := ⟨h, y, none⟩) (by show w.heap.size ≤ h; omega) (.int .i64 (q1 : Int))) (And.intro (blk_set_other qe0 y (.int .i64 (q1 : Int)) hne3) (And.intro (blk_set_other qb0 y (.int .i64 (q1 : Int)) hne1) (blk_set_other qr0 y (.int .i64 (q1 : Int)) hne2)))))
      clear hon0 HB0 qe0 qb0 qr0
      refine tail_last fun K hK => ?_
      go_upto_region 12 with (fail)
      generalize hV : wd.setCell ⟨h, y, none⟩ (.int .i64 (q1 : Int)) = w7 at *
      obtain ⟨hon, HB, qe, qb, qr⟩ := ST.out
      clear hV x1 f1 ST
      have HSTE := Lib.hid (show stepN L (x, y) = (L.set x p1).set y q1 by have := HST.out; simpa using this)
      have k0 := blk_cell qb 0 (.int .i64 N) rfl
      have k1 := blk_cell qb 1 (.slice ag es.length cg) rfl
      have e0 := blk_cell qe 0 (.int .i64 (x : Int)) rfl
      have e1 := blk_cell qe 1 (.int .i64 (y : Int)) rfl
      obtain ⟨g1, g2, g3, g4, g5, g6⟩ := rowG_own (HXO.out _ HB)
      have C2 := specAddEdge_any N ag cg es.length (en2 es) x y w7 (en2_length es) g1 (by omega) g2 (by unfold maxLen at g3; omega) g4 g5 (by omega)
      rw [HINS.out] at C2
      clear g1 g2 g3 g4 g5 g6
      go_wp2_with fail
      refine C2.mono ?_
      rintro e' w8 ⟨ag1, cg1, rfl, hog, hb7⟩
      have hs8 := HB.size
      have hs8b := HBB.out
      have HB := below_tr' HB hb7
      have qb := blk_below qb hb7
      have qe := blk_below qe hb7
      have qr := blk_below qr hb7
      have hon := own_rd (own_below hon hb7)
      rw [← HSTE.out] at hon
      have el : (es ++ [(x, y)]).length = es.length + 1 := by simp
      have hrg := own_mono (B' := B) hog (by omega)
      have HLBS := Lib.hid (show ∀ v, (stepN L (x, y)).getD v 0 ≤ 900 from fun v => by
        rw [HSTE.out]
        exact Nat.le_trans (set_le (by rw [HGY.out]; omega) v) (Nat.le_trans (set_le (by rw [HP0.out]; omega) v) (HLB.out v)))
      have C3 := IH.out (stepN L (x, y)) (es ++ [(x, y)]) ag1 cg1 (some ⟨h, 0, none⟩) cn w8 HPRE.out HO3.out HO2.out (Nat.le_trans HBB.out HB.size) (by rw [el]; exact hrg) hon (fun h0 => by cases h0) ⟨hcn, hcn2⟩ (by rw [stepN_length]; exact HL0.out) HLBS.out (by rw [el]; omega) (HXF.out _ HB)
      rw [el] at C3
      clear C2 hog hrg hon hb7 k0 k1 e0 e1 el hs8 hs8b
      go_wp2_with fail
      refine C3.mono ?_
      rintro e' wS ⟨hrS, hbS⟩
      have HB := below_tr' HB hbS
      have qb := blk_below qb hbS
      have qe := blk_below qe hbS
      have qr := blk_below qr hbS
      clear C3 hbS
      cases hfS : factN t (stepN L (x, y)) (es ++ [(x, y)]) with
      | some xS =>
        have HR := Lib.hid (show factN ((x, y) :: t) L es = some xS by rw [HFR4.out, hfS])
        rw [hfS] at hrS
        simp only [FactRes] at hrS
        obtain ⟨aS, cS, rfl, hoS⟩ := hrS
        have hba := below_alloc wS (.cells #[.int .i64 N, .slice aS xS.length cS] 29)
        have qo := heap_alloc_new wS (.cells #[.int .i64 N, .slice aS xS.length cS] 29)
        have HB := below_tr' HB hba
        have qr := blk_below qr hba
        have ho := own_below hoS hba
        have k0 := blk_cell qo 0 (.int .i64 N) rfl
        have k1 := blk_cell qo 1 (.slice aS xS.length cS) rfl
        clear hfS qb qe hoS hba qo
        have z0 := blk_cell qr 0 (.int .i64 0) rfl
        have z1 := blk_cell qr 1 (.slice none 0 0) rfl
        have f0 := blk_free qr 0
        have f1 := blk_free qr 1
        have ST := Lib.hid (fact_set (B := B) HB qr N (.slice aS xS.length cS))
        have HO := Lib.hid (ST.out.2 ho)
        clear qr HB ho
        go_wp2
        refine bodyPost_ret (v := .tuple #[graphV N aS xS.length cS, .bool true]) (by simp [results, Try.results73, go_sem, z0, z1]) rfl ⟨by rw [HR.out]; exact ⟨aS, cS, rfl, HO.out⟩, ST.out.1⟩
      | none =>
        have HR1 := Lib.hid (show factN ((x, y) :: t) L es = factN t L es by rw [HFR4.out, hfS])
        rw [hfS] at hrS
        simp only [FactRes] at hrS
        subst hrS
        have hba := below_alloc wS (.cells #[.int .i64 0, .slice none 0 0] 29)
        have HB := below_tr' HB hba
        have qr := blk_below qr hba
        have qb := blk_below qb hba
        clear hfS qe hba
        go_upto_region 15 with (fail)
        generalize wS.alloc (.cells #[.int .i64 0, .slice none 0 0] 29) = wk at *
        have k0 := blk_cell qb 0 (.int .i64 N) rfl
        have k1 := blk_cell qb 1 (.slice ag es.length cg) rfl
        have C9 := IH.out L es ag cg _ cd _ HPRE.out HO1.out HO2.out (Nat.le_trans HBB.out HB.size) (HXO.out _ HB) (HXD.out _ HB) HNI.out HCD.out HL0.out HLB.out (by omega) (HXF.out _ HB)
        go_wp2_with fail
        refine C9.mono ?_
        rintro e' w9 ⟨hr9, hb9⟩
        have HB := below_tr' HB hb9
        have qr := blk_below qr hb9
        clear C9 k0 k1 hb9 qb
        cases hf9 : factN t L es with
        | none =>
          have HR := Lib.hid (HR1.out.trans hf9)
          rw [hf9] at hr9
          simp only [FactRes] at hr9
          subst hr9
          clear hf9
          have z0 := blk_cell qr 0 (.int .i64 0) rfl
          have z1 := blk_cell qr 1 (.slice none 0 0) rfl
          have f0 := blk_free qr 0
          have f1 := blk_free qr 1
          have ST := Lib.hid (fact_set (B := B) HB qr 0 (.slice none 0 0))
          clear qr HB
          go_wp2
          refine bodyPost_ret (v := .tuple #[graphV 0 none 0 0, .bool false]) (by simp [results, Try.results73, go_sem, z0, z1]) rfl ⟨by rw [HR.out]; exact rfl, ST.out.1⟩
        | some x9 =>
          have HR := Lib.hid (HR1.out.trans hf9)
          rw [hf9] at hr9
          simp only [FactRes] at hr9
          obtain ⟨a9, c9, rfl, ho9⟩ := hr9
          clear hf9
          have z0 := blk_cell qr 0 (.int .i64 0) rfl
          have z1 := blk_cell qr 1 (.slice none 0 0) rfl
          have f0 := blk_free qr 0
          have f1 := blk_free qr 1
          have ST := Lib.hid (fact_set (B := B) HB qr N (.slice a9 x9.length c9))
          have HO := Lib.hid (ST.out.2 ho9)
          clear qr HB ho9
          go_wp2
          refine bodyPost_ret (v := .tuple #[graphV N a9 x9.length c9, .bool true]) (by simp [results, Try.results73, go_sem, z0, z1]) rfl ⟨by rw [HR.out]; exact ⟨a9, c9, rfl, HO.out⟩, ST.out.1⟩
    · have HR1 := Lib.hid (HFR3.out.trans (if_neg (by rw [HMF.out hmay]; decide)))
      by_cases hp0 : 0 < p
      · have hd3 : decide ((0 : Int) < (p : Int)) = true := decide_eq_true (by omega)
        have hd4 : decide ((0 : Int) < (q : Int)) = false := decide_eq_false (by omega)
        go_upto_region 15 with (fail)
        clear a1 a2 e0 e1 qe hB3
        have k0 := blk_cell qb 0 (.int .i64 N) rfl
        have k1 := blk_cell qb 1 (.slice ag es.length cg) rfl
        have C9 := IH.out L es ag cg _ cd _ HPRE.out HO1.out HO2.out (Nat.le_trans HBB.out HB.size) (HXO.out _ HB) (HXD.out _ HB) HNI.out HCD.out HL0.out HLB.out (by omega) (HXF.out _ HB)
        go_wp2_with fail
        refine C9.mono ?_
        rintro e' w9 ⟨hr9, hb9⟩
        have HB := below_tr' HB hb9
        have qr := blk_below qr hb9
        clear C9 k0 k1 hb9 qb
        cases hf9 : factN t L es with
        | none =>
          have HR := Lib.hid (HR1.out.trans hf9)
          rw [hf9] at hr9
          simp only [FactRes] at hr9
          subst hr9
          clear hf9
          have z0 := blk_cell qr 0 (.int .i64 0) rfl
          have z1 := blk_cell qr 1 (.slice none 0 0) rfl
          have f0 := blk_free qr 0
          have f1 := blk_free qr 1
          have ST := Lib.hid (fact_set (B := B) HB qr 0 (.slice none 0 0))
          clear qr HB
          go_wp2
          refine bodyPost_ret (v := .tuple #[graphV 0 none 0 0, .bool false]) (by simp [results, Try.results73, go_sem, z0, z1]) rfl ⟨by rw [HR.out]; exact rfl, ST.out.1⟩
        | some x9 =>
          have HR := Lib.hid (HR1.out.trans hf9)
          rw [hf9] at hr9
          simp only [FactRes] at hr9
          obtain ⟨a9, c9, rfl, ho9⟩ := hr9
          clear hf9
          have z0 := blk_cell qr 0 (.int .i64 0) rfl
          have z1 := blk_cell qr 1 (.slice none 0 0) rfl
          have f0 := blk_free qr 0
          have f1 := blk_free qr 1
          have ST := Lib.hid (fact_set (B := B) HB qr N (.slice a9 x9.length c9))
          have HO := Lib.hid (ST.out.2 ho9)
          clear qr HB ho9
          go_wp2
          refine bodyPost_ret (v := .tuple #[graphV N a9 x9.length c9, .bool true]) (by simp [results, Try.results73, go_sem, z0, z1]) rfl ⟨by rw [HR.out]; exact ⟨a9, c9, rfl, HO.out⟩, ST.out.1⟩
      · have hd3 : decide ((0 : Int) < (p : Int)) = false := decide_eq_false (by omega)
        go_upto_region 15 with (fail)
        clear a1 a2 e0 e1 qe hB3
        have k0 := blk_cell qb 0 (.int .i64 N) rfl
        have k1 := blk_cell qb 1 (.slice ag es.length cg) rfl
        have C9 := IH.out L es ag cg _ cd _ HPRE.out HO1.out HO2.out (Nat.le_trans HBB.out HB.size) (HXO.out _ HB) (HXD.out _ HB) HNI.out HCD.out HL0.out HLB.out (by omega) (HXF.out _ HB)
        go_wp2_with fail
        refine C9.mono ?_
        rintro e' w9 ⟨hr9, hb9⟩
        have HB := below_tr' HB hb9
        have qr := blk_below qr hb9
        clear C9 k0 k1 hb9 qb
        cases hf9 : factN t L es with
        | none =>
          have HR := Lib.hid (HR1.out.trans hf9)
          rw [hf9] at hr9
          simp only [FactRes] at hr9
          subst hr9
          clear hf9
          have z0 := blk_cell qr 0 (.int .i64 0) rfl
          have z1 := blk_cell qr 1 (.slice none 0 0) rfl
          have f0 := blk_free qr 0
          have f1 := blk_free qr 1
          have ST := Lib.hid (fact_set (B := B) HB qr 0 (.slice none 0 0))
          clear qr HB
          go_wp2
          refine bodyPost_ret (v := .tuple #[graphV 0 none 0 0, .bool false]) (by simp [results, Try.results73, go_sem, z0, z1]) rfl ⟨by rw [HR.out]; exact rfl, ST.out.1⟩
        | some x9 =>
          have HR := Lib.hid (HR1.out.trans hf9)
          rw [hf9] at hr9
          simp only [FactRes] at hr9
          obtain ⟨a9, c9, rfl, ho9⟩ := hr9
          clear hf9
          have z0 := blk_cell qr 0 (.int .i64 0) rfl
          have z1 := blk_cell qr 1 (.slice none 0 0) rfl
          have f0 := blk_free qr 0
          have f1 := blk_free qr 1
          have ST := Lib.hid (fact_set (B := B) HB qr N (.slice a9 x9.length c9))
          have HO := Lib.hid (ST.out.2 ho9)
          clear qr HB ho9
          go_wp2
          refine bodyPost_ret (v := .tuple #[graphV N a9 x9.length c9, .bool true]) (by simp [results, Try.results73, go_sem, z0, z1]) rfl ⟨by rw [HR.out]; exact ⟨a9, c9, rfl, HO.out⟩, ST.out.1⟩
end

end Go.Proofs.Ytjmiafkkbganlaa
