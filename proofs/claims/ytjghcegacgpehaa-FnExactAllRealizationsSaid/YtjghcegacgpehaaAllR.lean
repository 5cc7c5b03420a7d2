
/- The program's AllRealizations. (Printed by gen_allr.py.) -/
import Derived.Test.YtjghcegacgpehaaCountI
namespace Go.Proofs.Ytjghcegacgpehaa
open Go.RowKit

theorem own_rebase2 {w : World} {B B' T s n c m : Nat} {a : Option Addr} {cs : List Value} (h : w.ownsRow B T s (.slice a m c) n cs) (hb : ∀ i, i ∈ blks a → B' ≤ i) : w.ownsRow B' T s (.slice a m c) n cs := by
  refine ⟨h.1, ?_⟩
  rcases h.2 with h2 | ⟨g, cap, cur, h1, hB, hg, hr⟩
  · exact .inl h2
  · cases h1
    exact .inr ⟨g, _, cur, rfl, hb g (by simp [blks]), hg, hr⟩
def innB (vs : List AtG) : List Nat := vs.flatMap fun v => blks v.1
theorem innB_mem {vs : List AtG} {r : Nat} (h : r < vs.length) : ∀ i ∈ blks (vs[r]'h).1, i ∈ innB vs := fun _ hi => List.mem_flatMap.2 ⟨_, List.getElem_mem h, hi⟩
theorem innB_snoc (vs : List AtG) (v : AtG) : innB (vs ++ [v]) = innB vs ++ blks v.1 := by simp [innB]
/-- The inner rows, owned; each for itself. -/
def InnG (w : World) (B : Nat) (vs : List AtG) (gs : List (List N2)) : Prop := ∀ r (h1 : r < vs.length) (h2 : r < gs.length), (gs[r]'h2).length ≤ (vs[r]'h1).2 ∧ (vs[r]'h1).2 ≤ maxLen ∧ ((vs[r]'h1).1 = none → (vs[r]'h1).2 = 0) ∧ ∃ d, w.ownsRow B 48 2 (.slice (vs[r]'h1).1 (gs[r]'h2).length d) (gs[r]'h2).length (edges (en2 (gs[r]'h2)))
def ApartG (vs : List AtG) : Prop := vs.Pairwise fun u v => ∀ i, i ∈ blks u.1 → i ∉ blks v.1
/-- A row of graphs with owned rows of edges. -/
def OwnG (w : World) (B : Nat) (a : Option Addr) (c N : Nat) (vs : List AtG) (gs : List (List N2)) : Prop :=
  vs.length = gs.length ∧ w.ownsRow B 25 2 (.slice a gs.length c) gs.length (graphsV N vs gs) ∧ InnG w B vs gs ∧ ApartG vs
theorem OwnG.listG {w : World} {B c N : Nat} {a : Option Addr} {vs : List AtG} {gs : List (List N2)} (h : OwnG w B a c N vs gs) : ListG w B a c N vs gs :=
  ⟨h.1, h.2.1, fun r h1 h2 => by
    obtain ⟨e1, e2, e3, d, ho⟩ := h.2.2.1 r h1 h2
    exact ⟨own_rd ho, e1, e2, fun h0 => ⟨(own_nilc ho h0).1, e3 h0⟩, own_formA ho, edgeBlk_own ho⟩⟩
theorem OwnG.same {w w' : World} {B c N : Nat} {a : Option Addr} {vs : List AtG} {gs : List (List N2)} (h : OwnG w B a c N vs gs) (hs : ∀ i ∈ blks a ++ innB vs, w'.heap[i]? = w.heap[i]?) : OwnG w' B a c N vs gs :=
  ⟨h.1, own_same2 h.2.1 fun x hx => hs x.block (List.mem_append_left _ (blks_mem.2 ⟨x, hx, rfl⟩)), fun r h1 h2 => by
    obtain ⟨e1, e2, e3, d, ho⟩ := h.2.2.1 r h1 h2
    exact ⟨e1, e2, e3, d, own_same2 ho fun x hx => hs x.block (List.mem_append_right _ (innB_mem h1 _ (blks_mem.2 ⟨x, hx, rfl⟩)))⟩, h.2.2.2⟩
theorem OwnG.lt {w : World} {B c N : Nat} {a : Option Addr} {vs : List AtG} {gs : List (List N2)} (h : OwnG w B a c N vs gs) : ∀ i ∈ blks a ++ innB vs, B ≤ i ∧ i < w.heap.size := by
  intro i hi
  rcases List.mem_append.1 hi with h1 | h1
  · exact own_blks h.2.1 i h1
  · obtain ⟨v, hv, h2⟩ := List.mem_flatMap.1 h1
    obtain ⟨r, hr, rfl⟩ := List.getElem_of_mem hv
    obtain ⟨_, _, _, d, ho⟩ := h.2.2.1 r hr (by rw [← h.1]; exact hr)
    exact own_blks ho i h2
theorem OwnG.rebase {w : World} {B B' c N : Nat} {a : Option Addr} {vs : List AtG} {gs : List (List N2)} (h : OwnG w B a c N vs gs) (hs : ∀ i ∈ blks a ++ innB vs, B' ≤ i) : OwnG w B' a c N vs gs :=
  ⟨h.1, own_rebase2 h.2.1 fun i hi => hs i (List.mem_append_left _ hi), fun r h1 h2 => by
    obtain ⟨e1, e2, e3, d, ho⟩ := h.2.2.1 r h1 h2
    exact ⟨e1, e2, e3, d, own_rebase2 ho fun i hi => hs i (List.mem_append_right _ (innB_mem h1 i hi))⟩, h.2.2.2⟩
theorem OwnG.below {w w' : World} {B c N : Nat} {a : Option Addr} {vs : List AtG} {gs : List (List N2)} (h : OwnG w B a c N vs gs) (hb : Below w.heap.size w w') : OwnG w' B a c N vs gs :=
  h.same fun i hi => hb.block i (h.lt i hi).2
theorem ownG_none (w : World) (B N : Nat) : OwnG w B none 0 N [] [] := ⟨rfl, World.ownsRow_nil _ _ _ _, fun r h1 => by simp at h1, List.Pairwise.nil⟩

/-- The state: the row of the graphs that were found, in its cell. -/
def AllSt (A N : Nat) (s : List (List N2)) (l : List Nat) (w : World) : Prop :=
  ∃ a c vs, l = A :: (blks a ++ innB vs) ∧ w.heap[A]? = some (.cells #[.slice a s.length c] 70 (0, 0)) ∧ OwnG w 0 a c N vs s
theorem all_keeps (A N : Nat) : Keeps (AllSt A N) := by
  refine ⟨?_, ?_⟩
  · rintro s l w w' ⟨a, c, vs, rfl, hq, h⟩ hs
    exact ⟨a, c, vs, rfl, (hs A (by simp)).trans hq, h.same fun i hi => hs i (List.mem_cons_of_mem _ hi)⟩
  · rintro s l w ⟨a, c, vs, rfl, hq, h⟩ i hi
    rcases List.mem_cons.1 hi with rfl | hi
    · exact blk_lt hq
    · exact (h.lt i hi).2
theorem own_not {w : World} {B T s n c m : Nat} {a : Option Addr} {cs : List Value} (h : w.ownsRow B T s (.slice a m c) n cs) {b : Nat} {ds : Array Value} {T2 : TypeId} {f : Nat × Nat} (hb : w.heap[b]? = some (.cells ds T2 f)) (hT : T ≠ T2) : b ∉ blks a := by
  intro hi
  obtain ⟨x, rfl, rfl⟩ := blks_mem.1 hi
  exact own_ne h hb hT (by simp [Value.ownBlock])
/-- A graph is appended and the slice stored. -/
theorem AllSt.push {A N : Nat} {s : List (List N2)} {w w0 w1 : World} {a a' ag : Option Addr} {c c' cg : Nat} {vs : List AtG} {es : List N2} (hq : w.heap[A]? = some (.cells #[.slice a s.length c] 70 (0, 0))) (h : OwnG w 0 a c N vs s)
    (hog : w.ownsRow 0 48 2 (.slice ag es.length cg) es.length (edges (en2 es))) (hne : ∀ x, ag = some x → x.block ∉ A :: (blks a ++ innB vs)) (hb : Below w.heap.size w w0)
    (ho : w1.ownsRow 0 25 2 (.slice a' (s.length + 1) c') (s.length + 1) (graphsV N vs s ++ [.int .i64 (N : Int), .slice ag es.length es.length])) (hg : w0.grownBy w1 (Value.slice a s.length c).ownBlock) (hf : ∀ x, a' = some x → (Value.slice a s.length c).ownBlock = some x.block ∨ w0.heap.size ≤ x.block) :
    ∃ l', AllSt A N (s ++ [es]) l' (w1.setCell ⟨A, 0, none⟩ (.slice a' (s.length + 1) c')) ∧ (∀ i ∈ l', i ∈ A :: (blks a ++ innB vs) ∨ w.heap.size ≤ i ∨ ∃ x, ag = some x ∧ x.block = i) ∧ FrL (A :: (blks a ++ innB vs)) w (w1.setCell ⟨A, 0, none⟩ (.slice a' (s.length + 1) c')) := by
  obtain ⟨h1, h2, h3, h4⟩ := h
  have hAa : A ∉ blks a := own_not h2 hq (by decide)
  have F : FrL (A :: blks a) w (w1.setCell ⟨A, 0, none⟩ (.slice a' (s.length + 1) c')) :=
    ((FrL.of_below hb _).trans (FrL.of_grown hg _ fun b hb' => List.mem_cons_of_mem _ (blks_own hb'))).trans (FrL.set w1 A 0 _ _ (by simp))
  have hnew : ∀ i ∈ blks a', i ∈ blks a ∨ w.heap.size ≤ i := by
    intro i hi
    obtain ⟨x, e1, e2⟩ := blks_mem.1 hi
    have hbs := hb.size
    rcases hf x e1 with h5 | h5
    · left; rw [← e2]; exact blks_own h5
    · right; omega
  have hAa' : A ∉ blks a' := fun hi => by
    rcases hnew _ hi with h5 | h5
    · exact hAa h5
    · have := blk_lt hq; omega
  have hq1 : w1.heap[A]? = some (.cells #[.slice a s.length c] 70 (0, 0)) := by
    have hq0 := blk_below hq hb
    refine blk_grown hq0 hg fun e => hAa (blks_own e.symm)
  have el : (s ++ [es]).length = s.length + 1 := by simp
  have hinn : ∀ r (e1 : r < vs.length), ∀ i ∈ blks (vs[r]'e1).1, i ∉ A :: blks a := by
    intro r e1 i hi hi2
    obtain ⟨_, _, _, d, hor⟩ := h3 r e1 (by omega)
    rcases List.mem_cons.1 hi2 with rfl | h5
    · exact own_not hor hq (by decide) hi
    · obtain ⟨x, ex, rfl⟩ := blks_mem.1 h5
      subst ex
      obtain ⟨ds, f, hq2⟩ : ∃ ds f, w.heap[x.block]? = some (.cells ds 25 f) := by
        rcases h2.2 with ⟨e, _⟩ | ⟨g, cap, cur, e, _, hg2, _⟩
        · cases e
        · cases e; exact ⟨cur, (0, 0), hg2⟩
      exact own_not hor hq2 (by decide) hi
  refine ⟨A :: (blks a' ++ innB (vs ++ [(ag, es.length)])), ⟨a', c', vs ++ [(ag, es.length)], rfl, ?_, ?_, ?_, ?_, ?_⟩, ?_, F.mono ?_⟩
  · rw [el]; exact blk_set hq1 0 _
  · simp [h1]
  · rw [el, graphsV_append N vs _ s _ h1]
    refine own_setOther ?_ A 0 _ (fun e => hAa' (blks_own e.symm))
    exact ho
  · intro r e1 e2
    by_cases hr : r < vs.length
    · have hr2 : r < s.length := by omega
      simp only [List.getElem_append_left hr, List.getElem_append_left hr2]
      obtain ⟨g1, g2, g3, d, hor⟩ := h3 r hr hr2
      exact ⟨g1, g2, g3, d, F.own hor fun x hx => hinn r hr x.block (blks_mem.2 ⟨x, hx, rfl⟩)⟩
    · have e3 : r = vs.length := by simp at e1; omega
      subst e3
      have f1 : (vs ++ [(ag, es.length)])[vs.length]'e1 = (ag, es.length) := by simp
      have f2 : (s ++ [es])[vs.length]'e2 = es := by simp [h1]
      rw [f1, f2]
      have hsh := own_shape hog
      exact ⟨Nat.le_refl _, by show es.length ≤ maxLen; omega, fun h0 => (own_nilc hog h0).1, cg, F.own hog fun x hx hi => hne x hx (by rcases List.mem_cons.1 hi with h5 | h5; rw [h5]; simp; exact List.mem_cons_of_mem _ (List.mem_append_left _ h5))⟩
  · rw [ApartG, List.pairwise_append]
    refine ⟨h4, List.pairwise_singleton _ _, ?_⟩
    intro u hu v hv i hi hi2
    rw [List.mem_singleton.1 hv] at hi2
    obtain ⟨x, hx, rfl⟩ := blks_mem.1 hi2
    exact hne x hx (List.mem_cons_of_mem _ (List.mem_append_right _ (List.mem_flatMap.2 ⟨u, hu, hi⟩)))
  · intro i hi
    rcases List.mem_cons.1 hi with rfl | hi
    · exact .inl (by simp)
    rcases List.mem_append.1 hi with h5 | h5
    · rcases hnew i h5 with h6 | h6
      · exact .inl (List.mem_cons_of_mem _ (List.mem_append_left _ h6))
      · exact .inr (.inl h6)
    · rw [innB_snoc] at h5
      rcases List.mem_append.1 h5 with h6 | h6
      · exact .inl (List.mem_cons_of_mem _ (List.mem_append_right _ h6))
      · obtain ⟨x, hx, e⟩ := blks_mem.1 h6
        exact .inr (.inr ⟨x, hx, e⟩)
  · intro i hi
    rcases List.mem_cons.1 hi with rfl | h5
    · simp
    · exact List.mem_cons_of_mem _ (List.mem_append_left _ h5)

theorem enters_all : Enters Try.prog 141 := enters Try.func141 (by kernel_rfl) rfl
set_option maxHeartbeats 2000000 in
theorem all_takes (A N : Nat) : Takes 141 #[.pointer (some ⟨A, 0, none⟩)] N 2097153 List.length (AllSt A N) (fun s x => (s ++ [x], true)) := by
  refine ⟨enters_all, ?_⟩
  rintro s l w ag cg es hsz hes ⟨a, c, vs, rfl, hq, h⟩ hog hne
  have hB := below_alloc w (.cells #[.int .i64 (N : Int), .slice ag es.length es.length] 25)
  have qb := heap_alloc_new w (.cells #[.int .i64 (N : Int), .slice ag es.length es.length] 25)
  have q1 := blk_below hq hB
  have h2 := own_below h.2.1 hB
  generalize hW : w.alloc (.cells #[.int .i64 (N : Int), .slice ag es.length es.length] 25) = W at *
  have HW := Lib.hid hW
  have g0 := blk_cell qb 0 (.int .i64 (N : Int)) rfl
  have g1 := blk_cell qb 1 (.slice ag es.length es.length) rfl
  have k0 := blk_cell q1 0 (.slice a s.length c) rfl
  have hsz : s.length < 2097153 := hsz
  have HP := Lib.hid (fun (a' : Option Addr) (c' : Nat) (w1 : World) => AllSt.push (w0 := W) (w1 := w1) (a' := a') (c' := c') hq h hog hne hB)
  have HQ := Lib.hid (fun (w1 : World) (hg : W.grownBy w1 (Value.slice a s.length c).ownBlock) => blk_grown q1 hg (own_ne h2 q1 (by decide)))
  clear hW qb hq h hog hne hB q1
  go_enter Try.func141, Try.ntmps141
  go_upto_region 1 with (fail)
  rw [HW.out]
  go_wp2_with (at_builtin; refine append1g Try.infoG _ _ rfl rfl h2 (World.grownBy.refl _ _) (Nat.zero_le _) rfl rfl rfl (by intro u hu; simp at hu; rcases hu with rfl | rfl <;> rfl) (by omega) ?_; intro a' c' w1 m1 m2 m3; have hqA := HQ.out w1 m2; have x0 := blk_cell hqA 0 _ rfl; have x1 := blk_free hqA 0; have R := Lib.hid (HP.out a' c' w1 m1 m2 m3); clear hqA m1 m2 m3)
  go_ret
  obtain ⟨l', r1, r2, r3⟩ := R.out
  exact ⟨rfl, l', r1, r2, r3⟩

theorem ClipG_any (a : Option Addr) (c n : Nat) (w : World) (_h : n ≤ c) (_hl : n ≤ 8796093022208) :
    Calls Try.prog 142 #[.slice a n c] w fun e w' => e = .returned (.slice a n n) ∧ w' = w := by
  go_enter Try.func142, Try.ntmps142
  go_wp2
  go_ret
  exact ⟨rfl, rfl⟩

/-- All realizations, where they are listed. -/
def allV (xs : List Int) : List (List N2) := if validD xs = true ∧ xs.length ≤ 5 then realsN xs else []
set_option maxHeartbeats 2000000 in
theorem implAllReals_any (a : Option Addr) (c n : Nat) (xs : List Int) (w : World) (hn : xs.length = n) (hx : Rd w a (ints xs)) (hl : n ≤ 140737488351232) (hnil : a = none → n = 0 ∧ c = 0) :
    Calls Try.prog 65 #[.slice a n c] w fun e w' => ∃ a' d vs, e = .returned (.slice a' (allV xs).length (allV xs).length) ∧ OwnG w' w.heap.size a' d n vs (allV xs) ∧ Below w.heap.size w w' := by
  have C1 := implListed_any a c n 5 xs w hn hx hl
  by_cases hv : validD xs = true ∧ n ≤ 5
  · have HR := Lib.hid (show allV xs = realsN xs by rw [allV, if_pos ⟨hv.1, by rw [hn]; exact hv.2⟩])
    have h6 := hv.2
    obtain ⟨v1, v2, v3⟩ := validD_toN hv.1
    obtain ⟨p1, p2, p3, p4, p5⟩ := pairsN_facts n (by omega)
    have hTL := toN_length xs
    have hlr := reals_len v2
    have hRE : solsN (pairsN n) (toN xs) [] = realsN xs := by rw [realsN, hn]
    have HC := fun w => implPairs_any n w (by omega)
    rw [← p1] at HC
    have hel := en2_length (pairsN n)
    rw [hel] at HC
    have hb1 : (validD xs && decide (n ≤ 5)) = true := by simp [hv.1, hv.2]
    rw [hb1] at C1
    generalize hps : pairsN n = ps at *
    generalize hrs : realsN xs = rs at *
    clear hps p1 p2 hel hb1 hv hrs
    go_enter Try.func65, Try.ntmps65
    go_wp2_with fail
    refine C1.mono ?_
    rintro e w1 ⟨rfl, hb1⟩
    clear C1
    go_wp2_with fail
    have hB2 := below_tr' hb1 (below_alloc w1 (.cells #[.slice none 0 0] 70))
    have hq := heap_alloc_new w1 (.cells #[.slice none 0 0] 70)
    have hgs := hb1.size
    have hsz : (w1.alloc (.cells #[.slice none 0 0] 70)).heap.size = w1.heap.size + 1 := by simp
    generalize w1.alloc (.cells #[.slice none 0 0] 70) = w2 at *
    generalize w1.heap.size = A at *
    refine (HC w2).mono ?_
    rintro e w3 ⟨a3, c3, rfl, ho3, hb3⟩
    have HB := below_tr' hB2 hb3
    have hq := blk_below hq hb3
    have C3 := subgraphs_any (M := 2097153) n a3 a ps.length c3 c 141 #[.pointer (some ⟨A, 0, none⟩)] ps (toN xs) [] [A] w3 (all_keeps A n) (all_takes A n) (fun s x => by simp) (by omega) rfl (by omega) (fun e he => by have := p4 e he; omega) (by omega) v3 (by rw [hRE]; simp; omega) (own_rd ho3) (fun i hi => by have := own_blks ho3 i hi; refine ⟨this.2, fun h => ?_⟩; have := List.mem_singleton.1 h; omega) (by rw [v1]; exact hx.below HB) hnil ⟨none, 0, [], rfl, hq, ownG_none _ _ _⟩
    rw [hRE, fold_all] at C3
    simp only [List.nil_append] at C3
    clear HC ho3 hb3 hx hB2 hb1 hsz
    go_wp2_with fail
    refine C3.mono ?_
    rintro e w4 ⟨⟨v, rfl⟩, l', ⟨a4, c4, vs, rfl, hq4, hO⟩, hnew, hF⟩
    have hs3 := HB.size
    have hO := hO.rebase (B' := w.heap.size) fun i hi => by
      rcases hnew i (List.mem_cons_of_mem _ hi) with h | h
      · rw [List.mem_singleton.1 h]; exact hgs
      · omega
    have k := blk_cell hq4 0 (.slice a4 rs.length c4) rfl
    have HF := Lib.hid (HB.trans (hF.below (B := w.heap.size) HB.size (fun i hi => by rw [List.mem_singleton.1 hi]; exact hgs)))
    have C5 := ClipG_any a4 c4 rs.length w4 (own_shape hO.2.1).1 (by omega)
    have HO := Lib.hid hO
    clear C3 hq4 hF hO hnew
    go_wp2_with fail
    refine C5.mono ?_
    rintro e w5 ⟨rfl, rfl⟩
    clear C5
    go_wp2
    go_ret
    exact ⟨a4, c4, vs, by rw [HR.out]; rfl, by rw [HR.out]; exact HO.out, HF.out⟩
  · have HR := Lib.hid (show allV xs = [] by rw [allV, if_neg (fun h => hv ⟨h.1, by rw [← hn]; exact h.2⟩)])
    have hb1 : (validD xs && decide (n ≤ 5)) = false := by
      cases h1 : validD xs <;> simp_all
    rw [hb1] at C1
    clear hv hx hb1
    go_enter Try.func65, Try.ntmps65
    go_wp2_with fail
    refine C1.mono ?_
    rintro e w1 ⟨rfl, hb1⟩
    clear C1
    go_wp2
    go_ret
    exact ⟨none, 0, [], by rw [HR.out]; rfl, by rw [HR.out]; exact ownG_none _ _ _, hb1⟩

end Go.Proofs.Ytjghcegacgpehaa
