
/- The program's AllMatrices. -/
import Derived.Test.YtjghcegacgpehaaNats
import Derived.Test.YtjghcegacgpehaaCube
import Derived.Test.YtjghcegacgpehaaMatW4
import Derived.Test.YtjghcegacgpehaaMargins
namespace Go.Proofs.Ytjghcegacgpehaa
open Go.RowKit

theorem Try.infoMat : (Try.prog.info? 34).map (fun i => (i.zero, i.size, i.bytes)) = some (some (.slice none 0 0), 1, 24) := by kernel_rfl
theorem Try.infoIII : Info Try.prog 63 34 (.slice none 0 0) 1 24 := ⟨Try.underlying63, Try.infoMat, rfl, by decide, by decide⟩

theorem cubeV_snoc (n : Nat) (vs : List AtM) (v : AtM) : cubeV n (vs ++ [v]) = cubeV n vs ++ [.slice v.1 n n] := by simp [cubeV]
/-- The state: the row of the matrices that were found, in its cell. -/
def AllMSt (A n : Nat) (s : Cube) (l : List Nat) (w : World) : Prop :=
  ∃ a c vs, l = A :: (blks a ++ innK vs) ∧ w.heap[A]? = some (.cells #[.slice a s.length c] 63 (0, 0)) ∧ OwnK w 0 a c n vs s
theorem allM_keeps (A n : Nat) : Keeps (AllMSt A n) := by
  refine ⟨?_, ?_⟩
  · rintro s l w w' ⟨a, c, vs, rfl, hq, h⟩ hs
    exact ⟨a, c, vs, rfl, (hs A (by simp)).trans hq, h.same fun i hi => hs i (List.mem_cons_of_mem _ hi)⟩
  · rintro s l w ⟨a, c, vs, rfl, hq, h⟩ i hi
    rcases List.mem_cons.1 hi with rfl | hi
    · exact blk_lt hq
    · exact (h.lt i hi).2
theorem mblks_not {w : World} {B n c : Nat} {a : Option Addr} {rs : List At} {m : List (List Int)} (h : OwnM w B a n c rs m) {b : Nat} {ds : Array Value} {T2 : TypeId} {f : Nat × Nat} (hb : w.heap[b]? = some (.cells ds T2 f)) (h1 : 38 ≠ T2) (h2 : 3 ≠ T2) : b ∉ mblks a rs := by
  intro hi
  rcases List.mem_append.1 hi with h3 | h3
  · exact own_not h.2.2.1 hb h1 h3
  · obtain ⟨v, hv, h4⟩ := List.mem_flatMap.1 h3
    obtain ⟨r, hr, rfl⟩ := List.getElem_of_mem hv
    exact own_not (h.2.2.2.1 r hr (by have := h.1; have := h.2.1; omega)) hb h2 h4
theorem own_obj {w : World} {B T s n c m : Nat} {x : Addr} {cs : List Value} (h : w.ownsRow B T s (.slice (some x) m c) n cs) : ∃ ds f, w.heap[x.block]? = some (.cells ds T f) := by
  rcases h.2 with ⟨e, _⟩ | ⟨g, cap, cur, e, _, hg2, _⟩
  · cases e
  · cases e; exact ⟨cur, (0, 0), hg2⟩
/-- A matrix is appended and the slice stored. -/
theorem AllMSt.push {A n : Nat} {s : Cube} {w w0 w1 : World} {a a' ag : Option Addr} {c c' : Nat} {vs : List AtM} {rsg : List At} {m : List (List Int)} (hq : w.heap[A]? = some (.cells #[.slice a s.length c] 63 (0, 0))) (h : OwnK w 0 a c n vs s)
    (hog : OwnM w 0 ag n n rsg m) (hne : ∀ i ∈ mblks ag rsg, i ∉ A :: (blks a ++ innK vs)) (hb : Below w.heap.size w w0)
    (ho : w1.ownsRow 0 34 1 (.slice a' (s.length + 1) c') (s.length + 1) (cubeV n vs ++ [.slice ag n n])) (hg : w0.grownBy w1 (Value.slice a s.length c).ownBlock) (hf : ∀ x, a' = some x → (Value.slice a s.length c).ownBlock = some x.block ∨ w0.heap.size ≤ x.block) :
    ∃ l', AllMSt A n (s ++ [m]) l' (w1.setCell ⟨A, 0, none⟩ (.slice a' (s.length + 1) c')) ∧ (∀ i ∈ l', i ∈ A :: (blks a ++ innK vs) ∨ w.heap.size ≤ i ∨ i ∈ mblks ag rsg) ∧ FrL (A :: (blks a ++ innK vs)) w (w1.setCell ⟨A, 0, none⟩ (.slice a' (s.length + 1) c')) := by
  obtain ⟨h1, h2, h3, h4⟩ := h
  have hAa : A ∉ blks a := own_not h2 hq (by decide)
  have F : FrL (A :: blks a) w (w1.setCell ⟨A, 0, none⟩ (.slice a' (s.length + 1) c')) :=
    ((FrL.of_below hb _).trans (FrL.of_grown hg _ fun b hb' => List.mem_cons_of_mem _ (blks_own hb'))).trans (FrL.set w1 A 0 _ _ (by simp))
  have hnew : ∀ i ∈ blks a', i ∈ blks a ∨ w.heap.size ≤ i := by
    intro i hi
    obtain ⟨x, e1, e2⟩ := blks_mem.1 hi
    have hbs := hb.size
    rcases hf x e1 with h5 | h5
    · left; rw [← e2]; exact blks_own h5
    · right; omega
  have hAa' : A ∉ blks a' := fun hi => by
    rcases hnew _ hi with h5 | h5
    · exact hAa h5
    · have := blk_lt hq; omega
  have hq1 : w1.heap[A]? = some (.cells #[.slice a s.length c] 63 (0, 0)) := by
    have hq0 := blk_below hq hb
    refine blk_grown hq0 hg fun e => hAa (blks_own e.symm)
  have el : (s ++ [m]).length = s.length + 1 := by simp
  have hnot : ∀ {ax : Option Addr} {rs : List At} {x : List (List Int)}, OwnM w 0 ax n n rs x → ∀ i ∈ mblks ax rs, i ∉ A :: blks a := by
    intro ax rs x hx i hi hi2
    rcases List.mem_cons.1 hi2 with rfl | h5
    · exact mblks_not hx hq (by decide) (by decide) hi
    · obtain ⟨y, ey, rfl⟩ := blks_mem.1 h5
      subst ey
      obtain ⟨ds, f, hq2⟩ := own_obj h2
      exact mblks_not hx hq2 (by decide) (by decide) hi
  refine ⟨A :: (blks a' ++ innK (vs ++ [(ag, rsg)])), ⟨a', c', vs ++ [(ag, rsg)], rfl, ?_, ?_, ?_, ?_, ?_⟩, ?_, F.mono ?_⟩
  · rw [el]; exact blk_set hq1 0 _
  · simp [h1]
  · rw [el, cubeV_snoc]
    refine own_setOther ?_ A 0 _ (fun e => hAa' (blks_own e.symm))
    exact ho
  · intro r e1 e2
    by_cases hr : r < vs.length
    · have hr2 : r < s.length := by omega
      simp only [List.getElem_append_left hr, List.getElem_append_left hr2]
      have hm := h3 r hr hr2
      exact hm.same fun i hi => F.block i (hm.blts i hi).2 (hnot hm i hi)
    · have e3 : r = vs.length := by simp at e1; omega
      subst e3
      have f1 : (vs ++ [(ag, rsg)])[vs.length]'e1 = (ag, rsg) := by simp
      have f2 : (s ++ [m])[vs.length]'e2 = m := by simp [h1]
      rw [f1, f2]
      exact hog.same fun i hi => F.block i (hog.blts i hi).2 (hnot hog i hi)
  · rw [ApartK, List.pairwise_append]
    refine ⟨h4, List.pairwise_singleton _ _, ?_⟩
    intro u hu v hv i hi hi2
    rw [List.mem_singleton.1 hv] at hi2
    exact hne i hi2 (List.mem_cons_of_mem _ (List.mem_append_right _ (List.mem_flatMap.2 ⟨u, hu, hi⟩)))
  · intro i hi
    rcases List.mem_cons.1 hi with rfl | hi
    · exact .inl (by simp)
    rcases List.mem_append.1 hi with h5 | h5
    · rcases hnew i h5 with h6 | h6
      · exact .inl (List.mem_cons_of_mem _ (List.mem_append_left _ h6))
      · exact .inr (.inl h6)
    · rw [innK_snoc] at h5
      rcases List.mem_append.1 h5 with h6 | h6
      · exact .inl (List.mem_cons_of_mem _ (List.mem_append_right _ h6))
      · exact .inr (.inr h6)
  · intro i hi
    rcases List.mem_cons.1 hi with rfl | h5
    · simp
    · exact List.mem_cons_of_mem _ (List.mem_append_left _ h5)

theorem enters_allM2 : Enters Try.prog 128 := enters Try.func128 (by kernel_rfl) rfl
theorem enters_allM1 : Enters Try.prog 127 := enters Try.func127 (by kernel_rfl) rfl
set_option maxHeartbeats 2000000 in
theorem allM_takes (A n cl : Nat) : TakesM 128 #[.pointer (some ⟨A, 0, none⟩)] n cl 2097153 List.length (AllMSt A n) (fun s x => (s ++ [x], true)) := by
  refine ⟨enters_allM2, ?_⟩
  rintro s l w ag rsg m hsz hv hc ⟨a, c, vs, rfl, hq, h⟩ hog hne
  have k0 := blk_cell hq 0 (.slice a s.length c) rfl
  have hsz : s.length < 2097153 := hsz
  have h2 := h.2.1
  have HP := Lib.hid (fun (a' : Option Addr) (c' : Nat) (w1 : World) => AllMSt.push (w0 := w) (w1 := w1) (a' := a') (c' := c') hq h hog hne (Below.refl _ _))
  have HQ := Lib.hid (fun (w1 : World) (hg : w.grownBy w1 (Value.slice a s.length c).ownBlock) => blk_grown hq hg (own_ne h2 hq (by decide)))
  clear hq h hog hne hv hc
  go_enter Try.func128, Try.ntmps128
  go_wp2_with (at_builtin; refine append1g Try.infoIII _ _ rfl rfl h2 (World.grownBy.refl _ _) (Nat.zero_le _) rfl rfl rfl (by intro u hu; simp at hu; subst hu; rfl) (by omega) ?_; intro a' c' w1 m1 m2 m3; have hqA := HQ.out w1 m2; have x0 := blk_cell hqA 0 _ rfl; have x1 := blk_free hqA 0; have R := Lib.hid (HP.out a' c' w1 m1 m2 m3); clear hqA m1 m2 m3)
  go_ret
  obtain ⟨l', r1, r2, r3⟩ := R.out
  exact ⟨rfl, l', r1, r2, r3⟩
theorem allM_may (n cl : Nat) : MayM 127 #[] n cl (fun _ _ => true) := by
  refine ⟨enters_allM1, ?_⟩
  intro w i k _ _
  go_enter Try.func127, Try.ntmps127
  go_wp2
  go_ret
  exact ⟨rfl, rfl⟩
theorem ClipK_any (a : Option Addr) (c n : Nat) (w : World) (_h : n ≤ c) (_hl : n ≤ 8796093022208) :
    Calls Try.prog 129 #[.slice a n c] w fun e w' => e = .returned (.slice a n n) ∧ w' = w := by
  go_enter Try.func129, Try.ntmps129
  go_wp2
  go_ret
  exact ⟨rfl, rfl⟩

/-- All matrices, where they are listed. -/
def allM (r c : List Int) : Cube := if vMarg r c = true ∧ r.length ≤ 4 ∧ c.length ≤ 4 then matsX (fun _ _ => true) (natsOf r) (natsOf c) else []
theorem vMarg_facts {r c : List Int} (h : vMarg r c = true) : (1 ≤ r.length ∧ r.length ≤ 5) ∧ (1 ≤ c.length ∧ c.length ≤ 5) ∧ (∀ x ∈ r, 0 ≤ x ∧ x ≤ 5) ∧ ∀ x ∈ c, 0 ≤ x ∧ x ≤ 5 := by
  rw [vMarg, Bool.and_eq_true, Bool.and_eq_true, Bool.and_eq_true, inR_true, inR_true] at h
  obtain ⟨h1, h2, h3, h4⟩ := h
  rw [allR, List.all_eq_true] at h1 h2
  refine ⟨by omega, by omega, fun x hx => ?_, fun x hx => ?_⟩
  · have := inR_true.1 (h1 x hx); omega
  · have := inR_true.1 (h2 x hx); omega
theorem natsOf_small {l : List Int} (h : ∀ x ∈ l, 0 ≤ x ∧ x ≤ 5) (v : Nat) : (natsOf l).getD v 0 ≤ 900 := by
  by_cases hv : v < l.length
  · have h1 := natsOf_at (fun x hx => (h x hx).1) hv
    have h2 := h _ (List.getElem_mem hv)
    omega
  · rw [List.getD_eq_getElem?_getD, List.getElem?_eq_none (by rw [natsOf_length]; omega)]; simp
theorem mats_len (may : Nat → Nat → Bool) {R C : List Nat} (hR : R.length ≤ 5) (hC : 1 ≤ C.length ∧ C.length ≤ 4) : (matsX may R C).length ≤ 1048576 := by
  rw [← sols_all may hC.1]
  refine Nat.le_trans (solsX_len _ _ _ _ _ _ _) ?_
  have h1 : R.length * C.length ≤ 5 * 4 := Nat.mul_le_mul hR hC.2
  exact Nat.le_trans (Nat.pow_le_pow_right (by omega) h1) (by decide)
theorem mats_size (may : Nat → Nat → Bool) {R C : List Nat} (hR : R.length ≤ 5) (hC : C.length ≤ 5) : ∀ m ∈ matsX may R C, m.length + sumLen m ≤ 1000 := by
  intro m hm
  rw [matsX, fillC_mem] at hm
  obtain ⟨Y, e, hY, hr, _⟩ := hm
  rw [List.nil_append] at e
  subst e
  have hrect : Rect m R.length C.length := ⟨hY, fun r h => (hr r h).1⟩
  rw [sumLen_rect hrect]
  have : R.length * C.length ≤ 5 * 5 := Nat.mul_le_mul hR hC
  omega
theorem allM_len (r c : List Int) : (allM r c).length ≤ 2097152 ∧ ∀ m ∈ allM r c, m.length + sumLen m ≤ 1000 := by
  rw [allM]
  split
  · rename_i h
    obtain ⟨h1, h2, _, _⟩ := vMarg_facts h.1
    refine ⟨?_, mats_size _ (by rw [natsOf_length]; omega) (by rw [natsOf_length]; omega)⟩
    have := mats_len (fun _ _ => true) (R := natsOf r) (C := natsOf c) (by rw [natsOf_length]; omega) (by rw [natsOf_length]; omega)
    omega
  · exact ⟨by simp, by simp⟩
set_option maxHeartbeats 4000000 in
theorem implAllM_any (a b : Option Addr) (ca cb n m : Nat) (r c : List Int) (w : World) (hn : r.length = n) (hm : c.length = m) (hr : Rd w a (ints r)) (hc : Rd w b (ints c)) (hl : n ≤ 1048576) (hl2 : m ≤ 1048576) :
    Calls Try.prog 54 #[.slice a n ca, .slice b m cb] w fun e w' => ∃ a', e = .returned (.slice a' (allM r c).length (allM r c).length) ∧ HoldsC w.heap.size w'.heap.size a' (allM r c) w' ∧ Below w.heap.size w w' := by
  have C1 := implVMg_any a b ca cb n m r c w hn hm hr hc (by omega) (by omega)
  by_cases hv : vMarg r c = true ∧ n ≤ 4 ∧ m ≤ 4
  · have HR := Lib.hid (show allM r c = matsX (fun _ _ => true) (natsOf r) (natsOf c) by rw [allM, if_pos ⟨hv.1, by omega, by omega⟩])
    obtain ⟨v1, v2, v3, v4⟩ := vMarg_facts hv.1
    have hd1 : decide ((4 : Int) < (n : Int)) = false := decide_eq_false (by omega)
    have hd2 : decide ((4 : Int) < (m : Int)) = false := decide_eq_false (by omega)
    rw [hv.1] at C1
    have hlr := mats_len (fun _ _ => true) (R := natsOf r) (C := natsOf c) (by rw [natsOf_length]; omega) (by rw [natsOf_length]; omega)
    have b1 := natsOf_back fun x hx => (v3 x hx).1
    have b2 := natsOf_back fun x hx => (v4 x hx).1
    have s1 := natsOf_small v3
    have s2 := natsOf_small v4
    have l1 := natsOf_length r
    have l2 := natsOf_length c
    rw [hn] at v1
    rw [hm] at v2
    generalize natsOf r = R at *
    generalize natsOf c = Cc at *
    rw [← b1] at hr
    rw [← b2] at hc
    have hd3 := hv.2
    clear hv v3 v4 b1 b2
    go_enter Try.func54, Try.ntmps54
    go_wp2_with fail
    refine C1.mono ?_
    rintro e w1 ⟨rfl, hb1⟩
    clear C1
    have hB2 := below_tr' hb1 (below_alloc w1 (.cells #[.slice none 0 0] 63))
    have hq := heap_alloc_new w1 (.cells #[.slice none 0 0] 63)
    have hgs := hb1.size
    have C3 := matrices_any (M := 2097153) a n ca b m cb 128 #[.pointer (some ⟨w1.heap.size, 0, none⟩)] 127 #[] (fun _ _ => true) R Cc [] [w1.heap.size] (w1.alloc (.cells #[.slice none 0 0] 63)) (allM_keeps w1.heap.size n) (allM_takes w1.heap.size n m) (allM_may n m) (fun s x => by simp) v1 v2 (by omega) (by omega) s1 s2 (by simp; omega) (hr.below hB2) (hc.below hB2) ⟨none, 0, [], rfl, hq, ownK_none _ _ _⟩
    rw [foldX_all] at C3
    simp only [List.nil_append] at C3
    have HB2 := Lib.hid hB2
    clear hr hc s1 s2 hq hB2
    go_wp2_with fail
    refine C3.mono ?_
    rintro e w4 ⟨⟨v, rfl⟩, l', ⟨a4, c4, vs, rfl, hq4, hO⟩, hnew, hF⟩
    have hB2 := HB2.out
    have hs3 := hB2.size
    have hO := hO.rebase (B' := w.heap.size) fun i hi => by
      rcases hnew i (List.mem_cons_of_mem _ hi) with h | h
      · rw [List.mem_singleton.1 h]; exact hgs
      · omega
    have k := blk_cell hq4 0 (.slice a4 (matsX (fun _ _ => true) R Cc).length c4) rfl
    have HF := Lib.hid (hB2.trans (hF.below (B := w.heap.size) hB2.size (fun i hi => by rw [List.mem_singleton.1 hi]; exact hgs)))
    have C5 := ClipK_any a4 c4 (matsX (fun _ _ => true) R Cc).length w4 (own_shape hO.2.1).1 (by omega)
    have HO := Lib.hid hO
    generalize (matsX (fun _ _ => true) R Cc) = ms at *
    clear C3 hq4 hF hO hnew hB2
    go_wp2_with fail
    refine C5.mono ?_
    rintro e w5 ⟨rfl, rfl⟩
    clear C5
    go_wp2
    go_ret
    exact ⟨a4, by rw [HR.out]; rfl, by rw [HR.out]; exact HoldsC.of HO.out, HF.out⟩
  · have HR := Lib.hid (show allM r c = [] by rw [allM, if_neg (fun h => hv ⟨h.1, by omega, by omega⟩)])
    have HNIL := Lib.hid (fun (w1 : World) (hb : Below w.heap.size w w1) => (show HoldsC w.heap.size w1.heap.size none [] w1 from ⟨0, 0, [], ownK_none _ _ _, fun i hi => by simp [blks, innK] at hi⟩))
    cases h1 : vMarg r c with
    | false =>
      rw [h1] at C1
      clear hv hr hc h1
      go_enter Try.func54, Try.ntmps54
      go_wp2_with fail
      refine C1.mono ?_
      rintro e w1 ⟨rfl, hb1⟩
      clear C1
      go_wp2
      go_ret
      exact ⟨none, by rw [HR.out]; rfl, by rw [HR.out]; exact HNIL.out _ hb1, hb1⟩
    | true =>
      rw [h1] at C1
      have hv2 : ¬ (n ≤ 4 ∧ m ≤ 4) := fun h => hv ⟨h1, h⟩
      clear hv hr hc h1
      by_cases h4 : n ≤ 4
      · have hd1 : decide ((4 : Int) < (n : Int)) = false := decide_eq_false (by omega)
        have hd2 : decide ((4 : Int) < (m : Int)) = true := decide_eq_true (by omega)
        clear hv2
        go_enter Try.func54, Try.ntmps54
        go_wp2_with fail
        refine C1.mono ?_
        rintro e w1 ⟨rfl, hb1⟩
        clear C1
        go_wp2
        go_ret
        exact ⟨none, by rw [HR.out]; rfl, by rw [HR.out]; exact HNIL.out _ hb1, hb1⟩
      · have hd1 : decide ((4 : Int) < (n : Int)) = true := decide_eq_true (by omega)
        clear hv2
        go_enter Try.func54, Try.ntmps54
        go_wp2_with fail
        refine C1.mono ?_
        rintro e w1 ⟨rfl, hb1⟩
        clear C1
        go_wp2
        go_ret
        exact ⟨none, by rw [HR.out]; rfl, by rw [HR.out]; exact HNIL.out _ hb1, hb1⟩

end Go.Proofs.Ytjghcegacgpehaa
