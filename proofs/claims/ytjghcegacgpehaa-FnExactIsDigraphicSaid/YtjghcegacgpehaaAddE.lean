
/- One more edge, in its place: the reference's addEdge. (Printed by gen_adde.py.) -/
import Derived.Test.YtjghcegacgpehaaValidG
import Derived.Test.YtjghcegacgpehaaCopy
namespace Go.Proofs.Ytjghcegacgpehaa
open Go.RowKit

def insK (es : List E2) (e : E2) : Nat := es.findIdx fun x => !belowE x e
def insE (es : List E2) (e : E2) : List E2 := es.take (insK es e) ++ e :: es.drop (insK es e)
theorem insK_at {es : List E2} {e : E2} {k : Nat} (h : ∀ j (_ : j < k) (hj : j < es.length), belowE (es[j]'hj) e = true) (hk : k < es.length) (h0 : belowE (es[k]'hk) e = false) : insK es e = k := by
  rw [insK, List.findIdx_eq hk]
  exact ⟨by simp [h0], fun j hj => by simp [h j hj (by omega)]⟩
theorem insK_end {es : List E2} {e : E2} {k : Nat} (h : ∀ j (_ : j < k) (hj : j < es.length), belowE (es[j]'hj) e = true) (hk : k = es.length) : insK es e = k := by
  rw [insK, hk, List.findIdx_eq_length]
  intro x hx
  obtain ⟨i, hi, rfl⟩ := List.getElem_of_mem hx
  simp [h i (by omega) hi]
theorem insE_length (es : List E2) (e : E2) : (insE es e).length = es.length + 1 := by
  have : insK es e ≤ es.length := List.findIdx_le_length
  simp [insE]; omega

theorem Rd.drop {w : World} {b off : Nat} {es : List E2} (h : Rd w (some ⟨b, off, none⟩) (edges es)) (k : Nat) : Rd w (some ⟨b, off + k * 2, none⟩) (edges (es.drop k)) := by
  intro j u hu
  have e1 : edges (es.drop k) = (edges es).drop (k * 2) := by
    clear hu h
    induction es generalizing k with
    | nil => simp [edges]
    | cons x l ih =>
      cases k with
      | zero => simp
      | succ k => rw [List.drop_succ_cons, ih k, edges_cons, show (k + 1) * 2 = k * 2 + 1 + 1 by omega, List.drop_succ_cons, List.drop_succ_cons]
  rw [e1, List.getElem?_drop] at hu
  obtain ⟨b', off', e2, hc⟩ := h _ _ hu
  cases e2
  refine ⟨b, off + k * 2, rfl, ?_⟩
  rw [Nat.add_assoc]; exact hc
theorem Rd.take {w : World} {a : Option Addr} {es : List E2} (h : Rd w a (edges es)) (k : Nat) : Rd w a (edges (es.take k)) := by
  intro j u hu
  refine h j u ?_
  have : edges es = edges (es.take k) ++ edges (es.drop k) := by rw [← edges_append, List.take_append_drop]
  rw [this, List.getElem?_append_left (List.getElem?_eq_some_iff.1 hu).1]
  exact hu

set_option maxHeartbeats 4000000 in
theorem specAddEdge_any (N : Int) (a : Option Addr) (c n : Nat) (es : List E2) (x y : Int) (w : World) (hn : es.length = n) (hx : Rd w a (edges es)) (hl : n ≤ 1048576) (hc : n ≤ c) (hcm : c ≤ 9223372036854775807) (hnil : a = none → n = 0 ∧ c = 0) (hform : ∀ ad, a = some ad → ∃ b off, ad = ⟨b, off, none⟩) (hxy : x < y) :
    Calls Try.prog 82 #[graphV N a n c, .int .i64 x, .int .i64 y] w fun e w' => ∃ a' c', e = .returned (graphV N a' (n + 1) c') ∧
      w'.ownsRow w.heap.size 48 2 (.slice a' (n + 1) c') (n + 1) (edges (insE es (x, y))) ∧ Below w.heap.size w w' := by
  have hB := below_tr' (below_alloc2 w (.cells #[.int .i64 N, .slice a n c] 25) (.cells #[.int .i64 0, .slice none 0 0] 25)) (below_alloc _ (.cells #[.int .i64 x, .int .i64 y] 48))
  have qg := blk_below (blk_below (heap_alloc_new w (.cells #[.int .i64 N, .slice a n c] 25)) (below_alloc _ (.cells #[.int .i64 0, .slice none 0 0] 25))) (below_alloc _ (.cells #[.int .i64 x, .int .i64 y] 48))
  have q1 := blk_below (heap_alloc_new (w.alloc (.cells #[.int .i64 N, .slice a n c] 25)) (.cells #[.int .i64 0, .slice none 0 0] 25)) (below_alloc _ (.cells #[.int .i64 x, .int .i64 y] 48))
  have qe := heap_alloc_new ((w.alloc (.cells #[.int .i64 N, .slice a n c] 25)).alloc (.cells #[.int .i64 0, .slice none 0 0] 25)) (.cells #[.int .i64 x, .int .i64 y] 48)
  rw [show (w.alloc (.cells #[.int .i64 N, .slice a n c] 25)).heap.size = w.heap.size + 1 from by simp] at q1
  rw [show ((w.alloc (.cells #[.int .i64 N, .slice a n c] 25)).alloc (.cells #[.int .i64 0, .slice none 0 0] 25)).heap.size = w.heap.size + 1 + 1 from by simp] at qe
  have hWs : w.heap.size + 1 + 1 < (((w.alloc (.cells #[.int .i64 N, .slice a n c] 25)).alloc (.cells #[.int .i64 0, .slice none 0 0] 25)).alloc (.cells #[.int .i64 x, .int .i64 y] 48)).heap.size := by simp
  generalize hW : ((w.alloc (.cells #[.int .i64 N, .slice a n c] 25)).alloc (.cells #[.int .i64 0, .slice none 0 0] 25)).alloc (.cells #[.int .i64 x, .int .i64 y] 48) = W at *
  have HW := Lib.hid hW
  clear hW
  have xg := hx.below hB
  clear hx
  go_enter Try.func82, Try.ntmps82
  go_wp2_with (simp only [HW.out])
  go_loopw [8] (fun i wr => ∃ k : Nat, k ≤ n ∧ i = .int .i64 k ∧ (∀ j (_ : j < k) (hj : j < es.length), belowE (es[j]'hj) (x, y) = true) ∧ Below W.heap.size W wr) (fun i _ => n - (intOf i).toNat)
  case atStart => exact ⟨0, by omega, rfl, by intro j hj; omega, Below.refl _ _⟩
  case round =>
    obtain ⟨k, hk, rfl, hall, hb⟩ := hrel
    have rg := blk_below qg hb
    have re := blk_below qe hb
    have d1 := later_cell (blk_cell rg 1 (.slice a n c) rfl)
    have d2 := later_cell (blk_cell re 0 (.int .i64 x) rfl)
    have d3 := later_cell (blk_cell re 1 (.int .i64 y) rfl)
    by_cases hlt : k < n
    · have hkl : k < es.length := by omega
      obtain ⟨b1, o1, e1, c1, c2⟩ := (xg.below hb).edge (k := k) hkl
      subst e1
      have HS := Lib.hid (insK_at (e := (x, y)) hall hkl)
      have hnx : belowE (es[k]'hkl) (x, y) = true → ∀ j (_ : j < k + 1) (hj : j < es.length), belowE (es[j]'hj) (x, y) = true := by
        intro h0 j hj h
        by_cases e : j = k
        · subst e; exact h0
        · exact hall j (by omega) h
      have HN := Lib.hid hnx
      clear hall hnx
      generalize hX : (es[k]'hkl) = X at *
      have HE := Lib.hid (fun u : Later wr => edgeBelow_any X (x, y) u.val)
      have d4 := later_cell c1
      have d5 := later_cell c2
      clear hX
      obtain ⟨X1, X2⟩ := X
      simp only at d4 d5
      cases hv : belowE (X1, X2) (x, y)
      · rw [hv] at HE
        have HS := Lib.hid (HS.out hv)
        clear HN
        go_wp2
        refine wp_region_later (by kernel_rfl) (by kernel_rfl) ?_
        repeat (go_big_quiet_step ((go_at_call 151; exact calls_later _ (HE.out _))))
        refine wpQuiet_nil ?_
        intro w1 hw'
        have hb1 := below_tr' hb (later_below hw')
        clear hw' d1 d2 d3 d4 d5
        have rg := blk_below (blk_below qg hb1) (below_alloc w1 (.cells #[] 48))
        have hoV : (w1.alloc (.cells #[] 48)).ownsRow W.heap.size 48 2 (.slice (some ⟨w1.heap.size, 0, none⟩) 0 0) 0 (edges []) := own_mono (World.ownsRow_made w1 #[] 0 (Nat.le_refl _) (by decide) rfl) hb1.size
        have hbV := below_tr' hb1 (below_alloc w1 (.cells #[] 48))
        generalize hV : w1.alloc (.cells #[] 48) = V at *
        have HV := Lib.hid hV
        have hVs := hbV.size
        have hkk : k ≤ n := hk
        have g1 := blk_cell rg 1 (.slice (some ⟨b1, o1, none⟩) n c) rfl
        have hlk : (es.take k).length = k := by rw [List.length_take]; omega
        have hrt := (xg.below hbV).take k
        clear hV
        go_wp2_with (first | simp only [HV.out] | (at_builtin; refine appendAll Try.infoE _ _ rfl rfl (m := k) hoV hrt (by rw [edges_length, hlk]) (edges_one _) (by intro h; first | (cases h; done) | exact ⟨by omega, rfl⟩) hbV (Nat.le_refl _) hVs rfl rfl (by omega) ?_; intro a2 c2 w2 ho2 hb2))
        have ho2 : w2.ownsRow W.heap.size 48 2 (.slice a2 k c2) k (edges (es.take k)) := by have h := ho2; rw [Nat.zero_add] at h; exact h
        try simp only [Nat.zero_add]
        have d1 := later_cell (blk_cell qg 0 (.int .i64 N) rfl)
        have d2 := later_cell (blk_cell qg 1 (.slice (some ⟨b1, o1, none⟩) n c) rfl)
        have d3 := later_cell (blk_cell qe 0 (.int .i64 x) rfl)
        have d4 := later_cell (blk_cell qe 1 (.int .i64 y) rfl)
        have hw2s := hb2.size
        refine wp_region_flags [true, true, true, true, false, false, true, true, true, true, false, false, false] 12 (C := fun w' => ∃ u : Later W, w' = u.val) (by kernel_rfl) (by kernel_rfl) ⟨⟨_, bel_drew hb2⟩, rfl⟩ ?_
        simp only [pickT, pickF]
        repeat (go_big_quiet_step (fail))
        refine wpQuiet_nil ?_
        refine tail_step fun K hK => ?_
        go_wp2
        refine hK _ _ ⟨⟨_, bel_drew (hb2.alloc hw2s _)⟩, rfl⟩ ?_
        clear hK d1 d2 d3 d4
        refine tail_step fun K2 hK2 => ?_
        change wpList _ _ _ _ _ (w2.drew.alloc (.cells #[.int .i64 x, .int .i64 y] 48))
        refine append1 Try.infoE _ _ rfl rfl ho2.drew (bel_drew hb2) (Nat.le_refl _) hw2s rfl rfl rfl (by intro u hu; simp at hu; rcases hu with rfl | rfl <;> rfl) (by omega) ?_
        intro a3 c3 w3 ho3 hb3
        refine wpList_nil ⟨rfl, hK2 _ _ ⟨⟨_, hb3⟩, rfl⟩ ?_⟩
        clear hK2
        have hdl : (es.drop k).length = (n - k) := by rw [List.length_drop, hn]
        refine tail_step fun K3 hK3 => ?_
        refine appendAll Try.infoE _ _ rfl rfl (m := (n - k)) (b := (some ⟨b1, o1 + k * 2, none⟩)) (ys := edges (es.drop k)) ho3 (by first | exact (xg.below hb3).drop k | (rw [List.drop_of_length_le (by omega)]; exact Rd.nil _ _)) (by rw [edges_length, hdl]) (edges_one _) (by intro h; first | (cases h; done) | exact ⟨by omega, rfl⟩) hb3 (Nat.le_refl _) hb3.size rfl rfl (by omega) ?_
        intro a4 c4 w4 ho4 hb4
        refine wpList_nil ⟨rfl, hK3 _ _ ⟨⟨_, hb4⟩, rfl⟩ ?_⟩
        clear hK3
        have e9 : k + 1 + (n - k) = n + 1 := by omega
        rw [e9] at ho4
        simp only [e9]
        have hIns : edges (es.take k) ++ [Value.int .i64 x, Value.int .i64 y] ++ edges (es.drop k) = edges (insE es (x, y)) := by
          rw [insE, HS.out, edges_append, edges_cons, List.append_assoc]; rfl
        have ho5 : w4.ownsRow W.heap.size 48 2 (.slice a4 (n + 1) c4) (n + 1) (edges (insE es (x, y))) := by rw [← hIns]; exact ho4
        refine tail_step fun K4 hK4 => ?_
        go_wp2
        refine hK4 _ _ ⟨⟨_, hb4⟩, rfl⟩ ?_
        clear hK4
        refine tail_last fun K5 hK5 => ?_
        have r1 := blk_below q1 hb4
        have z0 := blk_cell r1 0 (.int .i64 0) rfl
        have z1 := blk_cell r1 1 (.slice none 0 0) rfl
        have f0 := blk_free r1 0
        have f1 := blk_free r1 1
        have ho6 := own_mono ho5 hB.size
        have sO := own_setOther (own_setOther ho6 (w.heap.size + 1) 0 (.int .i64 N) (own_ne ho6 r1 (by decide))) (w.heap.size + 1) 1 (.slice a4 (n + 1) c4) (own_ne ho6 r1 (by decide))
        have sB := ((below_tr' hB hb4).setCell (p := ⟨w.heap.size + 1, 0, none⟩) (by simp) (.int .i64 N)).setCell (p := ⟨w.heap.size + 1, 1, none⟩) (by simp) (.slice a4 (n + 1) c4)
        have SO := Lib.hid sO
        have SB := Lib.hid sB
        clear sO sB ho4 ho5 ho6 hIns
        go_wp2
        refine bodyPost_ret (v := graphV N a4 (n + 1) c4) (by simp [results, Try.results82, go_sem, z0, z1]) rfl ⟨a4, c4, rfl, SO.out, SB.out⟩
      · rw [hv] at HE
        have HN := Lib.hid (HN.out hv)
        clear HS
        go_wp2
        refine wp_region_later (by kernel_rfl) (by kernel_rfl) ?_
        repeat (go_big_quiet_step ((go_at_call 151; exact calls_later _ (HE.out _))))
        refine wpQuiet_nil ?_
        intro w1 hw'
        have hb1 := below_tr' hb (later_below hw')
        clear hw' d1 d2 d3 d4 d5
        go_wp2
        go_roundw
        case rel => exact ⟨k + 1, by omega, by go_num, HN.out, hb1⟩
        case measure => simp [intOf]; omega
    · have HS := Lib.hid (insK_end (e := (x, y)) hall (by omega))
      clear hall
      rcases a with _ | ad
      · obtain ⟨rfl, rfl⟩ := hnil rfl
        obtain rfl : k = 0 := by omega
        go_wp2
        refine wp_region_later (by kernel_rfl) (by kernel_rfl) ?_
        repeat (go_big_quiet_step (fail))
        refine wpQuiet_nil ?_
        intro w1 hw'
        have hb1 := below_tr' hb (later_below hw')
        clear hw' d1 d2 d3
        have rg := blk_below (blk_below qg hb1) (below_alloc w1 (.cells #[] 48))
        have hoV : (w1.alloc (.cells #[] 48)).ownsRow W.heap.size 48 2 (.slice (some ⟨w1.heap.size, 0, none⟩) 0 0) 0 (edges []) := own_mono (World.ownsRow_made w1 #[] 0 (Nat.le_refl _) (by decide) rfl) hb1.size
        have hbV := below_tr' hb1 (below_alloc w1 (.cells #[] 48))
        generalize hV : w1.alloc (.cells #[] 48) = V at *
        have HV := Lib.hid hV
        have hVs := hbV.size
        have hkk : 0 ≤ 0 := hk
        have g1 := blk_cell rg 1 (.slice none 0 0) rfl
        have hlk : (es.take 0).length = 0 := by rw [List.length_take]; omega
        have hrt := (xg.below hbV).take 0
        clear hV
        go_wp2_with (first | simp only [HV.out] | (at_builtin; refine appendAll Try.infoE _ _ rfl rfl (m := 0) hoV hrt (by rw [edges_length, hlk]) (edges_one _) (by intro h; first | (cases h; done) | exact ⟨by omega, rfl⟩) hbV (Nat.le_refl _) hVs rfl rfl (by omega) ?_; intro a2 c2 w2 ho2 hb2))
        have ho2 : w2.ownsRow W.heap.size 48 2 (.slice a2 0 c2) 0 (edges (es.take 0)) := by have h := ho2; rw [Nat.zero_add] at h; exact h
        try simp only [Nat.zero_add]
        have d1 := later_cell (blk_cell qg 0 (.int .i64 N) rfl)
        have d2 := later_cell (blk_cell qg 1 (.slice none 0 0) rfl)
        have d3 := later_cell (blk_cell qe 0 (.int .i64 x) rfl)
        have d4 := later_cell (blk_cell qe 1 (.int .i64 y) rfl)
        have hw2s := hb2.size
        refine wp_region_flags [true, true, true, true, false, false, true, true, true, true, false, false, false] 12 (C := fun w' => ∃ u : Later W, w' = u.val) (by kernel_rfl) (by kernel_rfl) ⟨⟨_, bel_drew hb2⟩, rfl⟩ ?_
        simp only [pickT, pickF]
        repeat (go_big_quiet_step (fail))
        refine wpQuiet_nil ?_
        refine tail_step fun K hK => ?_
        go_wp2
        refine hK _ _ ⟨⟨_, bel_drew (hb2.alloc hw2s _)⟩, rfl⟩ ?_
        clear hK d1 d2 d3 d4
        refine tail_step fun K2 hK2 => ?_
        change wpList _ _ _ _ _ (w2.drew.alloc (.cells #[.int .i64 x, .int .i64 y] 48))
        refine append1 Try.infoE _ _ rfl rfl ho2.drew (bel_drew hb2) (Nat.le_refl _) hw2s rfl rfl rfl (by intro u hu; simp at hu; rcases hu with rfl | rfl <;> rfl) (by omega) ?_
        intro a3 c3 w3 ho3 hb3
        refine wpList_nil ⟨rfl, hK2 _ _ ⟨⟨_, hb3⟩, rfl⟩ ?_⟩
        clear hK2
        have hdl : (es.drop 0).length = (0 - 0) := by rw [List.length_drop, hn]
        refine tail_step fun K3 hK3 => ?_
        refine appendAll Try.infoE _ _ rfl rfl (m := (0 - 0)) (b := none) (ys := edges (es.drop 0)) ho3 (by first | exact (xg.below hb3).drop 0 | (rw [List.drop_of_length_le (by omega)]; exact Rd.nil _ _)) (by rw [edges_length, hdl]) (edges_one _) (by intro h; first | (cases h; done) | exact ⟨by omega, rfl⟩) hb3 (Nat.le_refl _) hb3.size rfl rfl (by omega) ?_
        intro a4 c4 w4 ho4 hb4
        refine wpList_nil ⟨rfl, hK3 _ _ ⟨⟨_, hb4⟩, rfl⟩ ?_⟩
        clear hK3
        have e9 : 0 + 1 + (0 - 0) = 0 + 1 := by omega
        rw [e9] at ho4
        simp only [e9]
        have hIns : edges (es.take 0) ++ [Value.int .i64 x, Value.int .i64 y] ++ edges (es.drop 0) = edges (insE es (x, y)) := by
          rw [insE, HS.out, edges_append, edges_cons, List.append_assoc]; rfl
        have ho5 : w4.ownsRow W.heap.size 48 2 (.slice a4 (0 + 1) c4) (0 + 1) (edges (insE es (x, y))) := by rw [← hIns]; exact ho4
        refine tail_step fun K4 hK4 => ?_
        go_wp2
        refine hK4 _ _ ⟨⟨_, hb4⟩, rfl⟩ ?_
        clear hK4
        refine tail_last fun K5 hK5 => ?_
        have r1 := blk_below q1 hb4
        have z0 := blk_cell r1 0 (.int .i64 0) rfl
        have z1 := blk_cell r1 1 (.slice none 0 0) rfl
        have f0 := blk_free r1 0
        have f1 := blk_free r1 1
        have ho6 := own_mono ho5 hB.size
        have sO := own_setOther (own_setOther ho6 (w.heap.size + 1) 0 (.int .i64 N) (own_ne ho6 r1 (by decide))) (w.heap.size + 1) 1 (.slice a4 (0 + 1) c4) (own_ne ho6 r1 (by decide))
        have sB := ((below_tr' hB hb4).setCell (p := ⟨w.heap.size + 1, 0, none⟩) (by simp) (.int .i64 N)).setCell (p := ⟨w.heap.size + 1, 1, none⟩) (by simp) (.slice a4 (0 + 1) c4)
        have SO := Lib.hid sO
        have SB := Lib.hid sB
        clear sO sB ho4 ho5 ho6 hIns
        go_wp2
        refine bodyPost_ret (v := graphV N a4 (0 + 1) c4) (by simp [results, Try.results82, go_sem, z0, z1]) rfl ⟨a4, c4, rfl, SO.out, SB.out⟩
      · obtain ⟨b1, o1, rfl⟩ := hform _ rfl
        by_cases hck : k < c
        · go_wp2
          refine wp_region_later (by kernel_rfl) (by kernel_rfl) ?_
          repeat (go_big_quiet_step (fail))
          refine wpQuiet_nil ?_
          intro w1 hw'
          have hb1 := below_tr' hb (later_below hw')
          clear hw' d1 d2 d3
          have rg := blk_below (blk_below qg hb1) (below_alloc w1 (.cells #[] 48))
          have hoV : (w1.alloc (.cells #[] 48)).ownsRow W.heap.size 48 2 (.slice (some ⟨w1.heap.size, 0, none⟩) 0 0) 0 (edges []) := own_mono (World.ownsRow_made w1 #[] 0 (Nat.le_refl _) (by decide) rfl) hb1.size
          have hbV := below_tr' hb1 (below_alloc w1 (.cells #[] 48))
          generalize hV : w1.alloc (.cells #[] 48) = V at *
          have HV := Lib.hid hV
          have hVs := hbV.size
          have hkk : k ≤ n := hk
          have g1 := blk_cell rg 1 (.slice (some ⟨b1, o1, none⟩) n c) rfl
          have hlk : (es.take k).length = k := by rw [List.length_take]; omega
          have hrt := (xg.below hbV).take k
          clear hV
          go_wp2_with (first | simp only [HV.out] | (at_builtin; refine appendAll Try.infoE _ _ rfl rfl (m := k) hoV hrt (by rw [edges_length, hlk]) (edges_one _) (by intro h; first | (cases h; done) | exact ⟨by omega, rfl⟩) hbV (Nat.le_refl _) hVs rfl rfl (by omega) ?_; intro a2 c2 w2 ho2 hb2))
          have ho2 : w2.ownsRow W.heap.size 48 2 (.slice a2 k c2) k (edges (es.take k)) := by have h := ho2; rw [Nat.zero_add] at h; exact h
          try simp only [Nat.zero_add]
          have d1 := later_cell (blk_cell qg 0 (.int .i64 N) rfl)
          have d2 := later_cell (blk_cell qg 1 (.slice (some ⟨b1, o1, none⟩) n c) rfl)
          have d3 := later_cell (blk_cell qe 0 (.int .i64 x) rfl)
          have d4 := later_cell (blk_cell qe 1 (.int .i64 y) rfl)
          have hw2s := hb2.size
          refine wp_region_flags [true, true, true, true, false, false, true, true, true, true, false, false, false] 12 (C := fun w' => ∃ u : Later W, w' = u.val) (by kernel_rfl) (by kernel_rfl) ⟨⟨_, bel_drew hb2⟩, rfl⟩ ?_
          simp only [pickT, pickF]
          repeat (go_big_quiet_step (fail))
          refine wpQuiet_nil ?_
          refine tail_step fun K hK => ?_
          go_wp2
          refine hK _ _ ⟨⟨_, bel_drew (hb2.alloc hw2s _)⟩, rfl⟩ ?_
          clear hK d1 d2 d3 d4
          refine tail_step fun K2 hK2 => ?_
          change wpList _ _ _ _ _ (w2.drew.alloc (.cells #[.int .i64 x, .int .i64 y] 48))
          refine append1 Try.infoE _ _ rfl rfl ho2.drew (bel_drew hb2) (Nat.le_refl _) hw2s rfl rfl rfl (by intro u hu; simp at hu; rcases hu with rfl | rfl <;> rfl) (by omega) ?_
          intro a3 c3 w3 ho3 hb3
          refine wpList_nil ⟨rfl, hK2 _ _ ⟨⟨_, hb3⟩, rfl⟩ ?_⟩
          clear hK2
          have hdl : (es.drop k).length = (n - k) := by rw [List.length_drop, hn]
          refine tail_step fun K3 hK3 => ?_
          refine appendAll Try.infoE _ _ rfl rfl (m := (n - k)) (b := (some ⟨b1, o1 + k * 2, none⟩)) (ys := edges (es.drop k)) ho3 (by first | exact (xg.below hb3).drop k | (rw [List.drop_of_length_le (by omega)]; exact Rd.nil _ _)) (by rw [edges_length, hdl]) (edges_one _) (by intro h; first | (cases h; done) | exact ⟨by omega, rfl⟩) hb3 (Nat.le_refl _) hb3.size rfl rfl (by omega) ?_
          intro a4 c4 w4 ho4 hb4
          refine wpList_nil ⟨rfl, hK3 _ _ ⟨⟨_, hb4⟩, rfl⟩ ?_⟩
          clear hK3
          have e9 : k + 1 + (n - k) = n + 1 := by omega
          rw [e9] at ho4
          simp only [e9]
          have hIns : edges (es.take k) ++ [Value.int .i64 x, Value.int .i64 y] ++ edges (es.drop k) = edges (insE es (x, y)) := by
            rw [insE, HS.out, edges_append, edges_cons, List.append_assoc]; rfl
          have ho5 : w4.ownsRow W.heap.size 48 2 (.slice a4 (n + 1) c4) (n + 1) (edges (insE es (x, y))) := by rw [← hIns]; exact ho4
          refine tail_step fun K4 hK4 => ?_
          go_wp2
          refine hK4 _ _ ⟨⟨_, hb4⟩, rfl⟩ ?_
          clear hK4
          refine tail_last fun K5 hK5 => ?_
          have r1 := blk_below q1 hb4
          have z0 := blk_cell r1 0 (.int .i64 0) rfl
          have z1 := blk_cell r1 1 (.slice none 0 0) rfl
          have f0 := blk_free r1 0
          have f1 := blk_free r1 1
          have ho6 := own_mono ho5 hB.size
          have sO := own_setOther (own_setOther ho6 (w.heap.size + 1) 0 (.int .i64 N) (own_ne ho6 r1 (by decide))) (w.heap.size + 1) 1 (.slice a4 (n + 1) c4) (own_ne ho6 r1 (by decide))
          have sB := ((below_tr' hB hb4).setCell (p := ⟨w.heap.size + 1, 0, none⟩) (by simp) (.int .i64 N)).setCell (p := ⟨w.heap.size + 1, 1, none⟩) (by simp) (.slice a4 (n + 1) c4)
          have SO := Lib.hid sO
          have SB := Lib.hid sB
          clear sO sB ho4 ho5 ho6 hIns
          go_wp2
          refine bodyPost_ret (v := graphV N a4 (n + 1) c4) (by simp [results, Try.results82, go_sem, z0, z1]) rfl ⟨a4, c4, rfl, SO.out, SB.out⟩
        · obtain rfl : k = c := by omega
          go_wp2
          refine wp_region_later (by kernel_rfl) (by kernel_rfl) ?_
          repeat (go_big_quiet_step (fail))
          refine wpQuiet_nil ?_
          intro w1 hw'
          have hb1 := below_tr' hb (later_below hw')
          clear hw' d1 d2 d3
          have rg := blk_below (blk_below qg hb1) (below_alloc w1 (.cells #[] 48))
          have hoV : (w1.alloc (.cells #[] 48)).ownsRow W.heap.size 48 2 (.slice (some ⟨w1.heap.size, 0, none⟩) 0 0) 0 (edges []) := own_mono (World.ownsRow_made w1 #[] 0 (Nat.le_refl _) (by decide) rfl) hb1.size
          have hbV := below_tr' hb1 (below_alloc w1 (.cells #[] 48))
          generalize hV : w1.alloc (.cells #[] 48) = V at *
          have HV := Lib.hid hV
          have hVs := hbV.size
          have hkk : k ≤ n := hk
          have g1 := blk_cell rg 1 (.slice (some ⟨b1, o1, none⟩) n k) rfl
          have hlk : (es.take k).length = k := by rw [List.length_take]; omega
          have hrt := (xg.below hbV).take k
          clear hV
          go_wp2_with (first | simp only [HV.out] | (at_builtin; refine appendAll Try.infoE _ _ rfl rfl (m := k) hoV hrt (by rw [edges_length, hlk]) (edges_one _) (by intro h; first | (cases h; done) | exact ⟨by omega, rfl⟩) hbV (Nat.le_refl _) hVs rfl rfl (by omega) ?_; intro a2 c2 w2 ho2 hb2))
          have ho2 : w2.ownsRow W.heap.size 48 2 (.slice a2 k c2) k (edges (es.take k)) := by have h := ho2; rw [Nat.zero_add] at h; exact h
          try simp only [Nat.zero_add]
          have d1 := later_cell (blk_cell qg 0 (.int .i64 N) rfl)
          have d2 := later_cell (blk_cell qg 1 (.slice (some ⟨b1, o1, none⟩) n k) rfl)
          have d3 := later_cell (blk_cell qe 0 (.int .i64 x) rfl)
          have d4 := later_cell (blk_cell qe 1 (.int .i64 y) rfl)
          have hw2s := hb2.size
          refine wp_region_flags [true, true, true, true, false, false, true, true, true, true, false, false, false] 12 (C := fun w' => ∃ u : Later W, w' = u.val) (by kernel_rfl) (by kernel_rfl) ⟨⟨_, bel_drew hb2⟩, rfl⟩ ?_
          simp only [pickT, pickF]
          repeat (go_big_quiet_step (fail))
          refine wpQuiet_nil ?_
          refine tail_step fun K hK => ?_
          go_wp2
          refine hK _ _ ⟨⟨_, bel_drew (hb2.alloc hw2s _)⟩, rfl⟩ ?_
          clear hK d1 d2 d3 d4
          refine tail_step fun K2 hK2 => ?_
          change wpList _ _ _ _ _ (w2.drew.alloc (.cells #[.int .i64 x, .int .i64 y] 48))
          refine append1 Try.infoE _ _ rfl rfl ho2.drew (bel_drew hb2) (Nat.le_refl _) hw2s rfl rfl rfl (by intro u hu; simp at hu; rcases hu with rfl | rfl <;> rfl) (by omega) ?_
          intro a3 c3 w3 ho3 hb3
          refine wpList_nil ⟨rfl, hK2 _ _ ⟨⟨_, hb3⟩, rfl⟩ ?_⟩
          clear hK2
          have hdl : (es.drop k).length = 0 := by rw [List.length_drop, hn]; omega
          refine tail_step fun K3 hK3 => ?_
          refine appendAll Try.infoE _ _ rfl rfl (m := 0) (b := (some ⟨b1, o1, none⟩)) (ys := edges (es.drop k)) ho3 (by first | exact (xg.below hb3).drop k | (rw [List.drop_of_length_le (by omega)]; exact Rd.nil _ _)) (by rw [edges_length, hdl]) (edges_one _) (by intro h; first | (cases h; done) | exact ⟨by omega, rfl⟩) hb3 (Nat.le_refl _) hb3.size rfl rfl (by omega) ?_
          intro a4 c4 w4 ho4 hb4
          refine wpList_nil ⟨rfl, hK3 _ _ ⟨⟨_, hb4⟩, rfl⟩ ?_⟩
          clear hK3
          have e9 : k + 1 + 0 = n + 1 := by omega
          rw [e9] at ho4
          simp only [e9]
          have hIns : edges (es.take k) ++ [Value.int .i64 x, Value.int .i64 y] ++ edges (es.drop k) = edges (insE es (x, y)) := by
            rw [insE, HS.out, edges_append, edges_cons, List.append_assoc]; rfl
          have ho5 : w4.ownsRow W.heap.size 48 2 (.slice a4 (n + 1) c4) (n + 1) (edges (insE es (x, y))) := by rw [← hIns]; exact ho4
          refine tail_step fun K4 hK4 => ?_
          go_wp2
          refine hK4 _ _ ⟨⟨_, hb4⟩, rfl⟩ ?_
          clear hK4
          refine tail_last fun K5 hK5 => ?_
          have r1 := blk_below q1 hb4
          have z0 := blk_cell r1 0 (.int .i64 0) rfl
          have z1 := blk_cell r1 1 (.slice none 0 0) rfl
          have f0 := blk_free r1 0
          have f1 := blk_free r1 1
          have ho6 := own_mono ho5 hB.size
          have sO := own_setOther (own_setOther ho6 (w.heap.size + 1) 0 (.int .i64 N) (own_ne ho6 r1 (by decide))) (w.heap.size + 1) 1 (.slice a4 (n + 1) c4) (own_ne ho6 r1 (by decide))
          have sB := ((below_tr' hB hb4).setCell (p := ⟨w.heap.size + 1, 0, none⟩) (by simp) (.int .i64 N)).setCell (p := ⟨w.heap.size + 1, 1, none⟩) (by simp) (.slice a4 (n + 1) c4)
          have SO := Lib.hid sO
          have SB := Lib.hid sB
          clear sO sB ho4 ho5 ho6 hIns
          go_wp2
          refine bodyPost_ret (v := graphV N a4 (n + 1) c4) (by simp [results, Try.results82, go_sem, z0, z1]) rfl ⟨a4, c4, rfl, SO.out, SB.out⟩

end Go.Proofs.Ytjghcegacgpehaa
