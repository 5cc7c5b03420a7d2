
/- Copies of matrices, and stores into them. -/
import Derived.Test.YtjghcegacgpehaaTrans
import Derived.Test.YtjghcegacgpehaaClone
import Derived.Test.YtjghcegacgpehaaGrowL
namespace Go.Proofs.Ytjghcegacgpehaa
open Go.RowKit

theorem tbl_self {m : List (List Int)} (hv : validM m = true) : tbl m.length (colsOf m) (at2 m) = m := by
  apply List.ext_getElem
  · exact tbl_length _ _ _
  · intro i h1 h2
    have hl := (validM_row hv h2).1
    have e : (tbl m.length (colsOf m) (at2 m))[i]'h1 = rowF (at2 m i) (colsOf m) := by simp [tbl]
    rw [e]
    apply List.ext_getElem
    · rw [rowF_length]; exact hl.symm
    · intro k h3 h4
      rw [← at2_get h2 h4]
      simp [rowF]

def Rect (m : List (List Int)) (n cl : Nat) : Prop := m.length = n ∧ ∀ r (h : r < m.length), (m[r]'h).length = cl
theorem rect_of {m : List (List Int)} (hv : validM m = true) : Rect m m.length (colsOf m) := ⟨rfl, fun _ h => (validM_row hv h).1⟩

def set2 (m : List (List Int)) (i k : Nat) (v : Int) : List (List Int) := m.set i ((m.getD i []).set k v)
theorem Rect.set2 {m : List (List Int)} {n cl : Nat} (h : Rect m n cl) (i k : Nat) (v : Int) : Rect (set2 m i k v) n cl := by
  refine ⟨by simp [Proofs.Ytjghcegacgpehaa.set2, h.1], ?_⟩
  intro r hr
  have hr' : r < m.length := by simpa [Proofs.Ytjghcegacgpehaa.set2] using hr
  by_cases e : i = r
  · subst e
    have e2 : m.getD i [] = m[i]'hr' := by rw [List.getD, List.getElem?_eq_getElem hr']; rfl
    simp only [Proofs.Ytjghcegacgpehaa.set2, List.getElem_set_self, List.length_set, e2]
    exact h.2 i hr'
  · simp only [Proofs.Ytjghcegacgpehaa.set2, List.getElem_set_ne e]
    exact h.2 r hr'
theorem sumLen_rect {m : List (List Int)} {n cl : Nat} (h : Rect m n cl) : sumLen m = n * cl := by
  obtain ⟨h1, h2⟩ := h
  subst h1
  induction m with
  | nil => simp [sumLen]
  | cons x l ih =>
    have e := h2 0 (by simp)
    have e' : x.length = cl := e
    have := ih (fun r hr => h2 (r + 1) (by simpa using hr))
    have e3 : sumLen (x :: l) = x.length + sumLen l := by simp [sumLen]
    rw [e3, this, e', List.length_cons, Nat.succ_mul]; omega

/-- The block and the capacity of an inner row. -/
def rowB (rs : List At) (i : Nat) : Nat := match rs[i]? with | some (some x, _) => x.block | _ => 0
def rowC (rs : List At) (i : Nat) : Nat := match rs[i]? with | some (_, c) => c | _ => 0

theorem OwnM.rowAt {w : World} {B g n c cl : Nat} {rs : List At} {m : List (List Int)} (h : OwnM w B (some ⟨g, 0, none⟩) n c rs m) (hr : Rect m n cl) (hcl : 0 < cl) {i : Nat} (hi : i < n) :
    ∃ (h1 : i < rs.length) (h2 : i < m.length), (m[i]'h2).length = cl ∧ rs[i]'h1 = (some ⟨rowB rs i, 0, none⟩, rowC rs i) ∧ w.ownsRow B 3 1 (.slice (some ⟨rowB rs i, 0, none⟩) cl (rowC rs i)) cl (ints (m[i]'h2)) := by
  have h1 : i < rs.length := by rw [h.1]; exact hi
  have h2 : i < m.length := by rw [h.2.1]; exact hi
  have hl := hr.2 i h2
  have ho := h.2.2.2.1 i h1 h2
  rw [hl] at ho
  obtain ⟨gr, e, _, _⟩ := own_head ho hcl
  have e2 : rs[i]'h1 = (some ⟨rowB rs i, 0, none⟩, rowC rs i) := by
    have e3 : rs[i]? = some (rs[i]'h1) := List.getElem?_eq_getElem h1
    have e4 : rs[i]'h1 = (some ⟨gr, 0, none⟩, (rs[i]'h1).2) := by rw [← e]
    have e5 : rowB rs i = gr := by unfold rowB; rw [e3, e4]
    have e6 : rowC rs i = (rs[i]'h1).2 := by unfold rowC; rw [e3]
    rw [e5, e6]; exact e4
  refine ⟨h1, h2, hl, e2, ?_⟩
  rw [e2] at ho
  exact ho
theorem OwnM.cellRow {w : World} {B g n c cl : Nat} {rs : List At} {m : List (List Int)} (h : OwnM w B (some ⟨g, 0, none⟩) n c rs m) (hr : Rect m n cl) (hcl : 0 < cl) {i : Nat} (hi : i < n) :
    w.cell? ⟨g, i, none⟩ = some (.slice (some ⟨rowB rs i, 0, none⟩) cl (rowC rs i)) := by
  obtain ⟨h1, h2, hl, e, _⟩ := h.rowAt hr hcl hi
  have := h.2.2.1.cellAt i (by omega)
  rw [this, rowVs_get rs m i h1 h2, hl, e]
theorem OwnM.cellNum {w : World} {B g n c cl : Nat} {rs : List At} {m : List (List Int)} (h : OwnM w B (some ⟨g, 0, none⟩) n c rs m) (hr : Rect m n cl) {i k : Nat} (hi : i < n) (hk : k < cl) :
    w.cell? ⟨rowB rs i, k, none⟩ = some (.int .i64 (at2 m i k)) ∧ w.frozen? ⟨rowB rs i, k, none⟩ = false ∧ B ≤ rowB rs i ∧ g ≠ rowB rs i := by
  obtain ⟨h1, h2, hl, e, ho⟩ := h.rowAt hr (by omega) hi
  refine ⟨?_, ho.frozenAt k, (own_lt ho ⟨rowB rs i, 0, none⟩ rfl).1, ?_⟩
  · rw [ho.cellAt k (by omega)]
    exact ints_get _ _ _ (by rw [at2_get h2 (by omega), List.getElem?_eq_getElem])
  · have := own_kinds ho h.2.2.1 (by decide)
    simpa [Value.ownBlock] using this
theorem OwnM.put {w : World} {B g n c cl : Nat} {rs : List At} {m : List (List Int)} (h : OwnM w B (some ⟨g, 0, none⟩) n c rs m) (hr : Rect m n cl) {i k : Nat} (hi : i < n) (hk : k < cl) (v : Int) :
    OwnM (w.setCell ⟨rowB rs i, k, none⟩ (.int .i64 v)) B (some ⟨g, 0, none⟩) n c rs (set2 m i k v) := by
  obtain ⟨h1, h2, hl, e, ho⟩ := h.rowAt hr (by omega) hi
  obtain ⟨p1, p2, p3, p4, p5⟩ := h
  have hs := ho.stored k (.int .i64 v)
  have hg : w.grownBy (w.setCell ⟨rowB rs i, k, none⟩ (.int .i64 v)) (Value.slice (some ⟨rowB rs i, 0, none⟩) cl (rowC rs i)).ownBlock := hs.2
  have e2 : m.getD i [] = m[i]'h2 := by rw [List.getD, List.getElem?_eq_getElem h2]; rfl
  refine ⟨p1, by simpa [set2] using p2, ?_, ?_, p5⟩
  · rw [set2, e2, rowVs_set _ _ _ _ (by omega) h2 (by simp)]
    exact own_kept_kind p3 ho (by decide) hg
  · intro j hj hj'
    have hj2 : j < m.length := by simpa [set2] using hj'
    by_cases e3 : i = j
    · subst e3
      have e4 : (set2 m i k v)[i]'hj' = (m[i]'h2).set k v := by simp only [set2, e2, List.getElem_set_self]
      rw [e4, List.length_set, hl, e]
      have e5 : ints ((m[i]'h2).set k v) = (ints (m[i]'h2)).set k (.int .i64 v) := by simp [ints, List.map_set]
      rw [e5]
      exact hs.1
    · have e4 : (set2 m i k v)[j]'hj' = m[j]'hj2 := by simp only [set2, List.getElem_set_ne e3]
      rw [e4]
      refine own_kept (p4 j hj hj2) hg ?_
      have e6 : (rs[i]'h1).1 = some ⟨rowB rs i, 0, none⟩ := by rw [e]
      rw [← e6]
      rcases Nat.lt_or_gt_of_ne e3 with h6 | h6
      · exact (p5 i j h6 hj).symm
      · exact p5 j i h6 h1

theorem enters_copy : Enters Try.prog 175 := enters Try.func175 (by kernel_rfl) rfl
theorem copy1_any (p : Nat) (a : Option Addr) (c n : Nat) (m : List (List Int)) (i k : Nat) (w : World) (hv : validM m = true) (hn : m.length = n) (hp : w.cell? ⟨p, 0, none⟩ = some (.slice a n c)) (hx : RdM w a m) (hi : i < m.length) (hk : k < colsOf m) :
    Calls Try.prog 175 #[.int .i64 i, .int .i64 k, .pointer (some ⟨p, 0, none⟩)] w fun e w' => e = .returned (.int .i64 (at2 m i k)) ∧ w' = w := by
  obtain ⟨b, off, bi, oi, ci, rfl, c1, c2⟩ := hx.num hv hi hk
  have h5 := validM_cols hv
  generalize at2 m i k = X at *
  generalize colsOf m = cl at *
  clear hx hv
  go_enter Try.func175, Try.ntmps175
  go_wp2
  go_ret
  exact ⟨rfl, rfl⟩

set_option maxHeartbeats 1000000 in
theorem copyTable_any (a : Option Addr) (c n : Nat) (m : List (List Int)) (w : World) (hv : validM m = true) (hn : m.length = n) (hx : RdM w a m) :
    Calls Try.prog 125 #[.slice a n c] w fun e w' => ∃ g rs, e = .returned (.slice (some ⟨g, 0, none⟩) n n) ∧ OwnM w' w.heap.size (some ⟨g, 0, none⟩) n n rs m ∧ Below w.heap.size w w' := by
  have hB := below_alloc w (.cells #[.slice a n c] 34)
  have hx1 := hx.below hB
  have h5 := validM_cols hv
  have HS := Lib.hid (tbl_self hv)
  rw [hn] at h5 HS
  have HV := Lib.hid hv
  obtain ⟨cl, hcl⟩ : ∃ cl, cl = colsOf m := ⟨_, rfl⟩
  rw [← hcl] at h5 HS
  have HCL := Lib.hid hcl
  have HN := Lib.hid hn
  have q0 := heap_alloc_new w (.cells #[.slice a n c] 34)
  generalize hW : w.alloc (.cells #[.slice a n c] 34) = w1 at *
  have HW := Lib.hid hW
  have hp1 := blk_cell q0 0 (.slice a n c) rfl
  obtain ⟨b0, off0, a0, c0, e0, hc0⟩ := hx1.first HV.out
  rw [← HCL.out] at hc0
  subst e0
  have d1 := later_cell hp1
  have d2 := later_cell hc0
  have bd := bel_drew (Below.refl w1.heap.size w1)
  have HT := table_any n cl 175 #[.pointer (some ⟨w.heap.size, 0, none⟩)] (at2 m) w1.drew (by omega) (by omega)
    ⟨enters_copy, fun w' i k hb' hi hk => same_below (copy1_any w.heap.size (some ⟨b0, off0, none⟩) c n m i k w' HV.out HN.out ((later_cell hp1) ⟨w', bd.trans hb'⟩) (hx1.below (bd.trans hb')) (by rw [HN.out]; exact hi) (by rw [← HCL.out]; exact hk))⟩
  have HT := Lib.hid HT
  have HB1 := Lib.hid hB
  clear hv hcl hn hW hx hx1 hp1 hc0 hB q0
  go_enter Try.func125, Try.ntmps125
  go_wp2_with (simp only [HW.out])
  refine wp_region_flags [true, true, true, true, true, true, false, false, false] 8 (C := fun w' => ∃ u : Later w1, w' = u.val) (by kernel_rfl) (by kernel_rfl) ⟨⟨_, bd⟩, rfl⟩ ?_
  simp only [pickT, pickF]
  repeat (go_big_quiet_step (fail))
  refine wpQuiet_nil ?_
  clear d1 d2
  refine tail_step fun K2 hK2 => ?_
  go_wp2
  refine hK2 _ _ ⟨⟨_, bd⟩, rfl⟩ ?_
  clear hK2
  refine tail_step fun K3 hK3 => ?_
  go_wp2_with fail
  refine HT.out.mono ?_
  rintro e w2 ⟨rs, rfl, hM, hb2⟩
  have hb3 : Below w1.heap.size w1 w2 := bd.trans hb2
  have HBE := Lib.hid (below_tr' HB1.out hb3)
  have HM := Lib.hid (hM.mono (B' := w.heap.size) (by have := HB1.out.size; simpa using this))
  rw [HS.out] at HM
  obtain ⟨D, hD⟩ : ∃ D, D = w1.drew.heap.size := ⟨_, rfl⟩
  rw [← hD] at HM ⊢
  clear hD hM hb2
  go_wp2
  refine hK3 _ _ ⟨⟨_, hb3⟩, rfl⟩ ?_
  clear hK3
  refine tail_last fun K4 hK4 => ?_
  go_wp2
  go_ret
  exact ⟨D, rs, rfl, HM.out, HBE.out⟩

end Go.Proofs.Ytjghcegacgpehaa
