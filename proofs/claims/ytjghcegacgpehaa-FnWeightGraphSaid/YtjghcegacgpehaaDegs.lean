
/- The degrees of a graph, both sides. -/
import Derived.Test.YtjghcegacgpehaaValidG
import Derived.Test.YtjghcegacgpehaaInts
namespace Go.Proofs.Ytjghcegacgpehaa
open Go.RowKit

def inc (xs : List Int) (i : Nat) : List Int := xs.set i (xs.getD i 0 + 1)
def addE (xs : List Int) (e : E2) : List Int := inc (inc xs e.1.toNat) e.2.toNat
def degsUpto (N : Nat) (es : List E2) (k : Nat) : List Int := (es.take k).foldl addE (List.replicate N 0)
def degsL (N : Nat) (es : List E2) : List Int := es.foldl addE (List.replicate N 0)
theorem inc_length (xs : List Int) (i : Nat) : (inc xs i).length = xs.length := by simp [inc]
theorem degs_length (N : Nat) (es : List E2) (k : Nat) : (degsUpto N es k).length = N := by
  unfold degsUpto
  generalize es.take k = l
  have h : ∀ (l : List E2) (xs : List Int), (l.foldl addE xs).length = xs.length := by
    intro l
    induction l with
    | nil => intro xs; rfl
    | cons e l ih => intro xs; rw [List.foldl_cons, ih, addE, inc_length, inc_length]
  rw [h]; simp
theorem degs_succ (N : Nat) (es : List E2) (k : Nat) (h : k < es.length) : degsUpto N es (k + 1) = addE (degsUpto N es k) (es[k]'h) := by
  rw [degsUpto, List.take_succ_eq_append_getElem h, List.foldl_append]; rfl
theorem degs_all (N : Nat) (es : List E2) : degsUpto N es es.length = degsL N es := by rw [degsUpto, List.take_length]; rfl
/-- The numbers stay small: none is greater than twice the edges that were counted. -/
theorem inc_bound (xs : List Int) (i : Nat) (b : Int) (hb : 0 ≤ b) (h : ∀ x ∈ xs, 0 ≤ x ∧ x ≤ b) : ∀ x ∈ inc xs i, 0 ≤ x ∧ x ≤ b + 1 := by
  intro x hx
  rcases List.mem_or_eq_of_mem_set hx with hx | rfl
  · have := h x hx; omega
  · by_cases hi : i < xs.length
    · have e : xs.getD i 0 = xs[i]'hi := by simp [List.getD, List.getElem?_eq_getElem hi]
      have := h _ (List.getElem_mem hi)
      omega
    · have e : xs.getD i 0 = 0 := by simp [List.getD, List.getElem?_eq_none (Nat.le_of_not_lt hi)]
      omega
theorem degs_bound (N : Nat) (es : List E2) (k : Nat) : ∀ x ∈ degsUpto N es k, 0 ≤ x ∧ x ≤ 2 * (k : Int) := by
  induction k with
  | zero => intro x hx; simp [degsUpto] at hx; omega
  | succ k ih =>
    by_cases h : k < es.length
    · rw [degs_succ N es k h]
      intro x hx
      have h1 := inc_bound _ (es[k]'h).1.toNat _ (by omega) ih
      have h2 := inc_bound _ (es[k]'h).2.toNat _ (by omega) h1 x hx
      omega
    · intro x hx
      have e : degsUpto N es (k + 1) = degsUpto N es k := by
        unfold degsUpto
        rw [List.take_of_length_le (by omega), List.take_of_length_le (by omega)]
      rw [e] at hx
      have := ih x hx
      omega

theorem ints_set (xs : List Int) (i : Nat) (v : Int) : (ints xs).set i (.int .i64 v) = ints (xs.set i v) := by simp [ints, List.map_set]
/-- One more at an index of an owned row. -/
theorem own_inc {w : World} {B T n c g : Nat} {xs : List Int} (ho : w.ownsRow B T 1 (.slice (some ⟨g, 0, none⟩) n c) n (ints xs)) (i : Nat) (v : Int) (hv : v = xs.getD i 0 + 1) :
    (w.setCell ⟨g, i, none⟩ (.int .i64 v)).ownsRow B T 1 (.slice (some ⟨g, 0, none⟩) n c) n (ints (inc xs i)) := by
  subst hv
  have := (ho.stored i (.int .i64 (xs.getD i 0 + 1))).1
  rw [ints_set] at this
  exact this
theorem own_at {w : World} {B T n c g : Nat} {xs : List Int} (ho : w.ownsRow B T 1 (.slice (some ⟨g, 0, none⟩) n c) n (ints xs)) (i : Nat) (hi : i < xs.length) : w.cell? ⟨g, i, none⟩ = some (.int .i64 (xs.getD i 0)) := by
  have h := ho.cellAt i (by have := ho.1; rw [ints_length] at this; omega)
  rw [h, ints_get xs i (xs.getD i 0) (by simp [List.getD, List.getElem?_eq_getElem hi])]

-- the walks (printed by gen_degs.py)

set_option maxHeartbeats 4000000 in
theorem specDegs_any (N : Nat) (a : Option Addr) (c n : Nat) (es : List E2) (w : World) (hN : N ≤ 1000) (hE : ∀ k (h : k < es.length), 0 ≤ (es[k]'h).1 ∧ (es[k]'h).1 < (es[k]'h).2 ∧ (es[k]'h).2 < N) (hn : es.length = n) (hx : Rd w a (edges es)) (hl : n ≤ 8796093022208) :
    Calls Try.prog 193 #[graphV N a n c] w fun e w' => ∃ a', e = .returned (.slice a' N N) ∧ w'.ownsRow w.heap.size 3 1 (.slice a' N N) N (ints (degsL N es)) ∧ Below w.heap.size w w' := by
  have hB := below_alloc w (.cells #[.int .i64 N, .slice a n c] 25)
  have q0 := heap_alloc_new w (.cells #[.int .i64 N, .slice a n c] 25)
  have hx1 := hx.below hB
  have hWs : w.heap.size < (w.alloc (.cells #[.int .i64 N, .slice a n c] 25)).heap.size := by simp
  generalize hW : w.alloc (.cells #[.int .i64 N, .slice a n c] 25) = W at *
  have HW := Lib.hid hW
  have hx0 := Lib.hid hx
  clear hW hx
  have g0 := blk_cell q0 0 (.int .i64 N) rfl
  have g1 := blk_cell q0 1 (.slice a n c) rfl
  go_enter Try.func193, Try.ntmps193
  go_wp2_with (first | simp only [HW.out] | (at_make; refine makeI Try.infoI _ _ rfl rfl rfl rfl rfl rfl (by omega) ?_; intro w1 ho hb; have q0 := blk_below q0 hb; have hx2 := hx1.below hb; have hWw := hb.size; clear g0 g1; have g0 := blk_cell q0 0 (.int .i64 N) rfl; have g1 := blk_cell q0 1 (.slice a n c) rfl))
  clear g0 g1
  generalize hA : (some (⟨W.heap.size, 0, none⟩ : Addr)) = aO at *
  have hA := hA.symm
  go_loopw [4] (fun i wr => ∃ k : Nat, k ≤ n ∧ i = .int .i64 k ∧ wr.ownsRow W.heap.size 3 1 (.slice aO N N) N (ints (degsUpto N es k)) ∧ wr.heap[w.heap.size]? = some (.cells #[.int .i64 N, .slice a n c] 25 (0, 0)) ∧ Rd wr a (edges es) ∧ Below W.heap.size W wr) (fun i _ => n - (intOf i).toNat)
  case atStart => exact ⟨0, by omega, rfl, by simpa [degsUpto] using ho, q0, hx2, hb⟩
  case round =>
    obtain ⟨k, hk, rfl, ho, r0, hr, hbr⟩ := hrel
    have hsz := hbr.size
    by_cases hlt : k < n
    · have hkl : k < es.length := by omega
      have hr0 := hr
      obtain ⟨b1, o1, rfl, c1, c2⟩ := hr.edge (k := k) hkl
      have hek := hE k hkl
      have HS := Lib.hid (degs_succ N es k hkl)
      generalize hXY : (es[k]'hkl) = XY at *
      obtain ⟨X, Y⟩ := XY
      have HXY := Lib.hid hXY
      clear hXY
      simp only at c1 c2 hek
      obtain ⟨x, rfl⟩ : ∃ x : Nat, X = x := ⟨X.toNat, by omega⟩
      obtain ⟨y, rfl⟩ : ∃ y : Nat, Y = y := ⟨Y.toNat, by omega⟩
      have hxN : x < N := by omega
      have hyN : y < N := by omega
      have hlen := degs_length N es k
      have hbd := degs_bound N es k
      generalize hD : degsUpto N es k = D at *
      have HD := Lib.hid hD
      clear hD
      have hbi := inc_bound D x _ (by omega) hbd
      have hv1 : 0 ≤ D.getD x 0 ∧ D.getD x 0 ≤ 2 * (k : Int) := hbd _ (by simp [List.getD, List.getElem?_eq_getElem (show x < D.length by omega)])
      have hv2 : 0 ≤ (inc D x).getD y 0 ∧ (inc D x).getD y 0 ≤ 2 * (k : Int) + 1 := hbi _ (by simp [List.getD, List.getElem?_eq_getElem (show y < (inc D x).length by rw [inc_length]; omega)])
      have hil := inc_length D x
      clear hbd hbi
      obtain ⟨b9, o9, e9, c9, _⟩ := hx0.out.edge (k := k) hkl
      cases e9
      have hlt9 := Rd.lt c9
      have hne : b1 ≠ W.heap.size := by omega
      have hlt8 : W.heap.size < wr.heap.size := (own_lt ho ⟨W.heap.size, 0, none⟩ hA).2
      subst hA
      have a1 := own_at ho x (by omega)
      have f1 := ho.frozenAt x
      have a1' : wr.drew.cell? ⟨W.heap.size, x, none⟩ = some (.int .i64 (D.getD x 0)) := a1
      have f1' : wr.drew.frozen? ⟨W.heap.size, x, none⟩ = false := f1
      have o2 := (own_inc ho x _ rfl).drew
      have r2 := blk_set_other r0 x (.int .i64 (D.getD x 0 + 1)) (g := W.heap.size) (by omega)
      have hr2 := rd_setOther hr0 W.heap.size x (.int .i64 (D.getD x 0 + 1)) (by rintro y hy; cases hy; exact hne)
      have hb2 := bel_drew (hbr.setCell (p := ⟨W.heap.size, x, none⟩) (Nat.le_refl _) (.int .i64 (D.getD x 0 + 1)))
      generalize hv1e : D.getD x 0 = v1 at *
      clear hv1e
      have g1 := blk_cell r0 1 (.slice (some ⟨b1, o1, none⟩) n c) rfl
      have d1 : ∀ q, (wr.drewN q).cell? ⟨w.heap.size, 1, none⟩ = some (.slice (some ⟨b1, o1, none⟩) n c) := fun q => g1
      have d2 : ∀ q, (wr.drewN q).cell? ⟨b1, o1 + k * 2, none⟩ = some (.int .i64 (x : Int)) := fun q => c1
      have d3 : ∀ q, (wr.drewN q).cell? ⟨W.heap.size, x, none⟩ = some (.int .i64 v1) := fun q => a1
      have i1 := IntWalk.i64_in (v1 + 1) (by omega)
      go_wp2
      refine wp_region_flags [true, true, true, true, true, true, true, true, true, true, true, true, true, true, true, true, true, true, false] 18 (C := fun w' => ∃ q, w' = wr.drewN q) (by kernel_rfl) (by kernel_rfl) ⟨1, rfl⟩ ?_
      simp only [pickT, pickF]
      repeat (go_big_quiet_step (fail))
      refine wpQuiet_nil ?_
      refine tail_last fun K hK => ?_
      clear d1 d2 d3
      go_wp2
      clear i1 a1 a1' f1 f1' g1
      have r2 : ((wr.setCell ⟨W.heap.size, x, none⟩ (.int .i64 (v1 + 1))).drew).heap[w.heap.size]? = some (.cells #[.int .i64 N, .slice (some ⟨b1, o1, none⟩) n c] 25 (0, 0)) := r2
      have hr2 : Rd (wr.setCell ⟨W.heap.size, x, none⟩ (.int .i64 (v1 + 1))).drew (some ⟨b1, o1, none⟩) (edges es) := hr2
      generalize hV2 : (wr.setCell ⟨W.heap.size, x, none⟩ (.int .i64 (v1 + 1))).drew = V2 at *
      clear hV2 ho r0 hr0 hr c1 c2
      obtain ⟨b2, o2', e2, c3, c4⟩ := hr2.edge (k := k) hkl
      cases e2
      have c4 : V2.cell? ⟨b1, o1 + k * 2 + 1, none⟩ = some (.int .i64 (y : Int)) := by rw [c4]; exact congrArg (fun e : E2 => some (Value.int .i64 e.2)) HXY.out
      have a2 := own_at o2 y (by omega)
      have f2 := o2.frozenAt y
      have a2' : V2.drew.cell? ⟨W.heap.size, y, none⟩ = some (.int .i64 ((inc D x).getD y 0)) := a2
      have f2' : V2.drew.frozen? ⟨W.heap.size, y, none⟩ = false := f2
      have o3 := Lib.hid (own_inc o2 y _ rfl).drew
      have r3 := Lib.hid (blk_set_other r2 y (.int .i64 ((inc D x).getD y 0 + 1)) (g := W.heap.size) (by omega))
      have hr3 := Lib.hid (rd_setOther hr2 W.heap.size y (.int .i64 ((inc D x).getD y 0 + 1)) (by rintro y hy; cases hy; exact hne))
      have hb3 := Lib.hid (bel_drew (hb2.setCell (p := ⟨W.heap.size, y, none⟩) (Nat.le_refl _) (.int .i64 ((inc D x).getD y 0 + 1))))
      generalize hv2e : (inc D x).getD y 0 = v2 at *
      have g1 := blk_cell r2 1 (.slice (some ⟨b1, o1, none⟩) n c) rfl
      have d1 : ∀ q, (V2.drewN q).cell? ⟨w.heap.size, 1, none⟩ = some (.slice (some ⟨b1, o1, none⟩) n c) := fun q => g1
      have d2 : ∀ q, (V2.drewN q).cell? ⟨b1, o1 + k * 2 + 1, none⟩ = some (.int .i64 (y : Int)) := fun q => c4
      have d3 : ∀ q, (V2.drewN q).cell? ⟨W.heap.size, y, none⟩ = some (.int .i64 v2) := fun q => a2
      have i1 := IntWalk.i64_in (v2 + 1) (by omega)
      clear hv2e o2 r2 hr2 hb2 c3 c4
      go_wp2
      refine wp_region_flags [true, true, true, true, true, true, true, true, true, true, true, true, true, true, true, true, true, true, false] 18 (C := fun w' => ∃ q, w' = V2.drewN q) (by kernel_rfl) (by kernel_rfl) ⟨1, rfl⟩ ?_
      simp only [pickT, pickF]
      repeat (go_big_quiet_step (fail))
      refine wpQuiet_nil ?_
      refine tail_last fun K hK => ?_
      clear d1 d2 d3
      go_wp2
      clear i1 a2 a2' f2 f2' g1
      go_roundw
      case rel => exact ⟨k + 1, by omega, by go_num, by rw [HS.out, addE]; simpa using o3.out, r3.out, hr3.out, hb3.out⟩
      case measure => simp [intOf]; omega
    · have e : k = n := by omega
      have g1 := blk_cell r0 1 (.slice a n c) rfl
      subst e
      have hE2 := degs_all N es
      rw [hn] at hE2
      rw [hE2] at ho
      have HO := Lib.hid (own_mono ho (Nat.le_of_lt hWs))
      have HBB := below_tr' hB hbr
      clear ho
      go_wp2
      go_ret
      exact ⟨aO, rfl, HO.out, HBB⟩

noncomputable def degsV (N : Int) (es : List E2) : List Int := if validG N es then degsL N.toNat es else []
theorem degsV_len (N : Int) (es : List E2) : (degsV N es).length ≤ 7 := by
  unfold degsV
  split
  · rename_i h
    have h1 := validG_true.1 h
    rw [← degs_all, degs_length]
    omega
  · simp

end Go.Proofs.Ytjghcegacgpehaa
