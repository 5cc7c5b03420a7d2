
/- The code of a graph: two rows are made by impl.CodeOf, in whatever order. (Printed by gen_codeo.py.) -/
import Derived.Test.YtjghcegacgpehaaCodeP
import Derived.Test.YtjghcegacgpehaaAppG
namespace Go.Proofs.Ytjghcegacgpehaa
open Go.RowKit Go.Shelf

theorem Try.underlyingU8 : Try.prog.underlying 22 = some (.slice 5) := by kernel_rfl
theorem Try.infoU8 : (Try.prog.info? 5).map (fun i => (i.zero, i.size, i.bytes)) = some (some (.int .u8 0), 1, 1) := by kernel_rfl
theorem Try.infoU8L : Info Try.prog 22 5 (.int .u8 0) 1 1 := ⟨Try.underlyingU8, Try.infoU8, rfl, by decide, by decide⟩

theorem own_blk {w : World} {B T g n : Nat} {cs : List Value} (h : w.ownsRow B T 1 (.slice (some ⟨g, 0, none⟩) n n) n cs) : w.heap[g]? = some (.cells cs.toArray T (0, 0)) := by
  rcases h.2 with ⟨h1, _⟩ | ⟨g', cap, cur, h1, _, hb, hn, _, hs, ht⟩
  · cases h1
  · cases h1
    rw [hb]
    have e : cur = cs.toArray := by
      rw [← ht, List.take_of_length_le (by simp; omega)]
    rw [e]
theorem as_J {P : Program} {md : Region.Mode} {ops : Array Oper} {C : World → Prop} {Q : Exit → Act → World → Prop} {z n : Nat} {listed : Array Bool} {a : Act} {w : World} (h : ∀ J : Nat → Array Bool → Act → World → Prop, J = wpAnyC P md ops C Q z → J n listed a w) : wpAnyC P md ops C Q z n listed a w := h _ rfl
theorem region_then {P : Program} {c : Code} {K : Act → World → Prop} {Q : Exit → Act → World → Prop} {a : Act} {w : World} (J : Act → World → Prop) (h1 : c.wp P (Exit.then J (fun _ _ _ => False)) a w) (h2 : ∀ a w, J a w → K a w) : c.wp P (Exit.then K Q) a w :=
  Code.wp_mono (fun e a w q => by cases e <;> first | exact h2 _ _ q | exact q.elim) h1
theorem any_four {P : Program} {ops : Array Oper} {md : Region.Mode} {C : World → Prop} {Q : Exit → Act → World → Prop} {z n i j k l : Nat} {listed : Array Bool} {a : Act} {w : World} {o o2 o3 o4 : Oper} (hr : (Region.ready md ops listed == [i, j, k, l]) = true) (hi : ops[i]? = some o) (hj : ops[j]? = some o2) (hk : ops[k]? = some o3) (hl : ops[l]? = some o4)
    (h : ∀ K : Act → World → Prop, (∀ a' w', (i ≠ z → C w') → wpAnyC P md ops C (Only Q) z n (listed.setIfInBounds i true) a' w' → K a' w') → wpList P ops (fun e a' w' => e = .normal ∧ K a' w') [o] a w)
    (h2 : ∀ K : Act → World → Prop, (∀ a' w', (j ≠ z → C w') → wpAnyC P md ops C (Only Q) z n (listed.setIfInBounds j true) a' w' → K a' w') → wpList P ops (fun e a' w' => e = .normal ∧ K a' w') [o2] a w)
    (h3 : ∀ K : Act → World → Prop, (∀ a' w', (k ≠ z → C w') → wpAnyC P md ops C (Only Q) z n (listed.setIfInBounds k true) a' w' → K a' w') → wpList P ops (fun e a' w' => e = .normal ∧ K a' w') [o3] a w)
    (h4 : ∀ K : Act → World → Prop, (∀ a' w', (l ≠ z → C w') → wpAnyC P md ops C (Only Q) z n (listed.setIfInBounds l true) a' w' → K a' w') → wpList P ops (fun e a' w' => e = .normal ∧ K a' w') [o4] a w) : wpAnyC P md ops C (Only Q) z (n + 1) listed a w := by
  have hr := eq_of_beq hr
  refine ⟨fun h0 => (by rw [hr] at h0; cases h0), fun m hm => ?_⟩
  rw [hr] at hm
  simp only [List.mem_cons, List.not_mem_nil, or_false] at hm
  rcases hm with rfl | rfl | rfl | rfl
  · exact wpOp_of_single hi (h _ fun a' w' h1 h2 => ⟨h1, h2⟩)
  · exact wpOp_of_single hj (h2 _ fun a' w' h1 h2 => ⟨h1, h2⟩)
  · exact wpOp_of_single hk (h3 _ fun a' w' h1 h2 => ⟨h1, h2⟩)
  · exact wpOp_of_single hl (h4 _ fun a' w' h1 h2 => ⟨h1, h2⟩)

/-- What lies there before the rows are made. -/
structure PB (w W4 : World) (g0 b5 N : Nat) (a : Option Addr) (c n : Nat) (aI : Option Addr) (cI : Nat) (L : List Int) (W : World) : Prop where
  qg : W.heap[g0]? = some (.cells #[.int .i64 N, .slice a n c] 25 (0, 0))
  q5 : W.heap[b5]? = some (.cells #[.slice aI N cI] 38 (0, 0))
  hL : W.ownsRow w.heap.size 3 1 (.slice aI N cI) N (ints L)
  be : Below w.heap.size w W
  bw : Below W4.heap.size W4 W
  le : w.heap.size ≤ W4.heap.size
def MA (w : World) (gA N : Nat) (W : World) : Prop := w.heap.size ≤ gA ∧ W.heap[gA]? = some (.cells (bytesV (List.replicate N 0)).toArray 5 (0, 0))
def MO (w : World) (gO N : Nat) (aI : Option Addr) (W : World) : Prop := w.heap.size ≤ gO ∧ W.heap[gO]? = some (.cells (ints (List.replicate N 0)).toArray 3 (0, 0)) ∧ ∀ x, aI = some x → x.block ≠ gO
def MX (W4 : World) (b6 : Nat) (v : Value) (W : World) : Prop := W4.heap.size ≤ b6 ∧ W.heap[b6]? = some (.cells #[v] 22 (0, 0))
def MY (W4 : World) (b7 b5 : Nat) (v : Value) (W : World) : Prop := W4.heap.size ≤ b7 ∧ W.heap[b7]? = some (.cells #[v] 38 (0, 0)) ∧ b5 ≠ b7
section
variable {w W4 : World} {g0 b5 N : Nat} {a : Option Addr} {c n : Nat} {aI : Option Addr} {cI : Nat} {L : List Int} {X Y : World} {gA gO b6 b7 : Nat} {v : Value}
theorem PB.below (h : PB w W4 g0 b5 N a c n aI cI L X) (hb : Below X.heap.size X Y) : PB w W4 g0 b5 N a c n aI cI L Y := ⟨blk_below h.qg hb, blk_below h.q5 hb, own_below h.hL hb, below_tr' h.be hb, below_tr' h.bw hb, h.le⟩
theorem MA.below (h : MA w gA N X) (hb : Below X.heap.size X Y) : MA w gA N Y := ⟨h.1, blk_below h.2 hb⟩
theorem MO.below (h : MO w gO N aI X) (hb : Below X.heap.size X Y) : MO w gO N aI Y := ⟨h.1, blk_below h.2.1 hb, h.2.2⟩
theorem MX.below (h : MX W4 b6 v X) (hb : Below X.heap.size X Y) : MX W4 b6 v Y := ⟨h.1, blk_below h.2 hb⟩
theorem MY.below (h : MY W4 b7 b5 v X) (hb : Below X.heap.size X Y) : MY W4 b7 b5 v Y := ⟨h.1, blk_below h.2.1 hb, h.2.2⟩
theorem PB.mkA (h : PB w W4 g0 b5 N a c n aI cI L X) (ho : Y.ownsRow X.heap.size 5 1 (.slice (some ⟨X.heap.size, 0, none⟩) N N) N (List.replicate N (.int .u8 0))) : MA w X.heap.size N Y :=
  ⟨h.be.size, by rw [own_blk ho]; simp [bytesV]⟩
theorem PB.mkO (h : PB w W4 g0 b5 N a c n aI cI L X) (ho : Y.ownsRow X.heap.size 3 1 (.slice (some ⟨X.heap.size, 0, none⟩) N N) N (ints (List.replicate N 0))) : MO w X.heap.size N aI Y :=
  ⟨h.be.size, own_blk ho, fun x hx => by have := (own_lt h.hL x hx).2; omega⟩
theorem PB.mkX (h : PB w W4 g0 b5 N a c n aI cI L X) : MX W4 X.heap.size (.slice none 0 0) (X.alloc (.cells #[.slice none 0 0] 22)) := ⟨h.bw.size, heap_alloc_new _ _⟩
theorem PB.mkY (h : PB w W4 g0 b5 N a c n aI cI L X) : MY W4 X.heap.size b5 (.slice none 0 0) (X.alloc (.cells #[.slice none 0 0] 38)) := ⟨h.bw.size, heap_alloc_new _ _, by have := blk_lt h.q5; omega⟩
theorem PB.setX (h : PB w W4 g0 b5 N a c n aI cI L X) {u : Value} (hX : MX W4 b6 u X) (v : Value) : PB w W4 g0 b5 N a c n aI cI L (X.setCell ⟨b6, 0, none⟩ v) :=
  ⟨blk_set_other h.qg 0 _ (blk_ne h.qg hX.2 (by decide)), blk_set_other h.q5 0 _ (blk_ne h.q5 hX.2 (by decide)), own_setOther h.hL b6 0 _ (own_ne h.hL hX.2 (by decide)), h.be.setCell (p := ⟨b6, 0, none⟩) (Nat.le_trans h.le hX.1) _, h.bw.setCell (p := ⟨b6, 0, none⟩) hX.1 _, h.le⟩
theorem MA.setX (h : MA w gA N X) {u : Value} (hX : MX W4 b6 u X) (v : Value) : MA w gA N (X.setCell ⟨b6, 0, none⟩ v) := ⟨h.1, blk_set_other h.2 0 _ (blk_ne h.2 hX.2 (by decide))⟩
theorem MO.setX (h : MO w gO N aI X) {u : Value} (hX : MX W4 b6 u X) (v : Value) : MO w gO N aI (X.setCell ⟨b6, 0, none⟩ v) := ⟨h.1, blk_set_other h.2.1 0 _ (blk_ne h.2.1 hX.2 (by decide)), h.2.2⟩
theorem MX.set {u : Value} (hX : MX W4 b6 u X) (v : Value) : MX W4 b6 v (X.setCell ⟨b6, 0, none⟩ v) := ⟨hX.1, blk_set hX.2 0 v⟩
theorem MY.setX {x : Value} (h : MY W4 b7 b5 x X) {u : Value} (hX : MX W4 b6 u X) (v : Value) : MY W4 b7 b5 x (X.setCell ⟨b6, 0, none⟩ v) := ⟨h.1, blk_set_other h.2.1 0 _ (blk_ne h.2.1 hX.2 (by decide)), h.2.2⟩
theorem PB.fin (h : PB w W4 g0 b5 N a c n aI cI L X) (hA : MA w gA N X) (hO : MO w gO N aI X) (hX : MX W4 b6 (.slice (some ⟨gA, 0, none⟩) N N) X) {u : Value} (hY : MY W4 b7 b5 u X) (l5 : w.heap.size ≤ b5) : CS w g0 b5 b6 b7 gA gO N a c n [] N aI cI L (X.setCell ⟨b7, 0, none⟩ (.slice (some ⟨gO, 0, none⟩) N N)) :=
  ⟨blk_set_other h.qg 0 _ (blk_ne h.qg hY.2.1 (by decide)), blk_set_other h.q5 0 _ hY.2.2, own_setOther h.hL b7 0 _ (own_ne h.hL hY.2.1 (by decide)), blk_set_other hX.2 0 _ (blk_ne hX.2 hY.2.1 (by decide)),
    ⟨_, List.length_replicate, fun x hx => by rw [List.eq_of_mem_replicate hx]; decide, blk_set_other hA.2 0 _ (blk_ne hA.2 hY.2.1 (by decide))⟩, blk_set hY.2.1 0 _, ⟨_, List.length_replicate, blk_set_other hO.2.1 0 _ (blk_ne hO.2.1 hY.2.1 (by decide))⟩,
    hO.2.2, hY.2.2, l5, hA.1, hO.1, List.nodup_nil, by simp, h.be.setCell (p := ⟨b7, 0, none⟩) (Nat.le_trans h.le hY.1) _⟩
end

end Go.Proofs.Ytjghcegacgpehaa
