
/- The program's ForcedEdges. (Printed by gen_forc.py.) -/
import Derived.Test.YtjmiafkkbganlaaAllR
namespace Go.Proofs.Ytjmiafkkbganlaa
open Go.RowKit

/-- A function value of a graph that answers 'p' on the graphs of a row. -/
def AnswersGr (w : World) (K : Nat) (cap : Array Value) (N : Nat) (gs : List (List N2)) (p : List N2 → Bool) : Prop :=
  Enters Try.prog K ∧ ∀ w' a c g, Below w.heap.size w w' → g ∈ gs → RowG w' a c g → Calls Try.prog K (#[graphV N a g.length c] ++ cap) w' fun r w'' => r = .returned (.bool (p g)) ∧ Below w'.heap.size w' w''
def idxG (p : List N2 → Bool) (gs : List (List N2)) : Int := match gs.findIdx? p with | some i => (i : Int) | none => -1
theorem idxG_none {p : List N2 → Bool} {gs : List (List N2)} (h : ∀ j (hj : j < gs.length), p (gs[j]'hj) = false) : idxG p gs = -1 := by
  have : gs.findIdx? p = none := by
    rw [List.findIdx?_eq_none_iff]
    intro e he
    obtain ⟨i, hi, rfl⟩ := List.getElem_of_mem he
    exact h i hi
  simp [idxG, this]
theorem idxG_some {p : List N2 → Bool} {gs : List (List N2)} {k : Nat} (hk : k < gs.length) (h : ∀ j (_ : j < k) (hj : j < gs.length), p (gs[j]'hj) = false) (hp : p (gs[k]'hk) = true) : idxG p gs = k := by
  have : gs.findIdx? p = some k := by
    rw [List.findIdx?_eq_some_iff_getElem]
    exact ⟨hk, hp, fun j hj => by simp [h j hj (by omega)]⟩
  simp [idxG, this]
theorem idxG_any (p : List N2 → Bool) (gs : List (List N2)) : decide (0 ≤ idxG p gs) = gs.any p := by
  unfold idxG
  cases h : gs.findIdx? p with
  | none =>
    rw [List.findIdx?_eq_none_iff] at h
    have : gs.any p = false := by rw [List.any_eq_false]; intro x hx; simp [h x hx]
    simp [this]
  | some i =>
    obtain ⟨hi, hp, _⟩ := List.findIdx?_eq_some_iff_getElem.1 h
    have : gs.any p = true := List.any_eq_true.2 ⟨_, List.getElem_mem hi, hp⟩
    simp [this]

set_option maxHeartbeats 1000000 in
theorem IndexFuncG_any (a : Option Addr) (c n N : Nat) (gs : List (List N2)) (K : Nat) (cap : Array Value) (p : List N2 → Bool) (w : World) (hn : gs.length = n) (hx : RdG w a N gs) (hl : n ≤ 4398046511104) (hf : AnswersGr w K cap N gs p) :
    Calls Try.prog 95 #[.slice a n c, .func (.func K) #[] cap] w fun e w' => e = .returned (.int .i64 (idxG p gs)) ∧ Below w.heap.size w w' := by
  obtain ⟨hK0, hf⟩ := hf
  have hK : ∀ args w, (callFunc K args).run Try.prog w = .ok (.enter K args) w := hK0
  go_enter Try.func95, Try.ntmps95
  go_wp2
  go_loopw [5, 8] (fun _ i wr => ∃ k : Nat, k ≤ n ∧ i = .int .i64 k ∧ (∀ j (_ : j < k) (h : j < gs.length), p (gs[j]'h) = false) ∧ Below w.heap.size w wr) (fun _ i _ => n - (intOf i).toNat)
  case atStart => exact ⟨0, by omega, rfl, by intro j hj; omega, Below.refl _ _⟩
  case round =>
    obtain ⟨k, hk, rfl, hno, hb⟩ := hrel
    by_cases hlt : k < n
    · have hkl : k < gs.length := by omega
      obtain ⟨b1, o1, ar, cr, rfl, c1, c2, hrow⟩ := (hx.below hb) k hkl
      have HC := hf wr ar cr (gs[k]'hkl) hb (List.getElem_mem _) hrow
      have hno' : p (gs[k]'hkl) = false → (∀ j (_ : j < k + 1) (h : j < gs.length), p (gs[j]'h) = false) := by
        intro h0 j hj h
        by_cases e : j = k
        · subst e; exact h0
        · exact hno j (by omega) h
      have HY := Lib.hid (idxG_some (p := p) hkl hno)
      have HN := Lib.hid hno'
      clear hno hno' hrow
      generalize (gs[k]'hkl) = X at *
      cases hp : p X
      · have HN := Lib.hid (HN.out hp)
        rw [hp] at HC
        clear HY
        go_wp2_with fail
        refine HC.mono ?_
        rintro e w1 ⟨rfl, hb1⟩
        have HB := below_tr' hb hb1
        clear HC hb1
        go_wp2
        go_roundw
        case rel => exact ⟨k + 1, by omega, by go_num, HN.out, HB⟩
        case measure => simp [intOf]; omega
      · have HY := Lib.hid (HY.out hp)
        rw [hp] at HC
        clear HN
        go_wp2_with fail
        refine HC.mono ?_
        rintro e w1 ⟨rfl, hb1⟩
        have HB := below_tr' hb hb1
        clear HC hb1
        go_wp2
        go_ret
        exact ⟨ret_int HY.out.symm, HB⟩
    · have HE := Lib.hid (idxG_none (p := p) (gs := gs) fun j hj => hno j (by omega) hj)
      clear hno
      go_wp2
      go_ret
      exact ⟨ret_int HE.out.symm, hb⟩

theorem ContainsFuncG_any (a : Option Addr) (c n N : Nat) (gs : List (List N2)) (K : Nat) (cap : Array Value) (p : List N2 → Bool) (w : World) (hn : gs.length = n) (hx : RdG w a N gs) (hl : n ≤ 4398046511104) (hf : AnswersGr w K cap N gs p) :
    Calls Try.prog 67 #[.slice a n c, .func (.func K) #[] cap] w fun e w' => e = .returned (.bool (gs.any p)) ∧ Below w.heap.size w w' := by
  have HA := Lib.hid (idxG_any p gs)
  go_enter Try.func67, Try.ntmps67
  go_wp2_with fail
  refine (IndexFuncG_any a c n N gs K cap p w hn hx hl hf).mono ?_
  rintro e w1 ⟨rfl, hb⟩
  clear hf hx
  go_wp2
  go_ret
  exact ⟨ret_bool HA.out, hb⟩

theorem enters_forc2 : Enters Try.prog 68 := enters Try.func68 (by kernel_rfl) rfl
theorem enters_forc1 : Enters Try.prog 66 := enters Try.func66 (by kernel_rfl) rfl
set_option maxHeartbeats 1000000 in
theorem forc2_any (N : Int) (ag : Option Addr) (c n : Nat) (es : List E2) (x y : Int) (bx yb : Nat) (w : World) (qx : w.heap[bx]? = some (.cells #[.int .i64 x] 3 (0, 0))) (qy : w.heap[yb]? = some (.cells #[.int .i64 y] 3 (0, 0))) (hn : es.length = n) (hx : Rd w ag (edges es)) (hl : n ≤ 8796093022208) :
    Calls Try.prog 68 (#[graphV N ag n c] ++ #[.pointer (some ⟨bx, 0, none⟩), .pointer (some ⟨yb, 0, none⟩)]) w fun e w' => e = .returned (.bool (!hasM es x y)) ∧ Below w.heap.size w w' := by
  have hB := below_alloc w (.cells #[.int .i64 N, .slice ag n c] 29)
  have qg := heap_alloc_new w (.cells #[.int .i64 N, .slice ag n c] 29)
  have g0 := blk_cell qg 0 (.int .i64 N) rfl
  have g1 := blk_cell qg 1 (.slice ag n c) rfl
  have x0 := blk_cell (blk_below qx hB) 0 (.int .i64 x) rfl
  have y0 := blk_cell (blk_below qy hB) 0 (.int .i64 y) rfl
  have C1 := has_any N ag c n es x y _ hn (hx.below hB) hl
  have HB := Lib.hid hB
  clear hB qg qx qy hx
  go_enter Try.func68, Try.ntmps68
  go_wp2_with fail
  refine C1.mono ?_
  rintro e w1 ⟨rfl, hb⟩
  have H := Lib.hid (below_tr' HB.out hb)
  clear C1 HB hb g0 g1 x0 y0
  go_wp2
  go_ret
  exact ⟨rfl, H.out⟩
/-- All graphs have an edge. -/
def allHaveB (gs : List (List N2)) (e : E2) : Bool := !(gs.any fun g => !hasM (en2 g) e.1 e.2)
set_option maxHeartbeats 1000000 in
theorem forc1_any (N : Nat) (a : Option Addr) (c : Nat) (gs : List (List N2)) (x y : Int) (bA : Nat) (w : World) (qa : w.heap[bA]? = some (.cells #[.slice a gs.length c] 48 (0, 0))) (hx : RdG w a N gs) (hl : gs.length ≤ 4398046511104) (hl2 : ∀ g ∈ gs, g.length ≤ 1000) :
    Calls Try.prog 66 (#[.int .i64 x, .int .i64 y] ++ #[.pointer (some ⟨bA, 0, none⟩)]) w fun e w' => e = .returned (.bool (allHaveB gs (x, y))) ∧ Below w.heap.size w w' := by
  have hB := below_alloc2 w (.cells #[.int .i64 x] 3) (.cells #[.int .i64 y] 3)
  have qx := blk_below (heap_alloc_new w (.cells #[.int .i64 x] 3)) (below_alloc _ (.cells #[.int .i64 y] 3))
  have qy := heap_alloc_new (w.alloc (.cells #[.int .i64 x] 3)) (.cells #[.int .i64 y] 3)
  rw [show (w.alloc (.cells #[.int .i64 x] 3)).heap.size = w.heap.size + 1 from by simp] at qy
  have a0 := blk_cell (blk_below qa hB) 0 (.slice a gs.length c) rfl
  have HA := Lib.hid (show AnswersGr ((w.alloc (.cells #[.int .i64 x] 3)).alloc (.cells #[.int .i64 y] 3)) 68 #[.pointer (some ⟨w.heap.size, 0, none⟩), .pointer (some ⟨w.heap.size + 1, 0, none⟩)] N gs (fun g => !hasM (en2 g) x y) from
    ⟨enters_forc2, fun w' ag cg g hb hg hr => forc2_any N ag cg g.length (en2 g) x y w.heap.size (w.heap.size + 1) w' (blk_below qx hb) (blk_below qy hb) (en2_length g) hr.1 (by have := hl2 g hg; omega)⟩)
  have C1 := ContainsFuncG_any a c gs.length N gs 68 #[.pointer (some ⟨w.heap.size, 0, none⟩), .pointer (some ⟨w.heap.size + 1, 0, none⟩)] _ _ rfl (hx.below hB) hl HA.out
  have HB := Lib.hid hB
  clear hB qx qy qa hx HA
  have HV := Lib.hid (show allHaveB gs (x, y) = !(gs.any fun g => !hasM (en2 g) x y) from rfl)
  generalize (gs.any fun g => !hasM (en2 g) x y) = V at *
  go_enter Try.func66, Try.ntmps66
  go_wp2_with fail
  refine C1.mono ?_
  rintro e w1 ⟨rfl, hb⟩
  have H := Lib.hid (below_tr' HB.out hb)
  clear C1 HB hb a0
  go_wp2
  go_ret
  exact ⟨ret_bool HV.out.symm, H.out⟩

/-- The edges that all realizations have. -/
def forcL (xs : List Int) : List E2 := if (allV xs).length = 0 then [] else (pairsL xs.length).filter (allHaveB (allV xs))
set_option maxRecDepth 8000 in
set_option maxHeartbeats 2000000 in
theorem implForced_any (a : Option Addr) (c n : Nat) (xs : List Int) (w : World) (hn : xs.length = n) (hx : Rd w a (ints xs)) (hl : n ≤ 1048576) (hnil : a = none → n = 0 ∧ c = 0) (hgl : (allV xs).length ≤ 2097152 ∧ ∀ g ∈ allV xs, g.length ≤ 1000) (h7 : (allV xs).length = 0 ∨ n ≤ 7) :
    Calls Try.prog 40 #[.slice a n c] w fun e w' => ∃ a' d, e = .returned (.slice a' (forcL xs).length (forcL xs).length) ∧ w'.ownsRow w.heap.size 71 2 (.slice a' (forcL xs).length d) (forcL xs).length (edges (forcL xs)) ∧ Below w.heap.size w w' := by
  have C1 := implAllReals_any a c n xs w hn hx (by omega) hnil
  have HFL := Lib.hid (show forcL xs = if (allV xs).length = 0 then [] else (pairsL n).filter (allHaveB (allV xs)) by rw [forcL, hn])
  obtain ⟨G, hG⟩ : ∃ G, G = allV xs := ⟨_, rfl⟩
  rw [← hG] at C1 HFL hgl h7
  clear hG hx
  go_enter Try.func40, Try.ntmps40
  go_wp2_with fail
  refine C1.mono ?_
  rintro e w1 ⟨a1, d1, vs, rfl, hO, hb⟩
  clear C1
  have hR := hO.listG.rdG
  clear hO
  have hA := below_alloc w1 (.cells #[.slice a1 G.length G.length] 48)
  have qA := heap_alloc_new w1 (.cells #[.slice a1 G.length G.length] 48)
  have HB := below_tr' hb hA
  have hR := hR.below hA
  have k0 := blk_cell qA 0 (.slice a1 G.length G.length) rfl
  by_cases h0 : G.length = 0
  · rw [if_pos h0] at HFL
    have hz : ((G.length : Int) == 0) = true := by simp [h0]
    clear hR qA hA hgl h7
    go_wp2
    go_ret
    exact ⟨none, 0, by rw [HFL.out]; rfl, by rw [HFL.out]; exact World.ownsRow_nil _ _ _ _, by rw [h0] at HB; exact HB⟩
  · rw [if_neg h0] at HFL
    have hz : ((G.length : Int) == 0) = false := beq_eq_false_iff_ne.2 (by omega)
    have hn7 : n ≤ 7 := by omega
    have hHA : AnswersE (w1.alloc (.cells #[.slice a1 G.length G.length] 48)) 66 #[.pointer (some ⟨w1.heap.size, 0, none⟩)] (pairsL n) (allHaveB G) :=
      ⟨enters_forc1, fun w' e hb' _ => forc1_any n a1 G.length G e.1 e.2 w1.heap.size w' (blk_below qA hb') (hR.below hb') (by omega) hgl.2⟩
    have C2 := which_any n 66 #[.pointer (some ⟨w1.heap.size, 0, none⟩)] (allHaveB G) _ (by omega) hHA
    have hpl := Nat.le_trans (List.length_filter_le (allHaveB G) (pairsL n)) (pairsL_len (N := n) (by omega))
    generalize (pairsL n).filter (allHaveB G) = R at *
    have HBB := Lib.hid HB
    clear hHA hR qA hA hgl h7 HB
    go_wp2_with fail
    refine C2.mono ?_
    rintro e w2 ⟨a2, d2, rfl, ho, hb2⟩
    have HO := Lib.hid (own_mono (B' := w.heap.size) ho HBB.out.size)
    have H := Lib.hid (below_tr' HBB.out hb2)
    clear C2 ho hb2 HBB k0 h0 hz hn7 hn
    clear hpl
    have hfd : ∀ w : World, (Instr.field 29 (graphV (n : Int) a2 R.length R.length) 1).run Try.prog w = .ok (.slice a2 R.length R.length) w := fun _ => by kernel_rfl
    go_wp2
    go_ret
    exact ⟨a2, d2, by rw [HFL.out]; rfl, by rw [HFL.out]; exact HO.out, H.out⟩

end Go.Proofs.Ytjmiafkkbganlaa
