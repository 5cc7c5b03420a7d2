
/- Valid graphs: the reference's test and the program's, both are 'validG'. -/
import Derived.Test.YtjghcegacgpehaaGraph
import Derived.Test.YtjghcegacgpehaaRng
namespace Go.Proofs.Ytjghcegacgpehaa
open Go.RowKit

def belowE (a b : E2) : Bool := decide (a.1 < b.1) || (decide (a.1 = b.1) && decide (a.2 < b.2))
/-- The edge at an index is in order. -/
def OkE (N : Int) (es : List E2) (k : Nat) : Prop := ∀ h : k < es.length, 0 ≤ (es[k]'h).1 ∧ (es[k]'h).1 < (es[k]'h).2 ∧ (es[k]'h).2 < N ∧ (0 < k → belowE (es[k - 1]'(by omega)) (es[k]'h) = true)
open Classical in
noncomputable def validG (N : Int) (es : List E2) : Bool := decide ((∀ k, OkE N es k) ∧ 0 ≤ N ∧ N ≤ 7)
theorem validG_true {N : Int} {es : List E2} : validG N es = true ↔ ((∀ k, OkE N es k) ∧ 0 ≤ N ∧ N ≤ 7) := by simp [validG]
theorem validG_no {N : Int} {es : List E2} {k : Nat} (h : ¬ OkE N es k) : validG N es = false := by
  cases hv : validG N es
  · rfl
  · exact absurd ((validG_true.1 hv).1 k) h
theorem validG_end {N : Int} {es : List E2} (h : ∀ k, k < es.length → OkE N es k) : inR N 0 7 = validG N es := by
  have h' : ∀ k, OkE N es k := fun k hk => h k hk hk
  cases hv : validG N es
  · cases hi : inR N 0 7
    · rfl
    · rw [inR_true] at hi
      rw [validG_true.2 ⟨h', hi⟩] at hv
      cases hv
  · rw [inR_true]; exact (validG_true.1 hv).2
theorem upto_next {N : Int} {es : List E2} {k : Nat} (h : ∀ j, j < k → OkE N es j) (h0 : OkE N es k) : ∀ j, j < k + 1 → OkE N es j := by
  intro j hj
  by_cases e : j = k
  · subst e; exact h0
  · exact h j (by omega)

theorem edgeBelow_any (a b : E2) (w : World) :
    Calls Try.prog 151 #[edgeV a, edgeV b] w fun e w' => e = .returned (.bool (belowE a b)) ∧ Below w.heap.size w w' := by
  have HB := below_alloc2 w (.cells #[.int .i64 a.1, .int .i64 a.2] 48) (.cells #[.int .i64 b.1, .int .i64 b.2] 48)
  by_cases h1 : a.1 < b.1
  · have HE := Lib.hid (show true = belowE a b by simp [belowE, h1])
    go_enter Try.func151, Try.ntmps151
    go_wp2
    go_ret
    exact ⟨ret_bool HE.out, HB⟩
  · cases h2 : (a.1 == b.1)
    · have HE := Lib.hid (show false = belowE a b by simp at h2; simp [belowE, h1, h2])
      go_enter Try.func151, Try.ntmps151
      go_wp2
      go_ret
      exact ⟨ret_bool HE.out, HB⟩
    · have HE := Lib.hid (show decide (a.2 < b.2) = belowE a b by simp at h2; simp [belowE, h2])
      go_enter Try.func151, Try.ntmps151
      go_wp2
      go_ret
      exact ⟨ret_bool HE.out, HB⟩

def cmpE (a b : E2) : Int := if a.1 = b.1 then a.2 - b.2 else a.1 - b.1
theorem cmpE_below (a b : E2) : decide (0 ≤ cmpE a b) = !belowE a b := by
  unfold cmpE belowE
  rw [Bool.eq_iff_iff]
  split
  · rename_i h; simp [h]
  · rename_i h; simp [h]

theorem compareEdges_any (a b : E2) (w : World) (ha : 0 ≤ a.1 ∧ a.1 ≤ 9223372036854775807 ∧ 0 ≤ a.2 ∧ a.2 ≤ 9223372036854775807) (hb : 0 ≤ b.1 ∧ b.1 ≤ 9223372036854775807 ∧ 0 ≤ b.2 ∧ b.2 ≤ 9223372036854775807) :
    Calls Try.prog 103 #[edgeV a, edgeV b] w fun e w' => e = .returned (.int .i64 (cmpE a b)) ∧ Below w.heap.size w w' := by
  have HB := below_alloc2 w (.cells #[.int .i64 a.1, .int .i64 a.2] 48) (.cells #[.int .i64 b.1, .int .i64 b.2] 48)
  obtain ⟨a1, a2⟩ := a
  obtain ⟨b1, b2⟩ := b
  simp only at ha hb HB
  cases h : (a1 != b1)
  · have HE := Lib.hid (show a2 - b2 = cmpE (a1, a2) (b1, b2) by simp at h; simp [cmpE, h])
    go_enter Try.func103, Try.ntmps103
    go_wp2
    go_ret
    exact ⟨ret_int HE.out, HB⟩
  · have HE := Lib.hid (show a1 - b1 = cmpE (a1, a2) (b1, b2) by simp at h; simp [cmpE, h])
    go_enter Try.func103, Try.ntmps103
    go_wp2
    go_ret
    exact ⟨ret_int HE.out, HB⟩

-- the walks (printed by gen_validg.py)

set_option maxHeartbeats 4000000 in
theorem specValidGraph_any (N : Int) (a : Option Addr) (c n : Nat) (es : List E2) (w : World) (hn : es.length = n) (hx : Rd w a (edges es)) (hl : n ≤ 8796093022208) :
    Calls Try.prog 75 #[graphV N a n c] w fun e w' => e = .returned (.bool (validG N es)) ∧ Below w.heap.size w w' := by
  have hB := below_alloc w (.cells #[.int .i64 N, .slice a n c] 25)
  have q0 := heap_alloc_new w (.cells #[.int .i64 N, .slice a n c] 25)
  have HI := Lib.hid (fun u => inRange_any N 0 7 u)
  have hx1 := hx.below hB
  generalize hW : w.alloc (.cells #[.int .i64 N, .slice a n c] 25) = W at *
  have HW := Lib.hid hW
  have hws : w.heap.size < W.heap.size := by rw [← hW]; simp
  clear hW hx
  have g1 := blk_cell q0 1 (.slice a n c) rfl
  go_enter Try.func75, Try.ntmps75
  go_wp2_with (simp only [HW.out])
  clear g1
  go_loopw [3, 4] (fun i _ wr => ∃ k : Nat, k ≤ n ∧ i = .int .i64 k ∧ (∀ j, j < k → OkE N es j) ∧ Below W.heap.size W wr) (fun i _ _ => n - (intOf i).toNat)
  case atStart => exact ⟨0, by omega, rfl, by intro j hj; omega, Below.refl _ _⟩
  case round =>
    obtain ⟨k, hk, rfl, hok, hb⟩ := hrel
    have q1 := blk_below q0 hb
    have g0 := blk_cell q1 0 (.int .i64 N) rfl
    have g1 := blk_cell q1 1 (.slice a n c) rfl
    have HBB := below_tr' hB hb
    by_cases hlt : k < n
    · have hkl : k < es.length := by omega
      obtain ⟨b1, o1, rfl, c1, c2⟩ := (hx1.below hb).edge (k := k) hkl
      have hprev : 0 < k → ∃ p : E2, p = es[k - 1]'(by omega) ∧ wr.cell? ⟨b1, o1 + (k - 1) * 2, none⟩ = some (.int .i64 p.1) ∧ wr.cell? ⟨b1, o1 + (k - 1) * 2 + 1, none⟩ = some (.int .i64 p.2) := by
        intro h0
        obtain ⟨b2, o2, e2, d1, d2⟩ := (hx1.below hb).edge (k := k - 1) (by omega)
        cases e2
        exact ⟨_, rfl, d1, d2⟩
      have hOK : ∀ X : E2, X = es[k]'hkl → (OkE N es k ↔ 0 ≤ X.1 ∧ X.1 < X.2 ∧ X.2 < N ∧ (0 < k → belowE (es[k - 1]'(by omega)) X = true)) := by
        rintro X rfl
        exact ⟨fun h => h hkl, fun h _ => h⟩
      obtain ⟨X, hX⟩ : ∃ X : E2, X = es[k]'hkl := ⟨_, rfl⟩
      have hOK := hOK X hX
      rw [← hX] at c1 c2
      have hlt1 : b1 < wr.heap.size := Rd.lt c1
      have hwr := hb.size
      have HP := Lib.hid hprev
      have HO := Lib.hid hok
      have HK := Lib.hid hOK
      clear hprev hok hOK hX
      obtain ⟨X, Y⟩ := X
      simp only at c1 c2
      have HAL := below_alloc wr (.cells #[.int .i64 X, .int .i64 Y] 48)
      have HB2 := below_tr' HBB HAL
      have HB3 := below_tr' hb HAL
      have e0 : (wr.alloc (.cells #[.int .i64 X, .int .i64 Y] 48)).cell? ⟨wr.heap.size, 0, none⟩ = some (.int .i64 X) := by rw [World.cell?_alloc_at _ _ _ _ rfl]; rfl
      have e1 : (wr.alloc (.cells #[.int .i64 X, .int .i64 Y] 48)).cell? ⟨wr.heap.size, 1, none⟩ = some (.int .i64 Y) := by rw [World.cell?_alloc_at _ _ _ _ rfl]; rfl
      generalize hV : wr.alloc (.cells #[.int .i64 X, .int .i64 Y] 48) = V at *
      have HV := Lib.hid hV
      clear hV
      go_wp2_with (simp only [HV.out])
      have d0 := later_cell e0
      have d1 := later_cell e1
      have d2 := later_cell ((HAL.cell (p := ⟨w.heap.size, 0, none⟩) (Rd.lt g0)).trans g0)
      have d3 := later_cell ((HAL.cell (p := ⟨w.heap.size, 1, none⟩) (Rd.lt g1)).trans g1)
      clear e0 e1 c1 c2 g0 g1 q1
      by_cases h1 : X < 0
      · refine wp_region_later (by kernel_rfl) (by kernel_rfl) ?_
        repeat (go_big_quiet_step (fail))
        refine wpQuiet_nil ?_
        intro w1 hw'
        have hb1 := later_below hw'
        clear hw' d0 d1 d2 d3
        go_wp2
        go_ret
        exact ⟨ret_bool (validG_no (mt HK.out.1 (by simp; omega))).symm, below_tr' HB2 hb1⟩
      by_cases h2 : Y ≤ X
      · refine wp_region_later (by kernel_rfl) (by kernel_rfl) ?_
        repeat (go_big_quiet_step (fail))
        refine wpQuiet_nil ?_
        intro w1 hw'
        have hb1 := later_below hw'
        clear hw' d0 d1 d2 d3
        go_wp2
        go_ret
        exact ⟨ret_bool (validG_no (mt HK.out.1 (by simp; omega))).symm, below_tr' HB2 hb1⟩
      by_cases h3 : N ≤ Y
      · refine wp_region_later (by kernel_rfl) (by kernel_rfl) ?_
        repeat (go_big_quiet_step (fail))
        refine wpQuiet_nil ?_
        intro w1 hw'
        have hb1 := later_below hw'
        clear hw' d0 d1 d2 d3
        go_wp2
        go_ret
        exact ⟨ret_bool (validG_no (mt HK.out.1 (by simp; omega))).symm, below_tr' HB2 hb1⟩
      by_cases h4 : k = 0
      · have h0 : ¬ 0 < k := by omega
        refine wp_region_later (by kernel_rfl) (by kernel_rfl) ?_
        repeat (go_big_quiet_step (fail))
        refine wpQuiet_nil ?_
        intro w1 hw'
        have hb1 := later_below hw'
        clear hw' d0 d1 d2 d3
        go_wp2
        go_roundw
        case rel => exact ⟨k + 1, by omega, by go_num, upto_next HO.out (HK.out.2 (by exact ⟨by omega, by omega, by omega, fun h => absurd h h0⟩)), below_tr' HB3 hb1⟩
        case measure => simp [intOf]; omega
      have h0 : 0 < k := by omega
      obtain ⟨p, hp, c3, c4⟩ := HP.out h0
      have d4 := later_cell ((HAL.cell (p := ⟨b1, o1 + (k - 1) * 2, none⟩) hlt1).trans c3)
      have d5 := later_cell ((HAL.cell (p := ⟨b1, o1 + (k - 1) * 2 + 1, none⟩) hlt1).trans c4)
      have hwrap := IntWalk.i64_in ((k : Int) - 1) (by omega)
      have HE := Lib.hid (fun u : Later V => edgeBelow_any p (X, Y) u.val)
      have HPP := Lib.hid hp
      obtain ⟨p1, p2⟩ := p
      simp only at d4 d5
      clear c3 c4 hp
      cases hv : belowE (p1, p2) (X, Y)
      · rw [hv] at HE
        refine wp_region_later (by kernel_rfl) (by kernel_rfl) ?_
        repeat (go_big_quiet_step ((go_at_call 151; exact calls_later _ (HE.out _))))
        refine wpQuiet_nil ?_
        intro w1 hw'
        have hb1 := later_below hw'
        clear hw' d0 d1 d2 d3
        go_wp2
        go_ret
        exact ⟨ret_bool (validG_no (mt HK.out.1 (by rintro ⟨_, _, _, h⟩; have := h h0; rw [← HPP.out, hv] at this; cases this))).symm, below_tr' HB2 hb1⟩
      · rw [hv] at HE
        refine wp_region_later (by kernel_rfl) (by kernel_rfl) ?_
        repeat (go_big_quiet_step ((go_at_call 151; exact calls_later _ (HE.out _))))
        refine wpQuiet_nil ?_
        intro w1 hw'
        have hb1 := later_below hw'
        clear hw' d0 d1 d2 d3
        go_wp2
        go_roundw
        case rel => exact ⟨k + 1, by omega, by go_num, upto_next HO.out (HK.out.2 (by exact ⟨by omega, by omega, by omega, fun _ => by rw [← HPP.out]; exact hv⟩)), below_tr' HB3 hb1⟩
        case measure => simp [intOf]; omega
    · have e : k = n := by omega
      have HE := Lib.hid (validG_end (N := N) (es := es) fun j hj => hok j (by omega))
      clear hok
      go_wp2_with (go_at_call 107; refine (HI.out _).mono ?_; rintro e w' ⟨rfl, rfl⟩)
      go_ret
      exact ⟨ret_bool HE.out, HBB⟩

set_option maxHeartbeats 4000000 in
theorem implValidGraph_any (N : Int) (a : Option Addr) (c n : Nat) (es : List E2) (w : World) (hN : N ≤ 9223372036854775807) (hn : es.length = n) (hx : Rd w a (edges es)) (hl : n ≤ 8796093022208) :
    Calls Try.prog 41 #[graphV N a n c] w fun e w' => e = .returned (.bool (validG N es)) ∧ Below w.heap.size w w' := by
  have hB := below_alloc w (.cells #[.int .i64 N, .slice a n c] 25)
  have q0 := heap_alloc_new w (.cells #[.int .i64 N, .slice a n c] 25)
  have HI := Lib.hid (fun u => in_any N 0 7 u)
  have hx1 := hx.below hB
  generalize hW : w.alloc (.cells #[.int .i64 N, .slice a n c] 25) = W at *
  have HW := Lib.hid hW
  have hws : w.heap.size < W.heap.size := by rw [← hW]; simp
  clear hW hx
  have g1 := blk_cell q0 1 (.slice a n c) rfl
  go_enter Try.func41, Try.ntmps41
  go_wp2_with (simp only [HW.out])
  clear g1
  go_loopw [3, 4, 8] (fun _ _ i wr => ∃ k : Nat, k ≤ n ∧ i = .int .i64 k ∧ (∀ j, j < k → OkE N es j) ∧ Below W.heap.size W wr) (fun _ _ i _ => n - (intOf i).toNat)
  case atStart => exact ⟨0, by omega, rfl, by intro j hj; omega, Below.refl _ _⟩
  case round =>
    obtain ⟨k, hk, rfl, hok, hb⟩ := hrel
    have q1 := blk_below q0 hb
    have g0 := blk_cell q1 0 (.int .i64 N) rfl
    have g1 := blk_cell q1 1 (.slice a n c) rfl
    have HBB := below_tr' hB hb
    by_cases hlt : k < n
    · have hkl : k < es.length := by omega
      obtain ⟨b1, o1, rfl, c1, c2⟩ := (hx1.below hb).edge (k := k) hkl
      have hprev : 0 < k → ∃ p : E2, p = es[k - 1]'(by omega) ∧ wr.cell? ⟨b1, o1 + (k - 1) * 2, none⟩ = some (.int .i64 p.1) ∧ wr.cell? ⟨b1, o1 + (k - 1) * 2 + 1, none⟩ = some (.int .i64 p.2) := by
        intro h0
        obtain ⟨b2, o2, e2, d1, d2⟩ := (hx1.below hb).edge (k := k - 1) (by omega)
        cases e2
        exact ⟨_, rfl, d1, d2⟩
      have hOK : ∀ X : E2, X = es[k]'hkl → (OkE N es k ↔ 0 ≤ X.1 ∧ X.1 < X.2 ∧ X.2 < N ∧ (0 < k → belowE (es[k - 1]'(by omega)) X = true)) := by
        rintro X rfl
        exact ⟨fun h => h hkl, fun h _ => h⟩
      obtain ⟨X, hX⟩ : ∃ X : E2, X = es[k]'hkl := ⟨_, rfl⟩
      have hOK := hOK X hX
      rw [← hX] at c1 c2
      have hlt1 : b1 < wr.heap.size := Rd.lt c1
      have hwr := hb.size
      have HP := Lib.hid hprev
      have HO := Lib.hid hok
      have HK := Lib.hid hOK
      clear hprev hok hOK hX
      obtain ⟨X, Y⟩ := X
      simp only at c1 c2
      have HAL := below_alloc wr (.cells #[.int .i64 X, .int .i64 Y] 48)
      have HB2 := below_tr' HBB HAL
      have HB3 := below_tr' hb HAL
      have e0 : (wr.alloc (.cells #[.int .i64 X, .int .i64 Y] 48)).cell? ⟨wr.heap.size, 0, none⟩ = some (.int .i64 X) := by rw [World.cell?_alloc_at _ _ _ _ rfl]; rfl
      have e1 : (wr.alloc (.cells #[.int .i64 X, .int .i64 Y] 48)).cell? ⟨wr.heap.size, 1, none⟩ = some (.int .i64 Y) := by rw [World.cell?_alloc_at _ _ _ _ rfl]; rfl
      generalize hV : wr.alloc (.cells #[.int .i64 X, .int .i64 Y] 48) = V at *
      have HV := Lib.hid hV
      clear hV
      go_wp2_with (simp only [HV.out])
      have d0 := later_cell e0
      have d1 := later_cell e1
      have d2 := later_cell ((HAL.cell (p := ⟨w.heap.size, 0, none⟩) (Rd.lt g0)).trans g0)
      have d3 := later_cell ((HAL.cell (p := ⟨w.heap.size, 1, none⟩) (Rd.lt g1)).trans g1)
      clear e0 e1 c1 c2 g0 g1 q1
      by_cases h1 : X < 0
      · refine wp_region_later (by kernel_rfl) (by kernel_rfl) ?_
        repeat (go_big_quiet_step (fail))
        refine wpQuiet_nil ?_
        intro w1 hw'
        have hb1 := later_below hw'
        clear hw' d0 d1 d2 d3
        go_wp2
        go_ret
        exact ⟨ret_bool (validG_no (mt HK.out.1 (by simp; omega))).symm, below_tr' HB2 hb1⟩
      by_cases h2 : Y ≤ X
      · refine wp_region_later (by kernel_rfl) (by kernel_rfl) ?_
        repeat (go_big_quiet_step (fail))
        refine wpQuiet_nil ?_
        intro w1 hw'
        have hb1 := later_below hw'
        clear hw' d0 d1 d2 d3
        go_wp2
        go_ret
        exact ⟨ret_bool (validG_no (mt HK.out.1 (by simp; omega))).symm, below_tr' HB2 hb1⟩
      by_cases h3 : N ≤ Y
      · refine wp_region_later (by kernel_rfl) (by kernel_rfl) ?_
        repeat (go_big_quiet_step (fail))
        refine wpQuiet_nil ?_
        intro w1 hw'
        have hb1 := later_below hw'
        clear hw' d0 d1 d2 d3
        go_wp2
        go_ret
        exact ⟨ret_bool (validG_no (mt HK.out.1 (by simp; omega))).symm, below_tr' HB2 hb1⟩
      by_cases h4 : k = 0
      · have h0 : ¬ 0 < k := by omega
        refine wp_region_later (by kernel_rfl) (by kernel_rfl) ?_
        repeat (go_big_quiet_step (fail))
        refine wpQuiet_nil ?_
        intro w1 hw'
        have hb1 := later_below hw'
        clear hw' d0 d1 d2 d3
        go_wp2
        go_roundw
        case rel => exact ⟨k + 1, by omega, by go_num, upto_next HO.out (HK.out.2 (by exact ⟨by omega, by omega, by omega, fun h => absurd h h0⟩)), below_tr' HB3 hb1⟩
        case measure => simp [intOf]; omega
      have h0 : 0 < k := by omega
      obtain ⟨p, hp, c3, c4⟩ := HP.out h0
      have d4 := later_cell ((HAL.cell (p := ⟨b1, o1 + (k - 1) * 2, none⟩) hlt1).trans c3)
      have d5 := later_cell ((HAL.cell (p := ⟨b1, o1 + (k - 1) * 2 + 1, none⟩) hlt1).trans c4)
      have hwrap := IntWalk.i64_in ((k : Int) - 1) (by omega)
      have hpk := HO.out (k - 1) (by omega) (by omega)
      rw [← hp] at hpk
      have HE := Lib.hid (fun u : Later V => compareEdges_any p (X, Y) u.val ⟨by omega, by omega, by omega, by omega⟩ (by simp only; omega))
      have hcm := cmpE_below p (X, Y)
      have HPP := Lib.hid hp
      obtain ⟨p1, p2⟩ := p
      simp only at d4 d5
      clear c3 c4 hp hpk
      generalize hC : cmpE (p1, p2) (X, Y) = C at *
      by_cases hv : 0 ≤ C
      · have hb0 : belowE (p1, p2) (X, Y) = false := by simpa [hv] using hcm
        have hb0 := Lib.hid hb0
        clear hcm hC
        refine wp_region_later (by kernel_rfl) (by kernel_rfl) ?_
        repeat (go_big_quiet_step ((go_at_call 103; exact calls_later _ (HE.out _))))
        refine wpQuiet_nil ?_
        intro w1 hw'
        have hb1 := later_below hw'
        clear hw' d0 d1 d2 d3
        go_wp2
        go_ret
        exact ⟨ret_bool (validG_no (mt HK.out.1 (by rintro ⟨_, _, _, h⟩; have := h h0; rw [← HPP.out, hb0.out] at this; cases this))).symm, below_tr' HB2 hb1⟩
      · have hb0 : belowE (p1, p2) (X, Y) = true := by simpa [hv] using hcm
        have hb0 := Lib.hid hb0
        clear hcm hC
        refine wp_region_later (by kernel_rfl) (by kernel_rfl) ?_
        repeat (go_big_quiet_step ((go_at_call 103; exact calls_later _ (HE.out _))))
        refine wpQuiet_nil ?_
        intro w1 hw'
        have hb1 := later_below hw'
        clear hw' d0 d1 d2 d3
        go_wp2
        go_roundw
        case rel => exact ⟨k + 1, by omega, by go_num, upto_next HO.out (HK.out.2 (by exact ⟨by omega, by omega, by omega, fun _ => by rw [← HPP.out]; exact hb0.out⟩)), below_tr' HB3 hb1⟩
        case measure => simp [intOf]; omega
    · have e : k = n := by omega
      have HE := Lib.hid (validG_end (N := N) (es := es) fun j hj => hok j (by omega))
      clear hok
      go_wp2_with (go_at_call 90; refine (HI.out _).mono ?_; rintro e w' ⟨rfl, rfl⟩)
      go_ret
      exact ⟨ret_bool HE.out, HBB⟩

end Go.Proofs.Ytjghcegacgpehaa
