
/- Whether a graph has an edge: the program's has (an edge of the row equals the ordered pair). -/
import Derived.Test.YtjghcegacgpehaaHasEdge
import Derived.Test.YtjghcegacgpehaaValidG
import Derived.Laws.StructEq
namespace Go.Proofs.Ytjghcegacgpehaa
open Go.RowKit

def ordE (x y : Int) : E2 := (min x y, max x y)

theorem edge_any (x y : Int) (w : World) :
    Calls Try.prog 150 #[.int .i64 x, .int .i64 y] w fun e w' => e = .returned (edgeV (ordE x y)) ∧ Below w.heap.size w w' := by
  go_enter Try.func150, Try.ntmps150
  go_wp2
  all_goals
    refine bodyPost_ret (v := edgeV (ordE x y)) (by simp [results, Try.results150, go_sem, ordE] <;> omega) rfl ⟨rfl, below_alloc w _⟩

def idxE (es : List E2) (x y : Int) : Int := match es.findIdx? (fun e => (x == e.1) && (y == e.2)) with | some i => (i : Int) | none => -1

theorem idxE_none {es : List E2} {x y : Int} (h : ∀ j (hj : j < es.length), ((x == (es[j]'hj).1) && (y == (es[j]'hj).2)) = false) : idxE es x y = -1 := by
  have : es.findIdx? (fun e => (x == e.1) && (y == e.2)) = none := by
    rw [List.findIdx?_eq_none_iff]
    intro e he
    obtain ⟨i, hi, rfl⟩ := List.getElem_of_mem he
    exact h i hi
  simp [idxE, this]
theorem idxE_some {es : List E2} {x y : Int} {k : Nat} (hk : k < es.length) (h : ∀ j (_ : j < k) (hj : j < es.length), ((x == (es[j]'hj).1) && (y == (es[j]'hj).2)) = false) (hp : ((x == (es[k]'hk).1) && (y == (es[k]'hk).2)) = true) : idxE es x y = k := by
  have : es.findIdx? (fun e => (x == e.1) && (y == e.2)) = some k := by
    rw [List.findIdx?_eq_some_iff_getElem]
    exact ⟨hk, hp, fun j hj => by simpa using h j hj (by omega)⟩
  simp [idxE, this]
theorem idxE_in (es : List E2) (x y : Int) : decide (0 ≤ idxE es x y) = decide ((x, y) ∈ es) := by
  unfold idxE
  cases h : es.findIdx? (fun e => (x == e.1) && (y == e.2)) with
  | none =>
    rw [List.findIdx?_eq_none_iff] at h
    have : ¬ (x, y) ∈ es := fun hm => by have := h _ hm; simp at this
    simp [this]
  | some i =>
    obtain ⟨hi, hp, _⟩ := List.findIdx?_eq_some_iff_getElem.1 h
    have : (x, y) ∈ es := by
      simp only [Bool.and_eq_true, beq_iff_eq] at hp
      have e : (x, y) = es[i]'hi := Prod.ext hp.1 hp.2
      rw [e]; exact List.getElem_mem hi
    simp [this]

theorem Try.fieldsEdge : (Try.prog.fieldsOf 48).toList.map (fun f => (f.name, f.type, f.offset)) = [("A", 3, 0), ("B", 3, 1)] := by kernel_rfl

@[go_sem] theorem Try.run_eqE (x y p q : Int) (w : World) : (binOp .eql 48 (.agg #[.int .i64 x, .int .i64 y]) (.agg #[.int .i64 p, .int .i64 q])).run Try.prog w = .ok (.bool ((x == p) && (y == q))) w := by
  rw [run_eql_struct, run_equalIn_agg w 9999 48 _ _ (by kernel_rfl) (by kernel_rfl)]
  have h := Try.fieldsEdge
  generalize (Try.prog.fieldsOf 48).toList = fs at h
  rcases fs with _ | ⟨f, _ | ⟨g, _ | ⟨k, t⟩⟩⟩
  · simp at h
  · simp at h
  · simp only [List.map_cons, List.map_nil, List.cons.injEq, Prod.mk.injEq, and_true] at h
    obtain ⟨⟨h1, h2, h3⟩, h4, h5, h6⟩ := h
    have hi : Try.prog.underlying 3 = some (.int .i64) := Try.underlying3
    cases hx : (x == p) <;> cases hy : (y == q) <;> simp [Op.eqFields, h1, h2, h3, h4, h5, h6, go_sem, hx, hy, hi]
  · simp at h

@[go_sem] theorem Try.eqGuardE (x y : Operand) (xs ys : Array Value) (w : World) : (eqGuard .eql 48 x y (.agg xs) (.agg ys)).run Try.prog w = .ok () w := run_eqGuard_agg _ _ _ _ _ _ _ (by kernel_rfl)

set_option maxHeartbeats 1000000 in
theorem IndexE_any (a : Option Addr) (c n : Nat) (es : List E2) (x y : Int) (w : World) (hn : es.length = n) (hx : Rd w a (edges es)) (hl : n ≤ 8796093022208) :
    Calls Try.prog 155 #[.slice a n c, .agg #[.int .i64 x, .int .i64 y]] w fun e w' => e = .returned (.int .i64 (idxE es x y)) ∧ Below w.heap.size w w' := by
  have hB := below_alloc w (.cells #[.int .i64 x, .int .i64 y] 48)
  have q0 := heap_alloc_new w (.cells #[.int .i64 x, .int .i64 y] 48)
  have hx1 := hx.below hB
  generalize hW : w.alloc (.cells #[.int .i64 x, .int .i64 y] 48) = W at *
  have HW := Lib.hid hW
  clear hW hx
  go_enter Try.func155, Try.ntmps155
  go_wp2_with (simp only [HW.out])
  go_loopw [5, 8] (fun _ i wr => ∃ k : Nat, k ≤ n ∧ i = .int .i64 k ∧ (∀ j (_ : j < k) (hj : j < es.length), ((x == (es[j]'hj).1) && (y == (es[j]'hj).2)) = false) ∧ ∃ q, wr = W.drewN q) (fun _ i _ => n - (intOf i).toNat)
  case atStart => exact ⟨0, by omega, rfl, by intro j hj; omega, 0, rfl⟩
  case round =>
    obtain ⟨k, hk, rfl, hno, q, hq⟩ := hrel
    by_cases hlt : k < n
    · have hkl : k < es.length := by omega
      obtain ⟨b1, o1, rfl, c1, c2⟩ := hx1.edge (k := k) hkl
      have hS := idxE_some (x := x) (y := y) hkl hno
      have hN : ((x == (es[k]'hkl).1) && (y == (es[k]'hkl).2)) = false → ∀ j (_ : j < k + 1) (hj : j < es.length), ((x == (es[j]'hj).1) && (y == (es[j]'hj).2)) = false := by
        intro h0 j hj h
        by_cases e : j = k
        · subst e; exact h0
        · exact hno j (by omega) h
      have HS := Lib.hid hS
      have HN := Lib.hid hN
      clear hS hN hno
      generalize (es[k]'hkl).1 = X at *
      generalize (es[k]'hkl).2 = Y at *
      have d1 : ∀ q, (wr.drewN q).cell? ⟨b1, o1 + k * 2, none⟩ = some (.int .i64 X) := fun _ => by rw [hq]; exact c1
      have d2 : ∀ q, (wr.drewN q).cell? ⟨b1, o1 + k * 2 + 1, none⟩ = some (.int .i64 Y) := fun _ => by rw [hq]; exact c2
      have d3 : ∀ q, (wr.drewN q).cell? ⟨w.heap.size, 0, none⟩ = some (.int .i64 x) := fun _ => by rw [hq]; exact blk_cell q0 0 (.int .i64 x) rfl
      have d4 : ∀ q, (wr.drewN q).cell? ⟨w.heap.size, 1, none⟩ = some (.int .i64 y) := fun _ => by rw [hq]; exact blk_cell q0 1 (.int .i64 y) rfl
      have HQ := Lib.hid hq
      clear hq
      cases h1 : (x == X)
      · have HN := Lib.hid (HN.out (by simp [h1]))
        clear HS
        go_wp2
        refine wp_region_flags [true, true, true, true, true, false] 5 (C := fun w' => ∃ q, w' = wr.drewN q) (by kernel_rfl) (by kernel_rfl) ⟨1, rfl⟩ ?_
        simp only [pickT, pickF]
        repeat (go_big_quiet_step (fail))
        refine wpQuiet_nil ?_
        refine tail_last fun K hK => ?_
        clear d1 d2 d3 d4
        go_wp2
        go_roundw
        case rel => exact ⟨k + 1, by omega, by go_num, HN.out, q + 1, by rw [HQ.out, ← World.drewN_drewN]; rfl⟩
        case measure => simp [intOf]; omega
      · cases h2 : (y == Y)
        · have HN := Lib.hid (HN.out (by simp [h2]))
          clear HS
          go_wp2
          refine wp_region_flags [true, true, true, true, true, false] 5 (C := fun w' => ∃ q, w' = wr.drewN q) (by kernel_rfl) (by kernel_rfl) ⟨1, rfl⟩ ?_
          simp only [pickT, pickF]
          repeat (go_big_quiet_step (fail))
          refine wpQuiet_nil ?_
          refine tail_last fun K hK => ?_
          clear d1 d2 d3 d4
          go_wp2
          go_roundw
          case rel => exact ⟨k + 1, by omega, by go_num, HN.out, q + 1, by rw [HQ.out, ← World.drewN_drewN]; rfl⟩
          case measure => simp [intOf]; omega
        · have HS := Lib.hid (HS.out (by simp [h1, h2]))
          clear HN
          go_wp2
          refine wp_region_flags [true, true, true, true, true, false] 5 (C := fun w' => ∃ q, w' = wr.drewN q) (by kernel_rfl) (by kernel_rfl) ⟨1, rfl⟩ ?_
          simp only [pickT, pickF]
          repeat (go_big_quiet_step (fail))
          refine wpQuiet_nil ?_
          refine tail_last fun K hK => ?_
          clear d1 d2 d3 d4
          go_wp2
          go_ret
          exact ⟨ret_int HS.out.symm, by rw [HQ.out]; exact bel_drew (bel_drewN hB q)⟩
    · have HE := Lib.hid (idxE_none (es := es) (x := x) (y := y) fun j hj => hno j (by omega) hj)
      clear hno
      go_wp2
      go_ret
      exact ⟨ret_int HE.out.symm, bel_drewN hB q⟩

theorem ContainsE_any (a : Option Addr) (c n : Nat) (es : List E2) (x y : Int) (w : World) (hn : es.length = n) (hx : Rd w a (edges es)) (hl : n ≤ 8796093022208) :
    Calls Try.prog 85 #[.slice a n c, .agg #[.int .i64 x, .int .i64 y]] w fun e w' => e = .returned (.bool (decide ((x, y) ∈ es))) ∧ Below w.heap.size w w' := by
  have hB := below_alloc w (.cells #[.int .i64 x, .int .i64 y] 48)
  have C1 := IndexE_any a c n es x y _ hn (hx.below hB) hl
  have HE := Lib.hid (idxE_in es x y)
  generalize idxE es x y = I at *
  go_enter Try.func85, Try.ntmps85
  go_wp2_with fail
  refine C1.mono ?_
  rintro e w1 ⟨rfl, hb⟩
  go_wp2
  go_ret
  exact ⟨ret_bool HE.out, below_tr' hB hb⟩

def hasM (es : List E2) (x y : Int) : Bool := decide (ordE x y ∈ es)

theorem has_any (N : Int) (a : Option Addr) (c n : Nat) (es : List E2) (x y : Int) (w : World) (hn : es.length = n) (hx : Rd w a (edges es)) (hl : n ≤ 8796093022208) :
    Calls Try.prog 74 #[graphV N a n c, .int .i64 x, .int .i64 y] w fun e w' => e = .returned (.bool (hasM es x y)) ∧ Below w.heap.size w w' := by
  have hB := below_alloc w (.cells #[.int .i64 N, .slice a n c] 25)
  have q0 := heap_alloc_new w (.cells #[.int .i64 N, .slice a n c] 25)
  have hx1 := hx.below hB
  generalize hW : w.alloc (.cells #[.int .i64 N, .slice a n c] 25) = W at *
  have HW := Lib.hid hW
  clear hW hx
  have d1 := later_cell (blk_cell q0 1 (.slice a n c) rfl)
  have HE := Lib.hid (fun u : Later W => edge_any x y u.val)
  have HC := Lib.hid (fun u : Later W => ContainsE_any a c n es (ordE x y).1 (ordE x y).2 u.val hn (hx1.below u.ok) hl)
  go_enter Try.func74, Try.ntmps74
  go_wp2_with (simp only [HW.out])
  refine wp_region_later (by kernel_rfl) (by kernel_rfl) ?_
  repeat (go_big_quiet_step (first | (go_at_call 150; exact calls_later _ (HE.out _)) | (go_at_call 85; exact calls_later _ (HC.out _))))
  refine wpQuiet_nil ?_
  intro w1 hw'
  have hb1 := below_tr' hB (later_below hw')
  clear hw' d1
  go_wp2
  go_ret
  exact ⟨rfl, hb1⟩

theorem hasB_hasM {es : List E2} {x y : Int} (h : ∀ e ∈ es, e.1 < e.2) : hasB es x y = hasM es x y := by
  rw [Bool.eq_iff_iff, hasB, hasM, List.any_eq_true, decide_eq_true_iff]
  constructor
  · rintro ⟨e, he, hi⟩
    have hl := h e he
    simp only [isEdge, Bool.or_eq_true, Bool.and_eq_true, beq_iff_eq] at hi
    have : ordE x y = e := by
      refine Prod.ext ?_ ?_ <;> simp only [ordE] <;> omega
    rw [this]; exact he
  · intro he
    refine ⟨_, he, ?_⟩
    have hl := h _ he
    simp only [ordE] at hl
    simp only [isEdge, ordE, Bool.or_eq_true, Bool.and_eq_true, beq_iff_eq]
    omega

theorem valid_lt {N : Int} {es : List E2} (h : validG N es = true) : ∀ e ∈ es, e.1 < e.2 := by
  intro e he
  obtain ⟨i, hi, rfl⟩ := List.getElem_of_mem he
  exact ((validG_true.1 h).1 i hi).2.1

end Go.Proofs.Ytjghcegacgpehaa
