
/- Several texts in one: IsPart, IsPart2. -/
import Derived.Test.YtjghcegacgpehaaHas
namespace Go.Proofs.Ytjghcegacgpehaa
open Go.RowKit

theorem all_next {p : E2 → Bool} {es : List E2} {k : Nat} (h : ∀ j (_ : j < k) (hj : j < es.length), p (es[j]'hj) = true) (hk : k < es.length) (h0 : p (es[k]'hk) = true) : ∀ j (_ : j < k + 1) (hj : j < es.length), p (es[j]'hj) = true := by
  intro j hj h1
  by_cases e : j = k
  · subst e; exact h0
  · exact h j (by omega) h1
theorem all_end {p : E2 → Bool} {es : List E2} {k : Nat} (h : ∀ j (_ : j < k) (hj : j < es.length), p (es[j]'hj) = true) (hk : k = es.length) : es.all p = true := by
  rw [List.all_eq_true]
  intro e he
  obtain ⟨i, hi, rfl⟩ := List.getElem_of_mem he
  exact h i (by omega) hi
theorem all_no {p : E2 → Bool} {es : List E2} {k : Nat} (hk : k < es.length) (h0 : p (es[k]'hk) = false) : es.all p = false := by
  rw [List.all_eq_false]
  exact ⟨_, List.getElem_mem hk, by simp [h0]⟩
def partB (gs hs : List E2) : Bool := gs.all fun e => hasB hs e.1 e.2

noncomputable def bothV (Ng : Int) (gs : List E2) (Nh : Int) (hs : List E2) : Bool := validG Ng gs && (validG Nh hs && decide (Ng = Nh))
set_option maxHeartbeats 1000000 in
theorem both_any (Ng : Int) (ag : Option Addr) (cg ng : Nat) (gs : List E2) (Nh : Int) (ah : Option Addr) (ch nh : Nat) (hs : List E2) (w : World) (hNg : Ng ≤ 9223372036854775807) (hNh : Nh ≤ 9223372036854775807) (hng : gs.length = ng) (hxg : Rd w ag (edges gs)) (hlg : ng ≤ 8796093022208) (hnh : hs.length = nh) (hxh : Rd w ah (edges hs)) (hlh : nh ≤ 8796093022208) :
    Calls Try.prog 72 #[graphV Ng ag ng cg, graphV Nh ah nh ch] w fun e w' => e = .returned (.bool (bothV Ng gs Nh hs)) ∧ Below w.heap.size w w' := by
  have hB := below_alloc2 w (.cells #[.int .i64 Ng, .slice ag ng cg] 25) (.cells #[.int .i64 Nh, .slice ah nh ch] 25)
  have qg := heap_alloc_new w (.cells #[.int .i64 Ng, .slice ag ng cg] 25)
  have qg := blk_below qg (below_alloc _ (.cells #[.int .i64 Nh, .slice ah nh ch] 25))
  have qh := heap_alloc_new (w.alloc (.cells #[.int .i64 Ng, .slice ag ng cg] 25)) (.cells #[.int .i64 Nh, .slice ah nh ch] 25)
  have hsz : (w.alloc (.cells #[.int .i64 Ng, .slice ag ng cg] 25)).heap.size = w.heap.size + 1 := by simp
  rw [hsz] at qh
  have hWs : w.heap.size + 1 < ((w.alloc (.cells #[.int .i64 Ng, .slice ag ng cg] 25)).alloc (.cells #[.int .i64 Nh, .slice ah nh ch] 25)).heap.size := by simp
  generalize hW : (w.alloc (.cells #[.int .i64 Ng, .slice ag ng cg] 25)).alloc (.cells #[.int .i64 Nh, .slice ah nh ch] 25) = W at *
  have HW := Lib.hid hW
  clear hW hsz
  have xg := hxg.below hB
  have xh := hxh.below hB
  clear hxg hxh
  have g0 := blk_cell qg 0 (.int .i64 Ng) rfl
  have g1 := blk_cell qg 1 (.slice ag ng cg) rfl
  have C1 := implValidGraph_any Ng ag cg ng gs W hNg hng xg hlg
  have Qg := Lib.hid qg
  have Qh := Lib.hid qh
  clear qg qh
  cases hv : validG Ng gs
  · have HR := Lib.hid (show false = bothV Ng gs Nh hs by simp [bothV, hv])
    rw [hv] at C1
    go_enter Try.func72, Try.ntmps72
    go_wp2_with (simp only [HW.out])
    refine C1.mono ?_
    rintro e w1 ⟨rfl, hb⟩
    go_wp2
    go_ret
    exact ⟨ret_bool HR.out, below_tr' hB hb⟩
  · rw [hv] at C1
    cases hv2 : validG Nh hs
    · have HR := Lib.hid (show false = bothV Ng gs Nh hs by simp [bothV, hv2])
      go_enter Try.func72, Try.ntmps72
      go_wp2_with (simp only [HW.out])
      refine C1.mono ?_
      rintro e w1 ⟨rfl, hb⟩
      have r := blk_below Qh.out hb
      have h0 := blk_cell r 0 (.int .i64 Nh) rfl
      have h1 := blk_cell r 1 (.slice ah nh ch) rfl
      have C2 := implValidGraph_any Nh ah ch nh hs w1 hNh hnh (xh.below hb) hlh
      rw [hv2] at C2
      go_wp2_with fail
      refine C2.mono ?_
      rintro e w2 ⟨rfl, hb2⟩
      go_wp2
      go_ret
      exact ⟨ret_bool HR.out, below_tr' (below_tr' hB hb) hb2⟩
    · have HR := Lib.hid (show decide (Ng = Nh) = bothV Ng gs Nh hs by simp [bothV, hv, hv2])
      go_enter Try.func72, Try.ntmps72
      go_wp2_with (simp only [HW.out])
      refine C1.mono ?_
      rintro e w1 ⟨rfl, hb⟩
      have r := blk_below Qh.out hb
      have r' := blk_below Qg.out hb
      clear g0 g1
      have h0 := blk_cell r 0 (.int .i64 Nh) rfl
      have h1 := blk_cell r 1 (.slice ah nh ch) rfl
      have C2 := implValidGraph_any Nh ah ch nh hs w1 hNh hnh (xh.below hb) hlh
      rw [hv2] at C2
      go_wp2_with fail
      refine C2.mono ?_
      rintro e w2 ⟨rfl, hb2⟩
      clear h0 h1
      have h0 := blk_cell (blk_below r hb2) 0 (.int .i64 Nh) rfl
      have g0 := blk_cell (blk_below r' hb2) 0 (.int .i64 Ng) rfl
      go_wp2
      go_ret
      exact ⟨ret_bool (by rw [← HR.out, Bool.beq_eq_decide_eq]), below_tr' (below_tr' hB hb) hb2⟩

/-- A function value of an edge that answers 'p', over memory that lies as it did at 'w'. -/
def AnswersF (w : World) (K : Nat) (cap : Array Value) (es : List E2) (p : E2 → Bool) : Prop :=
  Enters Try.prog K ∧ ∀ w' e, Below w.heap.size w w' → e ∈ es → Calls Try.prog K (#[.agg #[.int .i64 e.1, .int .i64 e.2]] ++ cap) w' fun r w'' => r = .returned (.bool (p e)) ∧ Below w'.heap.size w' w''

def idxP (p : E2 → Bool) (es : List E2) : Int := match es.findIdx? p with | some i => (i : Int) | none => -1
theorem idxP_none {p : E2 → Bool} {es : List E2} (h : ∀ j (hj : j < es.length), p (es[j]'hj) = false) : idxP p es = -1 := by
  have : es.findIdx? p = none := by
    rw [List.findIdx?_eq_none_iff]
    intro e he
    obtain ⟨i, hi, rfl⟩ := List.getElem_of_mem he
    exact h i hi
  simp [idxP, this]
theorem idxP_some {p : E2 → Bool} {es : List E2} {k : Nat} (hk : k < es.length) (h : ∀ j (_ : j < k) (hj : j < es.length), p (es[j]'hj) = false) (hp : p (es[k]'hk) = true) : idxP p es = k := by
  have : es.findIdx? p = some k := by
    rw [List.findIdx?_eq_some_iff_getElem]
    exact ⟨hk, hp, fun j hj => by simp [h j hj (by omega)]⟩
  simp [idxP, this]
theorem idxP_any (p : E2 → Bool) (es : List E2) : decide (0 ≤ idxP p es) = es.any p := by
  unfold idxP
  cases h : es.findIdx? p with
  | none =>
    rw [List.findIdx?_eq_none_iff] at h
    have : es.any p = false := by rw [List.any_eq_false]; intro x hx; simp [h x hx]
    simp [this]
  | some i =>
    obtain ⟨hi, hp, _⟩ := List.findIdx?_eq_some_iff_getElem.1 h
    have : es.any p = true := List.any_eq_true.2 ⟨_, List.getElem_mem hi, hp⟩
    simp [this]

set_option maxHeartbeats 1000000 in
theorem IndexFuncE_any (a : Option Addr) (c n : Nat) (es : List E2) (K : Nat) (cap : Array Value) (p : E2 → Bool) (w : World) (hn : es.length = n) (hx : Rd w a (edges es)) (hl : n ≤ 8796093022208) (hf : AnswersF w K cap es p) :
    Calls Try.prog 154 #[.slice a n c, .func (.func K) #[] cap] w fun e w' => e = .returned (.int .i64 (idxP p es)) ∧ Below w.heap.size w w' := by
  obtain ⟨hK0, hf⟩ := hf
  have hK : ∀ args w, (callFunc K args).run Try.prog w = .ok (.enter K args) w := hK0
  go_enter Try.func154, Try.ntmps154
  go_wp2
  go_loopw [5, 8] (fun _ i wr => ∃ k : Nat, k ≤ n ∧ i = .int .i64 k ∧ (∀ j (_ : j < k) (h : j < es.length), p (es[j]'h) = false) ∧ Below w.heap.size w wr) (fun _ i _ => n - (intOf i).toNat)
  case atStart => exact ⟨0, by omega, rfl, by intro j hj; omega, Below.refl _ _⟩
  case round =>
    obtain ⟨k, hk, rfl, hno, hb⟩ := hrel
    by_cases hlt : k < n
    · have hkl : k < es.length := by omega
      obtain ⟨b1, o1, rfl, c1, c2⟩ := (hx.below hb).edge (k := k) hkl
      have HC := hf wr (es[k]'hkl) hb (List.getElem_mem _)
      have hno' : p (es[k]'hkl) = false → (∀ j (_ : j < k + 1) (h : j < es.length), p (es[j]'h) = false) := by
        intro h0 j hj h
        by_cases e : j = k
        · subst e; exact h0
        · exact hno j (by omega) h
      have HY := Lib.hid (idxP_some (p := p) hkl hno)
      have HN := Lib.hid hno'
      clear hno hno'
      generalize (es[k]'hkl) = X at *
      obtain ⟨X, Y⟩ := X
      simp only at c1 c2 HC
      cases hp : p (X, Y)
      · have HN := Lib.hid (HN.out hp)
        rw [hp] at HC
        clear HY
        go_wp2_with fail
        refine HC.mono ?_
        rintro e w1 ⟨rfl, hb1⟩
        have HB := below_tr' hb hb1
        clear HC hb1
        go_wp2
        go_roundw
        case rel => exact ⟨k + 1, by omega, by go_num, HN.out, HB⟩
        case measure => simp [intOf]; omega
      · have HY := Lib.hid (HY.out hp)
        rw [hp] at HC
        clear HN
        go_wp2_with fail
        refine HC.mono ?_
        rintro e w1 ⟨rfl, hb1⟩
        have HB := below_tr' hb hb1
        clear HC hb1
        go_wp2
        go_ret
        exact ⟨ret_int HY.out.symm, HB⟩
    · have HE := Lib.hid (idxP_none (p := p) (es := es) fun j hj => hno j (by omega) hj)
      clear hno
      go_wp2
      go_ret
      exact ⟨ret_int HE.out.symm, hb⟩

theorem ContainsFuncE_any (a : Option Addr) (c n : Nat) (es : List E2) (K : Nat) (cap : Array Value) (p : E2 → Bool) (w : World) (hn : es.length = n) (hx : Rd w a (edges es)) (hl : n ≤ 8796093022208) (hf : AnswersF w K cap es p) :
    Calls Try.prog 83 #[.slice a n c, .func (.func K) #[] cap] w fun e w' => e = .returned (.bool (es.any p)) ∧ Below w.heap.size w w' := by
  have HA := Lib.hid (idxP_any p es)
  go_enter Try.func83, Try.ntmps83
  go_wp2_with fail
  refine (IndexFuncE_any a c n es K cap p w hn hx hl hf).mono ?_
  rintro e w1 ⟨rfl, hb⟩
  clear hf hx
  go_wp2
  go_ret
  exact ⟨ret_bool HA.out, hb⟩

theorem enters_isPart : Enters Try.prog 84 := enters Try.func84 (by kernel_rfl) rfl

theorem isPart1_any (N : Int) (a : Option Addr) (c n : Nat) (es : List E2) (x y : Int) (b : Nat) (w : World) (q : w.heap[b]? = some (.cells #[.int .i64 N, .slice a n c] 25 (0, 0))) (hn : es.length = n) (hx : Rd w a (edges es)) (hl : n ≤ 8796093022208) :
    Calls Try.prog 84 #[.agg #[.int .i64 x, .int .i64 y], .pointer (some ⟨b, 0, none⟩)] w fun e w' => e = .returned (.bool (!decide ((x, y) ∈ es))) ∧ Below w.heap.size w w' := by
  have hB := below_alloc w (.cells #[.int .i64 x, .int .i64 y] 48)
  have q1 := blk_below q hB
  have qe := heap_alloc_new w (.cells #[.int .i64 x, .int .i64 y] 48)
  have hx1 := hx.below hB
  generalize hW : w.alloc (.cells #[.int .i64 x, .int .i64 y] 48) = W at *
  have HW := Lib.hid hW
  clear hW hx q
  have g1 := blk_cell q1 1 (.slice a n c) rfl
  have e0 := blk_cell qe 0 (.int .i64 x) rfl
  have e1 := blk_cell qe 1 (.int .i64 y) rfl
  have C1 := ContainsE_any a c n es x y W hn hx1 hl
  go_enter Try.func84, Try.ntmps84
  go_wp2_with (simp only [HW.out])
  refine C1.mono ?_
  rintro e w1 ⟨rfl, hb⟩
  go_wp2
  go_ret
  exact ⟨rfl, below_tr' hB hb⟩

theorem partB_mem {Ng Nh : Int} {gs hs : List E2} (hg : validG Ng gs = true) (hh : validG Nh hs = true) : (!(gs.any fun e => !decide (e ∈ hs))) = partB gs hs := by
  have h1 : (gs.any fun e => !decide (e ∈ hs)) = !(gs.all fun e => decide (e ∈ hs)) := by rw [List.all_eq_not_any_not]; simp
  rw [h1, Bool.not_not, partB, Bool.eq_iff_iff, List.all_eq_true, List.all_eq_true]
  refine forall_congr' fun e => forall_congr' fun he => ?_
  rw [hasB_hasM (valid_lt hh)]
  have hl := valid_lt hg e he
  have : ordE e.1 e.2 = e := by refine Prod.ext ?_ ?_ <;> simp only [ordE] <;> omega
  rw [hasM, this]

noncomputable def isPartV (Ng : Int) (gs : List E2) (Nh : Int) (hs : List E2) : Bool := bothV Nh hs Ng gs && partB gs hs

set_option maxHeartbeats 1000000 in
theorem implIsPart_any (Ng : Int) (ag : Option Addr) (cg ng : Nat) (gs : List E2) (Nh : Int) (ah : Option Addr) (ch nh : Nat) (hs : List E2) (w : World) (hNg : Ng ≤ 9223372036854775807) (hNh : Nh ≤ 9223372036854775807) (hng : gs.length = ng) (hxg : Rd w ag (edges gs)) (hlg : ng ≤ 8796093022208) (hnh : hs.length = nh) (hxh : Rd w ah (edges hs)) (hlh : nh ≤ 8796093022208) :
    Calls Try.prog 22 #[graphV Ng ag ng cg, graphV Nh ah nh ch] w fun e w' => e = .returned (.bool (isPartV Ng gs Nh hs)) ∧ Below w.heap.size w w' := by
  have hB := below_alloc2 w (.cells #[.int .i64 Ng, .slice ag ng cg] 25) (.cells #[.int .i64 Nh, .slice ah nh ch] 25)
  have qg := heap_alloc_new w (.cells #[.int .i64 Ng, .slice ag ng cg] 25)
  have qg := blk_below qg (below_alloc _ (.cells #[.int .i64 Nh, .slice ah nh ch] 25))
  have qh := heap_alloc_new (w.alloc (.cells #[.int .i64 Ng, .slice ag ng cg] 25)) (.cells #[.int .i64 Nh, .slice ah nh ch] 25)
  have hsz : (w.alloc (.cells #[.int .i64 Ng, .slice ag ng cg] 25)).heap.size = w.heap.size + 1 := by simp
  rw [hsz] at qh
  have hWs : w.heap.size + 1 < ((w.alloc (.cells #[.int .i64 Ng, .slice ag ng cg] 25)).alloc (.cells #[.int .i64 Nh, .slice ah nh ch] 25)).heap.size := by simp
  generalize hW : (w.alloc (.cells #[.int .i64 Ng, .slice ag ng cg] 25)).alloc (.cells #[.int .i64 Nh, .slice ah nh ch] 25) = W at *
  have HW := Lib.hid hW
  clear hW hsz
  have xg := hxg.below hB
  have xh := hxh.below hB
  clear hxg hxh
  have g0 := blk_cell qg 0 (.int .i64 Ng) rfl
  have g1 := blk_cell qg 1 (.slice ag ng cg) rfl
  have h0 := blk_cell qh 0 (.int .i64 Nh) rfl
  have h1 := blk_cell qh 1 (.slice ah nh ch) rfl
  have C1 := both_any Nh ah ch nh hs Ng ag cg ng gs W hNh hNg hnh xh hlh hng xg hlg
  have Qg := Lib.hid qg
  have Qh := Lib.hid qh
  clear qg qh
  cases hv : bothV Nh hs Ng gs
  · have HR := Lib.hid (show false = isPartV Ng gs Nh hs by simp [isPartV, hv])
    rw [hv] at C1
    go_enter Try.func22, Try.ntmps22
    go_wp2_with (simp only [HW.out])
    refine C1.mono ?_
    rintro e w1 ⟨rfl, hb⟩
    go_wp2
    go_ret
    exact ⟨ret_bool HR.out, below_tr' hB hb⟩
  · have hvv : validG Ng gs = true ∧ validG Nh hs = true := by
      simp only [bothV, Bool.and_eq_true] at hv
      exact ⟨hv.2.1, hv.1⟩
    have HR := Lib.hid (show (!(gs.any fun e => !decide (e ∈ hs))) = isPartV Ng gs Nh hs by rw [partB_mem hvv.1 hvv.2]; simp [isPartV, hv])
    rw [hv] at C1
    go_enter Try.func22, Try.ntmps22
    go_wp2_with (simp only [HW.out])
    refine C1.mono ?_
    rintro e w1 ⟨rfl, hb⟩
    have r := blk_below Qg.out hb
    have r' := blk_below Qh.out hb
    clear g0 g1 h0 h1
    have g1 := blk_cell r 1 (.slice ag ng cg) rfl
    have hA : AnswersF w1 84 #[.pointer (some ⟨w.heap.size + 1, 0, none⟩)] gs (fun e => !decide (e ∈ hs)) :=
      ⟨enters_isPart, fun w' e hb' _ => isPart1_any Nh ah ch nh hs e.1 e.2 (w.heap.size + 1) w' (blk_below r' hb') hnh ((xh.below hb).below hb') hlh⟩
    have C2 := ContainsFuncE_any ag cg ng gs _ _ _ w1 hng (xg.below hb) hlg hA
    generalize (gs.any fun e => !decide (e ∈ hs)) = V at *
    clear hA
    go_wp2_with fail
    refine C2.mono ?_
    rintro e w2 ⟨rfl, hb2⟩
    go_wp2
    go_ret
    exact ⟨ret_bool HR.out, below_tr' (below_tr' hB hb) hb2⟩

end Go.Proofs.Ytjghcegacgpehaa
