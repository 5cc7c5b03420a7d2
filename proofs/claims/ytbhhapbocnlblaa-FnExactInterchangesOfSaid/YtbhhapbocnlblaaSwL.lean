
/- Rows of switches (four cells each); the laws' helpers on them. -/
import Derived.Test.YtbhhapbocnlblaaBlk
import Derived.Test.YtbhhapbocnlblaaLater
import Derived.Test.YtbhhapbocnlblaaChecked
namespace Go.Proofs.Ytbhhapbocnlblaa
open Go.RowKit

abbrev S4 := Int × Int × Int × Int
def sws (l : List S4) : List Value := l.flatMap fun s => [.int .i64 s.1, .int .i64 s.2.1, .int .i64 s.2.2.1, .int .i64 s.2.2.2]

theorem sws_cons (s : S4) (l : List S4) : sws (s :: l) = .int .i64 s.1 :: .int .i64 s.2.1 :: .int .i64 s.2.2.1 :: .int .i64 s.2.2.2 :: sws l := by simp [sws]
theorem sws_append (xs ys : List S4) : sws (xs ++ ys) = sws xs ++ sws ys := by simp [sws]
theorem sws_length (l : List S4) : (sws l).length = l.length * 4 := by
  induction l with
  | nil => rfl
  | cons e l ih => rw [sws_cons]; simp only [List.length_cons, ih]; omega
theorem sws_get (l : List S4) (k : Nat) (h : k < l.length) : (sws l)[k * 4]? = some (.int .i64 (l[k]'h).1) ∧ (sws l)[k * 4 + 1]? = some (.int .i64 (l[k]'h).2.1) ∧ (sws l)[k * 4 + 2]? = some (.int .i64 (l[k]'h).2.2.1) ∧ (sws l)[k * 4 + 3]? = some (.int .i64 (l[k]'h).2.2.2) := by
  induction l generalizing k with
  | nil => simp at h
  | cons e l ih =>
    rw [sws_cons]
    cases k with
    | zero => simp
    | succ k =>
      have h' : k < l.length := by simpa using h
      obtain ⟨h1, h2, h3, h4⟩ := ih k h'
      rw [show (k + 1) * 4 = k * 4 + 4 by omega, show k * 4 + 4 + 1 = k * 4 + 1 + 4 by omega, show k * 4 + 4 + 2 = k * 4 + 2 + 4 by omega, show k * 4 + 4 + 3 = k * 4 + 3 + 4 by omega]
      simp only [List.getElem?_cons_succ, List.getElem_cons_succ]
      exact ⟨h1, h2, h3, h4⟩

theorem Rd.sw {w : World} {a : Option Addr} {l : List S4} (h : Rd w a (sws l)) {k : Nat} (hk : k < l.length) :
    ∃ b off, a = some ⟨b, off, none⟩ ∧ w.cell? ⟨b, off + k * 4, none⟩ = some (.int .i64 (l[k]'hk).1) ∧ w.cell? ⟨b, off + k * 4 + 1, none⟩ = some (.int .i64 (l[k]'hk).2.1) ∧ w.cell? ⟨b, off + k * 4 + 2, none⟩ = some (.int .i64 (l[k]'hk).2.2.1) ∧ w.cell? ⟨b, off + k * 4 + 3, none⟩ = some (.int .i64 (l[k]'hk).2.2.2) := by
  obtain ⟨h1, h2, h3, h4⟩ := sws_get l k hk
  obtain ⟨b, off, rfl, c1⟩ := h _ _ h1
  obtain ⟨b', off', e, c2⟩ := h _ _ h2
  cases e
  obtain ⟨b', off', e, c3⟩ := h _ _ h3
  cases e
  obtain ⟨b', off', e, c4⟩ := h _ _ h4
  cases e
  exact ⟨b, off, rfl, c1, c2, c3, c4⟩

theorem Try.infoSw : (Try.prog.info? 38).map (fun i => (i.zero, i.size, i.bytes)) = some (some (.agg #[.int .i64 0, .int .i64 0, .int .i64 0, .int .i64 0]), 4, 32) := by kernel_rfl
theorem Try.infoS : Info Try.prog 43 38 (.agg #[.int .i64 0, .int .i64 0, .int .i64 0, .int .i64 0]) 4 32 := ⟨Try.underlying43, Try.infoSw, rfl, by decide, by decide⟩

/-- 'append(s, Switch{..})' onto an owned row of switches. -/
theorem appendS {w0 w : World} {B0 B : Nat} {p q r s4 : Int}
    {ops : Array Oper} {rest : List Oper} {o : Oper} {a : Act} {Q : Exit → Act → World → Prop} (s t : Operand) (hgd : o.guard = none)
    (ho : o.op = .call { callee := .builtin .append, args := #[s, t], argTypes := #[43, 43] })
    {a0 : Option Addr} {n c cx : Nat} {l : List S4} (hown : w.ownsRow B 38 4 (.slice a0 n c) n (sws l)) (hb : Below B0 w0 w) (hB : B0 ≤ B) (hBw : B ≤ w.heap.size)
    (hs : a.eval s = .slice a0 n c) (hx : a.eval t = .slice (some ⟨w.heap.size, 0, none⟩) 1 cx) (hN : n + 1 ≤ 4398046511104)
    (h : ∀ a' c' w', w'.ownsRow B 38 4 (.slice a' (n + 1) c') (n + 1) (sws (l ++ [(p, q, r, s4)])) → Below B0 w0 w' → wpList Try.prog ops Q rest (a.put o.dst (.slice a' (n + 1) c')) w') :
    wpList Try.prog ops Q (o :: rest) a (w.alloc (.cells #[.int .i64 p, .int .i64 q, .int .i64 r, .int .i64 s4] 38)) :=
  append1 Try.infoS s t hgd ho hown hb hB hBw hs hx rfl (by intro u hu; simp at hu; rcases hu with rfl | rfl | rfl | rfl <;> rfl) (by omega) (fun a' c' w' h1 h2 => h a' c' w' (by rw [sws_append]; exact h1) h2)

theorem eqSwitch_any (p q r s : Int) (w : World) :
    Calls Try.prog 75 #[.agg #[.int .i64 p, .int .i64 q, .int .i64 r, .int .i64 s], .agg #[.int .i64 p, .int .i64 q, .int .i64 r, .int .i64 s]] w fun e w' => e = .returned (.bool true) ∧ Below w.heap.size w w' := by
  go_enter Try.func75, Try.ntmps75
  go_wp2
  go_ret
  exact ⟨rfl, below_alloc2 _ _ _⟩

set_option maxHeartbeats 800000 in
theorem eqSwitchS_any (a b : Option Addr) (ca cb n : Nat) (es : List S4) (w : World) (hn : es.length = n) (hx : Rd w a (sws es)) (hy : Rd w b (sws es)) (hl : n ≤ 1000000000) :
    Calls Try.prog 44 #[.slice a n ca, .slice b n cb] w fun e w' => e = .returned (.bool true) ∧ Below w.heap.size w w' := by
  go_enter Try.func44, Try.ntmps44
  go_wp2
  go_loopw [5] (fun i wr => ∃ k : Nat, k ≤ n ∧ i = .int .i64 k ∧ Below w.heap.size w wr) (fun i _ => n - (intOf i).toNat)
  case atStart => exact ⟨0, by omega, rfl, Below.refl _ _⟩
  case round =>
    obtain ⟨k, hk, rfl, hb⟩ := hrel
    by_cases hlt : k < n
    · obtain ⟨b1, o1, rfl, c1, c2, c5, c6⟩ := (hx.below hb).sw (k := k) (by omega)
      obtain ⟨b2, o2, rfl, c3, c4, c7, c8⟩ := (hy.below hb).sw (k := k) (by omega)
      generalize (es[k]'(by omega)).1 = X at *
      generalize (es[k]'(by omega)).2.1 = Y at *
      generalize (es[k]'(by omega)).2.2.1 = Z at *
      generalize (es[k]'(by omega)).2.2.2 = V at *
      have d1 := later_cell c1
      have d2 := later_cell c2
      have d3 := later_cell c3
      have d4 := later_cell c4
      have d5 := later_cell c5
      have d6 := later_cell c6
      have d7 := later_cell c7
      have d8 := later_cell c8
      have HT := Lib.hid (fun u : Later wr => eqSwitch_any X Y Z V u.val)
      clear c1 c2 c3 c4 c5 c6 c7 c8
      go_wp2
      refine wp_region_later (by kernel_rfl) (by kernel_rfl) ?_
      repeat (go_big_quiet_step ((go_at_call 75; exact calls_later _ (HT.out _))))
      refine wpQuiet_nil ?_
      intro w1 hw'
      have hb1 := below_tr' hb (later_below hw')
      clear hw' d1 d2 d3 d4 d5 d6 d7 d8
      go_wp2
      go_roundw
      case rel => exact ⟨k + 1, by omega, by go_num, hb1⟩
      case measure => simp [intOf]; omega
    · go_wp2
      go_ret
      exact ⟨rfl, hb⟩

theorem sws_set (es : List S4) (k : Nat) (h : k < es.length) (x : S4) : ((((sws es).set (k * 4) (.int .i64 x.1)).set (k * 4 + 1) (.int .i64 x.2.1)).set (k * 4 + 2) (.int .i64 x.2.2.1)).set (k * 4 + 3) (.int .i64 x.2.2.2) = sws (es.set k x) := by
  induction es generalizing k with
  | nil => simp at h
  | cons e l ih =>
    rw [sws_cons]
    cases k with
    | zero => simp [sws_cons]
    | succ k =>
      have h' : k < l.length := by simpa using h
      rw [show (k + 1) * 4 = k * 4 + 4 by omega, show k * 4 + 4 + 1 = k * 4 + 1 + 4 by omega, show k * 4 + 4 + 2 = k * 4 + 2 + 4 by omega, show k * 4 + 4 + 3 = k * 4 + 3 + 4 by omega]
      simp only [List.set_cons_succ]
      rw [ih k h', sws_cons]

def marksS (k : Int) (n : Nat) : List S4 := (List.range n).map fun i : Nat => (k + 4 * (i : Int), k + 4 * (i : Int) + 1, k + 4 * (i : Int) + 1 + 1, k + 4 * (i : Int) + 1 + 1 + 1)
theorem marksS_length (k : Int) (n : Nat) : (marksS k n).length = n := by simp [marksS]
theorem marksS_succ (k : Int) (n : Nat) : marksS k (n + 1) = marksS k n ++ [(k + 4 * (n : Int), k + 4 * (n : Int) + 1, k + 4 * (n : Int) + 1 + 1, k + 4 * (n : Int) + 1 + 1 + 1)] := by simp [marksS, List.range_succ]
theorem marksS_get (k : Int) (n i : Nat) (h : i < n) : (marksS k n)[i]'(by rw [marksS_length]; exact h) = (k + 4 * (i : Int), k + 4 * (i : Int) + 1, k + 4 * (i : Int) + 1 + 1, k + 4 * (i : Int) + 1 + 1 + 1) := by simp [marksS]
theorem marksS_set (k : Int) (es : List S4) (n j : Nat) (hn : es.length = n) (hj : j < n) : (marksS k j ++ es.drop j).set j (k + 4 * (j : Int), k + 4 * (j : Int) + 1, k + 4 * (j : Int) + 1 + 1, k + 4 * (j : Int) + 1 + 1 + 1) = marksS k (j + 1) ++ es.drop (j + 1) := by
  rw [List.drop_eq_getElem_cons (by omega), List.set_append_right _ _ (by rw [marksS_length]; omega), marksS_length, Nat.sub_self, List.set_cons_zero, marksS_succ]
  simp

theorem own_swLen {w : World} {B T n c : Nat} {a : Option Addr} {es : List S4} (ho : w.ownsRow B T 4 (.slice a n c) n (sws es)) : es.length = n := by
  have := ho.1; rw [sws_length] at this; omega

set_option maxHeartbeats 1000000 in
theorem markSwitchS_any (B : Nat) (a : Option Addr) (c cv n : Nat) (es : List S4) (k0 : Int) (w : World) (ho0 : w.ownsRow B 38 4 (.slice a n c) n (sws es)) (hl : n ≤ 1048576) (hk0 : 0 ≤ k0) (hk1 : k0 ≤ 1099511627776) :
    Calls Try.prog 45 #[.slice a n cv, .int .i64 k0] w fun e w' =>
      e = .returned (.int .i64 (k0 + 4 * n)) ∧ w'.ownsRow B 38 4 (.slice a n c) n (sws (marksS k0 n)) ∧ w.grownBy w' (Value.slice a n c).ownBlock := by
  have hxl : es.length = n := own_swLen ho0
  go_enter Try.func45, Try.ntmps45
  go_wp2
  go_loopw [1, 5] (fun q i wr => ∃ k : Nat, k ≤ n ∧ i = .int .i64 k ∧ q = .int .i64 (k0 + 4 * (k : Int)) ∧ wr.ownsRow B 38 4 (.slice a n c) n (sws (marksS k0 k ++ es.drop k)) ∧ w.grownBy wr (Value.slice a n c).ownBlock) (fun _ i _ => n - (intOf i).toNat)
  case atStart => exact ⟨0, by omega, rfl, by simp, by simpa [marksS] using ho0, World.grownBy.refl _ _⟩
  case round =>
    obtain ⟨k, hk, rfl, rfl, ho, hg⟩ := hrel
    by_cases hlt : k < n
    · obtain ⟨g, rfl, hgB, _⟩ := own_head ho0 (by omega)
      obtain ⟨v, c2⟩ := own_some ho (k * 4) (by omega)
      have f2 := ho.frozenAt (k * 4)
      have hs1 := ho.stored (k * 4) (.int .i64 (k0 + 4 * (k : Int)))
      obtain ⟨v3, c3⟩ := own_some hs1.1 (k * 4 + 1) (by omega)
      have f3 := hs1.1.frozenAt (k * 4 + 1)
      have hs2 := hs1.1.stored (k * 4 + 1) (.int .i64 (k0 + 4 * (k : Int) + 1))
      obtain ⟨v4, c4⟩ := own_some hs2.1 (k * 4 + 2) (by omega)
      have f4 := hs2.1.frozenAt (k * 4 + 2)
      have hs3 := hs2.1.stored (k * 4 + 2) (.int .i64 (k0 + 4 * (k : Int) + 1 + 1))
      obtain ⟨v5, c5⟩ := own_some hs3.1 (k * 4 + 3) (by omega)
      have f5 := hs3.1.frozenAt (k * 4 + 3)
      have hs4 := hs3.1.stored (k * 4 + 3) (.int .i64 (k0 + 4 * (k : Int) + 1 + 1 + 1))
      have e4 := sws_set (marksS k0 k ++ es.drop k) k (by simp [marksS_length]; omega) (k0 + 4 * (k : Int), k0 + 4 * (k : Int) + 1, k0 + 4 * (k : Int) + 1 + 1, k0 + 4 * (k : Int) + 1 + 1 + 1)
      have h4 := hs4.1
      simp only at e4
      rw [e4, marksS_set _ _ _ _ hxl hlt] at h4
      have hg2 : w.grownBy _ (some g) := grown_trans (grown_trans (grown_trans (grown_trans hg hs1.2) hs2.2) hs3.2) hs4.2
      have H := Lib.hid (And.intro h4 hg2)
      clear hs1 hs2 hs3 hs4 hg2 h4 e4
      go_wp2
      go_roundw
      case rel => exact ⟨k + 1, by omega, by go_num, by go_num, H.out.1, H.out.2⟩
      case measure => simp [intOf]; omega
    · go_wp2
      go_ret
      have : k = n := by omega
      subst this
      refine ⟨rfl, ?_, hg⟩
      rw [List.drop_of_length_le (by omega), List.append_nil] at ho
      exact ho

set_option maxHeartbeats 800000 in
theorem heldSwitchS_any (a : Option Addr) (c n : Nat) (k0 : Int) (w : World) (hx : Rd w a (sws (marksS k0 n))) (hl : n ≤ 1048576) (hk0 : 0 ≤ k0) (hk1 : k0 ≤ 1099511627776) :
    Calls Try.prog 46 #[.slice a n c, .int .i64 k0] w fun e w' => e = .returned (.int .i64 (k0 + 4 * n)) ∧ w' = w := by
  go_enter Try.func46, Try.ntmps46
  go_wp2
  go_loop [1, 5] (fun q i => ∃ k : Nat, k ≤ n ∧ i = .int .i64 k ∧ q = .int .i64 (k0 + 4 * (k : Int))) (fun _ i => n - (intOf i).toNat)
  case atStart => exact ⟨0, by omega, rfl, by simp⟩
  case round =>
    obtain ⟨k, hk, rfl, rfl⟩ := hrel
    by_cases hlt : k < n
    · obtain ⟨b1, o1, rfl, c1, c2, c3, c4⟩ := hx.sw (k := k) (by rw [marksS_length]; exact hlt)
      rw [marksS_get _ _ _ hlt] at c1 c2 c3 c4
      go_wp2
      go_round
      case rel => exact ⟨k + 1, by omega, by go_num, by go_num⟩
      case measure => simp [intOf]; omega
    · go_wp2
      go_ret
      have : k = n := by omega
      subst this
      exact ⟨rfl, rfl⟩

end Go.Proofs.Ytbhhapbocnlblaa
