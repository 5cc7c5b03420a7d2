/- Transfer: the reference's and the program's. -/
import Derived.Test.YtnjolpdpdmclhaaClone
import Derived.Test.YtnjolpdpdmclhaaLater
namespace Go.Proofs.Ytnjolpdpdmclhaa
open Go.RowKit

def trB (xs : List Int) (f t : Int) : Bool := validD xs && (inR f 0 (xs.length - 1) && (inR t 0 (xs.length - 1) && decide (xs.getD t.toNat 0 + 2 ≤ xs.getD f.toNat 0)))
def trL (xs : List Int) (f t : Int) : List Int := if trB xs f t = true then (xs.set f.toNat (xs.getD f.toNat 0 - 1)).set t.toNat (xs.getD t.toNat 0 + 1) else []

theorem trL_len {xs : List Int} {f t : Int} : (trL xs f t).length ≤ 7 := by
  unfold trL
  split
  · rename_i h
    simp only [trB, Bool.and_eq_true] at h
    rw [List.length_set, List.length_set]
    exact validD_len h.1
  · simp

theorem ints_set (xs : List Int) (k : Nat) (x : Int) : ints (xs.set k x) = (ints xs).set k (.int .i64 x) := by simp [ints, List.map_set]

set_option maxHeartbeats 2000000 in
theorem specTransfer_any (a : Option Addr) (c n : Nat) (xs : List Int) (f t : Int) (w : World) (hn : xs.length = n) (hx : Rd w a (ints xs)) (hl : n ≤ 17592186044416) (hnil : a = none → n = 0 ∧ c = 0) :
    Calls Try.prog 29 #[.slice a n c, .int .i64 f, .int .i64 t] w fun e w' => ∃ a' c' c0, e = .returned (.tuple #[.slice a' (trL xs f t).length c', .bool (trB xs f t)]) ∧
      w'.ownsRow w.heap.size 3 1 (.slice a' (trL xs f t).length c0) (trL xs f t).length (ints (trL xs f t)) ∧ Below w.heap.size w w' := by
  have HV := fun u : Later w => specValidDegrees_any a c n xs u.val hn (hx.below u.ok) (by omega)
  cases hv : validD xs
  · have htr : trB xs f t = false := by simp [trB, hv]
    have e : trL xs f t = [] := by simp [trL, htr]
    rw [e, htr]
    rw [hv] at HV
    have HV := Lib.hid HV
    clear hx hv e htr hnil hn
    go_enter Try.func29, Try.ntmps29
    go_wp2
    refine wp_region_later (by kernel_rfl) (by kernel_rfl) ?_
    repeat (go_big_quiet_step ((go_at_call 35; exact calls_later _ (same_below (HV.out _)))))
    refine wpQuiet_nil ?_
    intro w1 hw'
    have hb := later_below hw'
    clear hw'
    go_wp2
    go_ret2
    exact ⟨none, 0, 0, rfl, World.ownsRow_nil _ _ _ _, hb⟩
  rw [hv] at HV
  have h7 := validD_len hv
  have hsm := (validD_small hv).1
  rw [hn] at h7
  have HV := Lib.hid HV
  have hwn : IntKind.i64.wrap ((n : Int) - 1) = n - 1 := IntWalk.i64_in _ (by omega)
  have HI := Lib.hid (fun (x lo hi : Int) (u : Later w) => inRange_any x lo hi u.val)
  cases hf : inR f 0 (n - 1)
  · have htr : trB xs f t = false := by simp only [trB]; rw [hv, hn, hf]; rfl
    have e : trL xs f t = [] := by simp [trL, htr]
    rw [e, htr]
    clear hx hv e htr hnil hn
    go_enter Try.func29, Try.ntmps29
    go_wp2
    refine wp_region_later (by kernel_rfl) (by kernel_rfl) ?_
    repeat (go_big_quiet_step (first | (go_at_call 35; exact calls_later _ (same_below (HV.out _))) | (go_at_call 49; exact calls_later _ (same_below (HI.out _ _ _ _)))))
    refine wpQuiet_nil ?_
    intro w1 hw'
    have hb := later_below hw'
    clear hw'
    clear hwn
    go_wp2
    go_ret2
    exact ⟨none, 0, 0, rfl, World.ownsRow_nil _ _ _ _, hb⟩
  cases ht : inR t 0 (n - 1)
  · have htr : trB xs f t = false := by simp only [trB]; rw [hv, hn, hf, ht]; rfl
    have e : trL xs f t = [] := by simp [trL, htr]
    rw [e, htr]
    clear hx hv e htr hnil hn
    go_enter Try.func29, Try.ntmps29
    go_wp2
    refine wp_region_later (by kernel_rfl) (by kernel_rfl) ?_
    repeat (go_big_quiet_step (first | (go_at_call 35; exact calls_later _ (same_below (HV.out _))) | (go_at_call 49; exact calls_later _ (same_below (HI.out _ _ _ _)))))
    refine wpQuiet_nil ?_
    intro w1 hw'
    have hb := later_below hw'
    clear hw'
    clear hwn
    go_wp2
    go_ret2
    exact ⟨none, 0, 0, rfl, World.ownsRow_nil _ _ _ _, hb⟩
  have hf1 := inR_true.1 hf
  have ht1 := inR_true.1 ht
  obtain ⟨i, rfl⟩ := Int.eq_ofNat_of_zero_le hf1.1
  obtain ⟨j, rfl⟩ := Int.eq_ofNat_of_zero_le ht1.1
  have hi : i < n := by omega
  have hj : j < n := by omega
  have hiI : (i : Int) < n := by omega
  have hjI : (j : Int) < n := by omega
  obtain ⟨b1, o1, rfl, c1⟩ := hx.int (k := i) (by omega)
  obtain ⟨b2, o2, e2, c2⟩ := hx.int (k := j) (by omega)
  cases e2
  have d1 := later_cell c1
  have d2 := later_cell c2
  have hX := hsm.get i (by omega)
  have hY := hsm.get j (by omega)
  have hgi : xs.getD ((i : Nat) : Int).toNat 0 = xs[i]'(by omega) := by rw [Int.toNat_natCast]; simp [List.getD, List.getElem?_eq_getElem (show i < xs.length by omega)]
  have hgj : xs.getD ((j : Nat) : Int).toNat 0 = xs[j]'(by omega) := by rw [Int.toNat_natCast]; simp [List.getD, List.getElem?_eq_getElem (show j < xs.length by omega)]
  by_cases hlt : (xs[i]'(by omega)) < (xs[j]'(by omega)) + 2
  · have htr : trB xs i j = false := by
      simp only [trB]; rw [hv, hn, hf, ht, hgi, hgj, decide_eq_false (by omega)]; rfl
    have e : trL xs i j = [] := by simp [trL, htr]
    rw [e, htr]
    generalize (xs[i]'(by omega)) = X at *
    generalize (xs[j]'(by omega)) = Y at *
    have hwy : IntKind.i64.wrap (Y + 2) = Y + 2 := IntWalk.i64_in _ (by omega)
    have hdec : decide (X < Y + 2) = true := by simpa using hlt
    clear hx hv e htr hnil hn hgi hgj c1 c2
    go_enter Try.func29, Try.ntmps29
    go_wp2
    refine wp_region_later (by kernel_rfl) (by kernel_rfl) ?_
    repeat (go_big_quiet_step (first | (go_at_call 35; exact calls_later _ (same_below (HV.out _))) | (go_at_call 49; exact calls_later _ (same_below (HI.out _ _ _ _)))))
    refine wpQuiet_nil ?_
    intro w1 hw'
    have hb := later_below hw'
    clear hw'
    clear hwn hwy
    go_wp2
    go_ret2
    exact ⟨none, 0, 0, rfl, World.ownsRow_nil _ _ _ _, hb⟩
  · have htr : trB xs i j = true := by
      simp only [trB]; rw [hv, hn, hf, ht, hgi, hgj, decide_eq_true (by omega)]; rfl
    have e : trL xs i j = (xs.set i ((xs[i]'(by omega)) - 1)).set j ((xs[j]'(by omega)) + 1) := by simp only [trL]; rw [if_pos htr, hgi, hgj, Int.toNat_natCast, Int.toNat_natCast]
    have hij : i ≠ j := by rintro rfl; omega
    have elen : (trL xs i j).length = n := by rw [e, List.length_set, List.length_set, hn]
    rw [elen, htr]
    have HE := Lib.hid (congrArg ints e)
    have HCP := Lib.hid (fun u : Later w => copyInts_any (some ⟨b1, o1, none⟩) c n xs u.val hn (hx.below u.ok) hl (by simp))
    have hxi : (ints xs)[i]? = some (.int .i64 (xs[i]'(by omega))) := ints_get _ _ _ (by simp)
    have hxj : (ints xs)[j]? = some (.int .i64 (xs[j]'(by omega))) := ints_get _ _ _ (by simp)
    have hxl := ints_length xs
    have HXI := Lib.hid hxi
    have HXJ := Lib.hid hxj
    generalize (xs[i]'(by omega)) = X at *
    generalize (xs[j]'(by omega)) = Y at *
    have hwy : IntKind.i64.wrap (Y + 2) = Y + 2 := IntWalk.i64_in _ (by omega)
    have hdec : decide (X < Y + 2) = false := by simpa using hlt
    clear hx hv e elen htr hgi hgj hnil c1 c2 hxi hxj
    have HN := Lib.hid hn
    have HXL := Lib.hid hxl
    clear hn hxl
    go_enter Try.func29, Try.ntmps29
    go_wp2
    refine wp_region_later (by kernel_rfl) (by kernel_rfl) ?_
    repeat (go_big_quiet_step (first | (go_at_call 35; exact calls_later _ (same_below (HV.out _))) | (go_at_call 49; exact calls_later _ (same_below (HI.out _ _ _ _)))))
    refine wpQuiet_nil ?_
    intro w1 hw'
    have hb := later_below hw'
    clear hw'
    clear hwn hwy d1 d2
    go_wp2_with fail
    refine (HCP.out ⟨w1, hb⟩).mono ?_
    rintro e w2 ⟨a', c', rfl, ho, hb2⟩
    have hb2' : Below w1.heap.size w1 w2 := hb2
    have ho2 : w2.ownsRow w.heap.size 3 1 (.slice a' n c') n (ints xs) := own_mono ho hb.size
    have HB2 := below_tr' hb hb2'
    obtain ⟨g, rfl, hg1, hg2⟩ := own_head ho2 (by omega)
    have k1 := ho2.cellAt i (by omega)
    rw [HXI.out] at k1
    have f1 := ho2.frozenAt i
    have ho3 := (ho2.stored i (.int .i64 (X - 1))).1
    have HB3 := HB2.setCell (p := ⟨g, i, none⟩) hg1 (.int .i64 (X - 1))
    have k2 := ho3.cellAt j (by omega)
    rw [List.getElem?_set_ne (by omega), HXJ.out] at k2
    have f2 := ho3.frozenAt j
    have ho4 := (ho3.stored j (.int .i64 (Y + 1))).1
    have HB4 := HB3.setCell (p := ⟨g, j, none⟩) hg1 (.int .i64 (Y + 1))
    have HO := Lib.hid ho4
    have HBB := Lib.hid HB4
    clear ho ho2 ho3 ho4 HB2 HB3 HB4 hb2 hb2' HV HI HCP
    go_wp2
    go_ret2
    exact ⟨_, _, _, rfl, by rw [HE.out, ints_set, ints_set]; exact HO.out, HBB.out⟩

set_option maxHeartbeats 2000000 in
theorem implTransfer_any (a : Option Addr) (c n : Nat) (xs : List Int) (f t : Int) (w : World) (hn : xs.length = n) (hx : Rd w a (ints xs)) (hl : n ≤ 17592186044416) (hnil : a = none → n = 0 ∧ c = 0) :
    Calls Try.prog 30 #[.slice a n c, .int .i64 f, .int .i64 t] w fun e w' => ∃ a' c' c0, e = .returned (.tuple #[.slice a' (trL xs f t).length c', .bool (trB xs f t)]) ∧
      w'.ownsRow w.heap.size 3 1 (.slice a' (trL xs f t).length c0) (trL xs f t).length (ints (trL xs f t)) ∧ Below w.heap.size w w' := by
  have HV := fun u : Later w => implVD_any a c n xs u.val hn (hx.below u.ok) (by omega)
  cases hv : validD xs
  · have htr : trB xs f t = false := by simp [trB, hv]
    have e : trL xs f t = [] := by simp [trL, htr]
    rw [e, htr]
    rw [hv] at HV
    have HV := Lib.hid HV
    clear hx hv e htr hnil hn
    go_enter Try.func30, Try.ntmps30
    go_wp2
    refine wp_region_later (by kernel_rfl) (by kernel_rfl) ?_
    repeat (go_big_quiet_step ((go_at_call 15; exact calls_later _ (id (HV.out _)))))
    refine wpQuiet_nil ?_
    intro w1 hw'
    have hb := later_below hw'
    clear hw'
    go_wp2
    go_ret2
    exact ⟨none, 0, 0, rfl, World.ownsRow_nil _ _ _ _, hb⟩
  rw [hv] at HV
  have h7 := validD_len hv
  have hsm := (validD_small hv).1
  rw [hn] at h7
  have HV := Lib.hid HV
  have hwn : IntKind.i64.wrap ((n : Int) - 1) = n - 1 := IntWalk.i64_in _ (by omega)
  have HI := Lib.hid (fun (x lo hi : Int) (u : Later w) => in_any x lo hi u.val)
  cases hf : inR f 0 (n - 1)
  · have htr : trB xs f t = false := by simp only [trB]; rw [hv, hn, hf]; rfl
    have e : trL xs f t = [] := by simp [trL, htr]
    rw [e, htr]
    clear hx hv e htr hnil hn
    go_enter Try.func30, Try.ntmps30
    go_wp2
    refine wp_region_later (by kernel_rfl) (by kernel_rfl) ?_
    repeat (go_big_quiet_step (first | (go_at_call 15; exact calls_later _ (id (HV.out _))) | (go_at_call 38; exact calls_later _ (same_below (HI.out _ _ _ _)))))
    refine wpQuiet_nil ?_
    intro w1 hw'
    have hb := later_below hw'
    clear hw'
    clear hwn
    go_wp2
    go_ret2
    exact ⟨none, 0, 0, rfl, World.ownsRow_nil _ _ _ _, hb⟩
  cases ht : inR t 0 (n - 1)
  · have htr : trB xs f t = false := by simp only [trB]; rw [hv, hn, hf, ht]; rfl
    have e : trL xs f t = [] := by simp [trL, htr]
    rw [e, htr]
    clear hx hv e htr hnil hn
    go_enter Try.func30, Try.ntmps30
    go_wp2
    refine wp_region_later (by kernel_rfl) (by kernel_rfl) ?_
    repeat (go_big_quiet_step (first | (go_at_call 15; exact calls_later _ (id (HV.out _))) | (go_at_call 38; exact calls_later _ (same_below (HI.out _ _ _ _)))))
    refine wpQuiet_nil ?_
    intro w1 hw'
    have hb := later_below hw'
    clear hw'
    clear hwn
    go_wp2
    go_ret2
    exact ⟨none, 0, 0, rfl, World.ownsRow_nil _ _ _ _, hb⟩
  have hf1 := inR_true.1 hf
  have ht1 := inR_true.1 ht
  obtain ⟨i, rfl⟩ := Int.eq_ofNat_of_zero_le hf1.1
  obtain ⟨j, rfl⟩ := Int.eq_ofNat_of_zero_le ht1.1
  have hi : i < n := by omega
  have hj : j < n := by omega
  have hiI : (i : Int) < n := by omega
  have hjI : (j : Int) < n := by omega
  obtain ⟨b1, o1, rfl, c1⟩ := hx.int (k := i) (by omega)
  obtain ⟨b2, o2, e2, c2⟩ := hx.int (k := j) (by omega)
  cases e2
  have d1 := later_cell c1
  have d2 := later_cell c2
  have hX := hsm.get i (by omega)
  have hY := hsm.get j (by omega)
  have hgi : xs.getD ((i : Nat) : Int).toNat 0 = xs[i]'(by omega) := by rw [Int.toNat_natCast]; simp [List.getD, List.getElem?_eq_getElem (show i < xs.length by omega)]
  have hgj : xs.getD ((j : Nat) : Int).toNat 0 = xs[j]'(by omega) := by rw [Int.toNat_natCast]; simp [List.getD, List.getElem?_eq_getElem (show j < xs.length by omega)]
  by_cases hlt : (xs[i]'(by omega)) < (xs[j]'(by omega)) + 2
  · have htr : trB xs i j = false := by
      simp only [trB]; rw [hv, hn, hf, ht, hgi, hgj, decide_eq_false (by omega)]; rfl
    have e : trL xs i j = [] := by simp [trL, htr]
    rw [e, htr]
    generalize (xs[i]'(by omega)) = X at *
    generalize (xs[j]'(by omega)) = Y at *
    have hwy : IntKind.i64.wrap (Y + 2) = Y + 2 := IntWalk.i64_in _ (by omega)
    have hdec : decide (X < Y + 2) = true := by simpa using hlt
    clear hx hv e htr hnil hn hgi hgj c1 c2
    go_enter Try.func30, Try.ntmps30
    go_wp2
    refine wp_region_later (by kernel_rfl) (by kernel_rfl) ?_
    repeat (go_big_quiet_step (first | (go_at_call 15; exact calls_later _ (id (HV.out _))) | (go_at_call 38; exact calls_later _ (same_below (HI.out _ _ _ _)))))
    refine wpQuiet_nil ?_
    intro w1 hw'
    have hb := later_below hw'
    clear hw'
    clear hwn hwy
    go_wp2
    go_ret2
    exact ⟨none, 0, 0, rfl, World.ownsRow_nil _ _ _ _, hb⟩
  · have htr : trB xs i j = true := by
      simp only [trB]; rw [hv, hn, hf, ht, hgi, hgj, decide_eq_true (by omega)]; rfl
    have e : trL xs i j = (xs.set i ((xs[i]'(by omega)) - 1)).set j ((xs[j]'(by omega)) + 1) := by simp only [trL]; rw [if_pos htr, hgi, hgj, Int.toNat_natCast, Int.toNat_natCast]
    have hij : i ≠ j := by rintro rfl; omega
    have elen : (trL xs i j).length = n := by rw [e, List.length_set, List.length_set, hn]
    rw [elen, htr]
    have HE := Lib.hid (congrArg ints e)
    have HCP := Lib.hid (fun u : Later w => clone_any (some ⟨b1, o1, none⟩) c n xs u.val hn (hx.below u.ok) hl (by simp))
    have hxi : (ints xs)[i]? = some (.int .i64 (xs[i]'(by omega))) := ints_get _ _ _ (by simp)
    have hxj : (ints xs)[j]? = some (.int .i64 (xs[j]'(by omega))) := ints_get _ _ _ (by simp)
    have hxl := ints_length xs
    have HXI := Lib.hid hxi
    have HXJ := Lib.hid hxj
    generalize (xs[i]'(by omega)) = X at *
    generalize (xs[j]'(by omega)) = Y at *
    have hwy : IntKind.i64.wrap (Y + 2) = Y + 2 := IntWalk.i64_in _ (by omega)
    have hdec : decide (X < Y + 2) = false := by simpa using hlt
    clear hx hv e elen htr hgi hgj hnil c1 c2 hxi hxj
    have HN := Lib.hid hn
    have HXL := Lib.hid hxl
    clear hn hxl
    go_enter Try.func30, Try.ntmps30
    go_wp2
    refine wp_region_later (by kernel_rfl) (by kernel_rfl) ?_
    repeat (go_big_quiet_step (first | (go_at_call 15; exact calls_later _ (id (HV.out _))) | (go_at_call 38; exact calls_later _ (same_below (HI.out _ _ _ _)))))
    refine wpQuiet_nil ?_
    intro w1 hw'
    have hb := later_below hw'
    clear hw'
    clear hwn hwy d1 d2
    go_wp2_with fail
    refine (HCP.out ⟨w1, hb⟩).mono ?_
    rintro e w2 ⟨a', c', rfl, ho, hb2⟩
    have hb2' : Below w1.heap.size w1 w2 := hb2
    have ho2 : w2.ownsRow w.heap.size 3 1 (.slice a' n c') n (ints xs) := own_mono ho hb.size
    have HB2 := below_tr' hb hb2'
    obtain ⟨g, rfl, hg1, hg2⟩ := own_head ho2 (by omega)
    have k1 := ho2.cellAt i (by omega)
    rw [HXI.out] at k1
    have f1 := ho2.frozenAt i
    have ho3 := (ho2.stored i (.int .i64 (X - 1))).1
    have HB3 := HB2.setCell (p := ⟨g, i, none⟩) hg1 (.int .i64 (X - 1))
    have k2 := ho3.cellAt j (by omega)
    rw [List.getElem?_set_ne (by omega), HXJ.out] at k2
    have f2 := ho3.frozenAt j
    have ho4 := (ho3.stored j (.int .i64 (Y + 1))).1
    have HB4 := HB3.setCell (p := ⟨g, j, none⟩) hg1 (.int .i64 (Y + 1))
    have HO := Lib.hid ho4
    have HBB := Lib.hid HB4
    clear ho ho2 ho3 ho4 HB2 HB3 HB4 hb2 hb2' HV HI HCP
    go_wp2
    go_ret2
    exact ⟨_, _, _, rfl, by rw [HE.out, ints_set, ints_set]; exact HO.out, HBB.out⟩

end Go.Proofs.Ytnjolpdpdmclhaa
