
/- The program's IsDigraphic. -/
import Derived.Test.YtjghcegacgpehaaPlainDg
import Derived.Test.YtjghcegacgpehaaMatW4
import Derived.Test.YtjghcegacgpehaaEach
namespace Go.Proofs.Ytjghcegacgpehaa
open Go.RowKit

/-- The state: whether a matrix was found. -/
def FoundSt (A : Nat) (s : Bool) (l : List Nat) (w : World) : Prop := l = [A] ∧ w.heap[A]? = some (.cells #[.bool s] 4 (0, 0))
theorem found_keeps (A : Nat) : Keeps (FoundSt A) := by
  refine ⟨?_, ?_⟩
  · rintro s l w w' ⟨rfl, hq⟩ hs
    exact ⟨rfl, (hs A (by simp)).trans hq⟩
  · rintro s l w ⟨rfl, hq⟩ i hi
    rw [List.mem_singleton.1 hi]; exact blk_lt hq
theorem enters_dig2 : Enters Try.prog 96 := enters Try.func96 (by kernel_rfl) rfl
theorem enters_dig1 : Enters Try.prog 95 := enters Try.func95 (by kernel_rfl) rfl
set_option maxHeartbeats 1000000 in
theorem dig_takes (A n cl M : Nat) : TakesM 96 #[.pointer (some ⟨A, 0, none⟩)] n cl M (fun _ => 0) (FoundSt A) (fun _ _ => (true, false)) := by
  refine ⟨enters_dig2, ?_⟩
  rintro s l w ag rsg m hsz hv hc ⟨rfl, hq⟩ hog hne
  have k0 := blk_cell hq 0 (.bool s) rfl
  have f0 := blk_free hq 0
  have R := Lib.hid (show FoundSt A true [A] (w.setCell ⟨A, 0, none⟩ (.bool true)) ∧ FrL [A] w (w.setCell ⟨A, 0, none⟩ (.bool true)) from ⟨⟨rfl, blk_set hq 0 _⟩, FrL.set w A 0 _ _ (by simp)⟩)
  clear hq hog hne hv hc hsz
  go_enter Try.func96, Try.ntmps96
  go_wp2
  go_ret
  exact ⟨rfl, [A], R.out.1, fun i hi => .inl hi, R.out.2⟩
theorem dig_may (n cl : Nat) : MayM 95 #[] n cl (fun i k => i != k) := by
  refine ⟨enters_dig1, ?_⟩
  intro w i k _ _
  have HE := Lib.hid (show (!((i : Int) == (k : Int))) = (i != k) by
    rw [Bool.eq_iff_iff]; simp; omega)
  go_enter Try.func95, Try.ntmps95
  go_wp2
  go_ret
  exact ⟨by first | exact ret_bool HE.out | (rw [← HE.out]; rfl) | simp [← HE.out], rfl⟩
set_option maxHeartbeats 4000000 in
theorem implDig_any (a b : Option Addr) (ca cb n m : Nat) (xs ys : List Int) (w : World) (hn : xs.length = n) (hm : ys.length = m) (hx : Rd w a (ints xs)) (hy : Rd w b (ints ys)) (hl : n ≤ 1048576) (hl2 : m ≤ 1048576) :
    Calls Try.prog 30 #[.slice a n ca, .slice b m cb] w fun e w' => e = .returned (.bool (digV xs ys)) ∧ Below w.heap.size w w' := by
  by_cases h0 : n = 0
  · have HV := Lib.hid (show digV xs ys = false by
      have : inR (xs.length : Int) 1 5 = false := by rw [hn, h0]; decide
      simp [digV, vSc, this])
    subst h0
    clear hx hy hn
    go_enter Try.func30, Try.ntmps30
    go_wp2
    go_ret
    exact ⟨by rw [HV.out]; rfl, Below.refl _ _⟩
  have hq0 : ((n : Int) == 0) = false := beq_eq_false_iff_ne.2 (by omega)
  by_cases h5 : 5 < n
  · have HV := Lib.hid (show digV xs ys = false by
      have : inR (xs.length : Int) 1 5 = false := by rw [hn, inR_false]; omega
      simp [digV, vSc, this])
    have hd : decide ((5 : Int) < (n : Int)) = true := decide_eq_true (by omega)
    clear hx hy hn
    go_enter Try.func30, Try.ntmps30
    go_wp2
    go_ret
    exact ⟨by rw [HV.out]; rfl, Below.refl _ _⟩
  have hd : decide ((5 : Int) < (n : Int)) = false := decide_eq_false (by omega)
  by_cases hnm : n = m
  · subst hnm
    have hr5 : inR (n : Int) 1 5 = true := inR_true.2 (by omega)
    have hneq : (!((n : Int) == (n : Int))) = false := by simp
    have A1 := allIn_any a ca n xs 0 ((n : Int) - 1) w hn hx (by omega)
    have A2 := fun (w1 : World) (hb : Below w.heap.size w w1) => allIn_any b cb n ys 0 ((n : Int) - 1) w1 hm (hy.below hb) (by omega)
    have hV0 : digV xs ys = (allR xs 0 ((n : Int) - 1) && (allR ys 0 ((n : Int) - 1) && digB xs ys)) := by
      simp only [digV, vSc, hn, hm, hr5, Bool.and_true]; simp
    cases ha : allR xs 0 ((n : Int) - 1) with
    | false =>
      have HV := Lib.hid (show digV xs ys = false from hV0.trans (by simp [ha]))
      rw [ha] at A1
      clear hV0 ha A2 hx hy
      go_enter Try.func30, Try.ntmps30
      go_wp2_with fail
      refine A1.mono ?_
      rintro e w1 ⟨rfl, hb⟩
      clear A1
      go_wp2
      go_ret
      exact ⟨by rw [HV.out]; rfl, hb⟩
    | true =>
      cases hb2 : allR ys 0 ((n : Int) - 1) with
      | false =>
        have HV := Lib.hid (show digV xs ys = false from hV0.trans (by simp [ha, hb2]))
        rw [ha] at A1
        rw [hb2] at A2
        clear hV0 ha hb2 hx hy
        go_enter Try.func30, Try.ntmps30
        go_wp2_with fail
        refine A1.mono ?_
        rintro e w1 ⟨rfl, hb⟩
        have A3 := A2 w1 hb
        clear A1 A2
        go_wp2_with fail
        refine A3.mono ?_
        rintro e w2 ⟨rfl, hb2⟩
        have hb3 := below_tr' hb hb2
        clear A3 hb2
        go_wp2
        go_ret
        exact ⟨by rw [HV.out]; rfl, hb3⟩
      | true =>
        have hx0 : ∀ x ∈ xs, 0 ≤ x ∧ x ≤ 5 := fun x hx => by
          rw [allR, List.all_eq_true] at ha
          have := inR_true.1 (ha x hx); omega
        have hy0 : ∀ x ∈ ys, 0 ≤ x ∧ x ≤ 5 := fun x hx => by
          rw [allR, List.all_eq_true] at hb2
          have := inR_true.1 (hb2 x hx); omega
        have HV := Lib.hid (show digV xs ys = !(matsX (fun i k => i != k) (natsOf xs) (natsOf ys)).isEmpty from hV0.trans (by rw [ha, hb2, dig_plain hn hm (fun x hx => (hx0 x hx).1) (fun x hx => (hy0 x hx).1)]; simp only [Bool.true_and]))
        rw [ha] at A1
        rw [hb2] at A2
        have b1 := natsOf_back fun x hx => (hx0 x hx).1
        have b2 := natsOf_back fun x hx => (hy0 x hx).1
        have small : ∀ l : List Int, (∀ x ∈ l, 0 ≤ x ∧ x ≤ 5) → ∀ v, (natsOf l).getD v 0 ≤ 900 := fun l h v => by
          by_cases hv : v < l.length
          · have h1 := natsOf_at (fun x hx => (h x hx).1) hv
            have h2 := h _ (List.getElem_mem hv)
            omega
          · rw [List.getD_eq_getElem?_getD, List.getElem?_eq_none (by rw [natsOf_length]; omega)]; simp
        have s1 := small xs hx0
        have s2 := small ys hy0
        have l1 : (natsOf xs).length = n := by rw [natsOf_length, hn]
        have l2 : (natsOf ys).length = n := by rw [natsOf_length, hm]
        generalize natsOf xs = R at *
        generalize natsOf ys = C at *
        rw [← b1] at hx
        rw [← b2] at hy
        clear hV0 ha hb2 hx0 hy0 b1 b2 small
        go_enter Try.func30, Try.ntmps30
        go_wp2_with fail
        refine A1.mono ?_
        rintro e w1 ⟨rfl, hb⟩
        have A3 := A2 w1 hb
        clear A1 A2
        go_wp2_with fail
        refine A3.mono ?_
        rintro e w2 ⟨rfl, hb2⟩
        have hb3 := below_tr' hb hb2
        have hs3 := hb3.size
        clear A3 hb2 hb
        have hB := below_alloc w2 (.cells #[.bool false] 4)
        have hq := heap_alloc_new w2 (.cells #[.bool false] 4)
        have hsz : (w2.alloc (.cells #[.bool false] 4)).heap.size = w2.heap.size + 1 := by simp
        obtain ⟨W, hW⟩ : ∃ W, W = w2.alloc (.cells #[.bool false] 4) := ⟨_, rfl⟩
        rw [← hW] at hB hq hsz
        have z := blk_cell hq 0 (.bool false) rfl
        have f := blk_free hq 0
        have HW := Lib.hid hW
        have HQ := Lib.hid hq
        clear hW hq
        go_upto_region 5 with (simp only [← HW.out])
        have hq2 := blk_set HQ.out 0 (.bool false)
        have hB2 := hB.setCell (p := ⟨w2.heap.size, 0, none⟩) (Nat.le_refl _) (.bool false)
        have hs4 : (W.setCell ⟨w2.heap.size, 0, none⟩ (.bool false)).heap.size = w2.heap.size + 1 := by simp [hsz]
        generalize W.setCell ⟨w2.heap.size, 0, none⟩ (.bool false) = V at *
        have HBV := Lib.hid (below_tr' hb3 hB2)
        have C3 := matrices_any (M := (matsX (fun i k => i != k) R C).length + 1) a n ca b n cb 96 #[.pointer (some ⟨w2.heap.size, 0, none⟩)] 95 #[] (fun i k => i != k) R C false [w2.heap.size] V (found_keeps w2.heap.size) (dig_takes w2.heap.size n n _) (dig_may n n) (fun s x => Nat.zero_le _) ⟨by omega, by omega⟩ ⟨by omega, by omega⟩ l1 l2 s1 s2 (by omega) (hx.below HBV.out) (hy.below HBV.out) ⟨rfl, hq2⟩
        rw [foldX_found] at C3
        generalize hME : (matsX (fun i k => i != k) R C).isEmpty = ME at *
        clear z f hB hB2 hx hy l1 l2 s1 s2 HW HQ hME
        go_wp2_with fail
        refine C3.mono ?_
        rintro e w4 ⟨⟨v, rfl⟩, l', ⟨rfl, hq4⟩, hnew, hF⟩
        have k := blk_cell hq4 0 (.bool (!ME)) rfl
        have HF := Lib.hid (HBV.out.trans (hF.below (B := w.heap.size) HBV.out.size (fun i hi => by rw [List.mem_singleton.1 hi]; exact hs3)))
        clear C3 hq4 hF hnew hq2
        go_wp2
        go_ret
        exact ⟨by rw [HV.out]; rfl, HF.out⟩
  · have HV := Lib.hid (show digV xs ys = false by
      simp [digV, hn, hm, hnm])
    have hneq : (!((m : Int) == (n : Int))) = true := by simp; omega
    have hne2 : ((m : Int) != (n : Int)) = true := by simp; omega
    clear hx hy
    go_enter Try.func30, Try.ntmps30
    go_wp2
    go_ret
    exact ⟨by rw [HV.out]; rfl, Below.refl _ _⟩

end Go.Proofs.Ytjghcegacgpehaa
