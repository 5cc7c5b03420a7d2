
/- ComplementDegrees: the reference's and the program's, both are 'compl'. -/
import Derived.Test.YtjghcegacgpehaaEach
namespace Go.Proofs.Ytjghcegacgpehaa
open Go.RowKit

def complF (xs : List Int) (k : Nat) : Int := xs.length - 1 - xs.getD k 0
def compl (xs : List Int) : List Int := eachOf xs (complF xs)
theorem compl_len {xs : List Int} : (compl xs).length ≤ 7 := by
  unfold compl eachOf
  split
  · rename_i h; rw [upto_length]; exact validD_len h
  · simp

theorem complF_at (xs : List Int) (k : Nat) (h : k < xs.length) : complF xs k = xs.length - 1 - xs[k] := by
  simp [complF, List.getD, List.getElem?_eq_getElem h]

set_option maxHeartbeats 1000000 in
theorem specCompl_any (a : Option Addr) (c n : Nat) (xs : List Int) (w : World) (hn : xs.length = n) (hx : Rd w a (ints xs)) (hl : n ≤ 140737488351232) :
    Calls Try.prog 35 #[.slice a n c] w fun e w' => ∃ a' c', e = .returned (.slice a' (compl xs).length c') ∧
      w'.ownsRow w.heap.size 3 1 (.slice a' (compl xs).length c') (compl xs).length (ints (compl xs)) ∧ Below w.heap.size w w' := by
  have HV := specValidDegrees_any a c n xs w hn hx hl
  cases hv : validD xs
  · have e : compl xs = [] := by simp [compl, eachOf, hv]
    rw [e]
    rw [hv] at HV
    clear hx hv e
    go_enter Try.func35, Try.ntmps35
    go_wp2_with (go_at_call 100; refine HV.mono ?_; rintro e w1 ⟨rfl, rfl⟩)
    go_ret
    exact ⟨none, 0, rfl, World.ownsRow_nil _ _ _ _, Below.refl _ _⟩
  · have h7 := validD_len hv
    have hsm := (validD_small hv).1
    rw [hn] at h7
    have e : compl xs = upto (complF xs) n := by simp [compl, eachOf, hv, hn]
    rw [e, upto_length]
    rw [hv] at HV
    have HS := Lib.hid hsm
    clear hv e hsm
    go_enter Try.func35, Try.ntmps35
    go_wp2_with (go_at_call 100; refine HV.mono ?_; rintro e w ⟨rfl, rfl⟩)
    go_loopw [3, 4] (fun v i wr => ∃ (k : Nat) (a : Option Addr) (c : Nat), k ≤ n ∧ i = .int .i64 k ∧ v = .slice a k c ∧ wr.ownsRow w.heap.size 3 1 (.slice a k c) k (ints (upto (complF xs) k)) ∧ Below w.heap.size w wr) (fun _ i _ => n - (intOf i).toNat)
    case atStart => exact ⟨0, some ⟨w.heap.size, 0, none⟩, 0, by omega, rfl, rfl, World.ownsRow_made w #[] 0 (Nat.le_refl _) (by decide) rfl, below_alloc _ _⟩
    case round =>
      obtain ⟨k, a2, c2, hk, rfl, rfl, hown, hb⟩ := hrel
      by_cases hlt : k < n
      · have hsz := hb.size
        obtain ⟨b1, o1, rfl, c1⟩ := (hx.below hb).int (k := k) (by omega)
        have hxk := HS.out.get k (by omega)
        have hF := Lib.hid (complF_at xs k (by omega))
        generalize (xs[k]'(by omega)) = X at *
        go_wp2_with (at_builtin; refine appendI Try.infoI _ _ rfl rfl hown hb (Nat.le_refl _) hsz rfl rfl (by omega) ?_; intro a' c' w1 hown1 hb1)
        go_roundw
        case rel => exact ⟨k + 1, a', c', by omega, by go_num, rfl, by rw [upto_succ, hF.out, hn]; exact hown1, hb1⟩
        case measure => simp [intOf]; omega
      · have e : k = n := by omega
        subst e
        go_wp2
        go_ret
        exact ⟨a2, c2, rfl, hown, hb⟩

theorem enters_CD : Enters Try.prog 99 := enters Try.func99 (by kernel_rfl) rfl

set_option maxHeartbeats 400000 in
theorem CD1_any (k : Nat) (p : Nat) (a : Option Addr) (c n : Nat) (xs : List Int) (w : World) (hn : xs.length = n) (hx : Rd w a (ints xs)) (hl : n ≤ 7) (hk : k < n) (hs : Small xs) (h1 : w.cell? ⟨p, 0, none⟩ = some (.slice a n c)) :
    Calls Try.prog 99 #[.int .i64 k, .pointer (some ⟨p, 0, none⟩)] w fun e w' => e = .returned (.int .i64 (complF xs k)) ∧ ∃ q, w' = w.drewN q := by
  obtain ⟨b1, o1, rfl, c1⟩ := hx.int (k := k) (by omega)
  have hxk := hs.get k (by omega)
  have hF := complF_at xs k (by omega)
  generalize (xs[k]'(by omega)) = X at *
  rw [hn] at hF
  have HF := Lib.hid hF
  clear hx hs hF
  have hw1 : IntKind.i64.wrap ((n : Int) - 1) = n - 1 := IntWalk.i64_in _ (by omega)
  have hw2 : IntKind.i64.wrap ((n : Int) - 1 - X) = n - 1 - X := IntWalk.i64_in _ (by omega)
  go_enter Try.func99, Try.ntmps99
  go_wp2
  go_quiet (fail)
  go_wp2
  go_ret
  exact ⟨ret_int HF.out.symm, nq, rfl⟩

set_option maxHeartbeats 400000 in
theorem implCompl_any (a : Option Addr) (c n : Nat) (xs : List Int) (w : World) (hn : xs.length = n) (hx : Rd w a (ints xs)) (hl : n ≤ 140737488351232) :
    Calls Try.prog 33 #[.slice a n c] w fun e w' => ∃ a' c', e = .returned (.slice a' (compl xs).length c') ∧
      w'.ownsRow w.heap.size 3 1 (.slice a' (compl xs).length c') (compl xs).length (ints (compl xs)) ∧ Below w.heap.size w w' := by
  have hB := below_alloc w (.cells #[.slice a n c] 38)
  have hx1 := hx.below hB
  have HG : validD xs = true → Gives (w.alloc (.cells #[.slice a n c] 38)) 99 #[.pointer (some ⟨w.heap.size, 0, none⟩)] n (complF xs) := by
    intro hv
    have h7 := validD_len hv
    refine ⟨enters_CD, fun w' k hb hk => ?_⟩
    exact quiet_below (CD1_any k _ a c n xs w' hn (hx1.below hb) (by omega) hk (validD_small hv).1 (cell_new _ _ hb))
  have HE := each_any a c n xs _ _ _ _ hn hx1 hl HG
  clear HG hx hx1
  have HE := Lib.hid HE
  go_enter Try.func33, Try.ntmps33
  go_wp2_with fail
  refine HE.out.mono ?_
  rintro e w1 ⟨a', c', rfl, ho, hb⟩
  go_wp2
  go_ret
  exact ⟨a', c', rfl, own_mono ho (by simp), below_tr' hB hb⟩

end Go.Proofs.Ytjghcegacgpehaa
