/- ConjugateOf: the reference's and the program's, both are 'conj'. -/
import Derived.Test.YtnjolpdpdmclhaaCount
namespace Go.Proofs.Ytnjolpdpdmclhaa
open Go.RowKit

def conjF (xs : List Int) (k : Nat) : Int := (xs.countP fun x => decide ((k : Int) < x) : Nat)
def conj (xs : List Int) : List Int := eachOf xs (conjF xs)
theorem conj_len {xs : List Int} : (conj xs).length ≤ 7 := by
  unfold conj eachOf
  split
  · rename_i h; rw [upto_length]; exact validD_len h
  · simp
theorem conjF_eq (xs : List Int) (k : Nat) : ((xs.countP fun x => decide ((k : Int) + 1 ≤ x) : Nat) : Int) = conjF xs k := rfl

set_option maxHeartbeats 1000000 in
theorem specConj_any (a : Option Addr) (c n : Nat) (xs : List Int) (w : World) (hn : xs.length = n) (hx : Rd w a (ints xs)) (hl : n ≤ 140737488351232) :
    Calls Try.prog 31 #[.slice a n c] w fun e w' => ∃ a' c', e = .returned (.slice a' (conj xs).length c') ∧
      w'.ownsRow w.heap.size 3 1 (.slice a' (conj xs).length c') (conj xs).length (ints (conj xs)) ∧ Below w.heap.size w w' := by
  have HV := specValidDegrees_any a c n xs w hn hx hl
  cases hv : validD xs
  · have e : conj xs = [] := by simp [conj, eachOf, hv]
    rw [e]
    rw [hv] at HV
    clear hx hv e
    go_enter Try.func31, Try.ntmps31
    go_wp2_with (go_at_call 35; refine HV.mono ?_; rintro e w1 ⟨rfl, rfl⟩)
    go_ret
    exact ⟨none, 0, rfl, World.ownsRow_nil _ _ _ _, Below.refl _ _⟩
  · have h7 := validD_len hv
    rw [hn] at h7
    have e : conj xs = upto (conjF xs) n := by simp [conj, eachOf, hv, hn]
    rw [e, upto_length]
    rw [hv] at HV
    clear hv e
    go_enter Try.func31, Try.ntmps31
    go_wp2_with (go_at_call 35; refine HV.mono ?_; rintro e w ⟨rfl, rfl⟩)
    go_loopw [3, 4] (fun v i wr => ∃ (k : Nat) (a : Option Addr) (c : Nat), k ≤ n ∧ i = .int .i64 k ∧ v = .slice a k c ∧ wr.ownsRow w.heap.size 3 1 (.slice a k c) k (ints (upto (conjF xs) k)) ∧ Below w.heap.size w wr) (fun _ i _ => n - (intOf i).toNat)
    case atStart => exact ⟨0, some ⟨w.heap.size, 0, none⟩, 0, by omega, rfl, rfl, World.ownsRow_made w #[] 0 (Nat.le_refl _) (by decide) rfl, below_alloc _ _⟩
    case round =>
      obtain ⟨k, a2, c2, hk, rfl, rfl, hown, hb⟩ := hrel
      by_cases hlt : k < n
      · have hsz := hb.size
        have HC := countAtLeast_any a c n xs ((k : Int) + 1) wr hn (hx.below hb) hl
        rw [conjF_eq] at HC
        have hF : ∃ X, X = conjF xs k := ⟨_, rfl⟩
        obtain ⟨X, hX⟩ := hF
        rw [← hX] at HC
        have hF := Lib.hid hX
        clear hX
        go_wp2_with (first | (go_at_call 52; refine HC.mono ?_; rintro e w1 ⟨rfl, rfl⟩) | (at_builtin; refine appendI Try.infoI _ _ rfl rfl hown hb (Nat.le_refl _) hsz rfl rfl (by omega) ?_; intro a' c' w1 hown1 hb1))
        go_roundw
        case rel => exact ⟨k + 1, a', c', by omega, by go_num, rfl, by rw [upto_succ, ← hF.out]; exact hown1, hb1⟩
        case measure => simp [intOf]; omega
      · have e : k = n := by omega
        subst e
        go_wp2
        go_ret
        exact ⟨a2, c2, rfl, hown, hb⟩

theorem enters_CO : Enters Try.prog 53 := enters Try.func53 (by kernel_rfl) rfl
theorem enters_CO1 : Enters Try.prog 55 := enters Try.func55 (by kernel_rfl) rfl

theorem CO11_any (x k : Int) (p : Nat) (w : World) (h1 : w.cell? ⟨p, 0, none⟩ = some (.int .i64 k)) :
    Calls Try.prog 55 #[.int .i64 x, .pointer (some ⟨p, 0, none⟩)] w fun e w' => e = .returned (.bool (decide (k < x))) ∧ w' = w := by
  go_enter Try.func55, Try.ntmps55
  go_wp2
  go_ret
  exact ⟨rfl, rfl⟩

set_option maxHeartbeats 400000 in
theorem CO1_any (k : Nat) (p : Nat) (a : Option Addr) (c n : Nat) (xs : List Int) (w : World) (hn : xs.length = n) (hx : Rd w a (ints xs)) (hl : n ≤ 140737488351232) (hp : w.cell? ⟨p, 0, none⟩ = some (.slice a n c)) :
    Calls Try.prog 53 #[.int .i64 k, .pointer (some ⟨p, 0, none⟩)] w fun e w' => e = .returned (.int .i64 (conjF xs k)) ∧ Below w.heap.size w w' := by
  have hB := below_alloc w (.cells #[.int .i64 k] 3)
  have hpw : p < w.heap.size := Rd.lt hp
  have hA : Answers (w.alloc (.cells #[.int .i64 k] 3)) 55 #[.pointer (some ⟨w.heap.size, 0, none⟩)] xs (fun x => decide ((k : Int) < x)) :=
    ⟨enters_CO1, fun w' x hb _ => same_below (CO11_any x k _ w' (cell_new _ _ hb))⟩
  have HC := count_any a c n xs _ _ _ _ hn (hx.below hB) hl hA
  have hF : ∃ X, X = conjF xs k := ⟨_, rfl⟩
  obtain ⟨X, hX⟩ := hF
  rw [show ((xs.countP fun x => decide ((k : Int) < x) : Nat) : Int) = X from hX.symm] at HC
  have hF := Lib.hid hX
  clear hX hA hx
  go_enter Try.func53, Try.ntmps53
  go_wp2_with (go_at_call 54; refine HC.mono ?_; rintro e w1 ⟨rfl, hb⟩)
  go_ret
  exact ⟨ret_int hF.out, below_tr' hB hb⟩

set_option maxHeartbeats 400000 in
theorem implConj_any (a : Option Addr) (c n : Nat) (xs : List Int) (w : World) (hn : xs.length = n) (hx : Rd w a (ints xs)) (hl : n ≤ 140737488351232) :
    Calls Try.prog 32 #[.slice a n c] w fun e w' => ∃ a' c', e = .returned (.slice a' (conj xs).length c') ∧
      w'.ownsRow w.heap.size 3 1 (.slice a' (conj xs).length c') (conj xs).length (ints (conj xs)) ∧ Below w.heap.size w w' := by
  have hB := below_alloc w (.cells #[.slice a n c] 23)
  have hx1 := hx.below hB
  have HG : validD xs = true → Gives (w.alloc (.cells #[.slice a n c] 23)) 53 #[.pointer (some ⟨w.heap.size, 0, none⟩)] n (conjF xs) :=
    fun _ => ⟨enters_CO, fun w' k hb _ => CO1_any k _ a c n xs w' hn (hx1.below hb) hl (cell_new _ _ hb)⟩
  have HE := each_any a c n xs _ _ _ _ hn hx1 hl HG
  clear HG hx hx1
  have HE := Lib.hid HE
  go_enter Try.func32, Try.ntmps32
  go_wp2_with fail
  refine HE.out.mono ?_
  rintro e w1 ⟨a', c', rfl, ho, hb⟩
  go_wp2
  go_ret
  exact ⟨a', c', rfl, own_mono ho (by simp), below_tr' hB hb⟩

end Go.Proofs.Ytnjolpdpdmclhaa
