/- Numbers that may be degrees: the reference's test and the program's, both are 'validD'. -/
import Derived.Test.YtnjolpdpdmclhaaFunc
namespace Go.Proofs.Ytnjolpdpdmclhaa
open Go.RowKit

def inR (n lo hi : Int) : Bool := decide (lo ≤ n) && decide (n ≤ hi)
theorem inR_true {n lo hi : Int} : inR n lo hi = true ↔ lo ≤ n ∧ n ≤ hi := by simp [inR]
theorem inR_false {n lo hi : Int} : inR n lo hi = false ↔ n < lo ∨ hi < n := by
  simp only [inR, Bool.and_eq_false_iff, decide_eq_false_iff_not]; omega
theorem ret_bool {a b : Bool} (h : a = b) : Ending.returned (.bool a) = .returned (.bool b) := by rw [h]
theorem ret_int {a b : Int} (h : a = b) : Ending.returned (.int .i64 a) = .returned (.int .i64 b) := by rw [h]

theorem inRange_any (n lo hi : Int) (w : World) :
    Calls Try.prog 49 #[.int .i64 n, .int .i64 lo, .int .i64 hi] w fun e w' => e = .returned (.bool (inR n lo hi)) ∧ w' = w := by
  by_cases h : lo ≤ n
  · have HR := Lib.hid (show decide (n ≤ hi) = inR n lo hi by simp [inR, h])
    go_enter Try.func49, Try.ntmps49
    go_wp2
    go_ret
    exact ⟨ret_bool HR.out, rfl⟩
  · have HR := Lib.hid (show false = inR n lo hi by simp [inR, h])
    go_enter Try.func49, Try.ntmps49
    go_wp2
    go_ret
    exact ⟨ret_bool HR.out, rfl⟩

theorem in_any (n lo hi : Int) (w : World) :
    Calls Try.prog 38 #[.int .i64 n, .int .i64 lo, .int .i64 hi] w fun e w' => e = .returned (.bool (inR n lo hi)) ∧ w' = w := by
  by_cases h : lo ≤ n
  · have HR := Lib.hid (show decide (n ≤ hi) = inR n lo hi by simp [inR, h])
    go_enter Try.func38, Try.ntmps38
    go_wp2
    go_ret
    exact ⟨ret_bool HR.out, rfl⟩
  · have HR := Lib.hid (show false = inR n lo hi by simp [inR, h])
    go_enter Try.func38, Try.ntmps38
    go_wp2
    go_ret
    exact ⟨ret_bool HR.out, rfl⟩

def allR (xs : List Int) (lo hi : Int) : Bool := xs.all fun x => inR x lo hi
def validD (xs : List Int) : Bool := allR xs 0 (xs.length - 1) && decide (xs.length ≤ 7)

theorem allR_no {xs : List Int} {lo hi : Int} {k : Nat} (hk : k < xs.length) (h : inR (xs[k]'hk) lo hi = false) : allR xs lo hi = false := by
  rw [allR, List.all_eq_false]
  exact ⟨_, List.getElem_mem hk, by simp [h]⟩
theorem allR_yes {xs : List Int} {lo hi : Int} (h : ∀ j (hj : j < xs.length), inR (xs[j]'hj) lo hi = true) : allR xs lo hi = true := by
  rw [allR, List.all_eq_true]
  intro x hx
  obtain ⟨i, hi, rfl⟩ := List.getElem_of_mem hx
  exact h i hi

set_option maxHeartbeats 400000 in
theorem specValidDegrees_any (a : Option Addr) (c n : Nat) (xs : List Int) (w : World) (hn : xs.length = n) (hx : Rd w a (ints xs)) (hl : n ≤ 140737488351232) :
    Calls Try.prog 35 #[.slice a n c] w fun e w' => e = .returned (.bool (validD xs)) ∧ w' = w := by
  go_enter Try.func35, Try.ntmps35
  go_wp2
  go_loop [3] (fun i => ∃ k : Nat, k ≤ n ∧ i = .int .i64 k ∧ ∀ j (hj : j < k) (h : j < xs.length), inR (xs[j]'h) 0 (n - 1) = true) (fun i => n - (intOf i).toNat)
  case atStart => exact ⟨0, by omega, rfl, by intro j hj; omega⟩
  case round =>
    obtain ⟨k, hk, rfl, hall⟩ := hrel
    by_cases hlt : k < n
    · obtain ⟨b1, o1, rfl, c1⟩ := hx.int (k := k) (by omega)
      have hyes : inR (xs[k]'(by omega)) 0 (n - 1) = true → (∀ j (hj : j < k + 1) (h : j < xs.length), inR (xs[j]'h) 0 (n - 1) = true) := by
        intro h0 j hj h
        by_cases e : j = k
        · subst e; exact h0
        · exact hall j (by omega) h
      have hno : inR (xs[k]'(by omega)) 0 (n - 1) = false → validD xs = false := by
        intro h0
        have := allR_no (xs := xs) (lo := 0) (hi := n - 1) (by omega) h0
        simp [validD, hn, this]
      have HN := Lib.hid hall; clear hall
      generalize hX : (xs[k]'(by omega)) = X at *
      clear hX
      have HI := inRange_any X 0 (n - 1) w
      cases hp : inR X 0 (n - 1)
      · have HE := Lib.hid (hno hp); clear hno hyes
        rw [hp] at HI
        clear hp
        go_wp2_with (go_at_call 49; refine HI.mono ?_; rintro e w' ⟨rfl, rfl⟩)
        go_ret
        exact ⟨ret_bool HE.out.symm, rfl⟩
      · have HE := Lib.hid (hyes hp); clear hno hyes
        rw [hp] at HI
        clear hp
        go_wp2_with (go_at_call 49; refine HI.mono ?_; rintro e w' ⟨rfl, rfl⟩)
        go_round
        case rel => exact ⟨k + 1, by omega, by go_num, HE.out⟩
        case measure => simp [intOf]; omega
    · have e : validD xs = decide (n ≤ 7) := by
        have : allR xs 0 (xs.length - 1) = true := allR_yes fun j hj => by rw [hn]; exact hall j (by omega) hj
        simp only [validD]; rw [this, hn]; simp
      have HE := Lib.hid e; clear e hall
      go_wp2
      go_ret
      exact ⟨ret_bool (by rw [HE.out, decide_eq_decide]; omega), rfl⟩

theorem specVD_any (a : Option Addr) (c n : Nat) (xs : List Int) (w : World) (hn : xs.length = n) (hx : Rd w a (ints xs)) (hl : n ≤ 140737488351232) :
    Calls Try.prog 13 #[.slice a n c] w fun e w' => e = .returned (.bool (validD xs)) ∧ w' = w := by
  have HC := specValidDegrees_any a c n xs w hn hx hl
  generalize validD xs = V at *
  clear hx
  go_enter Try.func13, Try.ntmps13
  go_wp2_with (go_at_call 35; refine HC.mono ?_; rintro e w' ⟨rfl, rfl⟩)
  go_ret
  exact ⟨rfl, rfl⟩

theorem enters_allIn : Enters Try.prog 58 := enters Try.func58 (by kernel_rfl) rfl

set_option maxHeartbeats 400000 in
theorem allIn1_any (x lo hi : Int) (p q : Nat) (w : World) (h1 : w.cell? ⟨p, 0, none⟩ = some (.int .i64 lo)) (h2 : w.cell? ⟨q, 0, none⟩ = some (.int .i64 hi)) :
    Calls Try.prog 58 #[.int .i64 x, .pointer (some ⟨p, 0, none⟩), .pointer (some ⟨q, 0, none⟩)] w fun e w' => e = .returned (.bool (!inR x lo hi)) ∧ w' = w := by
  have HC := in_any x lo hi w
  generalize inR x lo hi = V at *
  go_enter Try.func58, Try.ntmps58
  go_wp2_with (go_at_call 38; refine HC.mono ?_; rintro e w' ⟨rfl, rfl⟩)
  go_ret
  exact ⟨rfl, rfl⟩

theorem not_any_not (xs : List Int) (lo hi : Int) : (!(xs.any fun x => !inR x lo hi)) = allR xs lo hi := by
  unfold allR
  induction xs with
  | nil => rfl
  | cons a l ih => rw [List.any_cons, List.all_cons, ← ih]; simp

set_option maxHeartbeats 400000 in
theorem allIn_any (a : Option Addr) (c n : Nat) (xs : List Int) (lo hi : Int) (w : World) (hn : xs.length = n) (hx : Rd w a (ints xs)) (hl : n ≤ 140737488351232) :
    Calls Try.prog 36 #[.slice a n c, .int .i64 lo, .int .i64 hi] w fun e w' => e = .returned (.bool (allR xs lo hi)) ∧ Below w.heap.size w w' := by
  have hB2 : Below w.heap.size w ((w.alloc (.cells #[.int .i64 lo] 3)).alloc (.cells #[.int .i64 hi] 3)) := ((Below.refl _ _).alloc (Nat.le_refl _) _).alloc (by simp) _
  have hA : Answers ((w.alloc (.cells #[.int .i64 lo] 3)).alloc (.cells #[.int .i64 hi] 3)) 58 #[.pointer (some ⟨w.heap.size, 0, none⟩), .pointer (some ⟨w.heap.size + 1, 0, none⟩)] xs (fun x => !inR x lo hi) := by
    refine ⟨enters_allIn, fun w' x hb _ => ?_⟩
    have c1 : w'.cell? ⟨w.heap.size, 0, none⟩ = some (.int .i64 lo) := by
      rw [hb.cell (p := ⟨w.heap.size, 0, none⟩) (by simp; omega), World.cell?_alloc_past _ _ _ (by simp), World.cell?_alloc_at _ _ _ _ rfl]; rfl
    have c2 : w'.cell? ⟨w.heap.size + 1, 0, none⟩ = some (.int .i64 hi) := by
      rw [hb.cell (p := ⟨w.heap.size + 1, 0, none⟩) (by simp), World.cell?_alloc_at _ _ _ _ (by simp)]; rfl
    exact (allIn1_any x lo hi _ _ w' c1 c2).mono fun e w'' ⟨h1, h2⟩ => ⟨h1, by rw [h2]; exact Below.refl _ _⟩
  have HC := ContainsFunc_any a c n xs _ _ _ _ hn (hx.below hB2) hl hA
  have HN := Lib.hid (not_any_not xs lo hi)
  generalize (xs.any fun x => !inR x lo hi) = V at *
  clear hA hx
  go_enter Try.func36, Try.ntmps36
  go_wp2_with (go_at_call 41; refine HC.mono ?_; rintro e w' ⟨rfl, hb⟩)
  go_ret
  exact ⟨ret_bool HN.out, below_tr' hB2 hb⟩

set_option maxHeartbeats 400000 in
theorem implVD_any (a : Option Addr) (c n : Nat) (xs : List Int) (w : World) (hn : xs.length = n) (hx : Rd w a (ints xs)) (hl : n ≤ 140737488351232) :
    Calls Try.prog 15 #[.slice a n c] w fun e w' => e = .returned (.bool (validD xs)) ∧ Below w.heap.size w w' := by
  have HC := allIn_any a c n xs 0 (n - 1) w hn hx hl
  by_cases h7 : n ≤ 7
  · have HV := Lib.hid (show allR xs 0 (n - 1) = validD xs by simp [validD, hn, h7])
    generalize allR xs 0 (n - 1) = V at *
    clear hx
    go_enter Try.func15, Try.ntmps15
    go_wp2_with (go_at_call 36; refine HC.mono ?_; rintro e w' ⟨rfl, hb⟩)
    go_ret
    exact ⟨ret_bool HV.out, by assumption⟩
  · have HV := Lib.hid (show false = validD xs by simp [validD, hn, h7])
    clear hx HC
    go_enter Try.func15, Try.ntmps15
    go_wp2
    go_ret
    exact ⟨ret_bool HV.out, Below.refl _ _⟩

end Go.Proofs.Ytnjolpdpdmclhaa
