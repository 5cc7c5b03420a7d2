
/- Several texts in one: Func, AllIn, Deg, Sum, Each. -/
import Derived.Test.YtjghcegacgpehaaInts
import Derived.Test.YtjghcegacgpehaaRng
import Derived.Test.YtjghcegacgpehaaBase
namespace Go.Proofs.Ytjghcegacgpehaa
open Go.RowKit

/-- A function value that answers 'p', over memory that lies as it did at 'w'. -/
def Answers (w : World) (K : Nat) (cap : Array Value) (xs : List Int) (p : Int → Bool) : Prop :=
  Enters Try.prog K ∧ ∀ w' x, Below w.heap.size w w' → x ∈ xs → Calls Try.prog K (#[.int .i64 x] ++ cap) w' fun e w'' => e = .returned (.bool (p x)) ∧ Below w'.heap.size w' w''

def idxI (p : Int → Bool) (xs : List Int) : Int := match xs.findIdx? p with | some i => (i : Int) | none => -1

theorem idxI_none {p : Int → Bool} {xs : List Int} (h : ∀ x ∈ xs, p x = false) : idxI p xs = -1 := by
  have : xs.findIdx? p = none := by rw [List.findIdx?_eq_none_iff]; exact h
  simp [idxI, this]

theorem idxI_some {p : Int → Bool} {xs : List Int} {k : Nat} (hk : k < xs.length) (h : ∀ i (hi : i < k), p (xs[i]'(by omega)) = false) (hp : p (xs[k]'hk) = true) : idxI p xs = k := by
  have : xs.findIdx? p = some k := by
    rw [List.findIdx?_eq_some_iff_getElem]
    exact ⟨hk, hp, fun j hj => by simp [h j hj]⟩
  simp [idxI, this]

set_option maxHeartbeats 400000 in
theorem IndexFunc_any (a : Option Addr) (c n : Nat) (xs : List Int) (K : Nat) (cap : Array Value) (p : Int → Bool) (w : World) (hn : xs.length = n) (hx : Rd w a (ints xs)) (hl : n ≤ 140737488351232) (hf : Answers w K cap xs p) :
    Calls Try.prog 172 #[.slice a n c, .func (.func K) #[] cap] w fun e w' => e = .returned (.int .i64 (idxI p xs)) ∧ Below w.heap.size w w' := by
  obtain ⟨hK0, hf⟩ := hf
  have hK : ∀ args w, (callFunc K args).run Try.prog w = .ok (.enter K args) w := hK0
  go_enter Try.func172, Try.ntmps172
  go_wp2
  go_loopw [5, 8] (fun _ i wr => ∃ k : Nat, k ≤ n ∧ i = .int .i64 k ∧ (∀ j (hj : j < k), (h : j < xs.length) → p (xs[j]'h) = false) ∧ Below w.heap.size w wr) (fun _ i _ => n - (intOf i).toNat)
  case atStart => exact ⟨0, by omega, rfl, by intro j hj; omega, Below.refl _ _⟩
  case round =>
    obtain ⟨k, hk, rfl, hno, hb⟩ := hrel
    by_cases hlt : k < n
    · obtain ⟨b1, o1, rfl, c1⟩ := (hx.below hb).int (k := k) (by omega)
      have HC := hf wr (xs[k]'(by omega)) hb (List.getElem_mem _)
      have hno' : p (xs[k]'(by omega)) = false → (∀ j (hj : j < k + 1), (h : j < xs.length) → p (xs[j]'h) = false) := by
        intro h0 j hj h
        by_cases e : j = k
        · subst e; exact h0
        · exact hno j (by omega) h
      have hyes : p (xs[k]'(by omega)) = true → idxI p xs = k := fun h => idxI_some (by omega) (fun i hi => hno i hi (by omega)) h
      have HN := Lib.hid hno; clear hno
      generalize hX : (xs[k]'(by omega)) = X at *
      clear hX
      cases hp : p X
      · have HN' := Lib.hid (hno' hp); clear hno' hyes
        rw [hp] at HC
        clear hp
        go_wp2_with fail
        refine HC.mono ?_
        rintro e w1 ⟨rfl, hb1⟩
        have HB := hb.trans (hb1.mono hb.size)
        clear HC hb1
        go_wp2
        go_roundw
        case rel => exact ⟨k + 1, by omega, by go_num, HN'.out, HB⟩
        case measure => simp [intOf]; omega
      · have HE := Lib.hid (hyes hp); clear hno' hyes
        rw [hp] at HC
        clear hp
        go_wp2_with fail
        refine HC.mono ?_
        rintro e w1 ⟨rfl, hb1⟩
        have HB := hb.trans (hb1.mono hb.size)
        clear HC hb1
        go_wp2
        go_ret
        exact ⟨by rw [HE.out]; rfl, HB⟩
    · have e : idxI p xs = -1 := idxI_none (by
        intro x hx
        obtain ⟨i, hi, rfl⟩ := List.getElem_of_mem hx
        exact hno i (by omega) hi)
      have HE := Lib.hid e; clear e hno
      go_wp2
      go_ret
      exact ⟨by rw [HE.out]; rfl, hb⟩

theorem idxI_any (p : Int → Bool) (xs : List Int) : decide (0 ≤ idxI p xs) = xs.any p := by
  unfold idxI
  cases h : xs.findIdx? p with
  | none =>
    rw [List.findIdx?_eq_none_iff] at h
    have : xs.any p = false := by rw [List.any_eq_false]; intro x hx; simp [h x hx]
    simp [this]
  | some i =>
    obtain ⟨hi, hp, _⟩ := List.findIdx?_eq_some_iff_getElem.1 h
    have : xs.any p = true := List.any_eq_true.2 ⟨_, List.getElem_mem hi, hp⟩
    simp [this]

theorem ContainsFunc_any (a : Option Addr) (c n : Nat) (xs : List Int) (K : Nat) (cap : Array Value) (p : Int → Bool) (w : World) (hn : xs.length = n) (hx : Rd w a (ints xs)) (hl : n ≤ 140737488351232) (hf : Answers w K cap xs p) :
    Calls Try.prog 117 #[.slice a n c, .func (.func K) #[] cap] w fun e w' => e = .returned (.bool (xs.any p)) ∧ Below w.heap.size w w' := by
  have HA := Lib.hid (idxI_any p xs)
  go_enter Try.func117, Try.ntmps117
  go_wp2_with fail
  refine (IndexFunc_any a c n xs K cap p w hn hx hl hf).mono ?_
  rintro e w1 ⟨rfl, hb⟩
  clear hf hx
  go_wp2
  go_ret
  exact ⟨by rw [← HA.out]; rfl, hb⟩

def allR (xs : List Int) (lo hi : Int) : Bool := xs.all fun x => inR x lo hi
theorem allR_no {xs : List Int} {lo hi : Int} {k : Nat} (hk : k < xs.length) (h : inR (xs[k]'hk) lo hi = false) : allR xs lo hi = false := by
  rw [allR, List.all_eq_false]
  exact ⟨_, List.getElem_mem hk, by simp [h]⟩
theorem allR_yes {xs : List Int} {lo hi : Int} (h : ∀ j (hj : j < xs.length), inR (xs[j]'hj) lo hi = true) : allR xs lo hi = true := by
  rw [allR, List.all_eq_true]
  intro x hx
  obtain ⟨i, hi, rfl⟩ := List.getElem_of_mem hx
  exact h i hi

theorem enters_allIn : Enters Try.prog 157 := enters Try.func157 (by kernel_rfl) rfl

set_option maxHeartbeats 400000 in
theorem allIn1_any (x lo hi : Int) (p q : Nat) (w : World) (h1 : w.cell? ⟨p, 0, none⟩ = some (.int .i64 lo)) (h2 : w.cell? ⟨q, 0, none⟩ = some (.int .i64 hi)) :
    Calls Try.prog 157 #[.int .i64 x, .pointer (some ⟨p, 0, none⟩), .pointer (some ⟨q, 0, none⟩)] w fun e w' => e = .returned (.bool (!inR x lo hi)) ∧ w' = w := by
  have HC := in_any x lo hi w
  generalize inR x lo hi = V at *
  go_enter Try.func157, Try.ntmps157
  go_wp2_with (go_at_call 90; refine HC.mono ?_; rintro e w' ⟨rfl, rfl⟩)
  go_ret
  exact ⟨rfl, rfl⟩

theorem not_any_not (xs : List Int) (lo hi : Int) : (!(xs.any fun x => !inR x lo hi)) = allR xs lo hi := by
  unfold allR
  induction xs with
  | nil => rfl
  | cons a l ih => rw [List.any_cons, List.all_cons, ← ih]; simp

set_option maxHeartbeats 400000 in
theorem allIn_any (a : Option Addr) (c n : Nat) (xs : List Int) (lo hi : Int) (w : World) (hn : xs.length = n) (hx : Rd w a (ints xs)) (hl : n ≤ 140737488351232) :
    Calls Try.prog 91 #[.slice a n c, .int .i64 lo, .int .i64 hi] w fun e w' => e = .returned (.bool (allR xs lo hi)) ∧ Below w.heap.size w w' := by
  have hB2 : Below w.heap.size w ((w.alloc (.cells #[.int .i64 lo] 3)).alloc (.cells #[.int .i64 hi] 3)) := ((Below.refl _ _).alloc (Nat.le_refl _) _).alloc (by simp) _
  have hA : Answers ((w.alloc (.cells #[.int .i64 lo] 3)).alloc (.cells #[.int .i64 hi] 3)) 157 #[.pointer (some ⟨w.heap.size, 0, none⟩), .pointer (some ⟨w.heap.size + 1, 0, none⟩)] xs (fun x => !inR x lo hi) := by
    refine ⟨enters_allIn, fun w' x hb _ => ?_⟩
    have c1 : w'.cell? ⟨w.heap.size, 0, none⟩ = some (.int .i64 lo) := by
      rw [hb.cell (p := ⟨w.heap.size, 0, none⟩) (by simp; omega), World.cell?_alloc_past _ _ _ (by simp), World.cell?_alloc_at _ _ _ _ rfl]; rfl
    have c2 : w'.cell? ⟨w.heap.size + 1, 0, none⟩ = some (.int .i64 hi) := by
      rw [hb.cell (p := ⟨w.heap.size + 1, 0, none⟩) (by simp), World.cell?_alloc_at _ _ _ _ (by simp)]; rfl
    exact (allIn1_any x lo hi _ _ w' c1 c2).mono fun e w'' ⟨h1, h2⟩ => ⟨h1, by rw [h2]; exact Below.refl _ _⟩
  have HC := ContainsFunc_any a c n xs _ _ _ _ hn (hx.below hB2) hl hA
  have HN := Lib.hid (not_any_not xs lo hi)
  generalize (xs.any fun x => !inR x lo hi) = V at *
  clear hA hx
  go_enter Try.func91, Try.ntmps91
  go_wp2_with (go_at_call 117; refine HC.mono ?_; rintro e w' ⟨rfl, hb⟩)
  go_ret
  exact ⟨ret_bool HN.out, below_tr' hB2 hb⟩

def validD (xs : List Int) : Bool := allR xs 0 (xs.length - 1) && decide (xs.length ≤ 7)

set_option maxHeartbeats 400000 in
theorem specValidDegrees_any (a : Option Addr) (c n : Nat) (xs : List Int) (w : World) (hn : xs.length = n) (hx : Rd w a (ints xs)) (hl : n ≤ 140737488351232) :
    Calls Try.prog 100 #[.slice a n c] w fun e w' => e = .returned (.bool (validD xs)) ∧ w' = w := by
  go_enter Try.func100, Try.ntmps100
  go_wp2
  go_loop [3] (fun i => ∃ k : Nat, k ≤ n ∧ i = .int .i64 k ∧ ∀ j (hj : j < k) (h : j < xs.length), inR (xs[j]'h) 0 (n - 1) = true) (fun i => n - (intOf i).toNat)
  case atStart => exact ⟨0, by omega, rfl, by intro j hj; omega⟩
  case round =>
    obtain ⟨k, hk, rfl, hall⟩ := hrel
    by_cases hlt : k < n
    · obtain ⟨b1, o1, rfl, c1⟩ := hx.int (k := k) (by omega)
      have hyes : inR (xs[k]'(by omega)) 0 (n - 1) = true → (∀ j (hj : j < k + 1) (h : j < xs.length), inR (xs[j]'h) 0 (n - 1) = true) := by
        intro h0 j hj h
        by_cases e : j = k
        · subst e; exact h0
        · exact hall j (by omega) h
      have hno : inR (xs[k]'(by omega)) 0 (n - 1) = false → validD xs = false := by
        intro h0
        have := allR_no (xs := xs) (lo := 0) (hi := n - 1) (by omega) h0
        simp [validD, hn, this]
      have HN := Lib.hid hall; clear hall
      generalize hX : (xs[k]'(by omega)) = X at *
      clear hX
      have HI := inRange_any X 0 (n - 1) w
      cases hp : inR X 0 (n - 1)
      · have HE := Lib.hid (hno hp); clear hno hyes
        rw [hp] at HI
        clear hp
        go_wp2_with (go_at_call 107; refine HI.mono ?_; rintro e w' ⟨rfl, rfl⟩)
        go_ret
        exact ⟨ret_bool HE.out.symm, rfl⟩
      · have HE := Lib.hid (hyes hp); clear hno hyes
        rw [hp] at HI
        clear hp
        go_wp2_with (go_at_call 107; refine HI.mono ?_; rintro e w' ⟨rfl, rfl⟩)
        go_round
        case rel => exact ⟨k + 1, by omega, by go_num, HE.out⟩
        case measure => simp [intOf]; omega
    · have e : validD xs = decide (n ≤ 7) := by
        have : allR xs 0 (xs.length - 1) = true := allR_yes fun j hj => by rw [hn]; exact hall j (by omega) hj
        simp only [validD]; rw [this, hn]; simp
      have HE := Lib.hid e; clear e hall
      go_wp2
      go_ret
      exact ⟨ret_bool (by rw [HE.out, decide_eq_decide]; omega), rfl⟩

set_option maxHeartbeats 400000 in
theorem implVD_any (a : Option Addr) (c n : Nat) (xs : List Int) (w : World) (hn : xs.length = n) (hx : Rd w a (ints xs)) (hl : n ≤ 140737488351232) :
    Calls Try.prog 36 #[.slice a n c] w fun e w' => e = .returned (.bool (validD xs)) ∧ Below w.heap.size w w' := by
  have HC := allIn_any a c n xs 0 (n - 1) w hn hx hl
  by_cases h7 : n ≤ 7
  · have HV := Lib.hid (show allR xs 0 (n - 1) = validD xs by simp [validD, hn, h7])
    generalize allR xs 0 (n - 1) = V at *
    clear hx
    go_enter Try.func36, Try.ntmps36
    go_wp2_with (go_at_call 91; refine HC.mono ?_; rintro e w' ⟨rfl, hb⟩)
    go_ret
    exact ⟨ret_bool HV.out, by assumption⟩
  · have HV := Lib.hid (show false = validD xs by simp [validD, hn, h7])
    clear hx HC
    go_enter Try.func36, Try.ntmps36
    go_wp2
    go_ret
    exact ⟨ret_bool HV.out, Below.refl _ _⟩

def Small (xs : List Int) : Prop := ∀ x ∈ xs, 0 ≤ x ∧ x ≤ 1000000

theorem Small.get {xs : List Int} (h : Small xs) (k : Nat) (hk : k < xs.length) : 0 ≤ xs[k] ∧ xs[k] ≤ 1000000 := h _ (List.getElem_mem hk)
theorem Small.take {xs : List Int} (h : Small xs) (k : Nat) : Small (xs.take k) := fun x hx => h x (List.mem_of_mem_take hx)

theorem sum_bd (xs : List Int) (h : Small xs) : 0 ≤ xs.sum ∧ xs.sum ≤ 1000000 * xs.length := by
  induction xs with
  | nil => simp
  | cons a l ih =>
    have h1 := h a (by simp)
    have h2 := ih (fun x hx => h x (by simp [hx]))
    simp only [List.sum_cons, List.length_cons]
    omega

theorem sum_take_succ (xs : List Int) (k : Nat) (hk : k < xs.length) : (xs.take (k + 1)).sum = (xs.take k).sum + xs[k] := by
  rw [List.take_succ_eq_append_getElem hk, List.sum_append]; simp

theorem validD_small {xs : List Int} (h : validD xs = true) : Small xs ∧ xs.length ≤ 7 := by
  simp only [validD, Bool.and_eq_true, decide_eq_true_eq] at h
  refine ⟨fun x hx => ?_, h.2⟩
  have := List.all_eq_true.1 h.1 x hx
  rw [inR_true] at this
  omega

set_option maxHeartbeats 400000 in
theorem specSum_any (a : Option Addr) (c n : Nat) (xs : List Int) (w : World) (hn : xs.length = n) (hx : Rd w a (ints xs)) (hl : n ≤ 1000000) (hs : Small xs) :
    Calls Try.prog 159 #[.slice a n c] w fun e w' => e = .returned (.int .i64 xs.sum) ∧ w' = w := by
  have HS := Lib.hid hs
  clear hs
  go_enter Try.func159, Try.ntmps159
  go_wp2
  go_loop [3, 4] (fun q i => ∃ k : Nat, k ≤ n ∧ i = .int .i64 k ∧ q = .int .i64 (xs.take k).sum) (fun _ i => n - (intOf i).toNat)
  case atStart => exact ⟨0, by omega, rfl, by simp⟩
  case round =>
    obtain ⟨k, hk, rfl, rfl⟩ := hrel
    have hb := sum_bd _ (HS.out.take k)
    have hbl : (xs.take k).length ≤ k := List.length_take_le _ _
    by_cases hlt : k < n
    · obtain ⟨b1, o1, rfl, c1⟩ := hx.int (k := k) (by omega)
      have hst := Lib.hid (sum_take_succ xs k (by omega))
      have hxk := HS.out.get k (by omega)
      generalize (xs[k]'(by omega)) = X at *
      generalize (xs.take k).sum = S at *
      go_wp2
      go_round
      case rel => exact ⟨k + 1, by omega, by go_num, by rw [hst.out]⟩
      case measure => simp [intOf]; omega
    · have : k = n := by omega
      have e := Lib.hid (show (xs.take k).sum = xs.sum by rw [this, ← hn, List.take_length])
      generalize (xs.take k).sum = S at *
      go_wp2
      go_ret
      exact ⟨ret_int e.out, rfl⟩

set_option maxHeartbeats 400000 in
theorem implSum_any (a : Option Addr) (c n : Nat) (xs : List Int) (w : World) (hn : xs.length = n) (hx : Rd w a (ints xs)) (hl : n ≤ 1000000) (hs : Small xs) :
    Calls Try.prog 163 #[.slice a n c] w fun e w' => e = .returned (.int .i64 xs.sum) ∧ w' = w := by
  have HS := Lib.hid hs
  clear hs
  go_enter Try.func163, Try.ntmps163
  go_wp2
  go_loop [3, 5, 8] (fun q _ i => ∃ k : Nat, k ≤ n ∧ i = .int .i64 k ∧ q = .int .i64 (xs.take k).sum) (fun _ _ i => n - (intOf i).toNat)
  case atStart => exact ⟨0, by omega, rfl, by simp⟩
  case round =>
    obtain ⟨k, hk, rfl, rfl⟩ := hrel
    have hb := sum_bd _ (HS.out.take k)
    have hbl : (xs.take k).length ≤ k := List.length_take_le _ _
    by_cases hlt : k < n
    · obtain ⟨b1, o1, rfl, c1⟩ := hx.int (k := k) (by omega)
      have hst := Lib.hid (sum_take_succ xs k (by omega))
      have hxk := HS.out.get k (by omega)
      generalize (xs[k]'(by omega)) = X at *
      generalize (xs.take k).sum = S at *
      go_wp2
      go_round
      case rel => exact ⟨k + 1, by omega, by go_num, by rw [hst.out]⟩
      case measure => simp [intOf]; omega
    · have : k = n := by omega
      have e := Lib.hid (show (xs.take k).sum = xs.sum by rw [this, ← hn, List.take_length])
      generalize (xs.take k).sum = S at *
      go_wp2
      go_ret
      exact ⟨ret_int e.out, rfl⟩

/-- A function value that answers 'f k' for the indexes below n, over memory that lies as it did at 'w'. -/
def Gives (w : World) (K : Nat) (cap : Array Value) (n : Nat) (f : Nat → Int) : Prop :=
  Enters Try.prog K ∧ ∀ w' (k : Nat), Below w.heap.size w w' → k < n → Calls Try.prog K (#[.int .i64 k] ++ cap) w' fun e w'' => e = .returned (.int .i64 (f k)) ∧ Below w'.heap.size w' w''

def upto (f : Nat → Int) (n : Nat) : List Int := (List.range n).map f
theorem upto_succ (f : Nat → Int) (n : Nat) : upto f (n + 1) = upto f n ++ [f n] := by simp [upto, List.range_succ]
theorem upto_length (f : Nat → Int) (n : Nat) : (upto f n).length = n := by simp [upto]
def eachOf (xs : List Int) (f : Nat → Int) : List Int := if validD xs = true then upto f xs.length else []

theorem upto_set (f : Nat → Int) (n k : Nat) (hk : k < n) :
    ((ints (upto f k ++ List.replicate (n - k) 0)).set k (.int .i64 (f k))) = ints (upto f (k + 1) ++ List.replicate (n - (k + 1)) 0) := by
  rw [show n - k = (n - (k + 1)) + 1 from by omega, List.replicate_succ, set_mid _ _ _ _ _ (upto_length f k), upto_succ, List.append_assoc]
  rfl

theorem validD_len {xs : List Int} (h : validD xs = true) : xs.length ≤ 7 := by
  simp only [validD, Bool.and_eq_true, decide_eq_true_eq] at h
  exact h.2

set_option maxHeartbeats 1000000 in
theorem each_any (a : Option Addr) (c n : Nat) (xs : List Int) (K : Nat) (cap : Array Value) (f : Nat → Int) (w : World) (hn : xs.length = n) (hx : Rd w a (ints xs)) (hl : n ≤ 140737488351232) (hf : validD xs = true → Gives w K cap n f) :
    Calls Try.prog 98 #[.slice a n c, .func (.func K) #[] cap] w fun e w' => ∃ a' c', e = .returned (.slice a' (eachOf xs f).length c') ∧
      w'.ownsRow w.heap.size 3 1 (.slice a' (eachOf xs f).length c') (eachOf xs f).length (ints (eachOf xs f)) ∧ Below w.heap.size w w' := by
  have HV := implVD_any a c n xs w hn hx hl
  cases hv : validD xs
  · have e : eachOf xs f = [] := by simp [eachOf, hv]
    rw [e]
    rw [hv] at HV
    clear hx hf hv e
    go_enter Try.func98, Try.ntmps98
    go_wp2_with (go_at_call 36; refine HV.mono ?_; rintro e w1 ⟨rfl, hb⟩)
    go_ret
    exact ⟨none, 0, rfl, World.ownsRow_nil _ _ _ _, hb⟩
  · obtain ⟨hK, hf⟩ := hf hv
    have hK' : ∀ args w, (callFunc K args).run Try.prog w = .ok (.enter K args) w := hK
    have h7 := validD_len hv
    rw [hn] at h7
    have e : eachOf xs f = upto f n := by simp [eachOf, hv, hn]
    rw [e, upto_length]
    rw [hv] at HV
    have HF := Lib.hid hf
    clear hx hv e hf
    go_enter Try.func98, Try.ntmps98
    go_wp2_with (first | (go_at_call 36; refine HV.mono ?_; rintro e w1 ⟨rfl, hb⟩) | (at_make; refine makeI Try.infoI _ _ rfl rfl rfl rfl rfl rfl (by omega) ?_; intro w2 hown1 hB2))
    have hB := below_tr' hb hB2
    have hsz := hb.size
    have hown : w2.ownsRow w.heap.size 3 1 (.slice (some ⟨w1.heap.size, 0, none⟩) n n) n (ints (upto f 0 ++ List.replicate (n - 0) 0)) := by
      have := own_mono hown1 hsz
      simpa [upto] using this
    clear hown1 hB2 hb
    generalize w1.heap.size = g at *
    go_loopw [6, 15] (fun _ i wr => ∃ k : Nat, k ≤ n ∧ i = .int .i64 k ∧ wr.ownsRow w.heap.size 3 1 (.slice (some ⟨g, 0, none⟩) n n) n (ints (upto f k ++ List.replicate (n - k) 0)) ∧ Below w.heap.size w wr) (fun _ i _ => n - (intOf i).toNat)
    case atStart => exact ⟨0, by omega, rfl, hown, hB⟩
    case round =>
      obtain ⟨k, hk, rfl, ho, hb⟩ := hrel
      by_cases hlt : k < n
      · have HC := HF.out wr k hb hlt
        go_wp2_with fail
        refine HC.mono ?_
        rintro e w3 ⟨rfl, hb3⟩
        have ho3 := own_below ho hb3
        have hB3 := below_tr' hb hb3
        have hos := (ho3.stored k (.int .i64 (f k))).1
        rw [upto_set f n k hlt] at hos
        have HB := hB3.setCell (p := ⟨g, k, none⟩) hsz (.int .i64 (f k))
        obtain ⟨v, c2⟩ := own_some ho3 k (by omega)
        have f2 := ho3.frozenAt k
        clear HC ho hb hb3 ho3 hB3
        generalize f k = X at *
        go_wp2
        go_roundw
        case rel => exact ⟨k + 1, by omega, by go_num, hos, HB⟩
        case measure => simp [intOf]; omega
      · have e : k = n := by omega
        subst e
        go_wp2
        go_ret
        exact ⟨_, _, rfl, by simpa using ho, hb⟩

end Go.Proofs.Ytjghcegacgpehaa
