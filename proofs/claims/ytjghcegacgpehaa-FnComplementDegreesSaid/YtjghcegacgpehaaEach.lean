
/- impl.each: a number for each index of valid degrees. -/
import Derived.Test.YtjghcegacgpehaaSum
import Derived.Test.YtjghcegacgpehaaMake
namespace Go.Proofs.Ytjghcegacgpehaa
open Go.RowKit

/-- A function value that answers 'f k' for the indexes below n, over memory that lies as it did at 'w'. -/
def Gives (w : World) (K : Nat) (cap : Array Value) (n : Nat) (f : Nat → Int) : Prop :=
  Enters Try.prog K ∧ ∀ w' (k : Nat), Below w.heap.size w w' → k < n → Calls Try.prog K (#[.int .i64 k] ++ cap) w' fun e w'' => e = .returned (.int .i64 (f k)) ∧ Below w'.heap.size w' w''

def upto (f : Nat → Int) (n : Nat) : List Int := (List.range n).map f
theorem upto_succ (f : Nat → Int) (n : Nat) : upto f (n + 1) = upto f n ++ [f n] := by simp [upto, List.range_succ]
theorem upto_length (f : Nat → Int) (n : Nat) : (upto f n).length = n := by simp [upto]
def eachOf (xs : List Int) (f : Nat → Int) : List Int := if validD xs = true then upto f xs.length else []

theorem upto_set (f : Nat → Int) (n k : Nat) (hk : k < n) :
    ((ints (upto f k ++ List.replicate (n - k) 0)).set k (.int .i64 (f k))) = ints (upto f (k + 1) ++ List.replicate (n - (k + 1)) 0) := by
  rw [show n - k = (n - (k + 1)) + 1 from by omega, List.replicate_succ, set_mid _ _ _ _ _ (upto_length f k), upto_succ, List.append_assoc]
  rfl

theorem validD_len {xs : List Int} (h : validD xs = true) : xs.length ≤ 7 := by
  simp only [validD, Bool.and_eq_true, decide_eq_true_eq] at h
  exact h.2

set_option maxHeartbeats 1000000 in
theorem each_any (a : Option Addr) (c n : Nat) (xs : List Int) (K : Nat) (cap : Array Value) (f : Nat → Int) (w : World) (hn : xs.length = n) (hx : Rd w a (ints xs)) (hl : n ≤ 140737488351232) (hf : validD xs = true → Gives w K cap n f) :
    Calls Try.prog 98 #[.slice a n c, .func (.func K) #[] cap] w fun e w' => ∃ a' c', e = .returned (.slice a' (eachOf xs f).length c') ∧
      w'.ownsRow w.heap.size 3 1 (.slice a' (eachOf xs f).length c') (eachOf xs f).length (ints (eachOf xs f)) ∧ Below w.heap.size w w' := by
  have HV := implVD_any a c n xs w hn hx hl
  cases hv : validD xs
  · have e : eachOf xs f = [] := by simp [eachOf, hv]
    rw [e]
    rw [hv] at HV
    clear hx hf hv e
    go_enter Try.func98, Try.ntmps98
    go_wp2_with (go_at_call 36; refine HV.mono ?_; rintro e w1 ⟨rfl, hb⟩)
    go_ret
    exact ⟨none, 0, rfl, World.ownsRow_nil _ _ _ _, hb⟩
  · obtain ⟨hK, hf⟩ := hf hv
    have hK' : ∀ args w, (callFunc K args).run Try.prog w = .ok (.enter K args) w := hK
    have h7 := validD_len hv
    rw [hn] at h7
    have e : eachOf xs f = upto f n := by simp [eachOf, hv, hn]
    rw [e, upto_length]
    rw [hv] at HV
    have HF := Lib.hid hf
    clear hx hv e hf
    go_enter Try.func98, Try.ntmps98
    go_wp2_with (first | (go_at_call 36; refine HV.mono ?_; rintro e w1 ⟨rfl, hb⟩) | (at_make; refine makeI Try.infoI _ _ rfl rfl rfl rfl rfl rfl (by omega) ?_; intro w2 hown1 hB2))
    have hB := below_tr' hb hB2
    have hsz := hb.size
    have hown : w2.ownsRow w.heap.size 3 1 (.slice (some ⟨w1.heap.size, 0, none⟩) n n) n (ints (upto f 0 ++ List.replicate (n - 0) 0)) := by
      have := own_mono hown1 hsz
      simpa [upto] using this
    clear hown1 hB2 hb
    generalize w1.heap.size = g at *
    go_loopw [6, 15] (fun _ i wr => ∃ k : Nat, k ≤ n ∧ i = .int .i64 k ∧ wr.ownsRow w.heap.size 3 1 (.slice (some ⟨g, 0, none⟩) n n) n (ints (upto f k ++ List.replicate (n - k) 0)) ∧ Below w.heap.size w wr) (fun _ i _ => n - (intOf i).toNat)
    case atStart => exact ⟨0, by omega, rfl, hown, hB⟩
    case round =>
      obtain ⟨k, hk, rfl, ho, hb⟩ := hrel
      by_cases hlt : k < n
      · have HC := HF.out wr k hb hlt
        go_wp2_with fail
        refine HC.mono ?_
        rintro e w3 ⟨rfl, hb3⟩
        have ho3 := own_below ho hb3
        have hB3 := below_tr' hb hb3
        have hos := (ho3.stored k (.int .i64 (f k))).1
        rw [upto_set f n k hlt] at hos
        have HB := hB3.setCell (p := ⟨g, k, none⟩) hsz (.int .i64 (f k))
        obtain ⟨v, c2⟩ := own_some ho3 k (by omega)
        have f2 := ho3.frozenAt k
        clear HC ho hb hb3 ho3 hB3
        generalize f k = X at *
        go_wp2
        go_roundw
        case rel => exact ⟨k + 1, by omega, by go_num, hos, HB⟩
        case measure => simp [intOf]; omega
      · have e : k = n := by omega
        subst e
        go_wp2
        go_ret
        exact ⟨_, _, rfl, by simpa using ho, hb⟩

end Go.Proofs.Ytjghcegacgpehaa
