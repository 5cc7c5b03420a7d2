
/- All numbers in a range: the program's allIn. -/
import Derived.Test.YtjghcegacgpehaaFunc
import Derived.Test.YtjghcegacgpehaaRng
namespace Go.Proofs.Ytjghcegacgpehaa
open Go.RowKit

def allR (xs : List Int) (lo hi : Int) : Bool := xs.all fun x => inR x lo hi
theorem allR_no {xs : List Int} {lo hi : Int} {k : Nat} (hk : k < xs.length) (h : inR (xs[k]'hk) lo hi = false) : allR xs lo hi = false := by
  rw [allR, List.all_eq_false]
  exact ⟨_, List.getElem_mem hk, by simp [h]⟩
theorem allR_yes {xs : List Int} {lo hi : Int} (h : ∀ j (hj : j < xs.length), inR (xs[j]'hj) lo hi = true) : allR xs lo hi = true := by
  rw [allR, List.all_eq_true]
  intro x hx
  obtain ⟨i, hi, rfl⟩ := List.getElem_of_mem hx
  exact h i hi

theorem enters_allIn : Enters Try.prog 157 := enters Try.func157 (by kernel_rfl) rfl

set_option maxHeartbeats 400000 in
theorem allIn1_any (x lo hi : Int) (p q : Nat) (w : World) (h1 : w.cell? ⟨p, 0, none⟩ = some (.int .i64 lo)) (h2 : w.cell? ⟨q, 0, none⟩ = some (.int .i64 hi)) :
    Calls Try.prog 157 #[.int .i64 x, .pointer (some ⟨p, 0, none⟩), .pointer (some ⟨q, 0, none⟩)] w fun e w' => e = .returned (.bool (!inR x lo hi)) ∧ w' = w := by
  have HC := in_any x lo hi w
  generalize inR x lo hi = V at *
  go_enter Try.func157, Try.ntmps157
  go_wp2_with (go_at_call 90; refine HC.mono ?_; rintro e w' ⟨rfl, rfl⟩)
  go_ret
  exact ⟨rfl, rfl⟩

theorem not_any_not (xs : List Int) (lo hi : Int) : (!(xs.any fun x => !inR x lo hi)) = allR xs lo hi := by
  unfold allR
  induction xs with
  | nil => rfl
  | cons a l ih => rw [List.any_cons, List.all_cons, ← ih]; simp

set_option maxHeartbeats 400000 in
theorem allIn_any (a : Option Addr) (c n : Nat) (xs : List Int) (lo hi : Int) (w : World) (hn : xs.length = n) (hx : Rd w a (ints xs)) (hl : n ≤ 140737488351232) :
    Calls Try.prog 91 #[.slice a n c, .int .i64 lo, .int .i64 hi] w fun e w' => e = .returned (.bool (allR xs lo hi)) ∧ Below w.heap.size w w' := by
  have hB2 : Below w.heap.size w ((w.alloc (.cells #[.int .i64 lo] 3)).alloc (.cells #[.int .i64 hi] 3)) := ((Below.refl _ _).alloc (Nat.le_refl _) _).alloc (by simp) _
  have hA : Answers ((w.alloc (.cells #[.int .i64 lo] 3)).alloc (.cells #[.int .i64 hi] 3)) 157 #[.pointer (some ⟨w.heap.size, 0, none⟩), .pointer (some ⟨w.heap.size + 1, 0, none⟩)] xs (fun x => !inR x lo hi) := by
    refine ⟨enters_allIn, fun w' x hb _ => ?_⟩
    have c1 : w'.cell? ⟨w.heap.size, 0, none⟩ = some (.int .i64 lo) := by
      rw [hb.cell (p := ⟨w.heap.size, 0, none⟩) (by simp; omega), World.cell?_alloc_past _ _ _ (by simp), World.cell?_alloc_at _ _ _ _ rfl]; rfl
    have c2 : w'.cell? ⟨w.heap.size + 1, 0, none⟩ = some (.int .i64 hi) := by
      rw [hb.cell (p := ⟨w.heap.size + 1, 0, none⟩) (by simp), World.cell?_alloc_at _ _ _ _ (by simp)]; rfl
    exact (allIn1_any x lo hi _ _ w' c1 c2).mono fun e w'' ⟨h1, h2⟩ => ⟨h1, by rw [h2]; exact Below.refl _ _⟩
  have HC := ContainsFunc_any a c n xs _ _ _ _ hn (hx.below hB2) hl hA
  have HN := Lib.hid (not_any_not xs lo hi)
  generalize (xs.any fun x => !inR x lo hi) = V at *
  clear hA hx
  go_enter Try.func91, Try.ntmps91
  go_wp2_with (go_at_call 117; refine HC.mono ?_; rintro e w' ⟨rfl, hb⟩)
  go_ret
  exact ⟨ret_bool HN.out, below_tr' hB2 hb⟩

end Go.Proofs.Ytjghcegacgpehaa
