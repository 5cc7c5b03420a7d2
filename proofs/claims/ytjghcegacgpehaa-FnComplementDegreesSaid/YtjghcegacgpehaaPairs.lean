
/- All pairs of vertices, ascending: the reference's pairs. -/
import Derived.Test.YtjghcegacgpehaaEdge
namespace Go.Proofs.Ytjghcegacgpehaa
open Go.RowKit

def rowP (a : Nat) (m : Nat) : List E2 := (List.range m).map fun i : Nat => ((a : Int), (a : Int) + 1 + (i : Int))
theorem rowP_succ (a m : Nat) : rowP a (m + 1) = rowP a m ++ [((a : Int), (a : Int) + 1 + (m : Int))] := by simp [rowP, List.range_succ]
theorem rowP_length (a m : Nat) : (rowP a m).length = m := by simp [rowP]
def pairsUpto (n k : Nat) : List E2 := (List.range k).flatMap fun a : Nat => rowP a (n - 1 - a)
theorem pairsUpto_succ (n k : Nat) : pairsUpto n (k + 1) = pairsUpto n k ++ rowP k (n - 1 - k) := by simp [pairsUpto, List.range_succ]
theorem pairsUpto_length (n k : Nat) : (pairsUpto n k).length ≤ k * n := by
  induction k with
  | zero => simp [pairsUpto]
  | succ k ih => rw [pairsUpto_succ, List.length_append, rowP_length, Nat.add_mul]; omega
def pairsL (n : Nat) : List E2 := pairsUpto n n

set_option maxHeartbeats 1000000 in
theorem specPairs_any (n : Nat) (w : World) (hn : n ≤ 1000) :
    Calls Try.prog 170 #[.int .i64 n] w fun e w' => ∃ a c, e = .returned (.slice a (pairsL n).length c) ∧
      w'.ownsRow w.heap.size 48 2 (.slice a (pairsL n).length c) (pairsL n).length (edges (pairsL n)) ∧ Below w.heap.size w w' := by
  go_enter Try.func170, Try.ntmps170
  go_wp2
  go_loopw [3, 4, 5] (fun v i _ wr => ∃ (k : Nat) (a : Option Addr) (c : Nat), k ≤ n ∧ i = .int .i64 k ∧ v = .slice a (pairsUpto n k).length c ∧ wr.ownsRow w.heap.size 48 2 (.slice a (pairsUpto n k).length c) (pairsUpto n k).length (edges (pairsUpto n k)) ∧ Below w.heap.size w wr) (fun _ i _ _ => n - (intOf i).toNat)
  case atStart => exact ⟨0, some ⟨w.heap.size, 0, none⟩, 0, by omega, rfl, rfl, World.ownsRow_made w #[] 0 (Nat.le_refl _) (by decide) rfl, below_alloc _ _⟩
  case round =>
    obtain ⟨k, a, c, hk, rfl, rfl, hown, hb⟩ := hrel
    by_cases hlt : k < n
    · have hpl : (pairsUpto n k).length ≤ 1000000 := by
        have h1 := pairsUpto_length n k
        have h2 : k * n ≤ 1000 * 1000 := Nat.mul_le_mul (by omega) hn
        omega
      have HS := Lib.hid (pairsUpto_succ n k)
      generalize hP : pairsUpto n k = P at *
      have HP := Lib.hid hP
      clear hP
      obtain ⟨wo, hwo⟩ : ∃ wo : World, wo = wr := ⟨_, rfl⟩
      go_wp2
      go_loopw [3, 5] (fun v i wr => ∃ (m : Nat) (a : Option Addr) (c : Nat), m ≤ n - 1 - k ∧ i = .int .i64 ((k : Int) + 1 + (m : Int)) ∧ v = .slice a (P.length + m) c ∧ wr.ownsRow w.heap.size 48 2 (.slice a (P.length + m) c) (P.length + m) (edges (P ++ rowP k m)) ∧ Below w.heap.size w wr) (fun _ i _ => n - (intOf i).toNat)
      case atStart => exact ⟨0, a, c, by omega, by simp, by simp, by simpa [rowP] using hown, hb⟩
      case round =>
        obtain ⟨m, a2, c2, hm, rfl, rfl, hown2, hb2⟩ := hrel
        by_cases hlt2 : m < n - 1 - k
        · have hsz := hb2.size
          have hR := Lib.hid (rowP_succ k m)
          go_wp2_with (at_builtin; refine appendE _ _ rfl rfl hown2 hb2 (Nat.le_refl _) hsz rfl rfl (by omega) ?_; intro a' c' w1 hown1 hb1)
          go_roundw
          case rel => exact ⟨m + 1, a', c', by omega, by go_num, rfl, by rw [hR.out, ← List.append_assoc]; exact hown1, hb1⟩
          case measure => simp [intOf]; omega
        · have e : m = n - 1 - k := by omega
          go_wp2
          go_roundw
          case rel =>
            have hl : (pairsUpto n (k + 1)).length = P.length + m := by rw [HS.out, List.length_append, rowP_length, e]
            exact ⟨k + 1, a2, c2, by omega, by go_num, by rw [hl], by rw [hl, HS.out, ← e]; exact hown2, hb2⟩
          case measure => simp [intOf]; omega
    · have e : k = n := by omega
      subst e
      go_wp2
      go_ret
      exact ⟨a, c, rfl, hown, hb⟩

end Go.Proofs.Ytjghcegacgpehaa
