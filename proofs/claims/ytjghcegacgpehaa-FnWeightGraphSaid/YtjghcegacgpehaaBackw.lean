
/- slices.Backward on numbers: its contract as an iterator. -/
import Derived.Test.YtjghcegacgpehaaInts
import Derived.Test.YtjghcegacgpehaaFrL
import Derived.RangeFuncNested
import Derived.RangeFuncBound
import Derived.RangeFuncCalls
import Derived.RangeFuncLeaves
import Derived.Shelf.Abstract
import Derived.Shelf.RegionOpen
import Derived.WalkKit
import Derived.OwnWalkIn
import Derived.TacticsInMore
import Derived.LoopNIn
import Derived.LoopIn
namespace Go.Proofs.Ytjghcegacgpehaa
open Go.RowKit Go.Shelf

attribute [local go_sem] Oper.semAt_some

/-- What comes when k rounds are over, from the end of zs. -/
def fromEnd (zs : List Int) (k : Nat) : List (Nat × Int) := (List.range k).map fun j => (zs.length - 1 - j, zs.getD (zs.length - 1 - j) 0)
theorem fromEnd_succ (zs : List Int) (k : Nat) : fromEnd zs (k + 1) = fromEnd zs k ++ [(zs.length - 1 - k, zs.getD (zs.length - 1 - k) 0)] := by simp [fromEnd, List.range_succ]
theorem fromEnd_length (zs : List Int) (k : Nat) : (fromEnd zs k).length = k := by simp [fromEnd]
theorem fromEnd_mem {zs : List Int} {x : Int} (h : x ∈ zs) : ∃ p ∈ fromEnd zs zs.length, p.2 = x := by
  obtain ⟨i, hi, rfl⟩ := List.getElem_of_mem h
  refine ⟨(zs.length - 1 - (zs.length - 1 - i), zs.getD (zs.length - 1 - (zs.length - 1 - i)) 0), List.mem_map.2 ⟨zs.length - 1 - i, List.mem_range.2 (by omega), rfl⟩, ?_⟩
  have e : zs.length - 1 - (zs.length - 1 - i) = i := by omega
  show zs.getD (zs.length - 1 - (zs.length - 1 - i)) 0 = _
  rw [e, List.getD_eq_getElem?_getD, List.getElem?_eq_getElem hi]; rfl

set_option maxRecDepth 100000 in
set_option maxHeartbeats 2000000 in
theorem back1_in (n : Nat) (hn : 1 ≤ n) (l Bs n₀ b len cap : Nat) (zs : List Int) (hz : zs.length = len) (hl : len ≤ 1000) (hb : b < n₀) (J Jx : List (Nat × Int) → World → Prop)
    (hY : ∀ pre x W, J pre W → pre.length < len → YieldAt Fence.wide (n - 1) Try.prog l #[.int .i64 (x.1 : Int), .int .i64 x.2] W fun e W' =>
      (e = .returned (.bool true) ∧ J (pre ++ [x]) W' ∧ Below n₀ W W') ∨ (e = .returned (.bool false) ∧ Jx (pre ++ [x]) W'))
    (W : World) (hBs : W.cell? ⟨Bs, 0, none⟩ = some (.slice (some ⟨b, 0, none⟩) len cap)) (hBsn : Bs < n₀) (hc : ∀ j, j < len → W.cell? ⟨b, j, none⟩ = some (.int .i64 (zs.getD j 0))) (h0 : J [] W) :
    CallsIn Fence.wide n Try.prog 171 #[.func (.yield l) #[] #[], .pointer (some ⟨Bs, 0, none⟩)] W fun e W' => (∃ v, e = .returned v) ∧
      ((∃ ys, ys = fromEnd zs len ∧ J ys W') ∨ (∃ pre, (∃ k, k ≤ len ∧ pre = fromEnd zs k) ∧ Jx pre W')) := by
  refine callsIn_of_wp Try.func171 rfl trivial ?_ rfl
  simp only [Try.ntmps171, List.size_toArray, List.length_cons, List.length_nil, Nat.reduceAdd, Nat.reduceSub, Array.replicate_succ, Array.replicate_zero, List.push_toArray, List.append_toArray, List.nil_append, List.cons_append]
  gi_wp2
  gi_loopw [3] (fun i wr => ∃ m : Nat, m ≤ len ∧ i = .int .i64 ((m : Int) - 1) ∧ J (fromEnd zs (len - m)) wr ∧ Below n₀ W wr) (fun i _ => (intOf i + 1).toNat)
  case atStart => exact ⟨len, Nat.le_refl _, rfl, by rw [Nat.sub_self]; exact h0, Below.refl _ _⟩
  case round =>
    obtain ⟨m, hm, rfl, hJs, hnx⟩ := hrel
    cases m with
    | succ p =>
      have hp : p < len := by omega
      have e1 : ((((p + 1 : Nat)) : Int) - 1) = (p : Int) := by omega
      rw [e1]
      have hidx : zs.length - 1 - (len - (p + 1)) = p := by omega
      have hJn : fromEnd zs (len - p) = fromEnd zs (len - (p + 1)) ++ [(p, zs.getD p 0)] := by
        rw [show len - p = len - (p + 1) + 1 by omega, fromEnd_succ, hidx]
      have hcx : wr.cell? ⟨b, p, none⟩ = some (.int .i64 (zs.getD p 0)) := (hnx.cell (p := ⟨b, p, none⟩) hb).trans (hc p hp)
      have hcb : wr.cell? ⟨Bs, 0, none⟩ = some (.slice (some ⟨b, 0, none⟩) len cap) := (hnx.cell (p := ⟨Bs, 0, none⟩) hBsn).trans hBs
      obtain ⟨fn, tmps, assign, body, hy, hR⟩ := hY _ (p, zs.getD p 0) wr hJs (by rw [fromEnd_length]; omega)
      dsimp only at hy
      have HJN := Lib.hid hJn
      clear hJn hidx
      generalize zs.getD p 0 = X at *
      gi_wp2
      refine hR.mono ?_
      rintro e W3 (⟨rfl, hJ3, hk3⟩ | ⟨rfl, hJx3⟩)
      · gi_wp2
        go_roundw
        case rel => exact ⟨p, by omega, rfl, by rw [HJN.out]; exact hJ3, hnx.trans hk3⟩
        case measure => simp [intOf] <;> omega
      · gi_wp2
        refine bodyPost_ret (results_none rfl _ _ _) rfl ?_
        exact ⟨⟨_, rfl⟩, .inr ⟨_, ⟨len - p, by omega, HJN.out.symm⟩, hJx3⟩⟩
    | zero =>
      have hd : decide ((0 : Int) ≤ ((0 : Nat) : Int) - 1) = false := by decide
      rw [Nat.sub_zero] at hJs
      gi_wp2
      go_end0
      exact ⟨⟨_, rfl⟩, .inl ⟨_, rfl, hJs⟩⟩

theorem backward_stops (n : Nat) (hn : 1 ≤ n) (Bs n₀ b len cap : Nat) (zs : List Int) (hz : zs.length = len) (hl : len ≤ 1000) (w : World) (hBs : Bs < n₀) (hn₀ : n₀ ≤ w.heap.size)
    (hc : w.cell? ⟨Bs, 0, none⟩ = some (.slice (some ⟨b, 0, none⟩) len cap)) (hb : b < n₀) (hcs : ∀ j, j < len → w.cell? ⟨b, j, none⟩ = some (.int .i64 (zs.getD j 0))) :
    SeqStopsK Fence.wide n Try.prog 171 #[.pointer (some ⟨Bs, 0, none⟩)] (fun x : Nat × Int => #[Value.int .i64 (x.1 : Int), Value.int .i64 x.2]) (Below n₀) (fun ys => ys = fromEnd zs len) (fun pre => ∃ k, k ≤ len ∧ pre = fromEnd zs k) len w :=
  fun l J Jx W hW _ _ hY h0 => by
    have hW' := hW.mono hn₀
    exact back1_in n hn l Bs n₀ b len cap zs hz hl hb J Jx hY W ((hW'.cell (p := ⟨Bs, 0, none⟩) hBs).trans hc) hBs (fun j hj => (hW'.cell (p := ⟨b, j, none⟩) hb).trans (hcs j hj)) h0
theorem backward_any (a : Option Addr) (len cap : Nat) (w : World) :
    Calls Try.prog 110 #[.slice a len cap] w fun e w' => e = .returned (.func (.func 171) #[] #[.pointer (some ⟨w.heap.size, 0, none⟩)]) ∧ w' = w.alloc (.cells #[.slice a len cap] 38) := by
  go_enter Try.func110, Try.ntmps110
  go_wp2
  go_ret
  exact ⟨rfl, rfl⟩
theorem enters_back : Enters Try.prog 171 := enters Try.func171 (by kernel_rfl) rfl

end Go.Proofs.Ytjghcegacgpehaa
