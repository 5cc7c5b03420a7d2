
/- Drawn inputs that are one matrix; equal rows of rows (laws). (Printed by gen_drawm.py.) -/
import Derived.Test.YtjghcegacgpehaaDrawM2
import Derived.Test.YtjghcegacgpehaaCodeOK
import Derived.Test.YtjghcegacgpehaaEqI
namespace Go.Proofs.Ytjghcegacgpehaa
open Go.RowKit

theorem DrawInterchangesOf_any (a0 : Option Addr) (c0 n0 : Nat) (bs : List Int) (w : World) (hc : CodeOK w a0 c0 n0 bs) (hl : n0 ≤ 1048576) :
    Calls Try.prog 48 #[.slice a0 n0 c0] w fun e w' => ∃ (m : List (List Int)) (a : Option Addr) (c : Nat), e = .returned (.slice a m.length c) ∧ SmallM m ∧ RdM w' a m ∧ Below w.heap.size w w' := by
  have C1 := newReader_any a0 c0 n0 bs w hc.1 hl hc.2.1 hc.2.2.1 hc.2.2.2.1 hc.2.2.2.2
  go_enter Try.func48, Try.ntmps48
  go_wp2_with fail
  refine C1.mono ?_
  rintro e w1 ⟨rfl, hr, hb1⟩
  have C2 := someMatrix_any w.heap.size 0 w1 hr (by omega)
  clear C1 hc
  go_wp2_with fail
  refine C2.mono ?_
  rintro e w2 ⟨m, a, c, p', rfl, hs, hx, _, _, hg⟩
  have hB2 := hb1.grown hg hb1.size (fun k hk => by simp only [Option.some.injEq] at hk; omega)
  have HX := Lib.hid hx.rdM
  clear C2 hg hr hx
  obtain ⟨n, hn⟩ : ∃ n, n = m.length := ⟨_, rfl⟩
  rw [← hn]
  have HN := Lib.hid hn
  clear hn
  go_wp2
  go_ret
  exact ⟨m, a, c, by rw [← HN.out]; rfl, hs, HX.out, hB2⟩

set_option maxHeartbeats 1000000 in
theorem equalLists_any (a b : Option Addr) (ca cb n : Nat) (m : List (List Int)) (w : World) (hn : m.length = n) (hx : RdM w a m) (hy : RdM w b m) (hl : n + sumLen m ≤ 1048576) :
    Calls Try.prog 39 #[.slice a n ca, .slice b n cb] w fun e w' => e = .returned (.bool true) ∧ Below w.heap.size w w' := by
  have HN := Lib.hid hn
  go_enter Try.func39, Try.ntmps39
  go_wp2
  go_loopw [5] (fun i wr => ∃ k : Nat, k ≤ n ∧ i = .int .i64 k ∧ Below w.heap.size w wr) (fun i _ => n - (intOf i).toNat)
  case atStart => exact ⟨0, by omega, rfl, Below.refl _ _⟩
  case round =>
    obtain ⟨k, hk, rfl, hb⟩ := hrel
    by_cases hlt : k < n
    · have hkm : k < m.length := by omega
      obtain ⟨b1, o1, a1, c1, rfl, k1, r1, _, _, _⟩ := hx.below hb k hkm
      obtain ⟨b2, o2, a2, c2, rfl, k2, r2, _, _, _⟩ := hy.below hb k hkm
      have hsl := sumLen_get m k hkm
      generalize m[k]'hkm = X at *
      obtain ⟨len, hlen⟩ : ∃ len, X.length = len := ⟨_, rfl⟩
      rw [hlen] at k1 k2 hsl
      have HE := Lib.hid (fun u : Later wr => equalInts_any a1 a2 c1 c2 len X u.val hlen (r1.below u.ok) (r2.below u.ok) (by omega))
      have d1 := later_cell k1
      have d2 := later_cell k2
      clear hlen r1 r2 k1 k2 hx hy
      go_wp2
      refine wp_region_later (by kernel_rfl) (by kernel_rfl) ?_
      repeat (go_big_quiet_step ((go_at_call 34; exact calls_later _ (HE.out _))))
      refine wpQuiet_nil ?_
      intro w1 hw'
      have hb1 := below_tr' hb (later_below hw')
      clear hw' d1 d2
      go_wp2
      go_roundw
      case rel => exact ⟨k + 1, by omega, by go_num, hb1⟩
      case measure => simp [intOf]; omega
    · go_wp2
      go_ret
      exact ⟨rfl, hb⟩

end Go.Proofs.Ytjghcegacgpehaa
