
/- The laws' helpers on rows of graphs. -/
import Derived.Test.YtjghcegacgpehaaAllR
namespace Go.Proofs.Ytjghcegacgpehaa
open Go.RowKit

set_option maxHeartbeats 1000000 in
theorem eqGraphS_any (a b : Option Addr) (ca cb n N : Nat) (gs : List (List N2)) (w : World) (hn : gs.length = n) (hx : RdG w a N gs) (hy : RdG w b N gs) (hl : n ≤ 2097152) (hl2 : ∀ g ∈ gs, g.length ≤ 1000) :
    Calls Try.prog 66 #[.slice a n ca, .slice b n cb] w fun e w' => e = .returned (.bool true) ∧ Below w.heap.size w w' := by
  have HN := Lib.hid hn
  clear hn
  go_enter Try.func66, Try.ntmps66
  go_wp2
  go_loopw [5] (fun i wr => ∃ k : Nat, k ≤ n ∧ i = .int .i64 k ∧ Below w.heap.size w wr) (fun i _ => n - (intOf i).toNat)
  case atStart => exact ⟨0, by omega, rfl, Below.refl _ _⟩
  case round =>
    obtain ⟨k, hk, rfl, hb⟩ := hrel
    by_cases hlt : k < n
    · have hkg : k < gs.length := by rw [HN.out]; exact hlt
      obtain ⟨b1, o1, a1, c1, ea, e1, e2, r1⟩ := (hx.below hb) k hkg
      obtain ⟨b2, o2, a2, c2, eb, f1, f2, r2⟩ := (hy.below hb) k hkg
      have hgl := hl2 _ (List.getElem_mem hkg)
      generalize (gs[k]'hkg) = G at *
      subst ea eb
      have d1 := later_cell e1
      have d2 := later_cell e2
      have d3 := later_cell f1
      have d4 := later_cell f2
      have HE := Lib.hid (fun u : Later wr => eqGraph_any N a1 a2 c1 c2 G.length (en2 G) u.val (en2_length G) (r1.1.below u.ok) (r2.1.below u.ok) (by omega))
      clear e1 e2 f1 f2 r1 r2
      go_wp2
      refine wp_region_later (by kernel_rfl) (by kernel_rfl) ?_
      repeat (go_big_quiet_step ((go_at_call 143; exact calls_later _ (HE.out _))))
      refine wpQuiet_nil ?_
      intro w2 hw'
      have hb2 := below_tr' hb (later_below hw')
      clear hw' d1 d2 d3 d4 HE
      go_wp2
      go_roundw
      case rel => exact ⟨k + 1, by omega, by go_num, hb2⟩
      case measure => simp [intOf]; omega
    · go_wp2
      go_ret
      exact ⟨rfl, hb⟩

/-- The number that the mark of a graph begins with. -/
def kOf (k0 : Int) (gs : List (List N2)) (r : Nat) : Int := k0 + ((gs.take r).map fun g => 1 + 2 * (g.length : Int)).sum
theorem kOf_zero (k0 : Int) (gs : List (List N2)) : kOf k0 gs 0 = k0 := by simp [kOf]
theorem kOf_succ {k0 : Int} {gs : List (List N2)} {r : Nat} (h : r < gs.length) : kOf k0 gs (r + 1) = kOf k0 gs r + 1 + 2 * ((gs[r]'h).length : Int) := by
  rw [kOf, kOf, List.take_succ_eq_append_getElem h, List.map_append, List.sum_append]
  simp only [List.map_cons, List.map_nil, List.sum_cons, List.sum_nil]
  omega
theorem kOf_le {k0 : Int} {gs : List (List N2)} (hl : ∀ g ∈ gs, g.length ≤ 1000) : ∀ r, r ≤ gs.length → k0 ≤ kOf k0 gs r ∧ kOf k0 gs r ≤ k0 + 2001 * (r : Int) := by
  intro r
  induction r with
  | zero => intro _; rw [kOf_zero]; omega
  | succ r ih =>
    intro h
    have h1 := ih (by omega)
    have h2 := hl _ (List.getElem_mem (show r < gs.length by omega))
    rw [kOf_succ (show r < gs.length by omega)]
    omega
/-- A row of graphs that is marked. -/
def HeldG (w : World) (a : Option Addr) (k0 : Int) (gs : List (List N2)) : Prop :=
  ∀ r (h : r < gs.length), ∃ b off a' c', a = some ⟨b, off, none⟩ ∧ w.cell? ⟨b, off + r * 2, none⟩ = some (.int .i64 (kOf k0 gs r)) ∧ w.cell? ⟨b, off + r * 2 + 1, none⟩ = some (.slice a' (gs[r]'h).length c') ∧ Rd w a' (edges (marksE (kOf k0 gs r + 1) (gs[r]'h).length))
set_option maxHeartbeats 1000000 in
theorem heldGraphS_any (a : Option Addr) (c n : Nat) (k0 : Int) (gs : List (List N2)) (w : World) (hn : gs.length = n) (hx : HeldG w a k0 gs) (hl : n ≤ 2097152) (hl2 : ∀ g ∈ gs, g.length ≤ 1000) (hk0 : 0 ≤ k0) (hk1 : k0 ≤ 1048576) :
    Calls Try.prog 68 #[.slice a n c, .int .i64 k0] w fun e w' => e = .returned (.int .i64 (kOf k0 gs n)) ∧ w' = w := by
  have HN := Lib.hid hn
  clear hn
  go_enter Try.func68, Try.ntmps68
  go_wp2
  go_loopw [1, 5] (fun t i wr => ∃ r : Nat, r ≤ n ∧ i = .int .i64 r ∧ t = .int .i64 (kOf k0 gs r) ∧ wr = w) (fun _ i _ => n - (intOf i).toNat)
  case atStart => exact ⟨0, by omega, rfl, by rw [kOf_zero], rfl⟩
  case round =>
    obtain ⟨r, hr, rfl, rfl, rfl⟩ := hrel
    by_cases hlt : r < n
    · have hkg : r < gs.length := by rw [HN.out]; exact hlt
      obtain ⟨b1, o1, a1, c1, ea, e1, e2, r1⟩ := hx r hkg
      have hgl := hl2 _ (List.getElem_mem hkg)
      have hb := kOf_le (k0 := k0) hl2 r (by omega)
      have HS := Lib.hid (kOf_succ (k0 := k0) hkg)
      generalize (gs[r]'hkg) = G at *
      have C1 := heldEdgeS_any a1 c1 G.length (kOf k0 gs r + 1) wr r1 (by omega) (by omega) (by omega)
      obtain ⟨K, hK⟩ : ∃ K, K = kOf k0 gs r := ⟨_, rfl⟩
      rw [← hK] at e1 hb HS C1 ⊢
      subst ea
      clear r1 hK
      go_wp2_with fail
      refine C1.mono ?_
      rintro e w2 ⟨rfl, rfl⟩
      clear C1
      go_wp2
      go_roundw
      case rel => exact ⟨r + 1, by omega, by go_num, by rw [HS.out], trivial⟩
      case measure => simp [intOf]; omega
    · have e : r = n := by omega
      subst e
      go_wp2
      go_ret
      exact ⟨rfl, rfl⟩

end Go.Proofs.Ytjghcegacgpehaa
