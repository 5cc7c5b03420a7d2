
/- All interchanges that are possible, on both sides. (Printed by gen_ics.py.) -/
import Derived.Test.YtjghcegacgpehaaSwL
import Derived.Test.YtjghcegacgpehaaVMat
import Derived.Test.YtjghcegacgpehaaMay1
import Derived.Test.YtjghcegacgpehaaMay2
namespace Go.Proofs.Ytjghcegacgpehaa
open Go.RowKit

def ic4 (m : List (List Int)) (a b c : Int) (k : Nat) : List S4 := ((List.range k).filter fun d : Nat => mayB m a b c d).map fun d : Nat => (a, b, c, (d : Int))
def ic3 (m : List (List Int)) (cl : Nat) (a c : Int) (k : Nat) : List S4 := (List.range k).flatMap fun b : Nat => ic4 m a b c cl
def ic2 (m : List (List Int)) (cl a k : Nat) : List S4 := (List.range k).flatMap fun i : Nat => ic3 m cl a ((a : Int) + 1 + (i : Int)) cl
def ic1 (m : List (List Int)) (cl n k : Nat) : List S4 := (List.range k).flatMap fun a : Nat => ic2 m cl a (n - 1 - a)
theorem ic4_yes {m : List (List Int)} {a b c : Int} {k : Nat} (h : mayB m a b c k = true) : ic4 m a b c (k + 1) = ic4 m a b c k ++ [(a, b, c, (k : Int))] := by simp [ic4, List.range_succ, List.filter_append, h]
theorem ic4_no {m : List (List Int)} {a b c : Int} {k : Nat} (h : mayB m a b c k = false) : ic4 m a b c (k + 1) = ic4 m a b c k := by simp [ic4, List.range_succ, List.filter_append, h]
theorem ic3_succ (m : List (List Int)) (cl : Nat) (a c : Int) (k : Nat) : ic3 m cl a c (k + 1) = ic3 m cl a c k ++ ic4 m a k c cl := by simp [ic3, List.range_succ]
theorem ic2_succ (m : List (List Int)) (cl a k : Nat) : ic2 m cl a (k + 1) = ic2 m cl a k ++ ic3 m cl a ((a : Int) + 1 + (k : Int)) cl := by simp [ic2, List.range_succ]
theorem ic1_succ (m : List (List Int)) (cl n k : Nat) : ic1 m cl n (k + 1) = ic1 m cl n k ++ ic2 m cl k (n - 1 - k) := by simp [ic1, List.range_succ]
theorem ic4_len (m : List (List Int)) (a b c : Int) (k : Nat) : (ic4 m a b c k).length ≤ k := by
  rw [ic4, List.length_map]
  have := List.length_filter_le (fun d : Nat => mayB m a b c d) (List.range k)
  simpa using this
theorem ic3_len (m : List (List Int)) (cl : Nat) (a c : Int) (k : Nat) : (ic3 m cl a c k).length ≤ k * cl := by
  induction k with
  | zero => simp [ic3]
  | succ k ih => rw [ic3_succ, List.length_append, Nat.add_mul]; have := ic4_len m a k c cl; omega
theorem ic2_len (m : List (List Int)) (cl a k : Nat) : (ic2 m cl a k).length ≤ k * (cl * cl) := by
  induction k with
  | zero => simp [ic2]
  | succ k ih => rw [ic2_succ, List.length_append, Nat.add_mul]; have := ic3_len m cl a ((a : Int) + 1 + (k : Int)) cl; omega
theorem ic1_len (m : List (List Int)) (cl n k : Nat) : (ic1 m cl n k).length ≤ k * (n * (cl * cl)) := by
  induction k with
  | zero => simp [ic1]
  | succ k ih =>
    rw [ic1_succ, List.length_append, Nat.add_mul]
    have h1 := ic2_len m cl k (n - 1 - k)
    have h2 : (n - 1 - k) * (cl * cl) ≤ n * (cl * cl) := Nat.mul_le_mul_right _ (by omega)
    omega
theorem ic1_small (m : List (List Int)) {cl n k : Nat} (hn : n ≤ 5) (hc : cl ≤ 5) (hk : k ≤ n) : (ic1 m cl n k).length ≤ 625 := by
  have h1 := ic1_len m cl n k
  have h2 : cl * cl ≤ 5 * 5 := Nat.mul_le_mul hc hc
  have h3 : n * (cl * cl) ≤ 5 * (5 * 5) := Nat.mul_le_mul hn h2
  have h4 : k * (n * (cl * cl)) ≤ 5 * (5 * (5 * 5)) := Nat.mul_le_mul (by omega) h3
  omega
theorem ic2_small (m : List (List Int)) {cl a k : Nat} (hc : cl ≤ 5) (hk : k ≤ 5) : (ic2 m cl a k).length ≤ 125 := by
  have h1 := ic2_len m cl a k
  have h2 : cl * cl ≤ 5 * 5 := Nat.mul_le_mul hc hc
  have h4 : k * (cl * cl) ≤ 5 * (5 * 5) := Nat.mul_le_mul hk h2
  omega
theorem ic3_small (m : List (List Int)) {cl k : Nat} (a c : Int) (hc : cl ≤ 5) (hk : k ≤ 5) : (ic3 m cl a c k).length ≤ 25 := by
  have h1 := ic3_len m cl a c k
  have h4 : k * cl ≤ 5 * 5 := Nat.mul_le_mul hk hc
  omega
def icsL (m : List (List Int)) : List S4 := if validM m = true then ic1 m (colsOf m) m.length m.length else []
theorem icsL_len (m : List (List Int)) : (icsL m).length ≤ 625 := by
  unfold icsL
  split
  · rename_i h
    have h5 := validM_cols h
    exact ic1_small m h5.2.2.2 h5.2.1 (Nat.le_refl _)
  · simp
theorem own_none (w : World) (B T s : Nat) : w.ownsRow B T s (.slice none 0 0) 0 [] := ⟨by simp, .inl ⟨rfl, rfl⟩⟩

set_option maxHeartbeats 8000000 in
theorem specIcs_in (a : Option Addr) (c n cl : Nat) (m : List (List Int)) (w : World) (hv : validM m = true) (hn : m.length = n) (hcl : colsOf m = cl) (hx : RdM w a m) :
    Calls Try.prog 124 #[.slice a n c] w fun e w' => ∃ av cv, e = .returned (.slice av (ic1 m cl n n).length cv) ∧ w'.ownsRow w.heap.size 60 4 (.slice av (ic1 m cl n n).length cv) (ic1 m cl n n).length (sws (ic1 m cl n n)) ∧ Below w.heap.size w w' := by
  obtain ⟨b, off, a0, c0, rfl, hc⟩ := hx.first hv
  have h5 := validM_cols hv
  rw [hn, hcl] at h5
  have HM := Lib.hid (fun (w1 : World) (hb : Below w.heap.size w w1) (A B C D : Int) => specMay_any (some ⟨b, off, none⟩) c n m A B C D w1 hv hn (hx.below hb))
  rw [hcl] at hc
  have HC := Lib.hid (fun (w1 : World) (hb : Below w.heap.size w w1) => (hb.cell (p := ⟨b, off, none⟩) (Rd.lt hc)).trans hc)
  clear hx hv hn hcl hc
  go_enter Try.func124, Try.ntmps124
  go_wp2
  go_loopw [3, 4, 5, 6, 7, 8] (fun v i _ _ _ _ wr => ∃ (k : Nat) (av : Option Addr) (cv : Nat), k ≤ n ∧ i = .int .i64 k ∧ v = .slice av (ic1 m cl n k).length cv ∧ wr.ownsRow w.heap.size 60 4 (.slice av (ic1 m cl n k).length cv) (ic1 m cl n k).length (sws (ic1 m cl n k)) ∧ Below w.heap.size w wr) (fun _ i _ _ _ _ _ => n - (intOf i).toNat)
  case atStart => exact ⟨0, some ⟨w.heap.size, 0, none⟩, 0, by omega, rfl, rfl, World.ownsRow_made w #[] 0 (Nat.le_refl _) (by decide) rfl, below_alloc _ _⟩
  case round =>
    obtain ⟨k, av, cv, hk, rfl, rfl, hown, hb⟩ := hrel
    by_cases hlt : k < n
    · have hlen := ic1_small m (cl := cl) (n := n) (k := k) h5.2.2.2 h5.2.1 hk
      have HS1 := Lib.hid (ic1_succ m cl n k)
      generalize hP : ic1 m cl n k = P1 at *
      clear hP
      go_wp2
      go_loopw [3, 5, 6, 7, 8] (fun v i _ _ _ wr => ∃ (j : Nat) (av : Option Addr) (cv : Nat), j ≤ n - 1 - k ∧ i = .int .i64 ((k : Int) + 1 + (j : Int)) ∧ v = .slice av (P1 ++ ic2 m cl k j).length cv ∧ wr.ownsRow w.heap.size 60 4 (.slice av (P1 ++ ic2 m cl k j).length cv) (P1 ++ ic2 m cl k j).length (sws (P1 ++ ic2 m cl k j)) ∧ Below w.heap.size w wr) (fun _ i _ _ _ _ => n - (intOf i).toNat)
      case atStart => exact ⟨0, av, cv, by omega, by simp, by simp [ic2], by simpa [ic2] using hown, hb⟩
      case round =>
        clear hown hb
        obtain ⟨j, av, cv, hj, rfl, rfl, hown, hb⟩ := hrel
        by_cases hlt2 : j < n - 1 - k
        · have hd2 : decide ((k : Int) + 1 + (j : Int) < (n : Int)) = true := by simp; omega
          have hlen2 := ic2_small m (cl := cl) (a := k) (k := j) h5.2.1 (by omega)
          have hlen2 : (P1 ++ ic2 m cl k j).length ≤ 750 := by rw [List.length_append]; omega
          have HS2 := Lib.hid (show P1 ++ ic2 m cl k (j + 1) = (P1 ++ ic2 m cl k j) ++ ic3 m cl k ((k : Int) + 1 + (j : Int)) cl by rw [ic2_succ, List.append_assoc])
          generalize hP : P1 ++ ic2 m cl k j = P2 at *
          clear hP
          have hc := HC.out wr hb
          go_wp2
          go_loopw [3, 6, 7, 8] (fun v i _ _ wr => ∃ (b1 : Nat) (av : Option Addr) (cv : Nat), b1 ≤ cl ∧ i = .int .i64 b1 ∧ v = .slice av (P2 ++ ic3 m cl k ((k : Int) + 1 + (j : Int)) b1).length cv ∧ wr.ownsRow w.heap.size 60 4 (.slice av (P2 ++ ic3 m cl k ((k : Int) + 1 + (j : Int)) b1).length cv) (P2 ++ ic3 m cl k ((k : Int) + 1 + (j : Int)) b1).length (sws (P2 ++ ic3 m cl k ((k : Int) + 1 + (j : Int)) b1)) ∧ Below w.heap.size w wr) (fun _ i _ _ _ => cl - (intOf i).toNat)
          case atStart => exact ⟨0, av, cv, by omega, rfl, by simp [ic3], by simpa [ic3] using hown, hb⟩
          case round =>
            clear hown hb hc
            obtain ⟨b1, av, cv, hb1, rfl, rfl, hown, hb⟩ := hrel
            have hc := HC.out _ hb
            by_cases hlt3 : b1 < cl
            · have hlen3 := ic3_small m (cl := cl) (k := b1) k ((k : Int) + 1 + (j : Int)) h5.2.1 (by omega)
              have hlen3 : (P2 ++ ic3 m cl k ((k : Int) + 1 + (j : Int)) b1).length ≤ 800 := by rw [List.length_append]; omega
              have HS3 := Lib.hid (show P2 ++ ic3 m cl k ((k : Int) + 1 + (j : Int)) (b1 + 1) = (P2 ++ ic3 m cl k ((k : Int) + 1 + (j : Int)) b1) ++ ic4 m k b1 ((k : Int) + 1 + (j : Int)) cl by rw [ic3_succ, List.append_assoc])
              generalize hP : P2 ++ ic3 m cl k ((k : Int) + 1 + (j : Int)) b1 = P3 at *
              clear hP
              go_wp2
              go_loopw [3, 7, 8] (fun v i _ wr => ∃ (d1 : Nat) (av : Option Addr) (cv : Nat), d1 ≤ cl ∧ i = .int .i64 d1 ∧ v = .slice av (P3 ++ ic4 m k b1 ((k : Int) + 1 + (j : Int)) d1).length cv ∧ wr.ownsRow w.heap.size 60 4 (.slice av (P3 ++ ic4 m k b1 ((k : Int) + 1 + (j : Int)) d1).length cv) (P3 ++ ic4 m k b1 ((k : Int) + 1 + (j : Int)) d1).length (sws (P3 ++ ic4 m k b1 ((k : Int) + 1 + (j : Int)) d1)) ∧ Below w.heap.size w wr) (fun _ i _ _ => cl - (intOf i).toNat)
              case atStart => exact ⟨0, av, cv, by omega, rfl, by simp [ic4], by simpa [ic4] using hown, hb⟩
              case round =>
                clear hown hb hc
                obtain ⟨d1, av, cv, hd1, rfl, rfl, hown, hb⟩ := hrel
                have hc := HC.out _ hb
                by_cases hlt4 : d1 < cl
                · have hlen4 := ic4_len m k b1 ((k : Int) + 1 + (j : Int)) d1
                  have hlen4 : (P3 ++ ic4 m k b1 ((k : Int) + 1 + (j : Int)) d1).length ≤ 900 := by rw [List.length_append]; omega
                  have HSY := Lib.hid (fun (h : mayB m k b1 ((k : Int) + 1 + (j : Int)) d1 = true) => show P3 ++ ic4 m k b1 ((k : Int) + 1 + (j : Int)) (d1 + 1) = (P3 ++ ic4 m k b1 ((k : Int) + 1 + (j : Int)) d1) ++ [((k : Int), (b1 : Int), (k : Int) + 1 + (j : Int), (d1 : Int))] by rw [ic4_yes h, List.append_assoc])
                  have HSN := Lib.hid (fun (h : mayB m k b1 ((k : Int) + 1 + (j : Int)) d1 = false) => show P3 ++ ic4 m k b1 ((k : Int) + 1 + (j : Int)) (d1 + 1) = (P3 ++ ic4 m k b1 ((k : Int) + 1 + (j : Int)) d1) by rw [ic4_no h])
                  generalize hP : P3 ++ ic4 m k b1 ((k : Int) + 1 + (j : Int)) d1 = P4 at *
                  clear hP
                  have hbA := below_tr' hb (below_alloc wr (.cells #[.int .i64 (k : Int), .int .i64 (b1 : Int), .int .i64 ((k : Int) + 1 + (j : Int)), .int .i64 (d1 : Int)] 60))
                  have q := heap_alloc_new wr (.cells #[.int .i64 (k : Int), .int .i64 (b1 : Int), .int .i64 ((k : Int) + 1 + (j : Int)), .int .i64 (d1 : Int)] 60)
                  have hownA := own_below hown (below_alloc wr (.cells #[.int .i64 (k : Int), .int .i64 (b1 : Int), .int .i64 ((k : Int) + 1 + (j : Int)), .int .i64 (d1 : Int)] 60))
                  have C1 := HM.out _ hbA k b1 ((k : Int) + 1 + (j : Int)) d1
                  cases hq : mayB m k b1 ((k : Int) + 1 + (j : Int)) d1
                  · rw [hq] at C1
                    have HP := Lib.hid (HSN.out hq)
                    clear hq HSN HSY
                    go_wp2_with fail
                    refine C1.mono ?_
                    rintro e w5 ⟨rfl, hb5⟩
                    have hown := own_below hownA hb5
                    have hbB := below_tr' hbA hb5
                    clear C1 q hownA hbA hb5 hb hc
                    go_wp2
                    go_roundw
                    case rel => exact ⟨d1 + 1, av, cv, by omega, by go_num, by rw [HP.out], by rw [HP.out]; exact hown, hbB⟩
                    case measure => simp [intOf]; omega
                  · rw [hq] at C1
                    have HP := Lib.hid (HSY.out hq)
                    clear hq HSN HSY
                    go_wp2_with fail
                    refine C1.mono ?_
                    rintro e w5 ⟨rfl, hb5⟩
                    have hown := own_below hownA hb5
                    have hbB := below_tr' hbA hb5
                    have q := blk_below q hb5
                    have g0 := blk_cell q 0 (.int .i64 (k : Int)) rfl
                    have g1 := blk_cell q 1 (.int .i64 (b1 : Int)) rfl
                    have g2 := blk_cell q 2 (.int .i64 ((k : Int) + 1 + (j : Int))) rfl
                    have g3 := blk_cell q 3 (.int .i64 (d1 : Int)) rfl
                    have hsz := hbB.size
                    clear C1 q hownA hbA hb5 hb hc
                    go_wp2_with (at_builtin; refine appendS _ _ rfl rfl hown hbB (Nat.le_refl _) hsz rfl rfl (by omega) ?_; intro a' c' w6 hown6 hb6)
                    go_roundw
                    case rel => exact ⟨d1 + 1, a', c', by omega, by go_num, by rw [HP.out, List.length_append]; rfl, by rw [HP.out, List.length_append]; exact hown6, hb6⟩
                    case measure => simp [intOf]; omega
                · obtain rfl : d1 = cl := by omega
                  have HR := Lib.hid HS3.out
                  go_wp2
                  clear hc
                  go_roundw
                  case rel => exact ⟨b1 + 1, av, cv, by omega, by go_num, by rw [HR.out], by rw [HR.out]; exact hown, hb⟩
                  case measure => simp [intOf]; omega
            · obtain rfl : b1 = cl := by omega
              go_wp2
              clear hc
              go_roundw
              case rel => exact ⟨j + 1, av, cv, by omega, by go_num, by rw [HS2.out], by rw [HS2.out]; exact hown, hb⟩
              case measure => simp [intOf]; omega
        · obtain rfl : j = n - 1 - k := by omega
          go_wp2
          go_roundw
          case rel => exact ⟨k + 1, av, cv, by omega, by go_num, by rw [HS1.out], by rw [HS1.out]; exact hown, hb⟩
          case measure => simp [intOf]; omega
    · obtain rfl : k = n := by omega
      go_wp2
      go_ret
      exact ⟨av, cv, rfl, hown, hb⟩

theorem specIcs_any (a : Option Addr) (c n : Nat) (m : List (List Int)) (w : World) (hn : m.length = n) (hx : RdM w a m) (hl : n + sumLen m ≤ 1048576) :
    Calls Try.prog 51 #[.slice a n c] w fun e w' => ∃ a' c' cv, e = .returned (.slice a' (icsL m).length cv) ∧ w'.ownsRow w.heap.size 60 4 (.slice a' (icsL m).length c') (icsL m).length (sws (icsL m)) ∧ Below w.heap.size w w' := by
  have C1 := specValidMatrix_any a c n m w hn hx hl
  cases hv : validM m
  · rw [hv] at C1
    have HR := Lib.hid (show icsL m = [] by simp [icsL, hv])
    clear hv hx
    go_enter Try.func51, Try.ntmps51
    go_wp2_with fail
    refine C1.mono ?_
    rintro e w1 ⟨rfl, hb⟩
    clear C1
    go_wp2
    go_ret
    exact ⟨none, 0, 0, by rw [HR.out]; rfl, by rw [HR.out]; exact own_none _ _ _ _, hb⟩
  · rw [hv] at C1
    have HR := Lib.hid (show icsL m = ic1 m (colsOf m) n n by simp [icsL, hv, hn])
    have HI := Lib.hid (fun (w1 : World) (hb : Below w.heap.size w w1) => specIcs_in a c n (colsOf m) m w1 hv hn rfl (hx.below hb))
    clear hv hx hn
    go_enter Try.func51, Try.ntmps51
    go_wp2_with fail
    refine C1.mono ?_
    rintro e w1 ⟨rfl, hb⟩
    have C2 := HI.out w1 hb
    have hsz := hb.size
    clear C1 HI
    go_wp2_with fail
    refine C2.mono ?_
    rintro e w2 ⟨av, cv, rfl, hown, hb2⟩
    have HO := Lib.hid (own_mono hown hsz)
    clear C2 hown
    go_wp2
    go_ret
    exact ⟨av, cv, cv, by rw [HR.out]; rfl, by rw [HR.out]; exact HO.out, below_tr' hb hb2⟩

theorem own_capS {w : World} {B T s n c m : Nat} {a : Option Addr} {cs : List Value} (h : w.ownsRow B T s (.slice a m c) n cs) : m ≤ c := by
  rcases h.2 with ⟨h1, h2⟩ | ⟨g, cap, cur, h1, hB, hg, hn, hc, _⟩
  · cases h1; omega
  · cases h1; omega

theorem ClipS_any (a : Option Addr) (c n : Nat) (w : World) (_h : n ≤ c) (_hl : n ≤ 8796093022208) :
    Calls Try.prog 122 #[.slice a n c] w fun e w' => e = .returned (.slice a n n) ∧ w' = w := by
  go_enter Try.func122, Try.ntmps122
  go_wp2
  go_ret
  exact ⟨rfl, rfl⟩

set_option maxHeartbeats 8000000 in
theorem implIcs_any (a : Option Addr) (c n : Nat) (m : List (List Int)) (w : World) (hn : m.length = n) (hx : RdM w a m) (hl : n + sumLen m ≤ 1048576) :
    Calls Try.prog 49 #[.slice a n c] w fun e w' => ∃ a' c' cv, e = .returned (.slice a' (icsL m).length cv) ∧ w'.ownsRow w.heap.size 60 4 (.slice a' (icsL m).length c') (icsL m).length (sws (icsL m)) ∧ Below w.heap.size w w' := by
  have C1 := implValidMatrix_any a c n m w hn hx hl
  cases hv : validM m
  · rw [hv] at C1
    have HR := Lib.hid (show icsL m = [] by simp [icsL, hv])
    clear hv hx
    go_enter Try.func49, Try.ntmps49
    go_wp2_with fail
    refine C1.mono ?_
    rintro e w1 ⟨rfl, hb⟩
    clear C1
    go_wp2
    go_ret
    exact ⟨none, 0, 0, by rw [HR.out]; rfl, by rw [HR.out]; exact own_none _ _ _ _, hb⟩
  rw [hv] at C1
  have HRS := Lib.hid (show icsL m = ic1 m (colsOf m) n n by simp [icsL, hv, hn])
  obtain ⟨cl, hcl⟩ : ∃ cl, colsOf m = cl := ⟨_, rfl⟩
  rw [hcl] at HRS
  obtain ⟨b, off, a0, c0, rfl, hc⟩ := hx.first hv
  have h5 := validM_cols hv
  rw [hn, hcl] at h5
  have HM := Lib.hid (fun (w1 : World) (hb : Below w.heap.size w w1) (A B C D : Int) => implMay_any (some ⟨b, off, none⟩) c n m A B C D w1 hv hn (hx.below hb))
  rw [hcl] at hc
  have HC := Lib.hid (fun (w1 : World) (hb : Below w.heap.size w w1) => (hb.cell (p := ⟨b, off, none⟩) (Rd.lt hc)).trans hc)
  clear hx hv hn hcl hc
  go_enter Try.func49, Try.ntmps49
  go_wp2_with fail
  refine C1.mono ?_
  rintro e w1 ⟨rfl, hb⟩
  clear C1
  have HB0 := hb
  clear hb
  go_wp2
  go_loopw [3, 4, 5, 6, 7, 8, 14, 29, 36] (fun v _ _ _ _ _ i _ _ wr => ∃ (k : Nat) (av : Option Addr) (cv : Nat), k ≤ n ∧ i = .int .i64 k ∧ v = .slice av (ic1 m cl n k).length cv ∧ wr.ownsRow w.heap.size 60 4 (.slice av (ic1 m cl n k).length cv) (ic1 m cl n k).length (sws (ic1 m cl n k)) ∧ Below w.heap.size w wr) (fun _ _ _ _ _ _ i _ _ _ => n - (intOf i).toNat)
  case atStart => exact ⟨0, none, 0, by omega, rfl, rfl, own_none _ _ _ _, HB0⟩
  case round =>
    obtain ⟨k, av, cv, hk, rfl, rfl, hown, hb⟩ := hrel
    by_cases hlt : k < n
    · have hlen := ic1_small m (cl := cl) (n := n) (k := k) h5.2.2.2 h5.2.1 hk
      have HS1 := Lib.hid (ic1_succ m cl n k)
      generalize hP : ic1 m cl n k = P1 at *
      clear hP
      go_wp2
      go_loopw [3, 5, 6, 7, 8, 29, 36] (fun v i _ _ _ _ _ wr => ∃ (j : Nat) (av : Option Addr) (cv : Nat), j ≤ n - 1 - k ∧ i = .int .i64 ((k : Int) + 1 + (j : Int)) ∧ v = .slice av (P1 ++ ic2 m cl k j).length cv ∧ wr.ownsRow w.heap.size 60 4 (.slice av (P1 ++ ic2 m cl k j).length cv) (P1 ++ ic2 m cl k j).length (sws (P1 ++ ic2 m cl k j)) ∧ Below w.heap.size w wr) (fun _ i _ _ _ _ _ _ => n - (intOf i).toNat)
      case atStart => exact ⟨0, av, cv, by omega, by simp, by simp [ic2], by simpa [ic2] using hown, hb⟩
      case round =>
        clear hown hb
        obtain ⟨j, av, cv, hj, rfl, rfl, hown, hb⟩ := hrel
        by_cases hlt2 : j < n - 1 - k
        · have hd2 : decide ((k : Int) + 1 + (j : Int) < (n : Int)) = true := by simp; omega
          have hlen2 := ic2_small m (cl := cl) (a := k) (k := j) h5.2.1 (by omega)
          have hlen2 : (P1 ++ ic2 m cl k j).length ≤ 750 := by rw [List.length_append]; omega
          have HS2 := Lib.hid (show P1 ++ ic2 m cl k (j + 1) = (P1 ++ ic2 m cl k j) ++ ic3 m cl k ((k : Int) + 1 + (j : Int)) cl by rw [ic2_succ, List.append_assoc])
          generalize hP : P1 ++ ic2 m cl k j = P2 at *
          clear hP
          have hc := HC.out wr hb
          go_wp2
          go_loopw [3, 6, 7, 8, 29, 36] (fun v _ _ _ i _ wr => ∃ (b1 : Nat) (av : Option Addr) (cv : Nat), b1 ≤ cl ∧ i = .int .i64 b1 ∧ v = .slice av (P2 ++ ic3 m cl k ((k : Int) + 1 + (j : Int)) b1).length cv ∧ wr.ownsRow w.heap.size 60 4 (.slice av (P2 ++ ic3 m cl k ((k : Int) + 1 + (j : Int)) b1).length cv) (P2 ++ ic3 m cl k ((k : Int) + 1 + (j : Int)) b1).length (sws (P2 ++ ic3 m cl k ((k : Int) + 1 + (j : Int)) b1)) ∧ Below w.heap.size w wr) (fun _ _ _ _ i _ _ => cl - (intOf i).toNat)
          case atStart => exact ⟨0, av, cv, by omega, rfl, by simp [ic3], by simpa [ic3] using hown, hb⟩
          case round =>
            clear hown hb hc
            obtain ⟨b1, av, cv, hb1, rfl, rfl, hown, hb⟩ := hrel
            have hc := HC.out _ hb
            by_cases hlt3 : b1 < cl
            · have hlen3 := ic3_small m (cl := cl) (k := b1) k ((k : Int) + 1 + (j : Int)) h5.2.1 (by omega)
              have hlen3 : (P2 ++ ic3 m cl k ((k : Int) + 1 + (j : Int)) b1).length ≤ 800 := by rw [List.length_append]; omega
              have HS3 := Lib.hid (show P2 ++ ic3 m cl k ((k : Int) + 1 + (j : Int)) (b1 + 1) = (P2 ++ ic3 m cl k ((k : Int) + 1 + (j : Int)) b1) ++ ic4 m k b1 ((k : Int) + 1 + (j : Int)) cl by rw [ic3_succ, List.append_assoc])
              generalize hP : P2 ++ ic3 m cl k ((k : Int) + 1 + (j : Int)) b1 = P3 at *
              clear hP
              go_wp2
              go_loopw [3, 7, 8, 36] (fun v _ _ i wr => ∃ (d1 : Nat) (av : Option Addr) (cv : Nat), d1 ≤ cl ∧ i = .int .i64 d1 ∧ v = .slice av (P3 ++ ic4 m k b1 ((k : Int) + 1 + (j : Int)) d1).length cv ∧ wr.ownsRow w.heap.size 60 4 (.slice av (P3 ++ ic4 m k b1 ((k : Int) + 1 + (j : Int)) d1).length cv) (P3 ++ ic4 m k b1 ((k : Int) + 1 + (j : Int)) d1).length (sws (P3 ++ ic4 m k b1 ((k : Int) + 1 + (j : Int)) d1)) ∧ Below w.heap.size w wr) (fun _ _ _ i _ => cl - (intOf i).toNat)
              case atStart => exact ⟨0, av, cv, by omega, rfl, by simp [ic4], by simpa [ic4] using hown, hb⟩
              case round =>
                clear hown hb hc
                obtain ⟨d1, av, cv, hd1, rfl, rfl, hown, hb⟩ := hrel
                have hc := HC.out _ hb
                by_cases hlt4 : d1 < cl
                · have hlen4 := ic4_len m k b1 ((k : Int) + 1 + (j : Int)) d1
                  have hlen4 : (P3 ++ ic4 m k b1 ((k : Int) + 1 + (j : Int)) d1).length ≤ 900 := by rw [List.length_append]; omega
                  have HSY := Lib.hid (fun (h : mayB m k b1 ((k : Int) + 1 + (j : Int)) d1 = true) => show P3 ++ ic4 m k b1 ((k : Int) + 1 + (j : Int)) (d1 + 1) = (P3 ++ ic4 m k b1 ((k : Int) + 1 + (j : Int)) d1) ++ [((k : Int), (b1 : Int), (k : Int) + 1 + (j : Int), (d1 : Int))] by rw [ic4_yes h, List.append_assoc])
                  have HSN := Lib.hid (fun (h : mayB m k b1 ((k : Int) + 1 + (j : Int)) d1 = false) => show P3 ++ ic4 m k b1 ((k : Int) + 1 + (j : Int)) (d1 + 1) = (P3 ++ ic4 m k b1 ((k : Int) + 1 + (j : Int)) d1) by rw [ic4_no h])
                  generalize hP : P3 ++ ic4 m k b1 ((k : Int) + 1 + (j : Int)) d1 = P4 at *
                  clear hP
                  have hbA := below_tr' hb (below_alloc wr (.cells #[.int .i64 (k : Int), .int .i64 (b1 : Int), .int .i64 ((k : Int) + 1 + (j : Int)), .int .i64 (d1 : Int)] 60))
                  have q := heap_alloc_new wr (.cells #[.int .i64 (k : Int), .int .i64 (b1 : Int), .int .i64 ((k : Int) + 1 + (j : Int)), .int .i64 (d1 : Int)] 60)
                  have hownA := own_below hown (below_alloc wr (.cells #[.int .i64 (k : Int), .int .i64 (b1 : Int), .int .i64 ((k : Int) + 1 + (j : Int)), .int .i64 (d1 : Int)] 60))
                  have C1 := HM.out _ hbA k b1 ((k : Int) + 1 + (j : Int)) d1
                  cases hq : mayB m k b1 ((k : Int) + 1 + (j : Int)) d1
                  · rw [hq] at C1
                    have HP := Lib.hid (HSN.out hq)
                    clear hq HSN HSY
                    go_wp2_with fail
                    refine C1.mono ?_
                    rintro e w5 ⟨rfl, hb5⟩
                    have hown := own_below hownA hb5
                    have hbB := below_tr' hbA hb5
                    clear C1 q hownA hbA hb5 hb hc
                    go_wp2
                    go_roundw
                    case rel => exact ⟨d1 + 1, av, cv, by omega, by go_num, by rw [HP.out], by rw [HP.out]; exact hown, hbB⟩
                    case measure => simp [intOf]; omega
                  · rw [hq] at C1
                    have HP := Lib.hid (HSY.out hq)
                    clear hq HSN HSY
                    go_wp2_with fail
                    refine C1.mono ?_
                    rintro e w5 ⟨rfl, hb5⟩
                    have hown := own_below hownA hb5
                    have hbB := below_tr' hbA hb5
                    have q := blk_below q hb5
                    have g0 := blk_cell q 0 (.int .i64 (k : Int)) rfl
                    have g1 := blk_cell q 1 (.int .i64 (b1 : Int)) rfl
                    have g2 := blk_cell q 2 (.int .i64 ((k : Int) + 1 + (j : Int))) rfl
                    have g3 := blk_cell q 3 (.int .i64 (d1 : Int)) rfl
                    have hsz := hbB.size
                    clear C1 q hownA hbA hb5 hb hc
                    go_wp2_with (at_builtin; refine appendS _ _ rfl rfl hown hbB (Nat.le_refl _) hsz rfl rfl (by omega) ?_; intro a' c' w6 hown6 hb6)
                    go_roundw
                    case rel => exact ⟨d1 + 1, a', c', by omega, by go_num, by rw [HP.out, List.length_append]; rfl, by rw [HP.out, List.length_append]; exact hown6, hb6⟩
                    case measure => simp [intOf]; omega
                · obtain rfl : d1 = cl := by omega
                  have HR := Lib.hid HS3.out
                  go_wp2
                  clear hc
                  go_roundw
                  case rel => exact ⟨b1 + 1, av, cv, by omega, by go_num, by rw [HR.out], by rw [HR.out]; exact hown, hb⟩
                  case measure => simp [intOf]; omega
            · obtain rfl : b1 = cl := by omega
              go_wp2
              clear hc
              go_roundw
              case rel => exact ⟨j + 1, av, cv, by omega, by go_num, by rw [HS2.out], by rw [HS2.out]; exact hown, hb⟩
              case measure => simp [intOf]; omega
        · obtain rfl : j = n - 1 - k := by omega
          go_wp2
          go_roundw
          case rel => exact ⟨k + 1, av, cv, by omega, by go_num, by rw [HS1.out], by rw [HS1.out]; exact hown, hb⟩
          case measure => simp [intOf]; omega
    · obtain rfl : k = n := by omega
      have hlen := ic1_small m (cl := cl) (n := k) (k := k) h5.2.2.2 h5.2.1 (Nat.le_refl _)
      have HCL := ClipS_any av cv (ic1 m cl k k).length wr (own_capS hown) (by omega)
      go_wp2_with fail
      refine HCL.mono ?_
      rintro e w6 ⟨rfl, rfl⟩
      go_wp2
      go_ret
      exact ⟨av, cv, (ic1 m cl k k).length, by rw [HRS.out]; rfl, by rw [HRS.out]; exact hown, hb⟩

end Go.Proofs.Ytjghcegacgpehaa
