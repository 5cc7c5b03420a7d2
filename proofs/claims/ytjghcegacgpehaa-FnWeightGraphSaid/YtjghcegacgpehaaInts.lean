
/- The laws' helpers on slices of numbers: copy, compare, mark, look again. -/
import Derived.Test.YtjghcegacgpehaaBase
import Derived.Test.YtjghcegacgpehaaChecked
namespace Go.Proofs.Ytjghcegacgpehaa
open Go.RowKit

theorem take_eq_all {xs ys : List Int} (hl : xs.length = ys.length) (h : xs.take xs.length = ys.take xs.length) : xs = ys := by
  rw [List.take_length, hl, List.take_length] at h; exact h

theorem take_snoc_eq {xs ys : List Int} {k : Nat} (h1 : k < xs.length) (h2 : k < ys.length) (h : xs.take k = ys.take k) (e : xs[k] = ys[k]) : xs.take (k + 1) = ys.take (k + 1) := by
  rw [List.take_succ_eq_append_getElem h1, List.take_succ_eq_append_getElem h2, h, e]

set_option maxHeartbeats 400000 in
theorem eqIntS_any (a b : Option Addr) (ca cb n m : Nat) (xs ys : List Int) (w : World) (hn : xs.length = n) (hm : ys.length = m) (hx : Rd w a (ints xs)) (hy : Rd w b (ints ys)) (hl : n ≤ 140737488351232) (hl2 : m ≤ 140737488351232) :
    Calls Try.prog 31 #[.slice a n ca, .slice b m cb] w fun e w' => e = .returned (.bool (decide (xs = ys))) ∧ ∃ n, w' = w.drewN n := by
  by_cases h : n = m
  · subst h
    go_enter Try.func31, Try.ntmps31
    go_wp2
    go_loopw [5] (fun i wr => ∃ k : Nat, k ≤ n ∧ i = .int .i64 k ∧ xs.take k = ys.take k ∧ ∃ q, wr = w.drewN q) (fun i _ => n - (intOf i).toNat)
    case atStart => exact ⟨0, by omega, rfl, rfl, 0, rfl⟩
    case round =>
      obtain ⟨k, hk, rfl, ht, q, rfl⟩ := hrel
      by_cases hlt : k < n
      · obtain ⟨b1, o1, rfl, c1⟩ := hx.int (k := k) (by omega)
        obtain ⟨b2, o2, rfl, c2⟩ := hy.int (k := k) (by omega)
        have d1 : ∀ q, (w.drewN q).cell? ⟨b1, o1 + k, none⟩ = some (.int .i64 (xs[k]'(by omega))) := fun q => c1
        have d2 : ∀ q, (w.drewN q).cell? ⟨b2, o2 + k, none⟩ = some (.int .i64 (ys[k]'(by omega))) := fun q => c2
        generalize hX : (xs[k]'(by omega)) = X at *
        generalize hY : (ys[k]'(by omega)) = Y at *
        have HX := Lib.hid hX; clear hX
        have HY := Lib.hid hY; clear hY
        go_wp2
        go_quiet (fail)
        go_wp2
        · have hne : (X != Y) = true := by assumption
          go_ret
          refine ⟨?_, q + nq, by rw [World.drewN_drewN]⟩
          have : ¬ xs = ys := by
            rintro rfl
            have e1 := HX.out
            have e2 := HY.out
            rw [e1] at e2
            simp [e2] at hne
          simp [this]
        · have hne : (X != Y) = false := by assumption
          have e1 : X = Y := by simpa using hne
          go_roundw
          case rel => exact ⟨k + 1, by omega, by go_num, take_snoc_eq (by omega) (by omega) ht (by rw [HX.out, HY.out, e1]), _, rfl⟩
          case measure => simp [intOf]; omega
      · go_wp2
        go_ret
        have : k = n := by omega
        subst this
        have e : xs = ys := take_eq_all (by omega) (by rw [hn]; exact ht)
        exact ⟨by simp [e], q, rfl⟩
  · have h' : ¬ ((n : Int) = (m : Int)) := by omega
    have h2 : ¬ xs = ys := by intro e; rw [e] at hn; omega
    go_enter Try.func31, Try.ntmps31
    go_wp2
    go_ret
    exact ⟨by simp [h2], 0, rfl⟩

theorem eqIntS_b (a b : Option Addr) (ca cb n m : Nat) (xs ys : List Int) (w : World) (hn : xs.length = n) (hm : ys.length = m) (hx : Rd w a (ints xs)) (hy : Rd w b (ints ys)) (hl : n ≤ 140737488351232) (hl2 : m ≤ 140737488351232) (t : Bool) (ht : decide (xs = ys) = t) :
    Calls Try.prog 31 #[.slice a n ca, .slice b m cb] w fun e w' => e = .returned (.bool t) ∧ Below w.heap.size w w' :=
  (eqIntS_any a b ca cb n m xs ys w hn hm hx hy hl hl2).mono fun e w' ⟨h1, q, h2⟩ => ⟨by rw [h1, ht], by rw [h2]; exact bel_drewN (Below.refl _ _) q⟩

theorem Try.infoInt : (Try.prog.info? 3).map (fun i => (i.zero, i.size, i.bytes)) = some (some (.int .i64 0), 1, 8) := by kernel_rfl

theorem Try.infoI : Info Try.prog 38 3 (.int .i64 0) 1 8 := ⟨Try.underlying38, Try.infoInt, rfl, by decide, by decide⟩

theorem set_mid (l r : List Int) (z x : Int) (k : Nat) (hk : l.length = k) : (ints (l ++ z :: r)).set k (.int .i64 x) = ints (l ++ x :: r) := by
  subst hk
  simp [ints]

theorem set_take (xs : List Int) (n k : Nat) (hn : xs.length = n) (hk : k < n) :
    (ints (xs.take k ++ List.replicate (n - k) 0)).set k (.int .i64 (xs[k]'(by omega))) = ints (xs.take (k + 1) ++ List.replicate (n - (k + 1)) 0) := by
  have e : xs.take (k + 1) = xs.take k ++ [xs[k]'(by omega)] := List.take_succ_eq_append_getElem (by omega)
  rw [show n - k = (n - (k + 1)) + 1 from by omega, List.replicate_succ, set_mid _ _ _ _ _ (by simp; omega), e, List.append_assoc]
  rfl

set_option maxHeartbeats 400000 in
theorem toIntS_any (a : Option Addr) (c n : Nat) (xs : List Int) (w : World) (hn : xs.length = n) (hx : Rd w a (ints xs)) (hl : n ≤ 1048576) :
    Calls Try.prog 29 #[.slice a n c] w fun e w' =>
      e = .returned (.slice (some ⟨w.heap.size, 0, none⟩) n n) ∧ w'.ownsRow w.heap.size 3 1 (.slice (some ⟨w.heap.size, 0, none⟩) n n) n (ints xs) ∧ Below w.heap.size w w' := by
  obtain ⟨i0, hi, hz0, hz1, hz2⟩ := info_parts Try.infoInt
  go_enter Try.func29, Try.ntmps29
  go_wp2_with (at_make; refine wpList_make_full _ rfl _ _ 38 rfl w.heap.size 3 i0 (.int .i64 0) 1 Try.underlying38 hi hz0 hz1 _ _ _ _ n rfl rfl rfl rfl ?b1 ?b2 ?b3 ?_)
  case b1 => rw [hz2]; omega
  case b2 => unfold maxLen; omega
  case b3 => exact Nat.le_refl _
  intro w1 hown1 hg1
  have hown : w1.ownsRow w.heap.size 3 1 (.slice (some ⟨w.heap.size, 0, none⟩) n n) n (ints (xs.take 0 ++ List.replicate (n - 0) 0)) := by
    have e : (madeCells #[Value.int .i64 0] n).toList = ints (xs.take 0 ++ List.replicate (n - 0) 0) := by
      rw [toList_madeCells_one]; simp [ints]
    rw [← e]; exact hown1
  have hB : Below w.heap.size w w1 := grown_none_below hg1
  clear hown1 hg1
  go_wp2
  go_loopw [4] (fun i wr => ∃ k : Nat, k ≤ n ∧ i = .int .i64 k ∧ wr.ownsRow w.heap.size 3 1 (.slice (some ⟨w.heap.size, 0, none⟩) n n) n (ints (xs.take k ++ List.replicate (n - k) 0)) ∧ Below w.heap.size w wr) (fun i _ => n - (intOf i).toNat)
  case atStart => exact ⟨0, by omega, rfl, hown, hB⟩
  case round =>
    obtain ⟨k, hk, rfl, ho, hb⟩ := hrel
    by_cases hlt : k < n
    · obtain ⟨b1, o1, rfl, c1⟩ := (hx.below hb).int (k := k) (by omega)
      have hst := set_take xs n k hn hlt
      have hos := (ho.stored k (.int .i64 (xs[k]'(by omega)))).1
      rw [hst] at hos
      have HB := hb.setCell (p := ⟨w.heap.size, k, none⟩) (Nat.le_refl _) (.int .i64 (xs[k]'(by omega)))
      generalize hX : (xs[k]'(by omega)) = X at *
      obtain ⟨v, c2⟩ := own_some ho k (by omega)
      have f2 := ho.frozenAt k
      clear hst hX
      go_wp2
      go_roundw
      case rel => exact ⟨k + 1, by omega, by go_num, hos, HB⟩
      case measure => simp [intOf]; omega
    · go_wp2
      go_ret
      have : k = n := by omega
      subst this
      refine ⟨rfl, ?_, hb⟩
      have e : xs.take k ++ List.replicate (k - k) 0 = xs := by rw [← hn]; simp
      rw [← e]; exact ho

def marks (k : Int) (n : Nat) : List Int := (List.range n).map fun i : Nat => k + (i : Int)
theorem marks_length (k : Int) (n : Nat) : (marks k n).length = n := by simp [marks]
theorem marks_succ (k : Int) (n : Nat) : marks k (n + 1) = marks k n ++ [k + (n : Int)] := by simp [marks, List.range_succ]
theorem marks_get (k : Int) (n i : Nat) (h : i < n) : (marks k n)[i]'(by rw [marks_length]; exact h) = k + (i : Int) := by simp [marks]

set_option maxHeartbeats 400000 in
theorem markIntS_any (B : Nat) (a : Option Addr) (c cv n : Nat) (xs : List Int) (k0 : Int) (w : World) (ho0 : w.ownsRow B 3 1 (.slice a n c) n (ints xs)) (hl : n ≤ 1048576) (hk0 : 0 ≤ k0) (hk1 : k0 ≤ 1099511627776) :
    Calls Try.prog 61 #[.slice a n cv, .int .i64 k0] w fun e w' =>
      e = .returned (.int .i64 (k0 + n)) ∧ w'.ownsRow B 3 1 (.slice a n c) n (ints (marks k0 n)) ∧ w.grownBy w' (Value.slice a n c).ownBlock := by
  have hxl : xs.length = n := by have := ho0.1; rw [ints_length] at this; omega
  go_enter Try.func61, Try.ntmps61
  go_wp2
  go_loopw [1, 5] (fun q i wr => ∃ k : Nat, k ≤ n ∧ i = .int .i64 k ∧ q = .int .i64 (k0 + k) ∧ wr.ownsRow B 3 1 (.slice a n c) n (ints (marks k0 k ++ xs.drop k)) ∧ w.grownBy wr (Value.slice a n c).ownBlock) (fun _ i _ => n - (intOf i).toNat)
  case atStart => exact ⟨0, by omega, rfl, by simp, by simpa [marks] using ho0, World.grownBy.refl _ _⟩
  case round =>
    obtain ⟨k, hk, rfl, rfl, ho, hg⟩ := hrel
    by_cases hlt : k < n
    · obtain ⟨g, rfl, hgB, _⟩ := own_head ho0 (by omega)
      obtain ⟨v, c2⟩ := own_some ho k (by omega)
      have f2 := ho.frozenAt k
      have hos := ho.stored k (.int .i64 (k0 + (k : Int)))
      rw [List.drop_eq_getElem_cons (by omega), set_mid _ _ _ _ _ (marks_length _ _)] at hos
      have e1 : marks k0 k ++ (k0 + (k : Int)) :: xs.drop (k + 1) = marks k0 (k + 1) ++ xs.drop (k + 1) := by rw [marks_succ]; simp
      rw [e1] at hos
      have hg2 : w.grownBy (wr.setCell ⟨g, k, none⟩ (.int .i64 (k0 + (k : Int)))) (some g) := ⟨hos.2.os.trans hg.os, hos.2.tape.trans hg.tape, hos.2.output.trans hg.output, Nat.le_trans hg.size hos.2.size,
        fun i hi hne => (hos.2.block i (Nat.lt_of_lt_of_le hi hg.size) hne).trans (hg.block i hi hne)⟩
      have ho2 := hos.1
      clear e1 hos
      go_wp2
      go_roundw
      case rel => exact ⟨k + 1, by omega, by go_num, by go_num, ho2, hg2⟩
      case measure => simp [intOf]; omega
    · go_wp2
      go_ret
      have : k = n := by omega
      subst this
      refine ⟨rfl, ?_, hg⟩
      rw [List.drop_of_length_le (by omega), List.append_nil] at ho
      exact ho

set_option maxHeartbeats 400000 in
theorem heldIntS_any (a : Option Addr) (c n : Nat) (k0 : Int) (w : World) (hx : Rd w a (ints (marks k0 n))) (hl : n ≤ 1048576) (hk0 : 0 ≤ k0) (hk1 : k0 ≤ 1099511627776) :
    Calls Try.prog 184 #[.slice a n c, .int .i64 k0] w fun e w' => e = .returned (.int .i64 (k0 + n)) ∧ w' = w := by
  go_enter Try.func184, Try.ntmps184
  go_wp2
  go_loop [1, 5] (fun q i => ∃ k : Nat, k ≤ n ∧ i = .int .i64 k ∧ q = .int .i64 (k0 + k)) (fun _ i => n - (intOf i).toNat)
  case atStart => exact ⟨0, by omega, rfl, by simp⟩
  case round =>
    obtain ⟨k, hk, rfl, rfl⟩ := hrel
    by_cases hlt : k < n
    · obtain ⟨b1, o1, rfl, c1⟩ := hx.int (k := k) (by rw [marks_length]; exact hlt)
      rw [marks_get _ _ _ hlt] at c1
      go_wp2
      go_round
      case rel => exact ⟨k + 1, by omega, by go_num, by go_num⟩
      case measure => simp [intOf]; omega
    · go_wp2
      go_ret
      have : k = n := by omega
      subst this
      exact ⟨rfl, rfl⟩

/-- A slice of numbers that came in, as the frame of a law tells it: it reads as its numbers. -/
theorem rd_of_row {w : World} {a : Option Addr} {len cap : Nat} {zs : List Int}
    (h : (a = none ∧ len = 0 ∧ cap = 0 ∧ zs = []) ∨
      ∃ x, a = some x ∧ len ≤ cap ∧ cap ≤ maxLen ∧ zs.length = cap ∧ (∀ i, i < zs.length → w.cell? (x.add i) = some (.int .i64 (zs.getD i 0))) ∧ ∀ n ∈ zs, (Lit.int .i64 n).wf = true) :
    Rd w a (ints (zs.take len)) ∧ (zs.take len).length = len ∧ len ≤ 9223372036854775807 ∧ ∀ x ∈ zs.take len, -9223372036854775808 ≤ x ∧ x ≤ 9223372036854775807 := by
  rcases h with ⟨rfl, rfl, rfl, rfl⟩ | ⟨x, rfl, h1, h2, h3, h4, h5⟩
  · exact ⟨by simpa [ints] using Rd.nil w none, rfl, by omega, by simp⟩
  · refine ⟨?_, by simp; omega, by unfold maxLen at h2; omega, ?_⟩
    · intro j u hu
      have hj : j < (zs.take len).length := by have := (List.getElem?_eq_some_iff.1 hu).1; rwa [ints_length] at this
      have hjl : j < len := by simp at hj; omega
      have hjz : j < zs.length := by simp at hj; omega
      have hc := h4 j hjz
      obtain ⟨b, off, spot⟩ := x
      have hspot : spot = none := by simpa [Addr.add] using World.cell?_spot (h4 0 (by omega))
      subst hspot
      refine ⟨b, off, rfl, ?_⟩
      have e : (⟨b, off, none⟩ : Addr).add j = ⟨b, off + j, none⟩ := by unfold Addr.add; split <;> simp_all
      rw [e] at hc
      rw [hc]
      rw [← hu]
      have e2 : (ints (zs.take len))[j]? = some (.int .i64 (zs[j]'hjz)) := ints_get _ _ _ (by rw [List.getElem?_take, if_pos hjl, List.getElem?_eq_getElem hjz])
      rw [e2]
      simp [List.getD, List.getElem?_eq_getElem hjz]
    · intro n hn
      have := h5 n (List.mem_of_mem_take hn)
      have e1 : IntKind.i64.min = -9223372036854775808 := rfl
      have e2 : IntKind.i64.max = 9223372036854775807 := rfl
      simp only [Lit.wf, Bool.and_eq_true, decide_eq_true_eq] at this
      omega

end Go.Proofs.Ytjghcegacgpehaa
