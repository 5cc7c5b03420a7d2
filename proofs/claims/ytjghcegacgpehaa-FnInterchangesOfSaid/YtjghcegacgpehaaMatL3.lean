
/- The laws' helpers on rows of rows of numbers: look again; what stays of a matrix while another one is marked. -/
import Derived.Test.YtjghcegacgpehaaRowM
namespace Go.Proofs.Ytjghcegacgpehaa
open Go.RowKit

set_option maxHeartbeats 1000000 in
theorem heldIntSS_any (a : Option Addr) (c n : Nat) (m : List (List Int)) (k0 : Int) (w : World) (hn : m.length = n) (hx : RdM w a (marksM k0 m)) (hl : n + sumLen m ≤ 1048576) (hk0 : 0 ≤ k0) (hk1 : k0 ≤ 1099510579200) :
    Calls Try.prog 137 #[.slice a n c, .int .i64 k0] w fun e w' => e = .returned (.int .i64 (k0 + sumLen m)) ∧ Below w.heap.size w w' := by
  go_enter Try.func137, Try.ntmps137
  go_wp2
  go_loopw [1, 5] (fun q i wr => ∃ k : Nat, k ≤ n ∧ i = .int .i64 k ∧ q = .int .i64 (k0 + sumLen (m.take k)) ∧ wr = w) (fun _ i _ => n - (intOf i).toNat)
  case atStart => exact ⟨0, by omega, rfl, by simp [sumLen], rfl⟩
  case round =>
    obtain ⟨k, hk, rfl, rfl, rfl⟩ := hrel
    by_cases hlt : k < n
    · have hkm : k < m.length := by omega
      have hkr : k < (marksM k0 m).length := by rw [marksM_length]; exact hkm
      obtain ⟨b, off, ar, cr, rfl, hc, hrd, _, _, _⟩ := hx k hkr
      have hsl := sumLen_get m k hkm
      have hst := sumLen_take m k
      have HSS := Lib.hid (sumLen_succ m k hkm)
      have hlen : ((marksM k0 m)[k]'hkr).length = (m[k]'hkm).length := by rw [marksM_get, markR_length k0 m k hkm]
      have hrd2 : Rd wr ar (ints (marks (k0 + sumLen (m.take k)) (m[k]'hkm).length)) := by
        rw [marksM_get] at hrd
        have : markR k0 m k = marks (k0 + sumLen (m.take k)) (m[k]'hkm).length := by rw [markR, List.getD, List.getElem?_eq_getElem hkm]; rfl
        rw [this] at hrd; exact hrd
      rw [hlen] at hc
      have C1 := heldIntS_any ar cr (m[k]'hkm).length (k0 + sumLen (m.take k)) wr hrd2 (by omega) (by omega) (by omega)
      clear hrd hrd2 hlen hx
      generalize (m[k]'hkm).length = len at *
      generalize sumLen (m.take k) = S at *
      have hge : 0 ≤ k0 + (S : Int) + (len : Int) := by omega
      go_wp2_with fail
      refine C1.mono ?_
      rintro e w1 ⟨rfl, rfl⟩
      clear C1 hc
      go_wp2
      go_roundw
      case rel => exact ⟨k + 1, by omega, by go_num, by rw [HSS.out]; simp; omega, trivial⟩
      case measure => simp [intOf]; omega
    · obtain rfl : k = n := by omega
      have HS := Lib.hid (show sumLen (m.take k) = sumLen m by rw [← hn, List.take_length])
      go_wp2
      go_ret
      exact ⟨ret_int (by rw [HS.out]), Below.refl _ _⟩

/-- All blocks of a matrix lie in a range. -/
def MIn (lo hi : Nat) (a : Option Addr) (rs : List At) : Prop := (∀ x, a = some x → lo ≤ x.block ∧ x.block < hi) ∧ ∀ r (h : r < rs.length) x, (rs[r]'h).1 = some x → lo ≤ x.block ∧ x.block < hi
theorem OwnM.min {w : World} {B n c : Nat} {a : Option Addr} {rs : List At} {m : List (List Int)} (h : OwnM w B a n c rs m) : MIn B w.heap.size a rs :=
  ⟨fun x hx => own_lt h.2.2.1 x hx, fun r hr x hx => own_lt (h.2.2.2.1 r hr (by have := h.1; have := h.2.1; omega)) x hx⟩
def RIn (lo hi : Nat) (a : Option Addr) : Prop := ∀ x, a = some x → lo ≤ x.block ∧ x.block < hi
theorem own_rin {w : World} {B T s n c m : Nat} {a : Option Addr} {cs : List Value} (h : w.ownsRow B T s (.slice a m c) n cs) : RIn B w.heap.size a := fun x hx => own_lt h x hx

theorem outOf_of {lo hi lo' hi' i : Nat} {a : Option Addr} {rs : List At} (h : MIn lo hi a rs) (hi1 : lo' ≤ i) (hi2 : i < hi') (hd : hi ≤ lo' ∨ hi' ≤ lo) : OutOf rs i := by
  intro r hr x hx
  have := h.2 r hr x hx
  omega

theorem own_same {w w' : World} {B T s n c m : Nat} {a : Option Addr} {cs : List Value} (h : w.ownsRow B T s (.slice a m c) n cs) (hb : ∀ x, a = some x → w'.heap[x.block]? = w.heap[x.block]?) : w'.ownsRow B T s (.slice a m c) n cs := by
  refine ⟨h.1, ?_⟩
  rcases h.2 with h0 | ⟨g, cap, cur, h1, hB, hg, r⟩
  · exact .inl h0
  · refine .inr ⟨g, cap, cur, h1, hB, ?_, r⟩
    cases h1
    rw [hb ⟨g, 0, none⟩ rfl]; exact hg

/-- Another matrix is marked. -/
theorem OwnM.marked {w w' : World} {B n c lo hi lo' hi' : Nat} {a ax : Option Addr} {rs rsx : List At} {m : List (List Int)} (h : OwnM w B a n c rs m) (hin : MIn lo hi a rs) (hix : MIn lo' hi' ax rsx) (hd : hi ≤ lo' ∨ hi' ≤ lo)
    (hfr : ∀ i, i < w.heap.size → OutOf rsx i → w'.heap[i]? = w.heap[i]?) : OwnM w' B a n c rs m := by
  refine ⟨h.1, h.2.1, own_same h.2.2.1 ?_, fun r hr hr' => own_same (h.2.2.2.1 r hr hr') ?_, h.2.2.2.2⟩
  · intro x hx
    have h1 := hin.1 x hx
    exact hfr _ (own_lt h.2.2.1 x hx).2 (outOf_of hix h1.1 h1.2 (by omega))
  · intro x hx
    have h1 := hin.2 r hr x hx
    exact hfr _ (own_lt (h.2.2.2.1 r hr hr') x hx).2 (outOf_of hix h1.1 h1.2 (by omega))
theorem own_marked {w w' : World} {B T s n c k lo hi lo' hi' : Nat} {a ax : Option Addr} {rsx : List At} {cs : List Value} (h : w.ownsRow B T s (.slice a k c) n cs) (hin : RIn lo hi a) (hix : MIn lo' hi' ax rsx) (hd : hi ≤ lo' ∨ hi' ≤ lo)
    (hfr : ∀ i, i < w.heap.size → OutOf rsx i → w'.heap[i]? = w.heap[i]?) : w'.ownsRow B T s (.slice a k c) n cs := by
  refine own_same h ?_
  intro x hx
  have h1 := hin x hx
  exact hfr _ (own_lt h x hx).2 (outOf_of hix h1.1 h1.2 (by omega))
theorem blk_marked {w w' : World} {b lo hi : Nat} {o : Obj} {ax : Option Addr} {rsx : List At} (h : w.heap[b]? = some o) (hb : b < lo) (hix : MIn lo hi ax rsx) (hfr : ∀ i, i < w.heap.size → OutOf rsx i → w'.heap[i]? = w.heap[i]?) : w'.heap[b]? = some o := by
  rw [hfr b (blk_lt h) (outOf_of (lo' := b) (hi' := b + 1) hix (Nat.le_refl _) (by omega) (by omega))]; exact h
/-- A row is marked. -/
theorem OwnM.marked1 {w w' : World} {B n c lo hi lo' hi' n2 c2 : Nat} {a ax : Option Addr} {rs : List At} {m : List (List Int)} (h : OwnM w B a n c rs m) (hin : MIn lo hi a rs) (hix : RIn lo' hi' ax) (hd : hi ≤ lo' ∨ hi' ≤ lo)
    (hg : w.grownBy w' (Value.slice ax n2 c2).ownBlock) : OwnM w' B a n c rs m := by
  have key : ∀ x : Addr, lo ≤ x.block → x.block < hi → some x.block ≠ (Value.slice ax n2 c2).ownBlock := by
    intro x h1 h2 h3
    cases hax : ax with
    | none => rw [hax] at h3; simp [Value.ownBlock] at h3
    | some y =>
      rw [hax] at h3
      simp only [Value.ownBlock, Option.some.injEq] at h3
      have := hix y hax
      omega
  refine ⟨h.1, h.2.1, own_same h.2.2.1 ?_, fun r hr hr' => own_same (h.2.2.2.1 r hr hr') ?_, h.2.2.2.2⟩
  · intro x hx
    have h1 := hin.1 x hx
    exact hg.block _ (own_lt h.2.2.1 x hx).2 (key x h1.1 h1.2)
  · intro x hx
    have h1 := hin.2 r hr x hx
    exact hg.block _ (own_lt (h.2.2.2.1 r hr hr') x hx).2 (key x h1.1 h1.2)
theorem own_marked1 {w w' : World} {B T s n c k lo hi lo' hi' n2 c2 : Nat} {a ax : Option Addr} {cs : List Value} (h : w.ownsRow B T s (.slice a k c) n cs) (hin : RIn lo hi a) (hix : RIn lo' hi' ax) (hd : hi ≤ lo' ∨ hi' ≤ lo)
    (hg : w.grownBy w' (Value.slice ax n2 c2).ownBlock) : w'.ownsRow B T s (.slice a k c) n cs := by
  refine own_kept h hg ?_
  intro x y hx hy
  have h1 := hin x hx
  have h2 := hix y hy
  omega

end Go.Proofs.Ytjghcegacgpehaa
