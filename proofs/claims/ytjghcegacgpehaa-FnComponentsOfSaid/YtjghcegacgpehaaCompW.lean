
/- ComponentsOf and IsConnected on both sides. (Printed by gen_compw.py.) -/
import Derived.Test.YtjghcegacgpehaaCompI
namespace Go.Proofs.Ytjghcegacgpehaa
open Go.RowKit

noncomputable def compsV (N : Int) (es : List E2) : List (List Int) := if validG N es = true then cpK es N.toNat N.toNat else []
noncomputable def connV (N : Int) (es : List E2) : Bool := validG N es && decide ((cpK es N.toNat N.toNat).length = 1)
theorem sumLen_le_of {m : List (List Int)} {k : Nat} (h : ∀ x ∈ m, x.length ≤ k) : sumLen m ≤ m.length * k := by
  induction m with
  | nil => simp [sumLen]
  | cons x l ih =>
    have e : sumLen (x :: l) = x.length + sumLen l := by simp [sumLen]
    have h1 := h x (List.mem_cons_self ..)
    have h2 := ih fun y hy => h y (List.mem_cons_of_mem _ hy)
    rw [e, List.length_cons, Nat.succ_mul]; omega
theorem cpK_rows (es : List E2) (N k : Nat) : ∀ x ∈ cpK es N k, x.length ≤ N := by
  intro x hx
  simp only [cpK, compsK, List.mem_map, List.mem_filterMap] at hx
  obtain ⟨y, ⟨p, ⟨v, _, rfl⟩, h⟩, rfl⟩ := hx
  split at h
  · cases h
    have := memS_len (compS (ne2 es) N v)
    rw [compS_length] at this
    rw [intsN_length]; exact this
  · cases h
theorem compsV_len (N : Int) (es : List E2) : (compsV N es).length + sumLen (compsV N es) ≤ 1000 := by
  unfold compsV
  split
  · rename_i h
    have h7 := (validG_true.1 h).2
    have h1 := cpK_len es N.toNat N.toNat
    have h2 := sumLen_le_of (cpK_rows es N.toNat N.toNat)
    have h3 : (cpK es N.toNat N.toNat).length * N.toNat ≤ 7 * 7 := Nat.mul_le_mul (by omega) (by omega)
    omega
  · simp [sumLen]
theorem valid_hE {N : Nat} {es : List E2} (h : validG N es = true) : ∀ k (hk : k < es.length), 0 ≤ (es[k]'hk).1 ∧ (es[k]'hk).1 < (es[k]'hk).2 ∧ (es[k]'hk).2 < N := fun k hk => by
  have := (validG_true.1 h).1 k hk
  exact ⟨this.1, this.2.1, this.2.2.1⟩

theorem HoldsM.low {lo lo' hi n : Nat} {a : Option Addr} {m : List (List Int)} {w : World} (h : HoldsM lo hi a n m w) (hl : lo' ≤ lo) : HoldsM lo' hi a n m w := by
  obtain ⟨B, co, rs, vs, h1, h2, h3⟩ := h
  exact ⟨B, co, rs, vs, by omega, h2, fun x hx => by have := h3.1 x hx; omega, fun r hr x hx => by have := h3.2 r hr x hx; omega⟩

set_option maxHeartbeats 2000000 in
theorem implComponentsOf_any (N : Int) (a : Option Addr) (c n : Nat) (es : List E2) (w : World) (hN : N ≤ 9223372036854775807) (hn : es.length = n) (hx : Rd w a (edges es)) (hl : n ≤ 1048576) :
    Calls Try.prog 38 #[graphV N a n c] w fun e w' => ∃ a' c', e = .returned (.slice a' (compsV N es).length c') ∧ HoldsM w.heap.size w'.heap.size a' (compsV N es).length (compsV N es) w' ∧ Below w.heap.size w w' := by
  have hB := below_alloc w (.cells #[.int .i64 N, .slice a n c] 25)
  have q := heap_alloc_new w (.cells #[.int .i64 N, .slice a n c] 25)
  have C1 := implValidGraph_any N a c n es _ hN hn (hx.below hB) (by omega)
  have HX := Lib.hid (fun (v : World) (hb : Below w.heap.size w v) => hx.below hb)
  clear hx
  have g0 := blk_cell q 0 (.int .i64 N) rfl
  have g1 := blk_cell q 1 (.slice a n c) rfl
  generalize hW : w.alloc (.cells #[.int .i64 N, .slice a n c] 25) = W at *
  have HW := Lib.hid hW
  clear hW
  cases hv : validG N es
  · rw [hv] at C1
    have HR := Lib.hid (show compsV N es = [] by simp [compsV, hv])
    clear hv
    go_enter Try.func38, Try.ntmps38
    go_wp2_with (simp only [HW.out])
    refine C1.mono ?_
    rintro e w1 ⟨rfl, hb⟩
    have hBB := below_tr' hB hb
    clear C1
    go_wp2
    go_ret
    exact ⟨none, 0, by rw [HR.out]; rfl, by rw [HR.out]; exact (HoldsM.of (ownC_none w1 w.heap.size) (Nat.le_refl _)), hBB⟩
  · rw [hv] at C1
    have h7 := (validG_true.1 hv).2
    obtain ⟨M, rfl⟩ : ∃ M : Nat, N = M := ⟨N.toNat, by omega⟩
    have HR := Lib.hid (show compsV (M : Int) es = cpK es M M by simp [compsV, hv])
    have hE := valid_hE hv
    have hkl := cpK_len es M M
    obtain ⟨K, hK⟩ : ∃ K, K = (cpK es M M).length := ⟨_, rfl⟩
    rw [← hK] at hkl
    have HK := Lib.hid hK
    clear hv
    go_enter Try.func38, Try.ntmps38
    go_wp2_with (simp only [HW.out])
    refine C1.mono ?_
    rintro e w1 ⟨rfl, hb⟩
    have hBB := below_tr' hB hb
    have q1 := blk_below q hb
    have k0 := blk_cell q1 0 (.int .i64 (M : Int)) rfl
    have k1 := blk_cell q1 1 (.slice a n c) rfl
    have C2 := implComps_any M a c n es w1 (by omega) hE hn (HX.out _ hBB) hl
    rw [← hK] at C2
    clear C1 g0 g1 hK hE
    go_wp2_with fail
    refine C2.mono ?_
    rintro e w2 ⟨a1, rfl, hH, hb2⟩
    have hBC := below_tr' hBB hb2
    have HH := Lib.hid hH
    clear C2 k0 k1
    clear hH
    go_wp2
    go_ret
    exact ⟨a1, K, by rw [HR.out, ← HK.out]; rfl, by rw [HR.out, ← HK.out]; exact HH.out.low hBB.size, hBC⟩

set_option maxHeartbeats 2000000 in
theorem specComponentsOf_any (N : Int) (a : Option Addr) (c n : Nat) (es : List E2) (w : World) (hn : es.length = n) (hx : Rd w a (edges es)) (hl : n ≤ 1048576) :
    Calls Try.prog 40 #[graphV N a n c] w fun e w' => ∃ a' c', e = .returned (.slice a' (compsV N es).length c') ∧ HoldsM w.heap.size w'.heap.size a' (compsV N es).length (compsV N es) w' ∧ Below w.heap.size w w' := by
  have hB := below_alloc w (.cells #[.int .i64 N, .slice a n c] 25)
  have q := heap_alloc_new w (.cells #[.int .i64 N, .slice a n c] 25)
  have C1 := specValidGraph_any N a c n es _ hn (hx.below hB) (by omega)
  have HX := Lib.hid (fun (v : World) (hb : Below w.heap.size w v) => hx.below hb)
  clear hx
  have g0 := blk_cell q 0 (.int .i64 N) rfl
  have g1 := blk_cell q 1 (.slice a n c) rfl
  generalize hW : w.alloc (.cells #[.int .i64 N, .slice a n c] 25) = W at *
  have HW := Lib.hid hW
  clear hW
  cases hv : validG N es
  · rw [hv] at C1
    have HR := Lib.hid (show compsV N es = [] by simp [compsV, hv])
    clear hv
    go_enter Try.func40, Try.ntmps40
    go_wp2_with (simp only [HW.out])
    refine C1.mono ?_
    rintro e w1 ⟨rfl, hb⟩
    have hBB := below_tr' hB hb
    clear C1
    go_wp2
    go_ret
    exact ⟨none, 0, by rw [HR.out]; rfl, by rw [HR.out]; exact (HoldsM.of (ownC_none w1 w.heap.size) (Nat.le_refl _)), hBB⟩
  · rw [hv] at C1
    have h7 := (validG_true.1 hv).2
    obtain ⟨M, rfl⟩ : ∃ M : Nat, N = M := ⟨N.toNat, by omega⟩
    have HR := Lib.hid (show compsV (M : Int) es = cpK es M M by simp [compsV, hv])
    have hE := valid_hE hv
    have hkl := cpK_len es M M
    obtain ⟨K, hK⟩ : ∃ K, K = (cpK es M M).length := ⟨_, rfl⟩
    rw [← hK] at hkl
    have HK := Lib.hid hK
    clear hv
    go_enter Try.func40, Try.ntmps40
    go_wp2_with (simp only [HW.out])
    refine C1.mono ?_
    rintro e w1 ⟨rfl, hb⟩
    have hBB := below_tr' hB hb
    have q1 := blk_below q hb
    have k0 := blk_cell q1 0 (.int .i64 (M : Int)) rfl
    have k1 := blk_cell q1 1 (.slice a n c) rfl
    have C2 := comps_any M a c n es w1 (by omega) hE hn (HX.out _ hBB) hl
    rw [← hK] at C2
    clear C1 g0 g1 hK hE
    go_wp2_with fail
    refine C2.mono ?_
    rintro e w2 ⟨a1, k1', rs, rfl, hM, hb2⟩
    have hBC := below_tr' hBB hb2
    have HH := Lib.hid (HoldsM.of (ownC_of hM) (Nat.le_refl w1.heap.size))
    clear C2 k0 k1
    clear hM
    go_wp2
    go_ret
    exact ⟨a1, k1', by rw [HR.out, ← HK.out]; rfl, by rw [HR.out, ← HK.out]; exact HH.out.low hBB.size, hBC⟩

end Go.Proofs.Ytjghcegacgpehaa
