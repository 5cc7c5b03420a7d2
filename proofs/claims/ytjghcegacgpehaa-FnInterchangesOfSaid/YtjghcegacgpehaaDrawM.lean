
/- Drawn matrices: the reference's aMatrix and someMatrix. -/
import Derived.Test.YtjghcegacgpehaaRead
import Derived.Test.YtjghcegacgpehaaCopyM
import Derived.Test.YtjghcegacgpehaaBlk
namespace Go.Proofs.Ytjghcegacgpehaa
open Go.RowKit

/-- A row of bits. -/
def Bits (cl : Nat) (X : List Int) : Prop := X.length = cl ∧ ∀ v ∈ X, v = 0 ∨ v = 1
def BitsM (n cl : Nat) (m : List (List Int)) : Prop := m.length = n ∧ ∀ X ∈ m, Bits cl X
theorem bitsM_nil (cl : Nat) : BitsM 0 cl [] := ⟨rfl, by simp⟩
theorem BitsM.snoc {n cl : Nat} {m : List (List Int)} {X : List Int} (h : BitsM n cl m) (hX : Bits cl X) : BitsM (n + 1) cl (m ++ [X]) :=
  ⟨by rw [List.length_append, h.1]; rfl, fun Y hY => by rcases List.mem_append.1 hY with h1 | h1; exact h.2 Y h1; rw [List.mem_singleton.1 h1]; exact hX⟩
theorem BitsM.rect {n cl : Nat} {m : List (List Int)} (h : BitsM n cl m) : Rect m n cl := ⟨h.1, fun _ hr => (h.2 _ (List.getElem_mem hr)).1⟩
/-- A small matrix: what a drawn one is. -/
def SmallM (m : List (List Int)) : Prop := m.length ≤ 6 ∧ ∀ X ∈ m, X.length ≤ 5 ∧ ∀ v ∈ X, -1 ≤ v ∧ v ≤ 2
theorem SmallM.wf {m : List (List Int)} (h : SmallM m) : WfM m := fun r hr k hk => by
  have := (h.2 _ (List.getElem_mem hr)).2 _ (List.getElem_mem hk)
  omega
theorem SmallM.size {m : List (List Int)} (h : SmallM m) : m.length + sumLen m ≤ 36 := by
  have : sumLen m ≤ m.length * 5 := by
    have h2 := h.2
    clear h
    induction m with
    | nil => simp [sumLen]
    | cons x l ih =>
      have e : sumLen (x :: l) = x.length + sumLen l := by simp [sumLen]
      have h1 := (h2 x (List.mem_cons_self ..)).1
      have h3 := ih fun y hy => h2 y (List.mem_cons_of_mem _ hy)
      rw [e, List.length_cons, Nat.succ_mul]; omega
  have := h.1
  omega
theorem BitsM.small {n cl : Nat} {m : List (List Int)} (h : BitsM n cl m) (hn : n ≤ 5) (hc : cl ≤ 5) : SmallM m :=
  ⟨by rw [h.1]; omega, fun X hX => ⟨by rw [(h.2 X hX).1]; exact hc, fun v hv => by have := (h.2 X hX).2 v hv; omega⟩⟩

theorem OwnM.grownR {w w' : World} {B n c R : Nat} {a : Option Addr} {rs : List At} {m : List (List Int)} (h : OwnM w B a n c rs m) (hg : w.grownBy w' (some R)) (hR : R < B) : OwnM w' B a n c rs m := by
  have key : ∀ {T s k c2 n2 : Nat} {a2 : Option Addr} {cs : List Value}, w.ownsRow B T s (.slice a2 k c2) n2 cs → w'.ownsRow B T s (.slice a2 k c2) n2 cs := by
    intro T s k c2 n2 a2 cs ho
    refine own_grown ho hg ?_
    intro e
    have := (ho.lt R e.symm).1
    omega
  exact ⟨h.1, h.2.1, key h.2.2.1, fun r h1 h2 => key (h.2.2.2.1 r h1 h2), h.2.2.2.2⟩
theorem own_grownR {w w' : World} {B R T s k c2 n2 : Nat} {a2 : Option Addr} {cs : List Value} (ho : w.ownsRow B T s (.slice a2 k c2) n2 cs) (hg : w.grownBy w' (some R)) (hR : R < B) : w'.ownsRow B T s (.slice a2 k c2) n2 cs :=
  own_grown ho hg fun e => by have := (ho.lt R e.symm).1; omega
theorem RdrAt.low {w w' : World} {R p B : Nat} (h : RdrAt w R p) (hb : Below B w w') (hR : R < B) : RdrAt w' R p := by
  obtain ⟨ab, nb, cb, bs, h1, h2, h3, h4, h5, h6⟩ := h
  refine ⟨ab, nb, cb, bs, (hb.block R hR).trans h1, h2, h3, ?_, h5, h6⟩
  by_cases hbs : bs = []
  · subst hbs; exact Rd.nil _ _
  · intro j u hu
    obtain ⟨b, off, e, hc⟩ := h4 j u hu
    have := h6 _ e hbs
    refine ⟨b, off, e, ?_⟩
    rw [hb.cell (p := ⟨b, off + j, none⟩) (by simp at this ⊢; omega)]; exact hc
theorem grown_low {w w1 w2 : World} {row : Option Nat} (h : w.grownBy w1 row) (hb : Below w.heap.size w1 w2) : w.grownBy w2 row :=
  ⟨hb.os.trans h.os, hb.tape.trans h.tape, hb.output.trans h.output, Nat.le_trans h.size hb.size, fun i hi hr => (hb.block i hi).trans (h.block i hi hr)⟩

set_option maxHeartbeats 4000000 in
theorem aMatrix_any (R p n cl : Nat) (w : World) (h : RdrAt w R p) (hp : p ≤ 1000000) (hn : n ≤ 5) (hcl : cl ≤ 5) :
    Calls Try.prog 173 #[.pointer (some ⟨R, 0, none⟩), .int .i64 n, .int .i64 cl] w fun e w' => ∃ (m : List (List Int)) (a : Option Addr) (c : Nat) (rs : List At) (p' : Nat), e = .returned (.slice a n c) ∧ BitsM n cl m ∧ OwnM w' w.heap.size a n c rs m ∧ RdrAt w' R p' ∧ p' ≤ p + 25 ∧ w.grownBy w' (some R) := by
  have hRw := h.lt
  have hA := below_alloc w (.cells #[] 38)
  have hM0 := ownM_nil w
  have hr0 := h.below hA
  have hg0 := below_grownby hA (some R)
  go_enter Try.func173, Try.ntmps173
  go_wp2
  go_loopw [7, 8, 9, 10] (fun v i _ _ wr => ∃ (k : Nat) (m : List (List Int)) (av : Option Addr) (cv : Nat) (rs : List At) (q : Nat), k ≤ n ∧ i = .int .i64 k ∧ v = .slice av k cv ∧ BitsM k cl m ∧ OwnM wr w.heap.size av k cv rs m ∧ RdrAt wr R q ∧ q ≤ p + k * cl ∧ w.grownBy wr (some R)) (fun _ i _ _ _ => n - (intOf i).toNat)
  case atStart => exact ⟨0, [], _, 0, [], p, by omega, rfl, rfl, bitsM_nil _, hM0, hr0, by omega, hg0⟩
  case round =>
    clear hM0 hr0 hg0 hA h
    obtain ⟨k, m, av, cv, rs, q, hk, rfl, rfl, hbm, hM, hr, hq, hg⟩ := hrel
    have hkc : k * cl ≤ 5 * 5 := Nat.mul_le_mul (by omega) hcl
    have hsz := hg.size
    by_cases hlt : k < n
    · have hA := below_alloc wr (.cells #[] 3)
      have hap0 : ApartA rs (some ⟨wr.heap.size, 0, none⟩) := ApartA.fresh hM.2.2.2.1 (by rw [hM.1, hM.2.1]) (fun x hx => by cases hx; exact Nat.le_refl _)
      have hM0 := hM.below hA
      have hr0 := hr.below hA
      have hg0 := grown_below hg hA
      have ho0 : (wr.alloc (.cells #[] 3)).ownsRow w.heap.size 3 1 (.slice (some ⟨wr.heap.size, 0, none⟩) 0 0) 0 (ints []) := by
        simpa [ints] using own_mono (World.ownsRow_made (e := 3) (size := 1) wr #[] 0 (Nat.le_refl wr.heap.size) (by decide) rfl) hsz
      have HSM := Lib.hid (show (k + 1) * cl = k * cl + cl from Nat.succ_mul k cl)
      obtain ⟨KC, hKC⟩ : ∃ KC, KC = k * cl := ⟨_, rfl⟩
      rw [← hKC] at hq hkc HSM
      clear hA hM hr hg hKC
      go_wp2
      go_loopw [9, 10] (fun v i wr => ∃ (j : Nat) (X : List Int) (ax : Option Addr) (cx q : Nat), j ≤ cl ∧ i = .int .i64 j ∧ v = .slice ax j cx ∧ Bits j X ∧ wr.ownsRow w.heap.size 3 1 (.slice ax j cx) j (ints X) ∧ ApartA rs ax ∧ OwnM wr w.heap.size av k cv rs m ∧ RdrAt wr R q ∧ q ≤ p + KC + j ∧ w.grownBy wr (some R)) (fun _ i _ => cl - (intOf i).toNat)
      case atStart => exact ⟨0, [], _, 0, q, by omega, rfl, rfl, ⟨rfl, by simp⟩, ho0, hap0, hM0, hr0, by omega, hg0⟩
      case round =>
        clear ho0 hap0 hM0 hr0 hg0 hq hsz
        obtain ⟨j, X, ax, cx, q, hj, rfl, rfl, hX, ho, hap, hM, hr, hq, hg⟩ := hrel
        have hsz := hg.size
        by_cases hlt2 : j < cl
        · have C1 := pick_any R q 2 wr hr (by omega) (by omega)
          go_wp2_with fail
          refine C1.mono ?_
          rintro e w1 ⟨v, rfl, hv, hr1, hg1⟩
          have hM1 := hM.grownR hg1 hRw
          have ho1 := own_grownR ho hg1 hRw
          have hg1 := grown_trans hg hg1
          have hsz1 := hg1.size
          have hb0 := (Below.refl w1.heap.size w1).mono hsz1
          have hXs : Bits (j + 1) (X ++ [(v : Int)]) := ⟨by rw [List.length_append, hX.1]; rfl, fun y hy => by
            rcases List.mem_append.1 hy with h1 | h1
            · exact hX.2 y h1
            · rw [List.mem_singleton.1 h1]; omega⟩
          clear C1 hM ho hr hg hsz
          go_wp2_with (at_builtin; refine appendRow _ _ rfl rfl hM1 hap ho1 hb0 (Nat.le_refl _) hsz1 rfl rfl (by omega) ?_; intro a' c' w5 hM5 hap5 ho5 hb5)
          have HR5 := Lib.hid (hr1.low hb5 hRw)
          have HG5 := Lib.hid (grown_low hg1 hb5)
          have HM5 := Lib.hid hM5
          have HO5 := Lib.hid ho5
          have HAP5 := Lib.hid hap5
          clear hM5 hap5 ho5 hM1 ho1 hap hr1 hb5 hb0 hg1
          go_roundw
          case rel => exact ⟨j + 1, X ++ [(v : Int)], a', c', q + 1, by omega, by go_num, rfl, hXs, HO5.out, HAP5.out, HM5.out, HR5.out, by omega, HG5.out⟩
          case measure => simp [intOf]; omega
        · obtain rfl : j = cl := by omega
          have hb0 := (Below.refl wr.heap.size wr).mono hsz
          go_wp2_with (at_builtin; refine pushRow _ _ rfl rfl hM hap hX.1 ho hb0 (Nat.le_refl _) hsz rfl rfl (by omega) ?_; intro a' c' w5 hM5 hb5)
          have HR5 := Lib.hid (hr.low hb5 hRw)
          have HG5 := Lib.hid (grown_low hg hb5)
          have HM5 := Lib.hid hM5
          have HBM := Lib.hid (hbm.snoc hX)
          clear hM5 hM ho hap hr hb5 hb0 hg
          go_roundw
          case rel => exact ⟨k + 1, m ++ [X], a', c', _, q, by omega, by go_num, rfl, HBM.out, HM5.out, HR5.out, by rw [HSM.out]; omega, HG5.out⟩
          case measure => simp [intOf]; omega
    · obtain rfl : k = n := by omega
      have HM := Lib.hid hM
      clear hM
      go_wp2
      go_ret
      exact ⟨m, av, cv, rs, q, rfl, hbm, HM.out, hr, by omega, hg⟩

end Go.Proofs.Ytjghcegacgpehaa
