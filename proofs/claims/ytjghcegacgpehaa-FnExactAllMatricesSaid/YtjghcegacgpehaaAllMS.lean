
/- The reference's AllMatrices. -/
import Derived.Test.YtjghcegacgpehaaFillR
namespace Go.Proofs.Ytjghcegacgpehaa
open Go.RowKit

theorem ListK.rdK {w : World} {B : Nat} {a : Option Addr} {c : Nat} {vs : List AtG} {ms : Cube} (h : ListK w B a c vs ms) : RdK w a ms := by
  intro r hr
  obtain ⟨h1, h2, h3⟩ := h
  have hv : r < vs.length := by omega
  obtain ⟨b, off, rfl, hc⟩ := own_rd h2 r _ (cellsX_get vs ms r hv hr)
  obtain ⟨⟨us, h4⟩, _⟩ := h3 r hv hr
  exact ⟨b, off, _, _, rfl, hc, SeeR.rdM h4⟩
set_option maxHeartbeats 4000000 in
theorem specAllM_any (a b : Option Addr) (ca cb n m : Nat) (r c : List Int) (w : World) (hn : r.length = n) (hm : c.length = m) (hr : Rd w a (ints r)) (hc : Rd w b (ints c)) (hl : n ≤ 1048576) (hl2 : m ≤ 1048576) :
    Calls Try.prog 59 #[.slice a n ca, .slice b m cb] w fun e w' => ∃ a' c', e = .returned (.slice a' (allM r c).length c') ∧ HoldsRK w'.heap.size a' (allM r c) w' ∧ Below w.heap.size w w' := by
  have C1 := specValidMargins_any a b ca cb n m r c w hn hm hr hc (by omega) (by omega)
  by_cases hv : vMarg r c = true ∧ n ≤ 4 ∧ m ≤ 4
  · obtain ⟨v1, v2, v3, v4⟩ := vMarg_facts hv.1
    have hd1 : decide ((4 : Int) < (n : Int)) = false := decide_eq_false (by omega)
    have hd2 : decide ((4 : Int) < (m : Int)) = false := decide_eq_false (by omega)
    have HR := Lib.hid (show allM r c = fillS (natsOf r) (natsOf c) [] by rw [allM, if_pos ⟨hv.1, by omega, by omega⟩, matsX, fillS_eq _ 0])
    rw [hv.1] at C1
    have b1 := natsOf_back fun x hx => (v3 x hx).1
    have b2 := natsOf_back fun x hx => (v4 x hx).1
    have s1 := natsOf_small v3
    have s2 := natsOf_small v4
    have l1 := natsOf_length r
    have l2 := natsOf_length c
    rw [hn] at v1 l1
    rw [hm] at v2 l2
    generalize natsOf r = R at *
    generalize natsOf c = Cc at *
    rw [← b1] at hr
    rw [← b2] at hc
    have hd3 := hv.2
    have hB1 := below_alloc w (.cells #[] 38)
    have hS : SeeR (w.alloc (.cells #[] 38)) (some ⟨w.heap.size, 0, none⟩) 0 [] [] := (listX_nil (T := 38) w (Nat.le_refl _)).see
    have C2 := fillRows_any n m ca a R l1 (by omega) (by omega) s1 R [] Cc [] (some ⟨w.heap.size, 0, none⟩) 0 0 [] b cb (w.alloc (.cells #[] 38)) (List.nil_append _) rfl rfl l2 s2 hS (fun X h => by simp at h) (hr.below hB1) (hc.below hB1)
    generalize fillS R Cc [] = ms at *
    clear hv v3 v4 b1 b2 hr hc s1 s2 l1 l2 hS
    go_enter Try.func59, Try.ntmps59
    go_wp2_with fail
    refine C1.mono ?_
    rintro e w1 ⟨rfl, rfl⟩
    clear C1
    go_wp2_with fail
    refine C2.mono ?_
    rintro e w2 ⟨a2, c2, vs, rfl, hL, hb⟩
    have HB := below_tr' hB1 hb
    have HK := Lib.hid (HoldsRK.of (ListK.rdK hL))
    clear C2 hL hb hB1
    go_wp2
    go_ret
    exact ⟨a2, c2, by rw [HR.out]; rfl, by rw [HR.out]; exact HK.out, HB⟩
  · have HR := Lib.hid (show allM r c = [] by rw [allM, if_neg (fun h => hv ⟨h.1, by omega, by omega⟩)])
    have HNIL := Lib.hid (fun (w1 : World) => (show HoldsRK w1.heap.size none [] w1 from HoldsRK.of (rdK_nil w1 none)))
    cases h1 : vMarg r c with
    | false =>
      rw [h1] at C1
      clear hv hr hc h1
      go_enter Try.func59, Try.ntmps59
      go_wp2_with fail
      refine C1.mono ?_
      rintro e w1 ⟨rfl, rfl⟩
      clear C1
      go_wp2
      go_ret
      exact ⟨none, 0, by rw [HR.out]; rfl, by rw [HR.out]; exact HNIL.out _, Below.refl _ _⟩
    | true =>
      rw [h1] at C1
      have hv2 : ¬ (n ≤ 4 ∧ m ≤ 4) := fun h => hv ⟨h1, h⟩
      clear hv hr hc h1
      by_cases h4 : n ≤ 4
      · have hd1 : decide ((4 : Int) < (n : Int)) = false := decide_eq_false (by omega)
        have hd2 : decide ((4 : Int) < (m : Int)) = true := decide_eq_true (by omega)
        clear hv2
        go_enter Try.func59, Try.ntmps59
        go_wp2_with fail
        refine C1.mono ?_
        rintro e w1 ⟨rfl, rfl⟩
        clear C1
        go_wp2
        go_ret
        exact ⟨none, 0, by rw [HR.out]; rfl, by rw [HR.out]; exact HNIL.out _, Below.refl _ _⟩
      · have hd1 : decide ((4 : Int) < (n : Int)) = true := decide_eq_true (by omega)
        clear hv2
        go_enter Try.func59, Try.ntmps59
        go_wp2_with fail
        refine C1.mono ?_
        rintro e w1 ⟨rfl, rfl⟩
        clear C1
        go_wp2
        go_ret
        exact ⟨none, 0, by rw [HR.out]; rfl, by rw [HR.out]; exact HNIL.out _, Below.refl _ _⟩

end Go.Proofs.Ytjghcegacgpehaa
