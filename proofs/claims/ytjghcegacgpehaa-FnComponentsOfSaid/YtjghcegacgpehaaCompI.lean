
/- The program's components; ComponentsOf and IsConnected on both sides. -/
import Derived.Test.YtjghcegacgpehaaCompR
import Derived.Test.YtjghcegacgpehaaMatC
namespace Go.Proofs.Ytjghcegacgpehaa
open Go.RowKit

def partK (L : List Nat) (r j : Nat) : List Nat := (List.range j).filter fun v => L.getD v 0 == r
theorem partK_yes {L : List Nat} {r j : Nat} (h : L.getD j 0 = r) : intsN (partK L r (j + 1)) = intsN (partK L r j) ++ [(j : Int)] := by
  simp only [partK, List.range_succ, List.filter_append, List.filter_cons, h]; simp [intsN]
theorem partK_no {L : List Nat} {r j : Nat} (h : L.getD j 0 ≠ r) : partK L r (j + 1) = partK L r j := by
  have : (L.getD j 0 == r) = false := by simpa using h
  simp only [partK, List.range_succ, List.filter_append, List.filter_cons, this]; simp
theorem partK_len (L : List Nat) (r j : Nat) : (partK L r j).length ≤ j := by
  have := List.length_filter_le (fun v => L.getD v 0 == r) (List.range j)
  simpa [partK] using this
/-- The components, the program's way. -/
def cpL (L : List Nat) (N k : Nat) : List (List Int) := (((List.range k).filter fun r => L.getD r 0 == r).map fun r => partK L r N).map intsN
theorem cpL_yes {L : List Nat} {N k : Nat} (h : L.getD k 0 = k) : cpL L N (k + 1) = cpL L N k ++ [intsN (partK L k N)] := by
  simp only [cpL, List.range_succ, List.filter_append, List.filter_cons, h]; simp
theorem cpL_no {L : List Nat} {N k : Nat} (h : L.getD k 0 ≠ k) : cpL L N (k + 1) = cpL L N k := by
  have : (L.getD k 0 == k) = false := by simpa using h
  simp only [cpL, List.range_succ, List.filter_append, List.filter_cons, this]; simp
theorem cpL_len (L : List Nat) (N k : Nat) : (cpL L N k).length ≤ k := by
  have := List.length_filter_le (fun r => L.getD r 0 == r) (List.range k)
  simpa [cpL] using this
theorem cpL_all {es : List E2} {N : Nat} (hok : Okay (ne2 es) N) : cpL (labels (ne2 es) N) N N = cpK es N N := by
  have h := comps_eq hok
  rw [cpK, show compsK (ne2 es) N N = compsS (ne2 es) N from rfl, h]
  rfl

set_option maxHeartbeats 8000000 in
theorem implComps_any (N : Nat) (a : Option Addr) (c n : Nat) (es : List E2) (w : World) (hN : N ≤ 7) (hE : ∀ k (h : k < es.length), 0 ≤ (es[k]'h).1 ∧ (es[k]'h).1 < (es[k]'h).2 ∧ (es[k]'h).2 < N) (hn : es.length = n) (hx : Rd w a (edges es)) (hl : n ≤ 1048576) :
    Calls Try.prog 101 #[graphV N a n c] w fun e w' => ∃ a', e = .returned (.slice a' (cpK es N N).length (cpK es N N).length) ∧ HoldsM w.heap.size w'.heap.size a' (cpK es N N).length (cpK es N N) w' ∧ Below w.heap.size w w' := by
  have hB := below_alloc w (.cells #[.int .i64 N, .slice a n c] 25)
  have q0 := heap_alloc_new w (.cells #[.int .i64 N, .slice a n c] 25)
  have hx1 := hx.below hB
  have hok := ne2_okay hE
  have C1 := roots_any N a c n es (w.alloc (.cells #[.int .i64 N, .slice a n c] 25)) hN hE hn hx1 hl
  have HALL := Lib.hid (cpL_all hok)
  generalize hW : w.alloc (.cells #[.int .i64 N, .slice a n c] 25) = W at *
  have HW := Lib.hid hW
  clear hW hx hx1 hE hok
  have g0 := blk_cell q0 0 (.int .i64 N) rfl
  have g1 := blk_cell q0 1 (.slice a n c) rfl
  go_enter Try.func101, Try.ntmps101
  go_wp2_with (simp only [HW.out])
  refine C1.mono ?_
  rintro e w1 ⟨aR, cR, rfl, ho, hb⟩
  clear C1 g0 g1
  have g0 := blk_cell (blk_below q0 hb) 0 (.int .i64 N) rfl
  have hB1 := below_tr' hB hb
  have hRd := own_rd ho
  generalize labels (ne2 es) N = L at *
  have HX := Lib.hid (fun (wr : World) (hb : Below w1.heap.size w1 wr) => hRd.below hb)
  have HLL := Lib.hid (show L.length = N by have := ho.1; rw [ints_length, intsN_length] at this; omega)
  have hM0 := ownC_none w1 w1.heap.size
  have hbA := Below.refl w1.heap.size w1
  clear ho hb q0 hRd hB
  go_wp2
  go_loopw [3, 5, 6, 7, 8, 13, 24] (fun v _ _ _ _ i _ wr => ∃ (k : Nat) (av : Option Addr) (cv : Nat) (rs vs : List At), k ≤ N ∧ i = .int .i64 k ∧ v = .slice av (cpL L N k).length cv ∧ OwnC wr w1.heap.size av (cpL L N k).length cv rs vs (cpL L N k) ∧ Below w1.heap.size w1 wr) (fun _ _ _ _ _ i _ _ => N - (intOf i).toNat)
  case atStart => exact ⟨0, none, 0, [], [], by omega, rfl, rfl, by simpa [cpL] using hM0, hbA⟩
  case round =>
    clear hM0 hbA g0
    obtain ⟨k, av, cv, rs, vs, hk, rfl, rfl, hM, hb⟩ := hrel
    by_cases hlt : k < N
    · have hkl := cpL_len L N k
      have hLk : k < (intsN L).length := by rw [intsN_length, HLL.out]; exact hlt
      obtain ⟨b1, o1, ea, c1⟩ := (HX.out _ hb).int hLk
      subst ea
      have hgk : (intsN L)[k]'hLk = ((L.getD k 0 : Nat) : Int) := by
        rw [intsN_length] at hLk
        simp [intsN, List.getD_eq_getElem?_getD, List.getElem?_eq_getElem hLk]
      rw [hgk] at c1
      have HYes := Lib.hid (fun h => @cpL_yes L N k h)
      have HNo := Lib.hid (fun h => @cpL_no L N k h)
      obtain ⟨p, hp⟩ : ∃ p, L.getD k 0 = p := ⟨_, rfl⟩
      rw [hp] at c1
      clear hgk hLk
      obtain ⟨P, hP⟩ : ∃ P, cpL L N k = P := ⟨_, rfl⟩
      rw [hP] at hkl hM HYes HNo ⊢
      clear hP
      by_cases hpk : p = k
      · subst hpk
        have hbq : ((p : Int) != (p : Int)) = false := by simp
        have HR := Lib.hid (HYes.out hp)
        have HRL := Lib.hid (show (cpL L N (p + 1)).length = P.length + 1 by rw [HR.out, List.length_append]; rfl)
        have hM0 := hM
        have hb0 := hb
        have hr0 : wr.ownsRow w1.heap.size 3 1 (.slice none 0 0) 0 (ints (intsN (partK L p 0))) := World.ownsRow_nil _ _ _ _
        have ha0 : ApartA rs none := fun r h x y _ hy => by cases hy
        have hsz := hb.size
        clear HYes HNo hp hM hb
        go_wp2
        go_loopw [6, 7, 8, 24] (fun v _ _ i wr => ∃ (j : Nat) (ap : Option Addr) (cp : Nat), j ≤ N ∧ i = .int .i64 j ∧ v = .slice ap (partK L p j).length cp ∧ wr.ownsRow w1.heap.size 3 1 (.slice ap (partK L p j).length cp) (partK L p j).length (ints (intsN (partK L p j))) ∧ ApartA rs ap ∧ OwnC wr w1.heap.size av P.length cv rs vs P ∧ Below w1.heap.size w1 wr) (fun _ _ _ i _ => N - (intOf i).toNat)
        case atStart => exact ⟨0, none, 0, by omega, rfl, rfl, hr0, ha0, hM0, hb0⟩
        case round =>
          clear hM0 hb0 hr0 ha0 c1 hsz
          obtain ⟨j, ap, cp, hj, rfl, rfl, ho, hap, hM, hb⟩ := hrel
          have hsz := hb.size
          by_cases hlt2 : j < N
          · have hLj : j < (intsN L).length := by rw [intsN_length, HLL.out]; exact hlt2
            obtain ⟨b2, o2, e2, c2⟩ := (HX.out _ hb).int hLj
            cases e2
            have hgj : (intsN L)[j]'hLj = ((L.getD j 0 : Nat) : Int) := by
              rw [intsN_length] at hLj
              simp [intsN, List.getD_eq_getElem?_getD, List.getElem?_eq_getElem hLj]
            rw [hgj] at c2
            have hpl := partK_len L p j
            have HY := Lib.hid (fun h => @partK_yes L p j h)
            have HN := Lib.hid (fun h => @partK_no L p j h)
            obtain ⟨q, hq⟩ : ∃ q, L.getD j 0 = q := ⟨_, rfl⟩
            rw [hq] at c2
            clear hgj hLj
            obtain ⟨S, hS⟩ : ∃ S, partK L p j = S := ⟨_, rfl⟩
            rw [hS] at ho hpl HY HN ⊢
            clear hS
            by_cases hqp : q = p
            · subst hqp
              have hbj : ((q : Int) == (q : Int)) = true := by simp
              have HRj := Lib.hid (HY.out hq)
              have HRLj := Lib.hid (show (partK L q (j + 1)).length = S.length + 1 by have := congrArg List.length HRj.out; simpa [intsN_length] using this)
              clear HY HN
              go_wp2_with (at_builtin; refine appendRowC _ _ rfl rfl hM hap ho hb (Nat.le_refl _) hsz rfl rfl (by omega) ?_; intro a' c' w5 hM5 hap5 ho5 hb5)
              have HM5 := Lib.hid hM5
              have HAP5 := Lib.hid hap5
              have HO5 := Lib.hid ho5
              clear hM5 hap5 ho5 hM hap ho c2
              go_roundw
              case rel => exact ⟨j + 1, a', c', by omega, by go_num, by rw [HRLj.out], by rw [HRLj.out, HRj.out]; exact HO5.out, HAP5.out, HM5.out, hb5⟩
              case measure => simp [intOf]; omega
            · have hbj : ((q : Int) == (p : Int)) = false := beq_eq_false_iff_ne.2 (by omega)
              have HRj := Lib.hid (HN.out (by rw [hq]; exact hqp))
              have HM5 := Lib.hid hM
              have HAP5 := Lib.hid hap
              have HO5 := Lib.hid ho
              clear HY HN hM hap ho
              go_wp2
              clear c2
              go_roundw
              case rel => exact ⟨j + 1, ap, cp, by omega, by go_num, by rw [HRj.out], by rw [HRj.out]; exact HO5.out, HAP5.out, HM5.out, hb⟩
              case measure => simp [intOf]; omega
          · obtain rfl : j = N := by omega
            have hsl := partK_len L p j
            obtain ⟨S, hS⟩ : ∃ S, partK L p j = S := ⟨_, rfl⟩
            rw [hS] at ho hsl HR ⊢
            clear hS
            have hsh := own_shape ho
            have C2 := Clip_any ap cp S.length wr hsh.1 (by omega)
            go_wp2_with fail
            refine C2.mono ?_
            rintro e w3 ⟨rfl, rfl⟩
            clear C2
            go_wp2_with (at_builtin; refine pushRowC _ _ rfl rfl hM hap (by rw [intsN_length]) ho ⟨Nat.le_refl _, hsh.1⟩ hb (Nat.le_refl _) hsz rfl rfl (by omega) ?_; intro a' c' w5 hM5 hb5)
            have HM5 := Lib.hid hM5
            clear hM5 hM hap ho
            go_roundw
            case rel => exact ⟨p + 1, a', c', _, _, by omega, by go_num, by rw [HRL.out], by rw [HRL.out, HR.out]; exact HM5.out, hb5⟩
            case measure => simp [intOf]; omega
      · have hbq : ((p : Int) != (k : Int)) = true := by simp; omega
        have HR := Lib.hid (HNo.out (by rw [hp]; exact hpk))
        have HM5 := Lib.hid hM
        clear HYes HNo hM
        go_wp2
        clear c1
        go_roundw
        case rel => exact ⟨k + 1, av, cv, rs, vs, by omega, by go_num, by rw [HR.out], by rw [HR.out]; exact HM5.out, hb⟩
        case measure => simp [intOf]; omega
    · obtain rfl : k = N := by omega
      have hkl := cpL_len L k k
      rw [HALL.out] at hM hkl ⊢
      have hsh := own_shape hM.2.2.2.2.1
      have hHM := HoldsM.of (hM.mono hB1.size) (Nat.le_refl w.heap.size)
      have HHM := Lib.hid hHM
      have C2 := ClipII_any av cv (cpK es k k).length wr hsh.1 (by omega)
      have HBF := below_tr' hB1 hb
      clear hM hHM
      go_wp2_with fail
      refine C2.mono ?_
      rintro e w3 ⟨rfl, rfl⟩
      clear C2
      go_wp2
      go_ret
      exact ⟨av, rfl, HHM.out, HBF⟩

end Go.Proofs.Ytjghcegacgpehaa
