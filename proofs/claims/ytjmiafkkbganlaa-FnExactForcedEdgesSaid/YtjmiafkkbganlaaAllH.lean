
/- The reference's allHave and ForcedEdges. (Printed by gen_allh.py.) -/
import Derived.Test.YtjmiafkkbganlaaForcI
namespace Go.Proofs.Ytjmiafkkbganlaa
open Go.RowKit

/-- The first graphs have an edge, and there is one. -/
def okU (gs : List (List N2)) (e : E2) (k : Nat) : Bool := decide (0 < gs.length) && (gs.take k).all fun g => hasB (en2 g) e.1 e.2
theorem okU_zero (gs : List (List N2)) (e : E2) : okU gs e 0 = decide (0 < gs.length) := by simp [okU]
theorem okU_succ {gs : List (List N2)} {e : E2} {k : Nat} (h : k < gs.length) : okU gs e (k + 1) = (okU gs e k && hasB (en2 (gs[k]'h)) e.1 e.2) := by
  rw [okU, okU, List.take_succ_eq_append_getElem h, List.all_append, List.all_cons, List.all_nil, Bool.and_true, Bool.and_assoc]

set_option maxHeartbeats 8000000 in
theorem allHave_any (N : Nat) (a : Option Addr) (c L : Nat) (gs : List (List N2)) (w : World) (hL : gs.length = L) (hx : RdG w a N gs) (hl : L ≤ 2097152) (hl2 : ∀ g ∈ gs, g.length ≤ 1000) (hN : N ≤ 7) :
    Calls Try.prog 64 #[.slice a L c, .int .i64 N] w fun e w' => ∃ a' c', e = .returned (.slice a' ((pairsL N).filter fun e => okU gs e L).length c') ∧
      w'.ownsRow w.heap.size 71 2 (.slice a' ((pairsL N).filter fun e => okU gs e L).length c') ((pairsL N).filter fun e => okU gs e L).length (edges ((pairsL N).filter fun e => okU gs e L)) ∧ Below w.heap.size w w' := by
  have hB := below_alloc w (.cells #[] 71)
  have hown := World.ownsRow_made (base := w.heap.size) (e := 71) (size := 2) w #[] 0 (Nat.le_refl _) (by decide) rfl
  have HP := Lib.hid (specPairs_any N (w.alloc (.cells #[] 71)) (by omega))
  have hpl := pairsL_len (N := N) (by omega)
  generalize hW : w.alloc (.cells #[] 71) = W at *
  have HW := Lib.hid hW
  clear hW
  obtain ⟨p, hp⟩ : ∃ p : E2 → Bool, p = fun e => okU gs e L := ⟨_, rfl⟩
  rw [← hp]
  have HPP := Lib.hid hp
  clear hp
  go_enter Try.func64, Try.ntmps64
  go_wp2_with (simp only [HW.out])
  refine HP.out.mono ?_
  rintro e w5 ⟨aL, cL, rfl, hoL, hb5⟩
  have hap : Apart aL (some ⟨w.heap.size, 0, none⟩) := (apart_of hown hoL).symm
  have hown5 := own_below hown hb5
  have hoL := own_mono hoL hB.size
  have hB5 := below_tr' hB hb5
  clear hown hb5 HP hB
  obtain ⟨Q, hQ⟩ : ∃ Q, Q = pairsL N := ⟨_, rfl⟩
  have HQ := Lib.hid hQ
  rw [← hQ] at hoL hpl
  obtain ⟨m, hm⟩ : ∃ m, m = Q.length := ⟨_, rfl⟩
  rw [← hm] at hoL hpl
  go_wp2_with fail
  rw [← HQ.out, ← hm]
  have HM := Lib.hid hm
  have HLL := Lib.hid hL
  clear hm hQ hL
  go_loopw [5, 7, 8, 9] (fun v i _ _ wr => ∃ (k : Nat) (av : Option Addr) (kv cv : Nat), k ≤ m ∧ i = .int .i64 k ∧ v = .slice av kv cv ∧ kv = (filtUpto Q p k).length ∧
      wr.ownsRow w.heap.size 71 2 (.slice av kv cv) kv (edges (filtUpto Q p k)) ∧
      wr.ownsRow w.heap.size 71 2 (.slice aL m cL) m (edges Q) ∧ Apart aL av ∧ Below w.heap.size w wr) (fun _ i _ _ _ => m - (intOf i).toNat)
  case atStart => exact ⟨0, _, 0, 0, by omega, rfl, rfl, by simp [filtUpto], hown5, hoL, hap, hB5⟩
  case round =>
    obtain ⟨k, av, kv, cv, hk, rfl, rfl, hkv, ho, hLo, hapr, hb⟩ := hrel
    by_cases hlt : k < m
    · have hLk : k < Q.length := by rw [← HM.out]; exact hlt
      obtain ⟨b1, o1, rfl, c1, c2⟩ := (own_rd hLo).edge (k := k) hLk
      have HY := Lib.hid (filt_yes (p := p) hLk)
      have HNo := Lib.hid (filt_no (p := p) hLk)
      have hkl := filt_len Q p k
      rw [← hkv] at hkl
      generalize hF : filtUpto Q p k = F at *
      have HF := Lib.hid hF
      generalize hXY : (Q[k]'hLk) = XY at *
      obtain ⟨X, Y⟩ := XY
      simp only at c1 c2
      have HKV := Lib.hid hkv
      have HO := Lib.hid ho
      have HLO := Lib.hid hLo
      have C1 := Lib.hid c1
      have C2 := Lib.hid c2
      clear hF hXY hkv ho hLo c1 c2
      have hz : decide ((0 : Int) < (L : Int)) = okU gs (X, Y) 0 := by rw [okU_zero, HLL.out]; simp
      go_wp2
      go_loopw [8, 9] (fun ok j wq => ∃ q : Nat, q ≤ L ∧ j = .int .i64 q ∧ ok = .bool (okU gs (X, Y) q) ∧ Below wr.heap.size wr wq) (fun _ j _ => L - (intOf j).toNat)
      case atStart => exact ⟨0, by omega, rfl, by rw [okU_zero, HLL.out], Below.refl _ _⟩
      case round =>
        obtain ⟨q, hq, rfl, rfl, hbq⟩ := hrel
        have c1 := (hbq.cell (p := ⟨b1, o1 + k * 2, none⟩) (Rd.lt C1.out)).trans C1.out
        have c2 := (hbq.cell (p := ⟨b1, o1 + k * 2 + 1, none⟩) (Rd.lt C2.out)).trans C2.out
        have hB6 := below_tr' hb hbq
        by_cases hlq : q < L
        · have hgq : q < gs.length := by rw [HLL.out]; exact hlq
          obtain ⟨b2, o2, ar, cr, ea, e1, e2, hrow⟩ := (hx.below hB6) q hgq
          have HS := Lib.hid (okU_succ (e := (X, Y)) hgq)
          have hgl := hl2 _ (List.getElem_mem hgq)
          generalize (gs[q]'hgq) = G at *
          subst ea
          have d1 := later_cell c1
          have d2 := later_cell c2
          have d3 := later_cell e1
          have d4 := later_cell e2
          have HEE := Lib.hid (fun u : Later wr => specHasEdge_any N ar cr G.length (en2 G) X Y u.val (en2_length G) (hrow.1.below u.ok) (by omega))
          clear c1 c2 e1 e2 hrow hz
          cases hok : okU gs (X, Y) q
          · rw [hok] at HS
            go_wp2
            refine wp_region_later (by kernel_rfl) (by kernel_rfl) ?_
            repeat (go_big_quiet_step (fail))
            refine wpQuiet_nil ?_
            intro w2 hw'
            have hb2 := below_tr' hbq (later_below hw')
            clear hw' d1 d2 d3 d4 HEE
            go_wp2
            go_roundw
            case rel => exact ⟨q + 1, by omega, by go_num, by rw [HS.out]; rfl, hb2⟩
            case measure => simp [intOf]; omega
          · rw [hok] at HS
            generalize hasB (en2 G) X Y = V at *
            go_wp2
            refine wp_region_later (by kernel_rfl) (by kernel_rfl) ?_
            repeat (go_big_quiet_step ((go_at_call 93; exact calls_later _ (HEE.out _))))
            refine wpQuiet_nil ?_
            intro w2 hw'
            have hb2 := below_tr' hbq (later_below hw')
            clear hw' d1 d2 d3 d4 HEE
            go_wp2
            go_roundw
            case rel => exact ⟨q + 1, by omega, by go_num, by rw [HS.out, Bool.true_and], hb2⟩
            case measure => simp [intOf]; omega
        · have eq : q = L := by omega
          subst eq
          have HPV := Lib.hid (show p (X, Y) = okU gs (X, Y) q by rw [HPP.out])
          have ho := own_below HO.out hbq
          have hLo := own_below HLO.out hbq
          have hsz := hB6.size
          clear hz
          cases hv : okU gs (X, Y) q
          · rw [hv] at HPV
            have HNo := Lib.hid (HNo.out HPV.out)
            have HO2 := Lib.hid ho
            have HLO2 := Lib.hid hLo
            clear c1 c2 ho hLo HY
            go_wp2
            go_roundw
            case rel => exact ⟨k + 1, av, kv, cv, by omega, by go_num, rfl, by rw [HNo.out]; exact HKV.out, by rw [HNo.out]; exact HO2.out, HLO2.out, hapr, hB6⟩
            case measure => simp [intOf]; omega
          · rw [hv] at HPV
            have HY := Lib.hid (HY.out HPV.out)
            clear HNo
            go_wp2_with (at_builtin; refine appendEg _ _ rfl rfl ho hsz rfl rfl (by omega) ?_; intro a' c' w2 ho2 hg2 hf2)
            have hL2 := own_kept hLo hg2 hapr
            have hb4 := below_row hB6 (Nat.le_refl _) ho hg2
            have hap2 := apart_append hapr (fun x hx => by cases hx; exact (own_lt hLo _ rfl).2) hf2
            go_roundw
            case rel => exact ⟨k + 1, a', kv + 1, c', by omega, by go_num, rfl, by rw [HY.out, List.length_append, ← HKV.out]; rfl, by rw [HY.out]; exact ho2, hL2, hap2, hb4⟩
            case measure => simp [intOf]; omega
    · have e : k = m := by omega
      subst e
      have hE : filtUpto Q p k = Q.filter p := by rw [HM.out]; exact filt_all _ _
      rw [hE] at ho hkv
      have HO := Lib.hid ho
      have HKV := Lib.hid hkv
      have HB := Lib.hid hb
      clear ho hkv hLo hE
      go_wp2
      go_ret
      exact ⟨av, cv, by rw [← HQ.out, ← HKV.out]; rfl, by rw [← HQ.out, ← HKV.out]; exact HO.out, HB.out⟩

theorem pairsL_small : ∀ n, n < 8 → (pairsL n).length ≤ 21 := by decide
theorem sols_in : ∀ {t : List N2} {L : List Nat} {es x : List N2}, x ∈ solsN t L es → (∀ e ∈ x, e ∈ es ∨ e ∈ t) ∧ x.length ≤ es.length + t.length := by
  intro t
  induction t with
  | nil =>
    intro L es x h
    rw [solsN] at h
    split at h
    · rw [List.mem_singleton.1 h]
      exact ⟨fun e he => .inl he, by omega⟩
    · simp at h
  | cons f t ih =>
    intro L es x h
    rw [solsN] at h
    rw [List.length_cons]
    rcases List.mem_append.1 h with h1 | h1
    · split at h1
      · obtain ⟨g1, g2⟩ := ih h1
        refine ⟨fun e he => ?_, by rw [List.length_append] at g2; simp at g2; omega⟩
        rcases g1 e he with g3 | g3
        · rcases List.mem_append.1 g3 with g4 | g4
          · exact .inl g4
          · rw [List.mem_singleton.1 g4]; exact .inr (List.mem_cons_self ..)
        · exact .inr (List.mem_cons_of_mem _ g3)
      · simp at h1
    · obtain ⟨g1, g2⟩ := ih h1
      exact ⟨fun e he => (g1 e he).imp id (List.mem_cons_of_mem _), by omega⟩
theorem reals_in {xs : List Int} (h : xs.length ≤ 7) : ∀ x ∈ realsN xs, (∀ e ∈ x, e.1 < e.2) ∧ x.length ≤ 1000 := by
  intro x hx
  obtain ⟨g1, g2⟩ := sols_in hx
  obtain ⟨_, _, _, p4, p5⟩ := pairsN_facts xs.length (by omega)
  refine ⟨fun e he => ?_, by simp at g2; omega⟩
  rcases g1 e he with h1 | h1
  · simp at h1
  · exact (p4 e h1).2.2
theorem allV_facts (xs : List Int) : (allV xs).length ≤ 2097152 ∧ (∀ g ∈ allV xs, g.length ≤ 1000) ∧ (∀ g ∈ allV xs, ∀ e ∈ g, e.1 < e.2) := by
  unfold allV
  split
  · rename_i h
    exact ⟨reals_len (by omega), fun g hg => (reals_in (by omega) g hg).2, fun g hg => (reals_in (by omega) g hg).1⟩
  · simp
theorem allV_seven (xs : List Int) : (allV xs).length = 0 ∨ xs.length ≤ 7 := by
  unfold allV
  split
  · rename_i h; exact .inr (by omega)
  · exact .inl rfl
theorem ok_have {gs : List (List N2)} (h0 : gs.length ≠ 0) (hlt : ∀ g ∈ gs, ∀ e ∈ g, e.1 < e.2) (x : E2) : okU gs x gs.length = allHaveB gs x := by
  rw [okU, allHaveB, List.take_length, show decide (0 < gs.length) = true from decide_eq_true (by omega), Bool.true_and, List.all_eq_not_any_not]
  congr 1
  rw [Bool.eq_iff_iff, List.any_eq_true, List.any_eq_true]
  have key : ∀ g ∈ gs, hasB (en2 g) x.1 x.2 = hasM (en2 g) x.1 x.2 := fun g hg => by
    refine hasB_hasM fun e he => ?_
    simp only [en2, List.mem_map] at he
    obtain ⟨f, hf, rfl⟩ := he
    have := hlt g hg f hf
    show ((f.1 : Nat) : Int) < ((f.2 : Nat) : Int)
    omega
  constructor
  · rintro ⟨g, hg, h⟩; exact ⟨g, hg, by rw [← key g hg]; exact h⟩
  · rintro ⟨g, hg, h⟩; exact ⟨g, hg, by rw [key g hg]; exact h⟩
theorem forc_eq (xs : List Int) : ((pairsL xs.length).filter fun e => okU (allV xs) e (allV xs).length) = forcL xs := by
  obtain ⟨_, _, hlt⟩ := allV_facts xs
  rw [forcL]
  by_cases h0 : (allV xs).length = 0
  · rw [if_pos h0, List.filter_eq_nil_iff]
    intro e _
    rw [okU, h0]
    simp
  · rw [if_neg h0]
    exact List.filter_congr fun x _ => ok_have h0 hlt x

set_option maxHeartbeats 2000000 in
theorem specForced_any (a : Option Addr) (c n : Nat) (xs : List Int) (w : World) (hn : xs.length = n) (hx : Rd w a (ints xs)) (hl : n ≤ 1048576) (hnil : a = none → n = 0 ∧ c = 0) :
    Calls Try.prog 39 #[.slice a n c] w fun e w' => ∃ a' d, e = .returned (.slice a' (forcL xs).length d) ∧ w'.ownsRow w.heap.size 71 2 (.slice a' (forcL xs).length d) (forcL xs).length (edges (forcL xs)) ∧ Below w.heap.size w w' := by
  have C1 := specValidDegrees_any a c n xs w hn hx (by omega)
  have hnone : ¬ (validD xs = true ∧ n ≤ 5) → forcL xs = [] := fun h => by
    have : allV xs = [] := by rw [allV, if_neg (by rw [hn]; exact h)]
    rw [forcL, this]; rfl
  by_cases hv : validD xs = true
  · have C2 := realizations_any a c n xs w hn hx hv hnil
    by_cases h5 : n ≤ 5
    · have hA : allV xs = realsN xs := by rw [allV, if_pos ⟨hv, by omega⟩]
      obtain ⟨f1, f2, _⟩ := allV_facts xs
      have hEQ := forc_eq xs
      rw [hA] at f1 f2 hEQ
      rw [hn] at hEQ
      have HR := Lib.hid hEQ
      rw [hv] at C1
      obtain ⟨G, hG⟩ : ∃ G, G = realsN xs := ⟨_, rfl⟩
      rw [← hG] at C2 f1 f2 HR
      have hd : decide ((5 : Int) < (n : Int)) = false := decide_eq_false (by omega)
      clear hv hx hnone hA hEQ hG hnil
      go_enter Try.func39, Try.ntmps39
      go_wp2_with fail
      refine C1.mono ?_
      rintro e w1 ⟨rfl, rfl⟩
      clear C1
      go_wp2_with fail
      refine C2.mono ?_
      rintro e w2 ⟨a2, c2, vs, rfl, hLG, hb⟩
      have C3 := allHave_any n a2 c2 G.length G w2 rfl hLG.rdG f1 f2 (by omega)
      rw [HR.out] at C3
      clear C2 hLG
      go_wp2_with fail
      refine C3.mono ?_
      rintro e w3 ⟨a3, c3, rfl, ho, hb3⟩
      have HO := Lib.hid (own_mono (B' := w1.heap.size) ho hb.size)
      have HB := Lib.hid (below_tr' hb hb3)
      clear C3 ho hb hb3 f1 f2
      go_wp2
      go_ret
      exact ⟨a3, c3, rfl, HO.out, HB.out⟩
    · have HR := Lib.hid (hnone (fun h => h5 h.2))
      have hd : decide ((5 : Int) < (n : Int)) = true := decide_eq_true (by omega)
      rw [hv] at C1
      clear hv hx hnone C2
      go_enter Try.func39, Try.ntmps39
      go_wp2_with fail
      refine C1.mono ?_
      rintro e w1 ⟨rfl, rfl⟩
      clear C1
      go_wp2
      go_ret
      exact ⟨none, 0, by rw [HR.out]; rfl, by rw [HR.out]; exact World.ownsRow_nil _ _ _ _, Below.refl _ _⟩
  · have HR := Lib.hid (hnone (fun h => hv h.1))
    rw [Bool.eq_false_iff.2 hv] at C1
    clear hv hx hnone
    go_enter Try.func39, Try.ntmps39
    go_wp2_with fail
    refine C1.mono ?_
    rintro e w1 ⟨rfl, rfl⟩
    clear C1
    go_wp2
    go_ret
    exact ⟨none, 0, by rw [HR.out]; rfl, by rw [HR.out]; exact World.ownsRow_nil _ _ _ _, Below.refl _ _⟩
theorem forcL_len (xs : List Int) : (forcL xs).length ≤ 1000 := by
  unfold forcL
  split
  · simp
  · rename_i h
    have h7 := (allV_seven xs).resolve_left h
    have h1 := List.length_filter_le (allHaveB (allV xs)) (pairsL xs.length)
    have h2 := pairsL_small xs.length (by omega)
    omega
theorem impl_forced (a : Option Addr) (c n : Nat) (xs : List Int) (w : World) (hn : xs.length = n) (hx : Rd w a (ints xs)) (hl : n ≤ 1048576) (hnil : a = none → n = 0 ∧ c = 0) :
    Calls Try.prog 40 #[.slice a n c] w fun e w' => ∃ a' c' d, e = .returned (.slice a' (forcL xs).length d) ∧ w'.ownsRow w.heap.size 71 2 (.slice a' (forcL xs).length c') (forcL xs).length (edges (forcL xs)) ∧ Below w.heap.size w w' :=
  (implForced_any a c n xs w hn hx hl hnil ⟨(allV_facts xs).1, (allV_facts xs).2.1⟩ (by rw [← hn]; exact allV_seven xs)).mono fun e w' ⟨a', d, h1, h2, h3⟩ => ⟨a', d, _, h1, h2, h3⟩

end Go.Proofs.Ytjmiafkkbganlaa
