
/- The program's subgraphs: the walk by induction over the edges. -/
import Derived.Test.YtjghcegacgpehaaSubW2
import Derived.Deep.Cut
namespace Go.Proofs.Ytjghcegacgpehaa
open Go.RowKit

theorem en2_get {fs : List N2} {i : Nat} (h : i < fs.length) : (en2 fs)[i]'(by rw [en2_length]; exact h) = (((fs[i]'h).1 : Int), ((fs[i]'h).2 : Int)) := by simp [en2]
theorem may_false {L : List Nat} {x y : Nat} (h : ¬ (0 < L.getD x 0 ∧ 0 < L.getD y 0)) : mayN L (x, y) = false := by
  cases hm : mayN L (x, y)
  · rfl
  · simp only [mayN, Bool.and_eq_true, decide_eq_true_eq] at hm
    exact absurd hm h
theorem may_true {L : List Nat} {x y : Nat} (h : 0 < L.getD x 0 ∧ 0 < L.getD y 0) : mayN L (x, y) = true := by
  simp only [mayN, Bool.and_eq_true, decide_eq_true_eq]; exact h

theorem set_le {L : List Nat} {k v : Nat} (h : v ≤ L.getD k 0) (u : Nat) : (L.set k v).getD u 0 ≤ L.getD u 0 := by
  rw [List.getD_eq_getElem?_getD, List.getD_eq_getElem?_getD, List.getElem?_set]
  rw [List.getD_eq_getElem?_getD] at h
  split
  · rename_i e
    subst e
    split
    · exact h
    · simp
  · exact Nat.le_refl _

section
variable {σ : Type} {St : σ → List Nat → World → Prop} {go : σ → List N2 → σ × Bool} {sz : σ → Nat} {M : Nat} {P : WalkP}
set_option maxHeartbeats 16000000 in
theorem walk_any (hK : Keeps St) (hT : Takes P.K P.cap P.N M sz St go) (hgo : ∀ s x, sz (go s x).1 ≤ sz s + 1) (hP : WalkOK P) : ∀ (t pre : List N2) (L : List Nat) (es : List N2) (s : σ) (l : List Nat) (ac : Option Addr) (cc : Nat) (w : World), pre ++ t = P.fs → es.length + t.length ≤ 900 → L.length = P.N → (∀ v, L.getD v 0 ≤ 900) →
    sz s + (solsN t L es).length ≤ M → WalkSt P L es ac cc w → St s l w → SepW P ac l →
    Calls Try.prog 186 (#[.int .i64 (pre.length : Int)] ++ #[.pointer (some ⟨P.bf, 0, none⟩), .pointer (some ⟨P.bl, 0, none⟩), .pointer (some ⟨P.bk, 0, none⟩), .pointer (some ⟨P.bn, 0, none⟩), .pointer (some ⟨P.bc, 0, none⟩), .pointer (some ⟨P.bw, 0, none⟩)]) w
      fun e w' => WalkDoes St go P t L es s l ac w e w' := by
  intro t
  induction t with
  | nil =>
    intro pre L es s l ac cc w hpre hes hL hLb hM hW hS hsep
    have hl : pre.length = P.nf := by rw [← hP.nf, ← hpre, List.append_nil]
    rw [hl]
    exact walk_nil hK hT hP L es s l ac cc w (by simpa using hes) hL hM hW hS hsep
  | cons e t ih =>
    intro pre L es s l ac cc w hpre hes hL hLb hM hW hS hsep
    obtain ⟨x, y⟩ := e
    have hi : pre.length < P.fs.length := by rw [← hpre, List.length_append, List.length_cons]; omega
    have hfe : P.fs[pre.length]'hi = (x, y) := by
      have : (pre ++ (x, y) :: t)[pre.length]'(by rw [hpre]; exact hi) = (x, y) := by simp
      simpa only [hpre] using this
    have hb3 := hP.fsb (x, y) (by rw [← hpre]; simp)
    have hpre2 : (pre ++ [(x, y)]) ++ t = P.fs := by rw [← hpre]; simp
    have hlen2 : (((pre ++ [(x, y)]).length : Nat) : Int) = (pre.length : Int) + 1 := by simp
    simp only at hb3
    obtain ⟨hx, hy, hxy⟩ := hb3
    obtain ⟨g, hal, hgB, hgw⟩ := own_head hW.ol (by omega)
    obtain ⟨b1, o1, haf, c1, c2⟩ := hW.rf.edge (k := pre.length) (by rw [en2_length]; exact hi)
    rw [en2_get hi, hfe] at c1 c2
    simp only at c1 c2
    have hnf := hP.nf
    have hnfb := hP.nfb
    have hN7 := hP.N7
    have IH := Lib.hid (ih (pre ++ [(x, y)]))
    rw [hlen2] at IH
    have HPRE := Lib.hid hpre2
    obtain ⟨i, hii⟩ : ∃ i, i = pre.length := ⟨_, rfl⟩
    rw [← hii] at IH hi c1 c2 ⊢
    clear ih hpre hpre2 hlen2 hfe hii
    obtain ⟨B, bn, bf, bk, bl, bc, bw, N, nf, cf, af, K, cap, al, cl, cv, fs⟩ := P
    simp only at hx hy hal haf hnf hnfb hN7 hL hi
    subst hal haf
    obtain ⟨m1, m2, m3, m4, m5, m6⟩ := mem_vars ⟨B, bn, bf, bk, bl, bc, bw, N, nf, cf, some ⟨b1, o1, none⟩, K, cap, some ⟨g, 0, none⟩, cl, cv, fs⟩
    have hvl := hW.vlt
    have hA := below_alloc w (.cells #[.int .i64 (x : Int), .int .i64 (y : Int)] 48)
    have qE := heap_alloc_new w (.cells #[.int .i64 (x : Int), .int .i64 (y : Int)] 48)
    have hWA := hW.below hA
    have hSA := hK.stay _ _ _ _ hS (fun j hj => hA.block j (hK.lt _ _ _ hS j hj))
    have hlt := hK.lt _ _ _ hS
    have hFA := FrL.of_below hA (l ++ bc :: (blks (some ⟨g, 0, none⟩) ++ blks ac))
    have hgA : g < w.heap.size := hgw
    generalize hV : w.alloc (.cells #[.int .i64 (x : Int), .int .i64 (y : Int)] 48) = WA at *
    have HWA := Lib.hid hV
    clear hV
    have k1 := blk_cell hW.hf 0 (.slice (some ⟨b1, o1, none⟩) nf cf) rfl
    have k2 := blk_cell hWA.hl 0 (.slice (some ⟨g, 0, none⟩) N cv) rfl
    have k3 := blk_cell hWA.hw 0 (WalkP.fn ⟨B, bn, bf, bk, bl, bc, bw, N, nf, cf, some ⟨b1, o1, none⟩, K, cap, some ⟨g, 0, none⟩, cl, cv, fs⟩) rfl
    simp only [WalkP.fn] at k3
    have e0 := blk_cell qE 0 (.int .i64 (x : Int)) rfl
    have e1 := blk_cell qE 1 (.int .i64 (y : Int)) rfl
    have a1 := own_natAt hWA.ol x hx
    have a2 := own_natAt hWA.ol y hy
    have hne : ((i : Int) == (nf : Int)) = false := beq_eq_false_iff_ne.2 (by omega)
    have hEW : ∀ args w, (callFunc 186 args).run Try.prog w = .ok (.enter 186 args) w := enters_walk
    by_cases hmay : 0 < L.getD x 0 ∧ 0 < L.getD y 0
    · have hm := may_true hmay
      have hsol : solsN ((x, y) :: t) L es = solsN t (stepN L (x, y)) (es ++ [(x, y)]) ++ solsN t L es := by rw [solsN, if_pos hm]
      have HR1 := Lib.hid (fun (h : (walkN go t (stepN L (x, y)) (es ++ [(x, y)]) s).2 = true) => show walkN go ((x, y) :: t) L es s = walkN go t L es (walkN go t (stepN L (x, y)) (es ++ [(x, y)]) s).1 by rw [walkN, if_pos hm, if_pos h])
      have HR0 := Lib.hid (fun (h : (walkN go t (stepN L (x, y)) (es ++ [(x, y)]) s).2 = false) => show walkN go ((x, y) :: t) L es s = ((walkN go t (stepN L (x, y)) (es ++ [(x, y)]) s).1, false) by rw [walkN, if_pos hm, if_neg (by rw [h]; decide)])
      have HSZ := Lib.hid (walkN_size hgo t (stepN L (x, y)) (es ++ [(x, y)]) s)
      rw [hsol, List.length_append] at hM
      obtain ⟨p, hp⟩ : ∃ p, L.getD x 0 = p + 1 := ⟨L.getD x 0 - 1, by omega⟩
      obtain ⟨q, hq⟩ : ∃ q, L.getD y 0 = q + 1 := ⟨L.getD y 0 - 1, by omega⟩
      have hpb : p ≤ 900 := by have := hLb x; omega
      have hqb : q ≤ 900 := by have := hLb y; omega
      have HLB2 := Lib.hid (show ∀ v, ((L.set x p).set y q).getD v 0 ≤ 900 from fun v => Nat.le_trans (set_le (by rw [sub_get hxy]; omega) v) (Nat.le_trans (set_le (by omega) v) (hLb v)))
      have HLB := Lib.hid hLb
      have hst : stepN L (x, y) = (L.set x p).set y q := by simp only [stepN, hp, hq, Nat.add_sub_cancel]
      have HBK := Lib.hid (show (((L.set x p).set y q).set x (p + 1)).set y (q + 1) = L by
        have h := sub_back (L := L) (x := x) (y := y) (by rw [hL]; exact hx) (by rw [hL]; exact hy)
        rw [hp, hq] at h
        exact h)
      rw [hst] at HR1 HR0 HSZ hM
      have HLL := Lib.hid (show ((L.set x p).set y q).length = N by simp [hL])
      have HQ := Lib.hid (show (L.set x p).getD y 0 = q + 1 by rw [sub_get hxy, hq])
      have HG2 := Lib.hid (show ((L.set x p).set y q).getD x 0 = p by rw [sub_get (Ne.symm hxy), sub_self (by rw [hL]; exact hx)])
      have HG3 := Lib.hid (show (((L.set x p).set y q).set x (p + 1)).getD y 0 = q by rw [sub_get hxy, sub_self (by rw [List.length_set, hL]; exact hy)])
      have c1N : (((p + 1 : Nat)) : Int) = (p : Int) + 1 := by omega
      have c2N : (((q + 1 : Nat)) : Int) = (q : Int) + 1 := by omega
      rw [hp, c1N] at a1
      rw [hq, c2N] at a2
      have hd1 : decide ((0 : Int) < (p : Int) + 1) = true := decide_eq_true (by omega)
      have hd2 : decide ((0 : Int) < (q : Int) + 1) = true := decide_eq_true (by omega)
      have HL0 := Lib.hid hL
      have hgA2 : g < WA.heap.size := Nat.lt_of_lt_of_le hgw hA.size
      have hgE : w.heap.size ≠ g := by omega
      have f1 := hWA.ol.frozenAt x
      have H1 := Lib.hid (hWA.left hP rfl x p (p : Int) rfl)
      have F1 := Lib.hid (FrL.set WA g x (.int .i64 (p : Int)) (bc :: (blks (some ⟨g, 0, none⟩) ++ blks ac)) (by simp [blks]))
      have QE1 := Lib.hid (blk_set_other qE x (.int .i64 (p : Int)) hgE)
      have KS := Lib.hid hsep
      have HW0 := Lib.hid hW
      have HSA := Lib.hid hSA
      have hs0 := hA.size
      have HMM := Lib.hid hM
      have HES := Lib.hid hes
      have HFA := Lib.hid hFA
      clear hp hq hst hm hmay hsol hL hLb hM hes hFA hW hWA hS hSA hA qE hsep c1N c2N
      go_enter Try.func186, Try.ntmps186
      go_upto_region 6 with (simp only [HWA.out])
      have ho1 := H1.out.ol
      have a2 := own_natAt ho1 y hy
      rw [HQ.out, show (((q + 1 : Nat)) : Int) = (q : Int) + 1 from by omega] at a2
      have f2 := ho1.frozenAt y
      have e0' := blk_cell QE1.out 1 (.int .i64 (y : Int)) rfl
      have H2 := Lib.hid (H1.out.left hP rfl y q (q : Int) rfl)
      have kl := blk_cell H1.out.hl 0 (.slice (some ⟨g, 0, none⟩) N cv) rfl
      have hgs1 : w.heap.size ≤ (WA.setCell ⟨g, x, none⟩ (.int .i64 (p : Int))).heap.size := by simp; omega
      simp only at kl
      generalize hV1 : WA.setCell ⟨g, x, none⟩ (.int .i64 (p : Int)) = w1 at *
      have F2 := Lib.hid (F1.out.trans (FrL.set w1 g y (.int .i64 (q : Int)) (bc :: (blks (some ⟨g, 0, none⟩) ++ blks ac)) (by simp [blks])))
      have QE2 := Lib.hid (blk_set_other QE1.out y (.int .i64 (q : Int)) hgE)
      clear hV1 f1 a1 k1 k2 k3 c1 c2 e0 e1 hd1 hd2 ho1
      go_upto_region 7 with (fail)
      have hgs2 : w.heap.size ≤ (w1.setCell ⟨g, y, none⟩ (.int .i64 (q : Int))).heap.size := by simp; omega
      generalize hV2 : w1.setCell ⟨g, y, none⟩ (.int .i64 (q : Int)) = w2 at *
      have hw2 := H2.out
      have kc := blk_cell hw2.hc 0 (.slice ac es.length cc) rfl
      have e0 := blk_cell QE2.out 0 (.int .i64 (x : Int)) rfl
      have e1 := blk_cell QE2.out 1 (.int .i64 (y : Int)) rfl
      have ho2 := hw2.oc
      have hBw : B ≤ w2.heap.size := by have h1 : B ≤ g := (own_blks hw2.ol g (by simp [blks])).1; have h2 := (own_blks hw2.ol g (by simp [blks])).2; omega
      have hesn : es.length + 1 ≤ 8796093022208 := by have := HES.out; omega
      simp only at kc ho2
      have hEac : w.heap.size ∉ blks ac := fun h' => by
        have h1 := (own_blks HW0.out.oc _ h').2
        omega
      have hEbc : w.heap.size ≠ bc := fun h' => by have := hvl _ m5; simp only at this; omega
      clear hV2 f2 a2 kl e0'
      go_upto_region 8 with (at_builtin; refine appendEg _ _ rfl rfl ho2 hBw rfl rfl hesn ?_; intro a' c' w3 ho3 hg3 hf3; obtain ⟨hW4, hF4, hnew4⟩ := H2.out.push (a' := a') (c' := c') hP (x, y) ho3 hg3 hf3; have hq3 := blk_grown H2.out.hc hg3 (fun e => (H2.out.sv _ m5).2 (blks_own e.symm)); have kc3 := blk_cell hq3 0 (.slice ac es.length cc) rfl; have fc3 := blk_free hq3 0; have H4 := Lib.hid (And.intro hW4 (And.intro hF4 hnew4)); simp only at kc3; clear hW4 hF4 hnew4 hq3 ho3 hg3 hf3)
      have hgs4 : w2.heap.size ≤ (w3.setCell ⟨bc, 0, none⟩ (.slice a' (es.length + 1) c')).heap.size := H4.out.2.1.size
      generalize hV4 : w3.setCell ⟨bc, 0, none⟩ (.slice a' (es.length + 1) c') = w4 at *
      clear hV4 kc3 fc3 kc e0 e1 ho2 hw2
      have F4 := Lib.hid (F2.out.trans (H4.out.2.1.mono (fun j hj => by simp only [List.mem_append, List.mem_cons] at hj ⊢; rcases hj with h | h; exact .inl h; exact .inr (.inr h))))
      have QE4 := Lib.hid (H4.out.2.1.blk QE2.out (by simp only [List.mem_cons, not_or]; exact ⟨hEbc, hEac⟩))
      have hsep4 : SepW ⟨B, bn, bf, bk, bl, bc, bw, N, nf, cf, some ⟨b1, o1, none⟩, K, cap, some ⟨g, 0, none⟩, cl, cv, fs⟩ a' l := fun j hj => ⟨(KS.out j hj).1, (KS.out j hj).2.1, fun h' => by
        rcases H4.out.2.2 j h' with h1 | h1
        · exact (KS.out j hj).2.2.1 h1
        · have := hlt j hj; omega, (KS.out j hj).2.2.2⟩
      have hnW0 : ∀ j ∈ l, j ∉ (bc :: (blks (some ⟨g, 0, none⟩) ++ blks ac)) := fun j hj h' => by
        obtain ⟨n1, n2, n3, n4⟩ := KS.out j hj
        simp only [List.mem_cons, List.mem_append] at h'
        rcases h' with h1 | h1 | h1
        · exact n1 (h1 ▸ m5)
        · exact n2 h1
        · exact n3 h1
      have hS4 := hK.stay _ _ _ _ HSA.out (fun j hj => (F4.out.block j (by have := hlt j hj; omega) (hnW0 j hj)))
      have C1 := IH.out ((L.set x p).set y q) (es ++ [(x, y)]) s l a' c' w4 HPRE.out (by have := HES.out; simp at this ⊢; omega) HLL.out HLB2.out (by have := HMM.out; omega) H4.out.1 hS4 hsep4
      have k3 := blk_cell H4.out.1.hw 0 (WalkP.fn ⟨B, bn, bf, bk, bl, bc, bw, N, nf, cf, some ⟨b1, o1, none⟩, K, cap, some ⟨g, 0, none⟩, cl, cv, fs⟩) rfl
      simp only [WalkP.fn] at k3
      go_wp2_with fail
      refine C1.mono ?_
      rintro e' w5 ⟨rfl, ac5, cc5, l5, hW5, hS5, hsep5, hl5, hac5, hF5⟩
      obtain ⟨V, hV⟩ : ∃ V, (walkN go t ((L.set x p).set y q) (es ++ [(x, y)]) s).2 = V := ⟨_, rfl⟩
      rw [hV]
      have HV := Lib.hid hV
      have F5 := Lib.hid hF5
      have H5 := Lib.hid hW5
      have S5 := Lib.hid hS5
      have P5 := Lib.hid hsep5
      have L5 := Lib.hid hl5
      have A5 := Lib.hid hac5
      have QE5 := Lib.hid (hF5.blk QE4.out (fun h' => by
        simp only [List.mem_cons, List.mem_append] at h'
        rcases h' with h1 | h1 | h1 | h1
        · have := hlt _ h1; omega
        · exact hEbc h1
        · simp [blks] at h1; omega
        · rcases H4.out.2.2 _ h1 with h2 | h2
          · exact hEac h2
          · have := blk_lt QE2.out; omega))
      obtain ⟨h5, ea5, _, _⟩ := own_head hW5.oc (by simp)
      subst ea5
      have hcap5 := own_capE hW5.oc
      have kc5 := blk_cell hW5.hc 0 (.slice (some ⟨h5, 0, none⟩) (es ++ [(x, y)]).length cc5) rfl
      have fc5 := blk_free hW5.hc 0
      rw [List.length_append, List.length_singleton] at hcap5 kc5
      simp only at kc5 fc5
      have H6 := Lib.hid (hW5.pop hP)
      have hgs5 : w4.heap.size ≤ w5.heap.size := hF5.size
      have hle : es.length ≤ 900 := by have := HES.out; omega
      clear hV hW5 hS5 hsep5 hl5 hac5 hF5 C1 k3 hS4 hnW0
      go_upto_region 10 with (fail)
      have hgs6 : w5.heap.size ≤ (w5.setCell ⟨bc, 0, none⟩ (.slice (some ⟨h5, 0, none⟩) es.length cc5)).heap.size := by simp
      have F6 := Lib.hid (FrL.set w5 bc 0 (.slice (some ⟨h5, 0, none⟩) es.length cc5) [bc] (by simp))
      have QE6 := Lib.hid (F6.out.blk QE5.out (by simp only [List.mem_singleton]; exact hEbc))
      generalize hV6 : w5.setCell ⟨bc, 0, none⟩ (.slice (some ⟨h5, 0, none⟩) es.length cc5) = w6 at *
      clear hV6 kc5 fc5
      have ho6 := H6.out.ol
      have a1 := own_natAt ho6 x hx
      rw [HG2.out] at a1
      have f1 := ho6.frozenAt x
      have e0 := blk_cell QE6.out 0 (.int .i64 (x : Int)) rfl
      have kl := blk_cell H6.out.hl 0 (.slice (some ⟨g, 0, none⟩) N cv) rfl
      simp only at kl f1
      have H7 := Lib.hid (H6.out.left hP rfl x (p + 1) ((p : Int) + 1) (by omega))
      have F7 := Lib.hid (FrL.set w6 g x (.int .i64 ((p : Int) + 1)) [g] (by simp))
      have QE7 := Lib.hid (blk_set_other QE6.out x (.int .i64 ((p : Int) + 1)) hgE)
      clear ho6
      go_upto_region 11 with (fail)
      generalize hV7 : w6.setCell ⟨g, x, none⟩ (.int .i64 ((p : Int) + 1)) = w7 at *
      clear hV7 a1 f1 e0 kl
      have ho7 := H7.out.ol
      have a1 := own_natAt ho7 y hy
      rw [HG3.out] at a1
      have f1 := ho7.frozenAt y
      have e0 := blk_cell QE7.out 1 (.int .i64 (y : Int)) rfl
      have kl := blk_cell H7.out.hl 0 (.slice (some ⟨g, 0, none⟩) N cv) rfl
      simp only at kl f1
      have H8 := Lib.hid (H7.out.left hP rfl y (q + 1) ((q : Int) + 1) (by omega))
      have F8 := Lib.hid (FrL.set w7 g y (.int .i64 ((q : Int) + 1)) [g] (by simp))
      clear ho7
      go_upto_region 12 with (fail)
      generalize hV8 : w7.setCell ⟨g, y, none⟩ (.int .i64 ((q : Int) + 1)) = w8 at *
      clear hV8 a1 f1 e0 kl
      have hW8 := H8.out
      rw [HBK.out] at hW8
      have F68 : FrL [bc, g] w5 w8 := ((F6.out.mono (fun j hj => by simp only [List.mem_singleton] at hj; simp [hj])).trans (F7.out.mono (fun j hj => by simp only [List.mem_singleton] at hj; simp [hj]))).trans (F8.out.mono (fun j hj => by simp only [List.mem_singleton] at hj; simp [hj]))
      have hS8 := hK.stay _ _ _ _ S5.out (fun j hj => F68.block j (hK.lt _ _ _ S5.out j hj) (fun h' => by
        obtain ⟨n1, n2, _⟩ := P5.out j hj
        simp only [List.mem_cons, List.not_mem_nil, or_false] at h'
        rcases h' with h1 | h1
        · exact n1 (h1 ▸ m5)
        · exact n2 (by simp [blks, h1])))
      have F14 : FrL (l ++ bc :: (blks (some ⟨g, 0, none⟩) ++ blks ac)) w w4 := HFA.out.trans (F4.out.mono (fun j hj => List.mem_append_right _ hj))
      have F15 : FrL (l ++ bc :: (blks (some ⟨g, 0, none⟩) ++ blks ac)) w w5 := F14.then F5.out (fun j hj => by
        simp only [List.mem_append, List.mem_cons] at hj ⊢
        rcases hj with h1 | h1 | h1 | h1
        · exact .inl (.inl h1)
        · exact .inl (.inr (.inl h1))
        · exact .inl (.inr (.inr (.inl h1)))
        · rcases H4.out.2.2 _ h1 with h2 | h2
          · exact .inl (.inr (.inr (.inr h2)))
          · exact .inr (by omega))
      have F18 : FrL (l ++ bc :: (blks (some ⟨g, 0, none⟩) ++ blks ac)) w w8 := F15.then F68 (fun j hj => by
        simp only [List.mem_cons, List.not_mem_nil, or_false] at hj
        left
        rcases hj with h1 | h1
        · rw [h1]; simp
        · rw [h1]; simp [blks])
      have hl8 : ∀ j ∈ l5, j ∈ l ∨ w.heap.size ≤ j := fun j hj => by
        rcases L5.out j hj with h1 | h1
        · exact .inl h1
        · right; omega
      have ha8 : ∀ j ∈ blks (some (⟨h5, 0, none⟩ : Addr)), j ∈ blks ac ∨ w.heap.size ≤ j := fun j hj => by
        rcases A5.out j hj with h1 | h1
        · rcases H4.out.2.2 j h1 with h2 | h2
          · exact .inl h2
          · right; omega
        · right; omega
      have hgs8 : w5.heap.size ≤ w8.heap.size := F68.size
      have FF := Lib.hid F18
      have LL := Lib.hid hl8
      have AA := Lib.hid ha8
      have S8 := Lib.hid hS8
      have W8 := Lib.hid hW8
      clear F68 F14 F15 F18 hl8 ha8 hS8 hW8
      cases V with
      | false =>
        have HR := Lib.hid (HR0.out HV.out)
        go_wp2
        go_ret
        exact ⟨ret_bool (by rw [HR.out]), some ⟨h5, 0, none⟩, cc5, l5, W8.out, by rw [HR.out]; exact S8.out, P5.out, LL.out, AA.out, FF.out⟩
      | true =>
        have HR := Lib.hid (HR1.out HV.out)
        have C2 := IH.out L es (walkN go t ((L.set x p).set y q) (es ++ [(x, y)]) s).1 l5 (some ⟨h5, 0, none⟩) cc5 w8 HPRE.out (by have := HES.out; rw [List.length_cons] at this; omega) HL0.out HLB.out (by have h1 := HMM.out; have h2 := HSZ.out; omega) W8.out S8.out P5.out
        have k3 := blk_cell W8.out.hw 0 (WalkP.fn ⟨B, bn, bf, bk, bl, bc, bw, N, nf, cf, some ⟨b1, o1, none⟩, K, cap, some ⟨g, 0, none⟩, cl, cv, fs⟩) rfl
        simp only [WalkP.fn] at k3
        generalize hs1 : (walkN go t ((L.set x p).set y q) (es ++ [(x, y)]) s).1 = s1 at *
        clear hs1
        go_wp2_with fail
        refine C2.mono ?_
        rintro e' w9 ⟨rfl, ac9, cc9, l9, r1, r2, r3, r4, r5, r6⟩
        have HH := Lib.hid (And.intro r1 (And.intro r2 (And.intro r3 (And.intro r4 (And.intro r5 r6)))))
        generalize hV : (walkN go t L es s1).2 = V at *
        have HV2 := Lib.hid hV
        clear hV r1 r2 r3 r4 r5 r6 C2 k3
        go_wp2
        go_ret
        obtain ⟨r1, r2, r3, r4, r5, r6⟩ := HH.out
        refine ⟨ret_bool (by rw [HR.out, HV2.out]), ac9, cc9, l9, r1, by rw [HR.out]; exact r2, r3, fun j hj => ?_, fun j hj => ?_, FF.out.then r6 (fun j hj => ?_)⟩
        · rcases r4 j hj with h1 | h1
          · exact LL.out j h1
          · right; omega
        · rcases r5 j hj with h1 | h1
          · exact AA.out j h1
          · right; omega
        · simp only [List.mem_append, List.mem_cons] at hj ⊢
          rcases hj with h1 | h1 | h1 | h1
          · rcases LL.out j h1 with h2 | h2
            · exact .inl (.inl h2)
            · exact .inr h2
          · exact .inl (.inr (.inl h1))
          · exact .inl (.inr (.inr (.inl h1)))
          · rcases AA.out j h1 with h2 | h2
            · exact .inl (.inr (.inr (.inr h2)))
            · exact .inr h2
    · have hm := may_false hmay
      have HR := Lib.hid (show walkN go ((x, y) :: t) L es s = walkN go t L es s by rw [walkN, if_neg (by rw [hm]; decide)])
      have hsol : solsN ((x, y) :: t) L es = solsN t L es := by rw [solsN, if_neg (by rw [hm]; decide)]; rfl
      rw [hsol] at hM
      have C1 := IH.out L es s l ac cc WA HPRE.out (by rw [List.length_cons] at hes; omega) hL hLb hM hWA hSA hsep
      obtain ⟨p, hp⟩ : ∃ p, L.getD x 0 = p := ⟨_, rfl⟩
      obtain ⟨q, hq⟩ : ∃ q, L.getD y 0 = q := ⟨_, rfl⟩
      rw [hp] at a1 hmay
      rw [hq] at a2 hmay
      have HWAs := Lib.hid hA.size
      clear hp hq hm hsol hW hWA hS hSA qE hA hM
      by_cases hp0 : 0 < p
      · have hd1 : decide ((0 : Int) < (p : Int)) = true := by simp; omega
        have hd2 : decide ((0 : Int) < (q : Int)) = false := by simp; omega
        go_enter Try.func186, Try.ntmps186
        go_wp2_with (simp only [HWA.out])
        refine C1.mono ?_
        rintro e' w' ⟨rfl, ac', cc', l', r1, r2, r3, r4, r5, r6⟩
        have HH := Lib.hid (And.intro r1 (And.intro r2 (And.intro r3 (And.intro r4 (And.intro r5 r6)))))
        generalize hV : (walkN go t L es s).2 = V at *
        have HV := Lib.hid hV
        clear hV r1 r2 r3 r4 r5 r6 C1 k1 k2 k3 e0 e1 a1 a2 c1 c2
        go_wp2
        go_ret
        obtain ⟨r1, r2, r3, r4, r5, r6⟩ := HH.out
        have hs := HWAs.out
        exact ⟨ret_bool (by rw [HR.out, HV.out]), ac', cc', l', r1, by rw [HR.out]; exact r2, r3, fun j hj => by rcases r4 j hj with h | h; exact .inl h; right; omega, fun j hj => by rcases r5 j hj with h | h; exact .inl h; right; omega, hFA.trans r6⟩
      · have hd1 : decide ((0 : Int) < (p : Int)) = false := by simp; omega
        go_enter Try.func186, Try.ntmps186
        go_wp2_with (simp only [HWA.out])
        refine C1.mono ?_
        rintro e' w' ⟨rfl, ac', cc', l', r1, r2, r3, r4, r5, r6⟩
        have HH := Lib.hid (And.intro r1 (And.intro r2 (And.intro r3 (And.intro r4 (And.intro r5 r6)))))
        generalize hV : (walkN go t L es s).2 = V at *
        have HV := Lib.hid hV
        clear hV r1 r2 r3 r4 r5 r6 C1 k1 k2 k3 e0 e1 a1 a2 c1 c2
        go_wp2
        go_ret
        obtain ⟨r1, r2, r3, r4, r5, r6⟩ := HH.out
        have hs := HWAs.out
        exact ⟨ret_bool (by rw [HR.out, HV.out]), ac', cc', l', r1, by rw [HR.out]; exact r2, r3, fun j hj => by rcases r4 j hj with h | h; exact .inl h; right; omega, fun j hj => by rcases r5 j hj with h | h; exact .inl h; right; omega, hFA.trans r6⟩
end

end Go.Proofs.Ytjghcegacgpehaa
