
/- The reference's AllMatrices: its recursion over the rows. (Printed by gen_fillr.py.) -/
import Derived.Test.YtjghcegacgpehaaFillS
import Derived.Test.YtjghcegacgpehaaAllM
import Derived.Test.YtjghcegacgpehaaEach
namespace Go.Proofs.Ytjghcegacgpehaa
open Go.RowKit

theorem merge4 {α β γ δ : Type} {F : α → β → γ → δ → Prop} {G : α → β → γ → δ → Prop} {goal : Prop} (main : (∀ a b c d, F a b c d → G a b c d) → goal) (tail : ∀ a b c d, F a b c d → G a b c d) : goal := main tail
theorem grown_of_bel {w w' : World} (h : Below w.heap.size w w') (row : Option Nat) : w.grownBy w' row := ⟨h.os, h.tape, h.output, h.size, fun i hi _ => h.block i hi⟩
def fillS : List Nat → List Nat → List (List Int) → Cube
  | [], C, m => if C.sum = 0 then [m] else []
  | t :: r, C, m => (rowsL C.length t).flatMap fun X => if fitsR C X = true then fillS r (subR C X) (m ++ [X]) else []
theorem flatMap_if {α β : Type} (l : List α) (p : α → Bool) (f : α → List β) : (l.flatMap fun x => if p x = true then f x else []) = (l.filter p).flatMap f := by
  induction l with
  | nil => rfl
  | cons a t ih =>
    rw [List.flatMap_cons, ih]
    by_cases h : p a = true
    · rw [if_pos h, List.filter_cons_of_pos h, List.flatMap_cons]
    · rw [if_neg h, List.filter_cons_of_neg h]; rfl
theorem fillS_eq : ∀ (r : List Nat) (i : Nat) (C : List Nat) (m : List (List Int)), fillS r C m = fillC (fun _ _ => true) i r C m := by
  intro r
  induction r with
  | nil => intro i C m; rfl
  | cons t r ih =>
    intro i C m
    rw [fillS, fillC, flatMap_if, rowsL_fits C 0 t]
    exact flatMap_ext fun X _ => ih (i + 1) (subR C X) (m ++ [X])
theorem flatMap_len {α β : Type} {l : List α} {f : α → List β} {b : Nat} (h : ∀ x ∈ l, (f x).length ≤ b) : (l.flatMap f).length ≤ l.length * b := by
  induction l with
  | nil => simp
  | cons a t ih =>
    rw [List.flatMap_cons, List.length_append, List.length_cons, Nat.succ_mul]
    have h1 := h a (List.mem_cons_self ..)
    have h2 := ih fun x hx => h x (List.mem_cons_of_mem _ hx)
    omega
theorem fillS_len : ∀ (r : List Nat) (C : List Nat) (m : List (List Int)), C.length ≤ 5 → (fillS r C m).length ≤ 32 ^ r.length := by
  intro r
  induction r with
  | nil => intro C m _; rw [fillS]; split <;> simp
  | cons t r ih =>
    intro C m hC
    rw [fillS, List.length_cons, Nat.pow_succ, Nat.mul_comm]
    have h1 := rowsL_len C.length t
    have h2 : 2 ^ C.length ≤ 2 ^ 5 := Nat.pow_le_pow_right (by omega) hC
    refine Nat.le_trans (flatMap_len (b := 32 ^ r.length) fun X _ => ?_) (Nat.mul_le_mul (Nat.le_trans h1 h2) (Nat.le_refl _))
    split
    · exact ih _ _ (by rw [subR_length]; exact hC)
    · simp
def nextF (C : List Nat) (X : List Int) (q : Nat) : Int := ((C.getD q 0 : Nat) : Int) - X.getD q 0
theorem fits_iff : ∀ {C : List Nat} {X : List Int}, X.length = C.length → (fitsR C X = true ↔ ∀ q, q < C.length → 0 ≤ nextF C X q) := by
  intro C
  induction C with
  | nil => intro X _; cases X <;> simp [fitsR]
  | cons c C ih =>
    intro X hX
    cases X with
    | nil => simp at hX
    | cons x X =>
      rw [fitsR, Bool.and_eq_true, decide_eq_true_eq, ih (by simpa using hX)]
      constructor
      · rintro ⟨h1, h2⟩ q hq
        cases q with
        | zero => simp only [nextF, List.getD_cons_zero]; omega
        | succ q => simpa [nextF] using h2 q (by simpa using hq)
      · intro h
        refine ⟨?_, fun q hq => ?_⟩
        · have := h 0 (by simp)
          simp only [nextF, List.getD_cons_zero] at this; omega
        · simpa [nextF] using h (q + 1) (by simpa using hq)
theorem least_fits {C : List Nat} {X : List Int} (h : X.length = C.length) : leastI (rowF (nextF C X) C.length) = 0 ↔ fitsR C X = true := by
  rw [leastI_zero, fits_iff h]
  constructor
  · intro h1 q hq
    exact h1 _ (List.mem_map.2 ⟨q, List.mem_range.2 hq, rfl⟩)
  · intro h1 x hx
    obtain ⟨q, hq, rfl⟩ := List.mem_map.1 hx
    exact h1 q (List.mem_range.1 hq)
theorem next_sub {C : List Nat} {X : List Int} (h : X.length = C.length) (hb : ∀ x ∈ X, x = 0 ∨ x = 1) (hf : fitsR C X = true) : rowF (nextF C X) C.length = intsN (subR C X) := by
  apply List.ext_getElem
  · rw [rowF_length, intsN_length, subR_length]
  · intro q h1 h2
    have hq : q < C.length := by rw [rowF_length] at h1; exact h1
    have h3 := (fits_iff h).1 hf q hq
    have hs : q < (subR C X).length := by rw [subR_length]; exact hq
    have e := subR_at h q
    rw [List.getD_eq_getElem?_getD, List.getElem?_eq_getElem hs, Option.getD_some] at e
    have hX : 0 ≤ X.getD q 0 := by
      have hqx : q < X.length := by omega
      rw [List.getD_eq_getElem?_getD, List.getElem?_eq_getElem hqx, Option.getD_some]
      rcases hb _ (List.getElem_mem hqx) with h5 | h5 <;> omega
    simp only [rowF, intsN, List.getElem_map, List.getElem_range, e]
    unfold nextF at h3 ⊢
    omega
theorem sub_small {C : List Nat} {X : List Int} (h : X.length = C.length) (hC : ∀ v, C.getD v 0 ≤ 900) : ∀ v, (subR C X).getD v 0 ≤ 900 := by
  intro v
  rw [subR_at h]
  have := hC v
  omega
theorem bits_at {X : List Int} (h : ∀ x ∈ X, x = 0 ∨ x = 1) (q : Nat) : 0 ≤ X.getD q 0 ∧ X.getD q 0 ≤ 1 := by
  by_cases hq : q < X.length
  · rw [List.getD_eq_getElem?_getD, List.getElem?_eq_getElem hq, Option.getD_some]
    rcases h _ (List.getElem_mem hq) with h1 | h1 <;> omega
  · rw [List.getD_eq_getElem?_getD, List.getElem?_eq_none (by omega)]; simp
/-- What the rows so far give. -/
def fillI (r : List Nat) (C : List Nat) (m : List (List Int)) (L : List (List Int)) (i : Nat) : Cube := (L.take i).flatMap fun X => if fitsR C X = true then fillS r (subR C X) (m ++ [X]) else []
theorem fillI_succ {r C : List Nat} {m L : List (List Int)} {i : Nat} (h : i < L.length) : fillI r C m L (i + 1) = fillI r C m L i ++ if fitsR C (L[i]'h) = true then fillS r (subR C (L[i]'h)) (m ++ [L[i]'h]) else [] := by
  rw [fillI, fillI, List.take_succ_eq_append_getElem h, List.flatMap_append]; simp
theorem fillI_len (r C : List Nat) (m L : List (List Int)) (i : Nat) (hC : C.length ≤ 5) (hr : r.length ≤ 5) (hL : L.length ≤ 32) : (fillI r C m L i).length ≤ 1073741824 := by
  have h1 : 32 ^ r.length ≤ 32 ^ 5 := Nat.pow_le_pow_right (by omega) hr
  have h2 : (fillI r C m L i).length ≤ (L.take i).length * 32 ^ 5 := flatMap_len fun X _ => by
    split
    · exact Nat.le_trans (fillS_len _ _ _ (by rw [subR_length]; exact hC)) h1
    · simp
  have h3 : (L.take i).length ≤ 32 := by rw [List.length_take]; omega
  have h4 : (L.take i).length * 32 ^ 5 ≤ 32 * 32 ^ 5 := Nat.mul_le_mul h3 (Nat.le_refl _)
  have h5 : 32 * 32 ^ 5 = 1073741824 := by decide
  omega

set_option maxHeartbeats 4000000 in
theorem fill_nil (N n cr : Nat) (ar : Option Addr) (C : List Nat) (m : List (List Int)) (am : Option Addr) (cm : Nat) (vm : List AtG) (al : Option Addr) (cl : Nat) (w : World) (hm : m.length = N) (hC : C.length = n) (hn : n ≤ 5) (hN : N ≤ 5) (hCb : ∀ v, C.getD v 0 ≤ 900) (hM : SeeR w am cm vm m) (hM5 : ∀ X ∈ m, X.length ≤ 5) (hl : Rd w al (ints (intsN C))) :
    Calls Try.prog 134 #[.slice am N cm, .slice ar N cr, .slice al n cl] w fun e w' => ∃ a c vs, e = .returned (.slice a (fillS [] C m).length c) ∧ ListK w' w.heap.size a c vs (fillS [] C m) ∧ Below w.heap.size w w' := by
  have C1 := specSum_any al cl n (intsN C) w (by rw [intsN_length]; exact hC) hl (by omega) (small_intsN hCb)
  rw [sum_intsN] at C1
  have hbn : ((N : Int) == (N : Int)) = true := by simp
  obtain ⟨S, hS⟩ : ∃ S, C.sum = S := ⟨_, rfl⟩
  rw [hS] at C1
  by_cases h0 : S = 0
  · have HR := Lib.hid (show fillS [] C m = [m] by rw [fillS, if_pos (by rw [hS]; exact h0)])
    have hb0 : ((S : Int) == 0) = true := by simp [h0]
    have HM := Lib.hid hM
    have HL0 := Lib.hid (listX_nil (len := List.length (α := Int)) (P := RowI) (T := 38) w (Nat.le_refl w.heap.size))
    have HB0 := below_alloc w (.cells #[] 38)
    have HMN := Lib.hid hm
    have HM5 := Lib.hid hM5
    clear hS hl hM h0 hm hM5
    go_enter Try.func134, Try.ntmps134
    go_wp2_with fail
    refine C1.mono ?_
    rintro e w1 ⟨rfl, rfl⟩
    clear C1
    go_wp2
    go_loopw [7, 8] (fun v i wr => ∃ (k : Nat) (ao : Option Addr) (co : Nat) (vo : List AtG), k ≤ N ∧ i = .int .i64 k ∧ v = .slice ao (m.take k).length co ∧ ListR wr w1.heap.size ao co vo (m.take k) ∧ Below w1.heap.size w1 wr) (fun _ i _ => N - (intOf i).toNat)
    case atStart => exact ⟨0, some ⟨w1.heap.size, 0, none⟩, 0, [], by omega, rfl, rfl, HL0.out, HB0⟩
    case round =>
      clear HL0 HB0
      obtain ⟨k, ao, co, vo, hk, rfl, rfl, hL, hb⟩ := hrel
      by_cases hlt : k < N
      · have hkm : k < m.length := by rw [HMN.out]; exact hlt
        obtain ⟨q1, q2, q3, _⟩ := HM.out
        have hkv : k < vm.length := by omega
        have hMb := HM.out.below stabI hb
        obtain ⟨b1, o1, rfl, hc1⟩ := hMb.2.1 k _ (cellsX_get vm m k hkv hkm)
        obtain ⟨r1, r2, r3, r4, r5⟩ := hMb.2.2.1 k hkv hkm
        have h5 := HM5.out _ (List.getElem_mem hkm)
        have HT := Lib.hid (show m.take (k + 1) = m.take k ++ [m[k]'hkm] from List.take_succ_eq_append_getElem hkm)
        have hlk : (m.take k).length ≤ 5 := by rw [List.length_take]; omega
        generalize (m[k]'hkm) = X at *
        generalize m.take k = G at *
        obtain ⟨ax, hax⟩ : ∃ ax, ax = (vm[k]'hkv).1 := ⟨_, rfl⟩
        obtain ⟨cx, hcx⟩ : ∃ cx, cx = (vm[k]'hkv).2 := ⟨_, rfl⟩
        rw [← hax] at hc1 r1 r4 r5
        rw [← hcx] at hc1 r2 r3 r4
        have hsz := hb.size
        have hB1 := below_alloc wr (.cells #[] 3)
        have ho0 := World.ownsRow_made (base := wr.heap.size) (e := 3) (size := 1) wr #[] 0 (Nat.le_refl _) (by decide) rfl
        have r1' := r1.below hB1
        have hc1' := (hB1.cell (p := ⟨b1, o1 + k, none⟩) (Rd.lt hc1)).trans hc1
        clear hax hcx hMb q1 q2 q3 r5
        go_wp2_with (first | (at_builtin; refine appendAll Try.infoI _ _ rfl rfl ho0 r1' (by simp [ints_length]) (ints_one X) r4 hB1 (Nat.le_refl _) (by simp) rfl rfl (by omega) ?_; intro a' c' w2 ho2 hb2; rw [List.nil_append, Nat.zero_add] at ho2; have hL2 := (hL.below stabI hb2); have hL3 := hL2.below stabI (below_alloc w2 (.cells #[.slice a' X.length c'] 38)); have qn := heap_alloc_new w2 (.cells #[.slice a' X.length c'] 38); have hrow : RowI (w2.alloc (.cells #[.slice a' X.length c'] 38)) a' c' X := (rowI_own ho2 rfl).below (below_alloc w2 _); have hS1 : SeeR (w2.alloc (.cells #[.slice a' X.length c'] 38)) (some ⟨w2.heap.size, 0, none⟩) 1 [(a', c')] [X] := (listX_one (B := 0) qn (Nat.zero_le _) hrow).see; have hb3 := below_tr' (below_tr' hb hb2) (below_alloc w2 (.cells #[.slice a' X.length c'] 38)); have hsz3 := hb3.size; clear ho2 hrow qn hL2 hb2 hb hB1 ho0 r1 r1' hL) | (at_builtin; refine appendX Try.infoRow2 stabI _ _ rfl rfl hL3 hS1 hb3 (Nat.le_refl _) hsz3 rfl rfl (by simp; omega) ?_; intro a4 c4 w4 hL4 hb4 hg4))
        have HL := Lib.hid hL4
        clear hL4 hg4 hS1 hL3
        go_roundw
        case rel => exact ⟨k + 1, a4, c4, _, by omega, by go_num, by rw [HT.out, List.length_append]; rfl, by rw [HT.out]; exact HL.out, hb4⟩
        case measure => simp [intOf]; omega
      · have e : k = N := by omega
        subst e
        have HL := Lib.hid (show ListR wr w1.heap.size ao co vo m by rw [← HMN.out, List.take_length] at hL; exact hL)
        have hlk : (m.take k).length = k := by rw [← HMN.out, List.take_length]
        clear hL
        rw [hlk]
        have hB2 := below_tr' hb (below_alloc wr (.cells #[.slice ao k co] 34))
        have HO := Lib.hid (show ListK (wr.alloc (.cells #[.slice ao k co] 34)) w1.heap.size (some ⟨wr.heap.size, 0, none⟩) 1 [(ao, co)] [m] from listX_one (by rw [HMN.out]; exact heap_alloc_new wr _) hb.size ((ListX.matB HL.out).below (below_alloc wr _)))
        clear hlk
        go_wp2
        go_ret
        exact ⟨_, 1, [(ao, co)], by rw [HR.out]; rfl, by rw [HR.out]; exact HO.out, hB2⟩
  · have HR := Lib.hid (show fillS [] C m = [] by rw [fillS, if_neg (by rw [hS]; exact h0)])
    have hb0 : ((S : Int) == 0) = false := beq_eq_false_iff_ne.2 (by omega)
    have hB2 := below_alloc w (.cells #[] 34)
    have HO := Lib.hid (show ListK (w.alloc (.cells #[] 34)) w.heap.size (some ⟨w.heap.size, 0, none⟩) 0 [] [] from listX_nil w (Nat.le_refl _))
    clear hS h0 hM hl
    go_enter Try.func134, Try.ntmps134
    go_wp2_with fail
    refine C1.mono ?_
    rintro e w1 ⟨rfl, rfl⟩
    clear C1
    go_wp2
    go_ret
    exact ⟨_, 0, [], by rw [HR.out]; rfl, by rw [HR.out]; exact HO.out, hB2⟩

set_option maxHeartbeats 16000000 in
theorem fillRows_any (N n cr : Nat) (ar : Option Addr) (R : List Nat) (hR : R.length = N) (hN : N ≤ 5) (hn : n ≤ 5) (hRb : ∀ v, R.getD v 0 ≤ 900) : ∀ (t pre : List Nat) (C : List Nat) (m : List (List Int)) (am : Option Addr) (cm k : Nat) (vm : List AtG) (al : Option Addr) (cl : Nat) (w : World), pre ++ t = R → pre.length = k → m.length = k → C.length = n → (∀ v, C.getD v 0 ≤ 900) → SeeR w am cm vm m → (∀ X ∈ m, X.length ≤ 5) → Rd w ar (ints (intsN R)) → Rd w al (ints (intsN C)) →
    Calls Try.prog 134 #[.slice am k cm, .slice ar N cr, .slice al n cl] w fun e w' => ∃ a c vs, e = .returned (.slice a (fillS t C m).length c) ∧ ListK w' w.heap.size a c vs (fillS t C m) ∧ Below w.heap.size w w' := by
  intro t
  induction t with
  | nil =>
    intro pre C m am cm k vm al cl w hpre hp hm hC hCb hM hM5 hr hl
    rw [List.append_nil] at hpre
    have hk : k = N := by rw [← hp, hpre, hR]
    subst hk
    exact fill_nil k n cr ar C m am cm vm al cl w hm hC hn hN hCb hM hM5 hl
  | cons t0 t ih =>
    intro pre C m am cm k vm al cl w hpre hp hm hC hCb hM hM5 hr hl
    have hkN : k < N := by rw [← hR, ← hpre, ← hp, List.length_append, List.length_cons]; omega
    have htl : t.length ≤ 5 := by
      have : (pre ++ t0 :: t).length = N := by rw [hpre, hR]
      rw [List.length_append, List.length_cons] at this
      omega
    have hRk : R.getD k 0 = t0 := by rw [← hpre, List.getD_eq_getElem?_getD, List.getElem?_append_right (by omega), hp, Nat.sub_self]; rfl
    have ht0 : t0 ≤ 900 := by rw [← hRk]; exact hRb k
    have hpre2 : (pre ++ [t0]) ++ t = R := by rw [← hpre]; simp
    have hne : ((k : Int) == (N : Int)) = false := beq_eq_false_iff_ne.2 (by omega)
    have IH := Lib.hid (ih (pre ++ [t0]))
    have HPRE := Lib.hid hpre2
    have HPL := Lib.hid (show (pre ++ [t0]).length = k + 1 by rw [List.length_append, hp]; rfl)
    have HMK := Lib.hid hm
    have HM0 := Lib.hid hM
    have HM5 := Lib.hid hM5
    have HC0 := Lib.hid hC
    have HCB := Lib.hid hCb
    have HRD := Lib.hid hr
    have HLD := Lib.hid hl
    have HFS := Lib.hid (show fillS (t0 :: t) C m = fillI t C m (rowsL n t0) (rowsL n t0).length by rw [fillI, List.take_length, fillS, hC])
    have hlr : (rowsL n t0).length ≤ 32 := Nat.le_trans (rowsL_len n t0) (Nat.le_trans (Nat.pow_le_pow_right (by omega) hn) (by decide))
    have HBIT := Lib.hid (fun (X : List Int) (h : X ∈ rowsL n t0) => rowsL_mem h)
    have HFL := Lib.hid (fun i => fillI_len t C m (rowsL n t0) i (by rw [hC]; exact hn) htl hlr)
    obtain ⟨b0, o0, har, hc0⟩ := rdN_at hr (k := k) (by omega)
    rw [hRk] at hc0
    subst har
    clear ih hpre hp hm hM hM5 hC hCb hr hl hRk hpre2 hRb
    obtain ⟨L, hL⟩ : ∃ L, L = rowsL n t0 := ⟨_, rfl⟩
    rw [← hL] at HFS hlr HBIT HFL
    have HL := Lib.hid (show (rowsL n t0).map ([] ++ ·) = L by rw [hL]; simp)
    clear hL
    obtain ⟨W1, hW1⟩ : ∃ W, W = w.alloc (.cells #[] 34) := ⟨_, rfl⟩
    have hO1 : ListK W1 w.heap.size (some ⟨w.heap.size, 0, none⟩) 0 [] [] := by rw [hW1]; exact listX_nil w (Nat.le_refl _)
    have hB1 : Below w.heap.size w W1 := by rw [hW1]; exact below_alloc w _
    have hB2 := below_tr' hB1 (below_alloc W1 (.cells #[] 3))
    have hO2 := hO1.below stabM (below_alloc W1 (.cells #[] 3))
    have hc2 := (hB2.cell (p := ⟨b0, o0 + k, none⟩) (Rd.lt hc0)).trans hc0
    have hs1 := hB1.size
    have C1 := rowsOf_any n n t0 [] (some ⟨W1.heap.size, 0, none⟩) 0 0 (W1.alloc (.cells #[] 3)) rfl (by omega) hn ht0 (by intro j u hu; simp [ints] at hu) (fun h => by cases h)
    rw [HL.out] at C1
    have HW1 := Lib.hid hW1
    have HO2 := Lib.hid hO2
    clear hW1 hO1 hO2
    go_enter Try.func134, Try.ntmps134
    go_wp2_with (simp only [← HW1.out])
    refine C1.mono ?_
    rintro e w2 ⟨a1, c1, v1, rfl, hL1, hb2⟩
    have hB3 := below_tr' hB2 hb2
    have hO3 := HO2.out.below stabM hb2
    have hLs := hB2.size
    have hL1 := hL1.mono hLs
    have H0 := Lib.hid (And.intro hO3 (And.intro hL1 hB3))
    obtain ⟨nl, hnl⟩ : ∃ nl, nl = L.length := ⟨_, rfl⟩
    rw [← hnl] at hlr HFS
    have HNL := Lib.hid hnl
    rw [← hnl]
    clear C1 HO2 hb2 hB2 hc2 hs1 hLs hL1 hB3 hO3 hc0 hnl hB1
    go_wp2
    go_loopw [9, 11, 12, 13] (fun v i _ _ wr => ∃ (q : Nat) (ao : Option Addr) (co : Nat) (vo : List AtG), q ≤ nl ∧ i = .int .i64 q ∧ v = .slice ao (fillI t C m L q).length co ∧ ListK wr w.heap.size ao co vo (fillI t C m L q) ∧ ListR wr w.heap.size a1 c1 v1 L ∧ Below w.heap.size w wr) (fun _ i _ _ _ => nl - (intOf i).toNat)
    case atStart => exact ⟨0, some ⟨w.heap.size, 0, none⟩, 0, [], by omega, rfl, rfl, H0.out.1, H0.out.2.1, H0.out.2.2⟩
    case round =>
      clear H0
      obtain ⟨q, ao, co, vo, hq, rfl, rfl, hO, hL1, hb⟩ := hrel
      have hfl := HFL.out q
      by_cases hlt : q < nl
      · have hqL : q < L.length := by rw [← HNL.out]; exact hlt
        have hqv : q < v1.length := by rw [hL1.1]; exact hqL
        have hXm := List.getElem_mem hqL
        obtain ⟨hX1, hX2⟩ := HBIT.out _ hXm
        have HSU := Lib.hid (fillI_succ (r := t) (C := C) (m := m) hqL)
        have hSee := hL1.see
        obtain ⟨bx, ox, ha1, hcx⟩ := hSee.2.1 q _ (cellsX_get v1 L q hqv hqL)
        have hRow := hL1.2.2 q hqv hqL
        generalize (L[q]'hqL) = X at *
        obtain ⟨ax, hax⟩ : ∃ ax, ax = (v1[q]'hqv).1 := ⟨_, rfl⟩
        obtain ⟨cx, hcc⟩ : ∃ cx, cx = (v1[q]'hqv).2 := ⟨_, rfl⟩
        rw [← hax] at hcx hRow
        rw [← hcc] at hcx hRow
        rw [hX1] at hcx
        have HLF := Lib.hid (least_fits (C := C) (X := X) (by rw [HC0.out]; exact hX1))
        have HNS := Lib.hid (fun h => next_sub (C := C) (X := X) (by rw [HC0.out]; exact hX1) hX2 h)
        have HSS := Lib.hid (sub_small (C := C) (X := X) (by rw [HC0.out]; exact hX1) HCB.out)
        have HXB := Lib.hid (bits_at hX2)
        rw [HC0.out] at HLF HNS
        generalize hG : fillI t C m L q = G at *
        subst ha1
        clear hax hcc hXm hX2 hSee hG
        obtain ⟨wo, rfl⟩ : ∃ wo : World, wo = wr := ⟨_, rfl⟩
        have hn0 : (wo.alloc (.cells #[] 3)).ownsRow wo.heap.size 3 1 (.slice (some ⟨wo.heap.size, 0, none⟩) 0 0) 0 (ints []) := World.ownsRow_made wo #[] 0 (Nat.le_refl _) (by decide) rfl
        have HN0 := Lib.hid hn0
        have HB0 := below_alloc wo (.cells #[] 3)
        have HK := Lib.hid (And.intro hO (And.intro hL1 (And.intro hRow hX1)))
        clear hn0 hO hL1 hX1
        go_wp2
        go_loopw [12, 13] (fun v j wr => ∃ (p : Nat) (an : Option Addr) (cn : Nat), p ≤ n ∧ j = .int .i64 p ∧ v = .slice an p cn ∧ wr.ownsRow wo.heap.size 3 1 (.slice an p cn) p (ints (rowF (nextF C X) p)) ∧ Below wo.heap.size wo wr) (fun _ j _ => n - (intOf j).toNat)
        case atStart => exact ⟨0, some ⟨wo.heap.size, 0, none⟩, 0, by omega, rfl, rfl, HN0.out, HB0⟩
        case round =>
          clear HN0 HB0
          obtain ⟨p, an, cn, hp, rfl, rfl, hno, hbi⟩ := hrel
          have hBi := below_tr' hb hbi
          by_cases hlt2 : p < n
          · have hx4 := HK.out.2.2.2
            obtain ⟨bl, ol, hal, hcl⟩ := rdN_at (HLD.out.below hb) (k := p) (by rw [HC0.out]; exact hlt2)
            obtain ⟨br, orr, har, hcr⟩ := hRow.1.int (k := p) (by rw [hx4]; exact hlt2)
            have hXp : X[p]'(by rw [hx4]; exact hlt2) = X.getD p 0 := by rw [List.getD_eq_getElem?_getD, List.getElem?_eq_getElem (by rw [hx4]; exact hlt2)]; rfl
            rw [hXp] at hcr
            have hCp := HCB.out p
            have hXb := HXB.out p
            have HX := Lib.hid (show rowF (nextF C X) (p + 1) = rowF (nextF C X) p ++ [((C.getD p 0 : Nat) : Int) - X.getD p 0] from rowF_succ (nextF C X) p)
            generalize C.getD p 0 = Y at *
            generalize X.getD p 0 = Z at *
            subst hal har
            have d1 := grow_cell ((hbi.cell (p := ⟨bl, ol + p, none⟩) (Rd.lt hcl)).trans hcl) (own_ne_lo hno (Rd.lt hcl))
            have d2 := grow_cell ((hbi.cell (p := ⟨bx, ox + q, none⟩) (Rd.lt hcx)).trans hcx) (own_ne_lo hno (Rd.lt hcx))
            have d3 := grow_cell ((hbi.cell (p := ⟨br, orr + p, none⟩) (Rd.lt hcr)).trans hcr) (own_ne_lo hno (Rd.lt hcr))
            have hszi := hbi.size
            have HNO := Lib.hid hno
            clear hcl hcr hXp hno hx4
            go_wp2
            refine wp_region_flags [true, true, true, true, true, true, true, true, true, true, true, true, true, false, false, false] 15 (C := fun w' => ∃ u : Grow wr (Value.slice an p cn).ownBlock, w' = u.val) (by kernel_rfl) (by kernel_rfl) ⟨⟨_, grown_drew (World.grownBy.refl _ _)⟩, rfl⟩ ?_
            simp only [pickT, pickF]
            repeat (go_big_quiet_step (fail))
            refine wpQuiet_nil ?_
            refine tail_step fun K hK => ?_
            go_wp2
            refine hK _ _ ⟨⟨_, grown_drew (World.grownBy_alloc wr _ _)⟩, rfl⟩ ?_
            clear hK d1 d2 d3
            refine tail_step fun K2 hK2 => ?_
            change wpList _ _ _ _ _ (wr.drew.alloc (.cells #[.int .i64 ((Y : Int) - Z)] 3))
            refine append1g Try.infoI _ _ rfl rfl HNO.out.drew (grown_drew (World.grownBy.refl wr _)) hszi rfl rfl rfl (by intro u hu; simp at hu; subst hu; rfl) (by omega) ?_
            intro a' c' w5 ho5 hg5 hf5
            refine wpList_nil ⟨rfl, hK2 _ _ ⟨⟨_, hg5⟩, rfl⟩ ?_⟩
            clear hK2
            refine tail_last fun K4 hK4 => ?_
            have hb5 := below_row hbi (Nat.le_refl _) HNO.out hg5
            have HO5 := Lib.hid ho5
            clear ho5 hg5 hf5
            go_wp2
            go_roundw
            case rel => exact ⟨p + 1, a', c', by omega, by go_num, rfl, by rw [HX.out, ints_append]; exact HO5.out, hb5⟩
            case measure => simp [intOf]; omega
          · obtain rfl : p = n := by omega
            have hrl : (rowF (nextF C X) p).length = p := rowF_length _ _
            have C5 := least_any an cn p (rowF (nextF C X) p) wr hrl (own_rd hno) (by omega)
            have HKK := HK.out
            have HN5 := Lib.hid hno
            have hOut := HKK.1.below stabM hbi
            have hRows := HKK.2.1.below stabI hbi
            have hRow2 := HKK.2.2.1.below hbi
            have hcx1 := (hbi.cell (p := ⟨bx, ox + q, none⟩) (Rd.lt hcx)).trans hcx
            have HALL := Lib.hid (And.intro hOut (And.intro hRows (And.intro hRow2 hBi)))
            clear hno hrl HKK hOut hRows hRow2
            by_cases hfit : fitsR C X = true
            · have hv0 : leastI (rowF (nextF C X) p) = 0 := HLF.out.2 hfit
              have HSUM := Lib.hid (HSU.out.trans (by rw [if_pos hfit]))
              have HNEXT := Lib.hid (HNS.out hfit)
              rw [hv0] at C5
              clear hv0 hfit HSU HNS HLF
              go_wp2_with fail
              refine C5.mono ?_
              rintro e w6 ⟨rfl, rfl⟩
              clear C5
              obtain ⟨hOut, hRows, hRow2, hBi2⟩ := HALL.out
              obtain ⟨ds9, f9, hq9⟩ := own_obj hRows.2.1
              have d2 := grow_cell hcx1 (own_ne hOut.2.1 hq9 (by decide))
              have HMW := Lib.hid (HM0.out.below stabI hBi2)
              clear hOut hRows hRow2 hBi2 hq9 hcx1 hcx hRow hBi
              go_wp2
              refine wp_region_heads [true, false, true, false, true, true, true, true, false, false, true, true, false, false, false] 14 7 (C := fun w' => ∃ u : Grow w6 (Value.slice ao G.length co).ownBlock, w' = u.val) (by kernel_rfl) (by kernel_rfl) ⟨⟨_, grown_drew (World.grownBy.refl _ _)⟩, rfl⟩ ?_
              simp only [pickT]
              repeat (go_big_quiet_step (fail))
              refine wpQuiet_nil ?_
              clear d2
              have hv0 : Below w6.heap.size w6 w6.drew := bel_drew (Below.refl _ _)
              generalize hD : w6.drew = v0 at *
              clear hD
              apply merge5 (F := fun (a3 : Option Addr) (c3 : Nat) (b1 b8 : Nat) (V : World) => ListR V w6.heap.size a3 c3 ([] ++ vm) ([] ++ m) ∧ V.heap[b8]? = some (.cells #[.slice ax p cx] 38 (0, 0)) ∧ Below w6.heap.size w6 V)
              case main =>
                intro TAIL
                refine any_two (i := 1) (j := 8) (by kernel_rfl) rfl rfl ?_ ?_
                · intro K hK
                  go_wp2
                  have hbb := below_alloc v0 (.cells #[] 38)
                  have hsv1 := hv0.size
                  have hE := listX_nil (len := List.length (α := Int)) (P := RowI) (T := 38) (B := w6.heap.size) v0 hsv1
                  have hv1 := below_tr' hv0 hbb
                  refine hK _ _ (fun _ => ⟨⟨_, grown_of_bel hv1 _⟩, rfl⟩) ?_
                  clear hK hbb
                  obtain ⟨b1, hb1⟩ : ∃ x, x = v0.heap.size := ⟨_, rfl⟩
                  simp only [← hb1] at hE ⊢
                  have Hb1 := Lib.hid (show w6.heap.size ≤ b1 ∧ b1 < (v0.alloc (.cells #[] 38)).heap.size ∧ v0.heap.size ≤ b1 from ⟨by omega, by simp; omega, by omega⟩)
                  clear hb1
                  generalize v0.alloc (.cells #[] 38) = v1 at *
                  refine any_two (i := 3) (j := 8) (by kernel_rfl) rfl rfl ?_ ?_
                  · intro K hK
                    have hMv := HMW.out.below stabI hv1
                    have hsv2 := hv1.size
                    refine appendX Try.infoRow2 stabI _ _ rfl rfl hE hMv hv1 (Nat.le_refl _) hsv2 rfl (by rw [HMK.out]; rfl) (by rw [HMK.out]; simp; omega) ?_
                    intro a3 c3 v2 hE3 hv2 hg3
                    refine wpList_nil ⟨rfl, hK _ _ (fun _ => ⟨⟨_, grown_of_bel hv2 _⟩, rfl⟩) ?_⟩
                    clear hK hMv hE hg3
                    refine any_one (i := 8) (by kernel_rfl) rfl ?_
                    intro K hK
                    go_wp2
                    have hbb := below_alloc v2 (.cells #[.slice ax p cx] 38)
                    have hsv3 := hv2.size
                    have q8 := heap_alloc_new v2 (.cells #[.slice ax p cx] 38)
                    have hE3 := hE3.below stabI hbb
                    have hv3 := below_tr' hv2 hbb
                    refine hK _ _ (fun _ => ⟨⟨_, grown_of_bel hv3 _⟩, rfl⟩) ?_
                    clear hK hbb
                    obtain ⟨b8, hb8⟩ : ∃ x, x = v2.heap.size := ⟨_, rfl⟩
                    simp only [← hb8] at q8 ⊢
                    have Hb8 := Lib.hid (show w6.heap.size ≤ b8 ∧ b8 < (v2.alloc (.cells #[.slice ax p cx] 38)).heap.size ∧ v2.heap.size ≤ b8 from ⟨by omega, by simp; omega, by omega⟩)
                    clear hb8
                    generalize v2.alloc (.cells #[.slice ax p cx] 38) = v3 at *
                    exact TAIL a3 c3 b1 b8 v3 ⟨hE3, q8, hv3⟩
                  · intro K hK
                    go_wp2
                    have hbb := below_alloc v1 (.cells #[.slice ax p cx] 38)
                    have hsv2 := hv1.size
                    have q8 := heap_alloc_new v1 (.cells #[.slice ax p cx] 38)
                    have hE := hE.below stabI hbb
                    have hv2 := below_tr' hv1 hbb
                    refine hK _ _ (fun _ => ⟨⟨_, grown_of_bel hv2 _⟩, rfl⟩) ?_
                    clear hK hbb
                    obtain ⟨b8, hb8⟩ : ∃ x, x = v1.heap.size := ⟨_, rfl⟩
                    simp only [← hb8] at q8 ⊢
                    have Hb8 := Lib.hid (show w6.heap.size ≤ b8 ∧ b8 < (v1.alloc (.cells #[.slice ax p cx] 38)).heap.size ∧ v1.heap.size ≤ b8 from ⟨by omega, by simp; omega, by omega⟩)
                    clear hb8
                    generalize v1.alloc (.cells #[.slice ax p cx] 38) = v2 at *
                    refine any_one (i := 3) (by kernel_rfl) rfl ?_
                    intro K hK
                    have hMv := HMW.out.below stabI hv2
                    have hsv3 := hv2.size
                    refine appendX Try.infoRow2 stabI _ _ rfl rfl hE hMv hv2 (Nat.le_refl _) hsv3 rfl (by rw [HMK.out]; rfl) (by rw [HMK.out]; simp; omega) ?_
                    intro a3 c3 v3 hE3 hv3 hg3
                    have q8 := blk_grown q8 hg3 (by have h1 := Hb1.out; have h8 := Hb8.out; simp [Value.ownBlock]; omega)
                    refine wpList_nil ⟨rfl, hK _ _ (fun _ => ⟨⟨_, grown_of_bel hv3 _⟩, rfl⟩) ?_⟩
                    clear hK hMv hE hg3
                    exact TAIL a3 c3 b1 b8 v3 ⟨hE3, q8, hv3⟩
                · intro K hK
                  go_wp2
                  have hbb := below_alloc v0 (.cells #[.slice ax p cx] 38)
                  have hsv1 := hv0.size
                  have q8 := heap_alloc_new v0 (.cells #[.slice ax p cx] 38)
                  have hv1 := below_tr' hv0 hbb
                  refine hK _ _ (fun _ => ⟨⟨_, grown_of_bel hv1 _⟩, rfl⟩) ?_
                  clear hK hbb
                  obtain ⟨b8, hb8⟩ : ∃ x, x = v0.heap.size := ⟨_, rfl⟩
                  simp only [← hb8] at q8 ⊢
                  have Hb8 := Lib.hid (show w6.heap.size ≤ b8 ∧ b8 < (v0.alloc (.cells #[.slice ax p cx] 38)).heap.size ∧ v0.heap.size ≤ b8 from ⟨by omega, by simp; omega, by omega⟩)
                  clear hb8
                  generalize v0.alloc (.cells #[.slice ax p cx] 38) = v1 at *
                  refine any_one (i := 1) (by kernel_rfl) rfl ?_
                  intro K hK
                  go_wp2
                  have hbb := below_alloc v1 (.cells #[] 38)
                  have hsv2 := hv1.size
                  have hE := listX_nil (len := List.length (α := Int)) (P := RowI) (T := 38) (B := w6.heap.size) v1 hsv2
                  have q8 := blk_below q8 hbb
                  have hv2 := below_tr' hv1 hbb
                  refine hK _ _ (fun _ => ⟨⟨_, grown_of_bel hv2 _⟩, rfl⟩) ?_
                  clear hK hbb
                  obtain ⟨b1, hb1⟩ : ∃ x, x = v1.heap.size := ⟨_, rfl⟩
                  simp only [← hb1] at hE ⊢
                  have Hb1 := Lib.hid (show w6.heap.size ≤ b1 ∧ b1 < (v1.alloc (.cells #[] 38)).heap.size ∧ v1.heap.size ≤ b1 from ⟨by omega, by simp; omega, by omega⟩)
                  clear hb1
                  generalize v1.alloc (.cells #[] 38) = v2 at *
                  refine any_one (i := 3) (by kernel_rfl) rfl ?_
                  intro K hK
                  have hMv := HMW.out.below stabI hv2
                  have hsv3 := hv2.size
                  refine appendX Try.infoRow2 stabI _ _ rfl rfl hE hMv hv2 (Nat.le_refl _) hsv3 rfl (by rw [HMK.out]; rfl) (by rw [HMK.out]; simp; omega) ?_
                  intro a3 c3 v3 hE3 hv3 hg3
                  have q8 := blk_grown q8 hg3 (by have h1 := Hb1.out; have h8 := Hb8.out; simp [Value.ownBlock]; omega)
                  refine wpList_nil ⟨rfl, hK _ _ (fun _ => ⟨⟨_, grown_of_bel hv3 _⟩, rfl⟩) ?_⟩
                  clear hK hMv hE hg3
                  exact TAIL a3 c3 b1 b8 v3 ⟨hE3, q8, hv3⟩
              case tail =>
                rintro a3 c3 b1 b8 V ⟨hE3, q8, hbV⟩
                obtain ⟨hOut, hRows, hRow2, hBi2⟩ := HALL.out
                have hx4 := HK.out.2.2.2
                have hsV := hbV.size
                refine any_one (i := 9) (by kernel_rfl) rfl ?_
                intro K hK
                have hS1 : SeeR V (some ⟨b8, 0, none⟩) 1 [(ax, cx)] [X] := (listX_one (B := 0) (by rw [hx4]; exact q8) (Nat.zero_le _) (hRow2.below hbV)).see
                refine appendX Try.infoRow2 stabI _ _ rfl rfl hE3 hS1 hbV (Nat.le_refl _) hsV rfl rfl (by rw [List.nil_append, HMK.out]; simp; omega) ?_
                intro a4 c4 V2 hE4 hb4 hg4
                refine wpList_nil ⟨rfl, hK _ _ (fun _ => ⟨⟨_, grown_of_bel hb4 _⟩, rfl⟩) ?_⟩
                have hE4 : ListR V2 w6.heap.size a4 c4 (vm ++ [(ax, cx)]) (m ++ [X]) := hE4
                obtain ⟨k2, hk2⟩ : ∃ k2, k2 = (([] ++ m) ++ [X]).length := ⟨_, rfl⟩
                rw [← hk2]
                have hk3 : (m ++ [X]).length = k2 := hk2.symm
                have hk4 : (pre ++ [t0]).length = k2 := by rw [HPL.out, ← hk3, List.length_append, HMK.out]; rfl
                have hs4 := hb4.size
                have hB4 := below_tr' hBi2 hb4
                have C6 := IH.out (subR C X) (m ++ [X]) a4 c4 k2 (vm ++ [(ax, cx)]) an cn V2 HPRE.out hk4 hk3 (by rw [subR_length]; exact HC0.out) HSS.out hE4.see (fun Y hY => by
                  rcases List.mem_append.1 hY with h1 | h1
                  · exact HM5.out Y h1
                  · rw [List.mem_singleton.1 h1, hx4]; exact hn) (HRD.out.below hB4) (by rw [← HNEXT.out]; exact (own_rd HN5.out).below hb4)
                have hlen := fillS_len t (subR C X) (m ++ [X]) (by rw [subR_length, HC0.out]; exact hn)
                have hlen2 : 32 ^ t.length ≤ 32 ^ 5 := Nat.pow_le_pow_right (by omega) htl
                have h325 : 32 ^ 5 = 33554432 := by decide
                generalize fillS t (subR C X) (m ++ [X]) = G2 at *
                have HOO := Lib.hid (And.intro hOut (And.intro hRows (And.intro hBi2 hb4)))
                clear hK hS1 hE3 q8 hE4 hg4 hk2 hk3 hk4 hOut hRows hRow2 hBi2 hbV
                refine any_one (i := 12) (by kernel_rfl) rfl ?_
                intro K hK
                go_wp2_with fail
                refine C6.mono ?_
                rintro e V3 ⟨a5, c5, v5, rfl, hL5, hb5⟩
                have hL5 := hL5.see
                have HS5 := Lib.hid hL5
                have HB5 := Lib.hid (below_tr' hb4 hb5)
                clear C6 hL5
                go_wp2
                refine hK _ _ (fun _ => ⟨⟨_, grown_of_bel HB5.out _⟩, rfl⟩) ?_
                clear hK
                refine any_one (i := 13) (by kernel_rfl) rfl ?_
                intro K hK
                obtain ⟨hOut, hRows, hBi2, _⟩ := HOO.out
                have hO3 := hOut.below stabM HB5.out
                have hR3 := hRows.below stabI HB5.out
                have hB5 := below_tr' hBi2 HB5.out
                have hs5 := hB5.size
                refine appendX Try.infoIII stabM _ _ rfl rfl hO3 HS5.out hB5 (Nat.le_refl _) hs5 rfl rfl (by omega) ?_
                intro a6 c6 V4 hL6 hb6 hg6
                refine wpList_nil ⟨rfl, hK _ _ (fun _ => ⟨⟨_, grown_trans (grown_of_bel HB5.out _) hg6⟩, rfl⟩) ?_⟩
                have hR4 := ListR.grownT hR3 hO3.2.1 (by decide) (by decide) hg6
                have HFIN := Lib.hid (And.intro hL6 (And.intro hR4 hb6))
                clear hK hL6 hR4 hb6 hg6 hO3 hR3 hB5 hOut hRows hBi2
                refine any_one (i := 14) (by kernel_rfl) rfl ?_
                intro K hK
                go_wp2
                refine hK _ _ (fun h => absurd rfl h) ?_
                clear hK
                refine any_end (by kernel_rfl) ?_
                go_wp2
                go_roundw
                case rel => exact ⟨q + 1, a6, c6, _, by omega, by go_num, by rw [HSUM.out]; first | rfl | rw [List.length_append], by rw [HSUM.out]; exact HFIN.out.1, HFIN.out.2.1, HFIN.out.2.2⟩
                case measure => simp [intOf]; omega
            · have hv0 : leastI (rowF (nextF C X) p) ≠ 0 := fun h => hfit (HLF.out.1 h)
              have HSUM := Lib.hid (HSU.out.trans (by rw [if_neg hfit, List.append_nil]))
              generalize leastI (rowF (nextF C X) p) = V at *
              have hvb : (V == 0) = false := beq_eq_false_iff_ne.2 hv0
              clear hv0 hfit HSU HNS HLF
              go_wp2_with fail
              refine C5.mono ?_
              rintro e w6 ⟨rfl, rfl⟩
              clear C5
              obtain ⟨h1, h2, h3, h4⟩ := HALL.out
              go_wp2
              go_roundw
              case rel => exact ⟨q + 1, ao, co, vo, by omega, by go_num, by rw [HSUM.out], by rw [HSUM.out]; exact h1, h2, h4⟩
              case measure => simp [intOf]; omega
      · obtain rfl : q = nl := by omega
        have HOUT := Lib.hid hO
        clear hO hL1
        rw [← HFS.out] at hfl HOUT ⊢
        go_wp2
        go_ret
        exact ⟨ao, co, vo, rfl, HOUT.out, hb⟩

end Go.Proofs.Ytjghcegacgpehaa
