
/- Plain laws: all matrices with sums, by places (the program's way) and by rows (the reference's way). No program is named here. -/
import Derived.Test.YtjghcegacgpehaaCopyM
namespace Go.Proofs.Ytjghcegacgpehaa
open Go.RowKit

def decN (L : List Nat) (i : Nat) : List Nat := L.set i (L.getD i 0 - 1)
theorem decN_length (L : List Nat) (i : Nat) : (decN L i).length = L.length := by simp [decN]
/-- The walk by places with a function of the matrices that are found, until it says no; k places are left. -/
def walkX {σ : Type} (may : Nat → Nat → Bool) (n cl : Nat) (go : σ → List (List Int) → σ × Bool) : Nat → List Nat → List Nat → List (List Int) → σ → σ × Bool
  | 0, R, C, m, s => if R.sum = 0 ∧ C.sum = 0 then go s m else (s, true)
  | k + 1, R, C, m, s =>
    if cl - (n * cl - (k + 1)) % cl < R.getD ((n * cl - (k + 1)) / cl) 0 then (s, true)
    else if may ((n * cl - (k + 1)) / cl) ((n * cl - (k + 1)) % cl) = true ∧ 0 < R.getD ((n * cl - (k + 1)) / cl) 0 ∧ 0 < C.getD ((n * cl - (k + 1)) % cl) 0 then
      (if (walkX may n cl go k (decN R ((n * cl - (k + 1)) / cl)) (decN C ((n * cl - (k + 1)) % cl)) (set2 m ((n * cl - (k + 1)) / cl) ((n * cl - (k + 1)) % cl) 1) s).2 = true
        then walkX may n cl go k R C m (walkX may n cl go k (decN R ((n * cl - (k + 1)) / cl)) (decN C ((n * cl - (k + 1)) % cl)) (set2 m ((n * cl - (k + 1)) / cl) ((n * cl - (k + 1)) % cl) 1) s).1
        else ((walkX may n cl go k (decN R ((n * cl - (k + 1)) / cl)) (decN C ((n * cl - (k + 1)) % cl)) (set2 m ((n * cl - (k + 1)) / cl) ((n * cl - (k + 1)) % cl) 1) s).1, false))
    else walkX may n cl go k R C m s
def solsX (may : Nat → Nat → Bool) (n cl : Nat) : Nat → List Nat → List Nat → List (List Int) → List (List (List Int))
  | 0, R, C, m => if R.sum = 0 ∧ C.sum = 0 then [m] else []
  | k + 1, R, C, m =>
    if cl - (n * cl - (k + 1)) % cl < R.getD ((n * cl - (k + 1)) / cl) 0 then []
    else (if may ((n * cl - (k + 1)) / cl) ((n * cl - (k + 1)) % cl) = true ∧ 0 < R.getD ((n * cl - (k + 1)) / cl) 0 ∧ 0 < C.getD ((n * cl - (k + 1)) % cl) 0 then
      solsX may n cl k (decN R ((n * cl - (k + 1)) / cl)) (decN C ((n * cl - (k + 1)) % cl)) (set2 m ((n * cl - (k + 1)) / cl) ((n * cl - (k + 1)) % cl) 1) else []) ++ solsX may n cl k R C m
def foldX {σ α : Type} (go : σ → α → σ × Bool) : σ → List α → σ × Bool
  | s, [] => (s, true)
  | s, x :: r => if (go s x).2 = true then foldX go (go s x).1 r else ((go s x).1, false)
theorem foldX_append {σ α : Type} (go : σ → α → σ × Bool) (s : σ) (a b : List α) : foldX go s (a ++ b) = if (foldX go s a).2 = true then foldX go (foldX go s a).1 b else ((foldX go s a).1, false) := by
  induction a generalizing s with
  | nil => rfl
  | cons x r ih =>
    simp only [List.cons_append, foldX]
    by_cases h : (go s x).2 = true
    · simp only [h, if_true, ih]
    · simp only [h, if_false, Bool.false_eq_true]
theorem walkX_fold {σ : Type} (may : Nat → Nat → Bool) (n cl : Nat) (go : σ → List (List Int) → σ × Bool) (k : Nat) (R C : List Nat) (m : List (List Int)) (s : σ) : walkX may n cl go k R C m s = foldX go s (solsX may n cl k R C m) := by
  induction k generalizing R C m s with
  | zero =>
    unfold walkX solsX
    by_cases h : R.sum = 0 ∧ C.sum = 0
    · rw [if_pos h, if_pos h]
      simp only [foldX]
      cases h2 : (go s m).2
      · simp only [Bool.false_eq_true, if_false]; exact Prod.ext rfl h2
      · simp only [if_true]; exact Prod.ext rfl h2
    · rw [if_neg h, if_neg h]; rfl
  | succ k ih =>
    rw [walkX, solsX]
    split
    · rfl
    · split
      · rw [foldX_append, ← ih, ← ih]
      · rw [ih, List.nil_append]
theorem foldX_size {σ α : Type} {go : σ → α → σ × Bool} {sz : σ → Nat} (hgo : ∀ s x, sz (go s x).1 ≤ sz s + 1) (s : σ) (l : List α) : sz (foldX go s l).1 ≤ sz s + l.length := by
  induction l generalizing s with
  | nil => simp [foldX]
  | cons x r ih =>
    unfold foldX
    have h1 := hgo s x
    split
    · have := ih (go s x).1
      rw [List.length_cons]; omega
    · rw [List.length_cons]
      show sz (go s x).1 ≤ _
      omega
theorem foldX_all {α : Type} (s l : List α) : foldX (fun s x => (s ++ [x], true)) s l = (s ++ l, true) := by
  induction l generalizing s with
  | nil => simp [foldX]
  | cons x r ih => simp only [foldX, if_true, ih, List.append_assoc]; rfl
theorem foldX_found {α : Type} (l : List α) : (foldX (fun (_ : Bool) _ => (true, false)) false l).1 = !l.isEmpty := by
  cases l <;> rfl
theorem solsX_len (may : Nat → Nat → Bool) (n cl k : Nat) (R C : List Nat) (m : List (List Int)) : (solsX may n cl k R C m).length ≤ 2 ^ k := by
  induction k generalizing R C m with
  | zero => rw [solsX]; split <;> simp
  | succ k ih =>
    rw [solsX, Nat.pow_succ]
    split
    · simp
    · rw [List.length_append]
      have h1 := ih R C m
      split
      · have h2 := ih (decN R ((n * cl - (k + 1)) / cl)) (decN C ((n * cl - (k + 1)) % cl)) (set2 m ((n * cl - (k + 1)) / cl) ((n * cl - (k + 1)) % cl) 1)
        omega
      · simp; omega

/-- The rows of bits with a sum, 1 first, where a place is open and its column has something left. -/
def rowsC (ok : Nat → Bool) : Nat → List Nat → Nat → List (List Int)
  | _, [], t => if t = 0 then [[]] else []
  | j, c :: L, t => (if ok j = true ∧ 0 < t ∧ 0 < c then (rowsC ok (j + 1) L (t - 1)).map (1 :: ·) else []) ++ (rowsC ok (j + 1) L t).map (0 :: ·)
def subR : List Nat → List Int → List Nat
  | c :: L, x :: X => (c - x.toNat) :: subR L X
  | L, _ => L
theorem subR_nil (L : List Nat) : subR L [] = L := by cases L <;> rfl
theorem subR_length (L : List Nat) (X : List Int) : (subR L X).length = L.length := by
  induction L generalizing X with
  | nil => rfl
  | cons c t ih => cases X <;> simp [subR, ih]
def fillC (may : Nat → Nat → Bool) : Nat → List Nat → List Nat → List (List Int) → List (List (List Int))
  | _, [], C, m => if C.sum = 0 then [m] else []
  | i, t :: r, C, m => (rowsC (may i) 0 C t).flatMap fun X => fillC may (i + 1) r (subR C X) (m ++ [X])

theorem getD_setX {L : List Nat} {i v x : Nat} (h : i < L.length) : (L.set i x).getD v 0 = if v = i then x else L.getD v 0 := by
  by_cases e : v = i
  · subst e
    rw [if_pos rfl, List.getD_eq_getElem?_getD, List.getElem?_set_self h]; rfl
  · rw [if_neg e, List.getD_eq_getElem?_getD, List.getElem?_set_ne (Ne.symm e), ← List.getD_eq_getElem?_getD]
theorem set_neX {L : List Nat} {i v x : Nat} (h : v ≠ i) : (L.set i x).getD v 0 = L.getD v 0 := by
  rw [List.getD_eq_getElem?_getD, List.getElem?_set_ne (Ne.symm h), ← List.getD_eq_getElem?_getD]
theorem sum_posX {L : List Nat} {v : Nat} (h : 0 < L.getD v 0) : L.sum ≠ 0 := by
  induction L generalizing v with
  | nil => simp at h
  | cons a t ih =>
    rw [List.sum_cons]
    cases v with
    | zero => simp at h; omega
    | succ v => have := ih (v := v) (by simpa using h); omega
/-- What is left of a row that is past is left for ever. -/
theorem sols_past {may : Nat → Nat → Bool} {n cl : Nat} {i0 : Nat} : ∀ (k : Nat) (R C : List Nat) (m : List (List Int)), 0 < R.getD i0 0 → i0 < (n * cl - k) / cl → solsX may n cl k R C m = [] := by
  intro k
  induction k with
  | zero =>
    intro R C m h _
    rw [solsX, if_neg]
    rintro ⟨h1, _⟩
    exact sum_posX h h1
  | succ k ih =>
    intro R C m h hi
    rw [solsX]
    split
    · rfl
    · have hk : (n * cl - (k + 1)) / cl ≤ (n * cl - k) / cl := Nat.div_le_div_right (by omega)
      rw [ih R C m h (by omega), List.append_nil]
      split
      · refine ih _ _ _ ?_ (by omega)
        rw [decN, set_neX (by omega)]; exact h
      · rfl
theorem rows_none {ok : Nat → Bool} : ∀ (L : List Nat) (j t : Nat), L.length < t → rowsC ok j L t = [] := by
  intro L
  induction L with
  | nil => intro j t h; rw [rowsC, if_neg (by simp at h; omega)]
  | cons c L ih =>
    intro j t h
    rw [List.length_cons] at h
    rw [rowsC, ih (j + 1) t (by omega)]
    split
    · rw [ih (j + 1) (t - 1) (by omega)]; rfl
    · rfl
theorem flatMap_ext {α β : Type} {l : List α} {f g : α → List β} (h : ∀ x ∈ l, f x = g x) : l.flatMap f = l.flatMap g := by
  induction l with
  | nil => rfl
  | cons a t ih => rw [List.flatMap_cons, List.flatMap_cons, h a (List.mem_cons_self ..), ih fun x hx => h x (List.mem_cons_of_mem _ hx)]

/-- One row of the walk. -/
theorem sols_row {may : Nat → Nat → Bool} {n cl i : Nat} (hcl : 0 < cl) (hi : i < n) : ∀ (d j : Nat) (R C : List Nat) (m : List (List Int)) (X : List Int), j + d = cl → R.length = n → C.length = cl → m.length = n → m.getD i [] = X ++ List.replicate d 0 → X.length = j →
    solsX may n cl ((n - i) * cl - j) R C m = (rowsC (may i) j (C.drop j) (R.getD i 0)).flatMap fun Y => solsX may n cl ((n - i - 1) * cl) (R.set i 0) (C.take j ++ subR (C.drop j) Y) (m.set i (X ++ Y)) := by
  have hni : (n - i) * cl = (n - i - 1) * cl + cl := by
    obtain ⟨q, hq⟩ : ∃ q, n - i = q + 1 := ⟨n - i - 1, by omega⟩
    rw [hq, Nat.succ_mul]; simp
  have hnc : n * cl = i * cl + (n - i) * cl := by rw [← Nat.add_mul]; congr 1; omega
  intro d
  induction d with
  | zero =>
    intro j R C m X hj hR hC hm hX hXl
    obtain rfl : j = cl := by omega
    rw [show (n - i) * j - j = (n - i - 1) * j by omega, List.drop_of_length_le (by omega), List.take_of_length_le (by omega), rowsC]
    have hX' : m.getD i [] = X := by rw [hX]; simp
    by_cases ht : R.getD i 0 = 0
    · rw [if_pos ht]
      have e1 : R.set i 0 = R := by
        refine List.ext_getElem (by simp) fun q h1 h2 => ?_
        rw [List.getElem_set]
        split
        · rename_i e; subst e
          rw [List.getD_eq_getElem?_getD, List.getElem?_eq_getElem h2] at ht
          exact ht.symm
        · rfl
      have e2 : m.set i X = m := by
        refine List.ext_getElem (by simp) fun q h1 h2 => ?_
        rw [List.getElem_set]
        split
        · rename_i e; subst e
          rw [← hX', List.getD_eq_getElem?_getD, List.getElem?_eq_getElem h2]; rfl
        · rfl
      simp only [List.flatMap_cons, List.flatMap_nil, List.append_nil, subR_nil, e1, e2]
    · rw [if_neg ht]
      refine sols_past (i0 := i) _ _ _ _ (by omega) ?_
      have e3 : n * j - (n - i - 1) * j = (i + 1) * j := by
        rw [Nat.succ_mul]; omega
      rw [e3, Nat.mul_div_cancel _ (by omega)]; omega
  | succ d ih =>
    intro j R C m X hj hR hC hm hX hXl
    have hjc : j < cl := by omega
    obtain ⟨K, hK⟩ : ∃ K, K = (n - i) * cl - (j + 1) := ⟨_, rfl⟩
    have hk1 : (n - i) * cl - j = K + 1 := by omega
    have hat : n * cl - (K + 1) = i * cl + j := by omega
    have hdiv : (n * cl - (K + 1)) / cl = i := by
      rw [hat, Nat.add_comm, Nat.mul_comm, Nat.add_mul_div_left _ _ (by omega), Nat.div_eq_of_lt hjc]; omega
    have hmod : (n * cl - (K + 1)) % cl = j := by
      rw [hat, Nat.add_comm, Nat.mul_comm, Nat.add_mul_mod_self_left, Nat.mod_eq_of_lt hjc]
    rw [hk1, solsX, hdiv, hmod]
    have hdl : (C.drop j).length = cl - j := by rw [List.length_drop, hC]
    by_cases hcut : cl - j < R.getD i 0
    · rw [if_pos hcut, rows_none _ _ _ (by rw [hdl]; exact hcut)]; rfl
    · rw [if_neg hcut]
      have hjC : j < C.length := by omega
      have hdrop : C.drop j = C.getD j 0 :: C.drop (j + 1) := by
        rw [List.drop_eq_getElem_cons hjC, List.getD_eq_getElem?_getD, List.getElem?_eq_getElem hjC]; rfl
      have htake : ∀ L : List Nat, j < L.length → L.take (j + 1) = L.take j ++ [L.getD j 0] := by
        intro L hL
        rw [List.take_succ_eq_append_getElem hL, List.getD_eq_getElem?_getD, List.getElem?_eq_getElem hL]; rfl
      have him : i < m.length := by omega
      have h0 := ih (j + 1) R C m (X ++ [0]) (by omega) hR hC hm (by rw [hX, List.replicate_succ]; simp) (by simp [hXl])
      rw [← hK] at h0
      rw [hdrop, rowsC, List.flatMap_append, h0]
      congr 1
      · by_cases hc : may i j = true ∧ 0 < R.getD i 0 ∧ 0 < C.getD j 0
        · rw [if_pos hc, if_pos hc]
          have hs2 : set2 m i j 1 = m.set i (X ++ [1] ++ List.replicate d 0) := by
            rw [set2, hX]
            congr 1
            rw [List.set_append_right _ _ (by omega), List.replicate_succ]
            have : j - X.length = 0 := by omega
            rw [this]
            simp
          have h1 := ih (j + 1) (decN R i) (decN C j) (set2 m i j 1) (X ++ [1]) (by omega) (by rw [decN_length]; exact hR) (by rw [decN_length]; exact hC) (by rw [hs2, List.length_set]; exact hm)
            (by rw [hs2, List.getD_eq_getElem?_getD, List.getElem?_set_self him]; rfl) (by simp [hXl])
          rw [← hK] at h1
          have hd1 : (decN C j).drop (j + 1) = C.drop (j + 1) := by rw [decN, List.drop_set_of_lt (by omega)]
          have hr1 : (decN R i).getD i 0 = R.getD i 0 - 1 := by rw [decN, getD_setX (by omega), if_pos rfl]
          rw [h1, hd1, hr1, List.flatMap_map]
          refine flatMap_ext fun Y _ => ?_
          have e1 : (decN R i).set i 0 = R.set i 0 := by rw [decN, List.set_set]
          have e2 : (decN C j).take (j + 1) ++ subR (C.drop (j + 1)) Y = C.take j ++ subR (C.getD j 0 :: C.drop (j + 1)) (1 :: Y) := by
            rw [htake _ (by rw [decN_length]; omega)]
            have : (decN C j).take j = C.take j := by rw [decN, List.take_set_of_le (by omega)]
            rw [this, decN, getD_setX hjC, if_pos rfl, List.append_assoc]; rfl
          have e3 : (set2 m i j 1).set i (X ++ [1] ++ Y) = m.set i (X ++ 1 :: Y) := by
            rw [hs2, List.set_set, List.append_assoc]; rfl
          rw [e1, e2, e3]
        · rw [if_neg hc, if_neg hc]; rfl
      · rw [List.flatMap_map]
        refine flatMap_ext fun Y _ => ?_
        have e2 : C.take (j + 1) ++ subR (C.drop (j + 1)) Y = C.take j ++ subR (C.getD j 0 :: C.drop (j + 1)) (0 :: Y) := by
          rw [htake C hjC, List.append_assoc]; rfl
        have e3 : X ++ [0] ++ Y = X ++ 0 :: Y := by rw [List.append_assoc]; rfl
        rw [e2, e3]

theorem sum_zeroX {L : List Nat} (h : ∀ v, L.getD v 0 = 0) : L.sum = 0 := by
  induction L with
  | nil => rfl
  | cons a t ih =>
    have h0 := h 0
    have h1 := ih fun v => by simpa using h (v + 1)
    rw [List.sum_cons, h1]
    simp at h0
    omega
/-- All rows of the walk. -/
theorem sols_fill {may : Nat → Nat → Bool} {n cl : Nat} (hcl : 0 < cl) : ∀ (d i : Nat) (R C : List Nat) (m : List (List Int)), i + d = n → R.length = n → C.length = cl → m.length = n → (∀ v, v < i → R.getD v 0 = 0) → (∀ v, i ≤ v → v < n → m.getD v [] = List.replicate cl 0) →
    solsX may n cl ((n - i) * cl) R C m = fillC may i (R.drop i) C (m.take i) := by
  intro d
  induction d with
  | zero =>
    intro i R C m hi hR hC hm hz _
    obtain rfl : i = n := by omega
    rw [Nat.sub_self, Nat.zero_mul, solsX, List.drop_of_length_le (by omega), List.take_of_length_le (by omega), fillC]
    have : R.sum = 0 := sum_zeroX fun v => by
      by_cases h : v < i
      · exact hz v h
      · rw [List.getD_eq_getElem?_getD, List.getElem?_eq_none (by omega)]; rfl
    simp [this]
  | succ d ih =>
    intro i R C m hi hR hC hm hz hm0
    have hin : i < n := by omega
    have h0 := sols_row (may := may) hcl hin cl 0 R C m [] (by omega) hR hC hm (by rw [hm0 i (Nat.le_refl _) hin]; rfl) rfl
    rw [Nat.sub_zero] at h0
    have hRi : i < R.length := by omega
    have hdrop : R.drop i = R.getD i 0 :: R.drop (i + 1) := by
      rw [List.drop_eq_getElem_cons hRi, List.getD_eq_getElem?_getD, List.getElem?_eq_getElem hRi]; rfl
    rw [h0, hdrop, fillC]
    simp only [List.drop_zero, List.take_zero, List.nil_append]
    refine flatMap_ext fun Y _ => ?_
    have h1 := ih (i + 1) (R.set i 0) (subR C Y) (m.set i Y) (by omega) (by rw [List.length_set]; exact hR) (by rw [subR_length]; exact hC) (by rw [List.length_set]; exact hm)
      (fun v hv => by
        rw [getD_setX hRi]
        split
        · rfl
        · exact hz v (by omega))
      (fun v hv hvn => by
        rw [List.getD_eq_getElem?_getD, List.getElem?_set_ne (by omega), ← List.getD_eq_getElem?_getD]
        exact hm0 v (by omega) hvn)
    rw [show n - (i + 1) = n - i - 1 by omega] at h1
    have e1 : (R.set i 0).drop (i + 1) = R.drop (i + 1) := by rw [List.drop_set_of_lt (by omega)]
    have e2 : (m.set i Y).take (i + 1) = m.take i ++ [Y] := by
      have hm' : i < (m.set i Y).length := by rw [List.length_set]; omega
      rw [List.take_succ_eq_append_getElem hm', List.take_set_of_le (by omega), List.getElem_set_self]
    rw [h1, e1, e2]
/-- The matrices with sums. -/
def zeroM (n cl : Nat) : List (List Int) := List.replicate n (List.replicate cl 0)
def matsX (may : Nat → Nat → Bool) (R C : List Nat) : List (List (List Int)) := fillC may 0 R C []
theorem sols_all (may : Nat → Nat → Bool) {R C : List Nat} (hC : 0 < C.length) : solsX may R.length C.length (R.length * C.length) R C (zeroM R.length C.length) = matsX may R C := by
  have h := sols_fill (may := may) (n := R.length) hC R.length 0 R C (zeroM R.length C.length) (by omega) rfl rfl (by simp [zeroM]) (fun v hv => by omega)
    (fun v _ hv => by rw [zeroM, List.getD_eq_getElem?_getD, List.getElem?_replicate, if_pos hv]; rfl)
  rw [Nat.sub_zero, List.drop_zero, List.take_zero] at h
  exact h

/-- The reference's rows. -/
def rowsL : Nat → Nat → List (List Int)
  | 0, t => if t = 0 then [[]] else []
  | n + 1, t => (if 0 < t then (rowsL n (t - 1)).map (1 :: ·) else []) ++ (rowsL n t).map (0 :: ·)
/-- A row that the columns have room for. -/
def fitsR : List Nat → List Int → Bool
  | c :: L, x :: X => decide (x ≤ c) && fitsR L X
  | _, _ => true
theorem rowsL_fits (L : List Nat) : ∀ (j t : Nat), (rowsL L.length t).filter (fitsR L) = rowsC (fun _ => true) j L t := by
  induction L with
  | nil =>
    intro j t
    show (rowsL 0 t).filter (fitsR []) = _
    rw [rowsL, rowsC]
    split <;> simp [fitsR]
  | cons c L ih =>
    intro j t
    show (rowsL (L.length + 1) t).filter (fitsR (c :: L)) = _
    rw [rowsL, rowsC, List.filter_append]
    congr 1
    · by_cases ht : 0 < t
      · rw [if_pos ht, List.filter_map]
        by_cases hc : 0 < c
        · rw [if_pos ⟨rfl, ht, hc⟩, ← ih (j + 1) (t - 1)]
          congr 1
          refine List.filter_congr fun X _ => ?_
          have : (1 : Int) ≤ (c : Int) := by omega
          simp [fitsR, this]
        · rw [if_neg fun h => hc h.2.2]
          have : (rowsL L.length (t - 1)).filter (fitsR (c :: L) ∘ (1 :: ·)) = [] := by
            rw [List.filter_eq_nil_iff]
            intro X _
            have : ¬ (1 : Int) ≤ (c : Int) := by omega
            simp [fitsR, this]
          rw [this]; rfl
      · rw [if_neg ht, if_neg fun h => ht h.2.1]; rfl
    · rw [List.filter_map, ← ih (j + 1) t]
      congr 1
theorem rowsL_mem {n t : Nat} {X : List Int} (h : X ∈ rowsL n t) : X.length = n ∧ ∀ v ∈ X, v = 0 ∨ v = 1 := by
  induction n generalizing t X with
  | zero =>
    rw [rowsL] at h
    split at h
    · rw [List.mem_singleton.1 h]; simp
    · simp at h
  | succ n ih =>
    rw [rowsL] at h
    rcases List.mem_append.1 h with h1 | h1
    · split at h1
      · obtain ⟨Y, hY, rfl⟩ := List.mem_map.1 h1
        have := ih hY
        exact ⟨by simp [this.1], fun v hv => by
          rcases List.mem_cons.1 hv with h2 | h2
          · exact .inr h2
          · exact this.2 v h2⟩
      · simp at h1
    · obtain ⟨Y, hY, rfl⟩ := List.mem_map.1 h1
      have := ih hY
      exact ⟨by simp [this.1], fun v hv => by
        rcases List.mem_cons.1 hv with h2 | h2
        · exact .inl h2
        · exact this.2 v h2⟩
theorem rowsL_len (n t : Nat) : (rowsL n t).length ≤ 2 ^ n := by
  induction n generalizing t with
  | zero => rw [rowsL]; split <;> simp
  | succ n ih =>
    rw [rowsL, List.length_append, List.length_map, Nat.pow_succ]
    have := ih t
    split
    · rw [List.length_map]; have := ih (t - 1); omega
    · simp; omega

/-- The sums of the columns. -/
def colS (Y : List (List Int)) (q : Nat) : Int := (Y.map fun X => X.getD q 0).sum
theorem colS_cons (X : List Int) (Y : List (List Int)) (q : Nat) : colS (X :: Y) q = X.getD q 0 + colS Y q := by simp [colS]
/-- A row of bits in open places. -/
def RowOK (ok : Nat → Bool) (j : Nat) (X : List Int) : Prop := ∀ q, q < X.length → X.getD q 0 = 0 ∨ (X.getD q 0 = 1 ∧ ok (j + q) = true)
theorem rowsC_mem {ok : Nat → Bool} {X : List Int} : ∀ {L : List Nat} {j t : Nat}, X ∈ rowsC ok j L t ↔ X.length = L.length ∧ RowOK ok j X ∧ (∀ q, q < X.length → X.getD q 0 ≤ L.getD q 0) ∧ X.sum = t := by
  intro L
  induction L generalizing X with
  | nil =>
    intro j t
    rw [rowsC]
    constructor
    · intro h
      split at h
      · rename_i ht
        rw [List.mem_singleton.1 h]
        exact ⟨rfl, fun q hq => by simp at hq, fun q hq => by simp at hq, by simp [ht]⟩
      · simp at h
    · rintro ⟨h1, _, _, h4⟩
      have : X = [] := List.eq_nil_of_length_eq_zero h1
      subst this
      simp at h4
      rw [if_pos (by omega)]; simp
  | cons c L ih =>
    intro j t
    rw [rowsC, List.mem_append, List.mem_map]
    constructor
    · rintro (h | ⟨Y, hY, rfl⟩)
      · split at h
        · rename_i hc
          obtain ⟨Y, hY, rfl⟩ := List.mem_map.1 h
          obtain ⟨h1, h2, h3, h4⟩ := ih.1 hY
          refine ⟨by simp [h1], fun q hq => ?_, fun q hq => ?_, ?_⟩
          · cases q with
            | zero => exact .inr ⟨rfl, hc.1⟩
            | succ q =>
              have := h2 q (by simpa using hq)
              rw [show j + (q + 1) = j + 1 + q by omega]
              simpa using this
          · cases q with
            | zero => simp; omega
            | succ q => simpa using h3 q (by simpa using hq)
          · rw [List.sum_cons, h4]; omega
        · simp at h
      · obtain ⟨h1, h2, h3, h4⟩ := ih.1 hY
        refine ⟨by simp [h1], fun q hq => ?_, fun q hq => ?_, ?_⟩
        · cases q with
          | zero => exact .inl rfl
          | succ q =>
            have := h2 q (by simpa using hq)
            rw [show j + (q + 1) = j + 1 + q by omega]
            simpa using this
        · cases q with
          | zero => simp
          | succ q => simpa using h3 q (by simpa using hq)
        · rw [List.sum_cons, h4]; omega
    · rintro ⟨h1, h2, h3, h4⟩
      cases X with
      | nil => simp at h1
      | cons x Y =>
        have hY1 : Y.length = L.length := by simpa using h1
        have hY2 : RowOK ok (j + 1) Y := fun q hq => by
          have := h2 (q + 1) (by simp; omega)
          rw [show j + (q + 1) = j + 1 + q by omega] at this
          simpa using this
        have hY3 : ∀ q, q < Y.length → Y.getD q 0 ≤ L.getD q 0 := fun q hq => by simpa using h3 (q + 1) (by simp; omega)
        have h20 := h2 0 (by simp)
        have h30 := h3 0 (by simp)
        simp only [List.getD_cons_zero, Nat.add_zero] at h20 h30
        have hY0 : 0 ≤ Y.sum := by
          have : ∀ Z : List Int, (∀ v ∈ Z, 0 ≤ v) → 0 ≤ Z.sum := by
            intro Z
            induction Z with
            | nil => intro _; simp
            | cons a t ih => intro h; rw [List.sum_cons]; have := h a (List.mem_cons_self ..); have := ih fun v hv => h v (List.mem_cons_of_mem _ hv); omega
          refine this Y fun v hv => ?_
          obtain ⟨q, hq, rfl⟩ := List.getElem_of_mem hv
          have := hY2 q hq
          rw [List.getD_eq_getElem?_getD, List.getElem?_eq_getElem hq, Option.getD_some] at this
          omega
        rw [List.sum_cons] at h4
        rcases h20 with h5 | ⟨h5, h6⟩
        · right
          subst h5
          exact ⟨Y, ih.2 ⟨hY1, hY2, hY3, by omega⟩, rfl⟩
        · left
          subst h5
          rw [if_pos ⟨h6, by omega, by omega⟩]
          exact List.mem_map.2 ⟨Y, ih.2 ⟨hY1, hY2, hY3, by omega⟩, rfl⟩
theorem subR_at {L : List Nat} {X : List Int} (hl : X.length = L.length) (q : Nat) : (subR L X).getD q 0 = L.getD q 0 - (X.getD q 0).toNat := by
  induction L generalizing X q with
  | nil =>
    have : X = [] := List.eq_nil_of_length_eq_zero hl
    subst this; simp [subR]
  | cons c L ih =>
    cases X with
    | nil => simp at hl
    | cons x X =>
      rw [subR]
      cases q with
      | zero => simp
      | succ q => simpa using ih (by simpa using hl) q
/-- The matrices of the list are those with the sums. -/
theorem fillC_mem {may : Nat → Nat → Bool} : ∀ {r : List Nat} {i : Nat} {C : List Nat} {m x : List (List Int)}, x ∈ fillC may i r C m ↔ ∃ Y, x = m ++ Y ∧ Y.length = r.length ∧ (∀ p (h : p < Y.length), (Y[p]'h).length = C.length ∧ RowOK (may (i + p)) 0 (Y[p]'h) ∧ (Y[p]'h).sum = r.getD p 0) ∧ ∀ q, q < C.length → colS Y q = C.getD q 0 := by
  intro r
  induction r with
  | nil =>
    intro i C m x
    rw [fillC]
    constructor
    · intro h
      split at h
      · rename_i hC
        rw [List.mem_singleton.1 h]
        refine ⟨[], by simp, rfl, fun p hp => by simp at hp, fun q hq => ?_⟩
        have : C.getD q 0 = 0 := by
          refine Classical.byContradiction fun h0 => ?_
          exact sum_posX (L := C) (v := q) (by omega) hC
        rw [this]; simp [colS]
      · simp at h
    · rintro ⟨Y, rfl, hY, _, h4⟩
      have : Y = [] := List.eq_nil_of_length_eq_zero hY
      subst this
      rw [if_pos]
      · simp
      · refine sum_zeroX fun v => ?_
        by_cases hv : v < C.length
        · have h5 := h4 v hv
          have h6 : colS [] v = 0 := rfl
          rw [h6] at h5
          omega
        · rw [List.getD_eq_getElem?_getD, List.getElem?_eq_none (by omega)]; rfl
  | cons t r ih =>
    intro i C m x
    rw [fillC, List.mem_flatMap]
    constructor
    · rintro ⟨X, hX, hx⟩
      obtain ⟨h1, h2, h3, h4⟩ := rowsC_mem.1 hX
      obtain ⟨Y, rfl, hY, hYr, hYc⟩ := ih.1 hx
      rw [subR_length] at hYr hYc
      refine ⟨X :: Y, by simp, by simp [hY], fun p hp => ?_, fun q hq => ?_⟩
      · cases p with
        | zero => exact ⟨h1, by simpa using h2, by simpa using h4⟩
        | succ p =>
          have := hYr p (by simpa using hp)
          rw [show i + 1 + p = i + (p + 1) by omega] at this
          simpa using this
      · have e := hYc q hq
        rw [subR_at h1] at e
        have h5 := h3 q (by omega)
        have h6 := h2 q (by omega)
        rw [colS_cons, e]
        omega
    · rintro ⟨Y, rfl, hY, hYr, hYc⟩
      cases Y with
      | nil => simp at hY
      | cons X Y =>
        have hX := hYr 0 (by simp)
        simp only [List.getElem_cons_zero, Nat.add_zero, List.getD_cons_zero] at hX
        have hpos : ∀ q, q < C.length → 0 ≤ colS Y q := by
          intro q hq
          have : ∀ Z : List (List Int), (∀ W ∈ Z, 0 ≤ W.getD q 0) → 0 ≤ colS Z q := by
            intro Z
            induction Z with
            | nil => intro _; simp [colS]
            | cons a b ih2 => intro h; rw [colS_cons]; have := h a (List.mem_cons_self ..); have := ih2 fun v hv => h v (List.mem_cons_of_mem _ hv); omega
          refine this Y fun W hW => ?_
          obtain ⟨p, hp, rfl⟩ := List.getElem_of_mem hW
          have h7 := hYr (p + 1) (by simp; omega)
          have h8 := h7.2.1 q (by rw [h7.1]; exact hq)
          simp only [List.getElem_cons_succ] at h8
          omega
        refine ⟨X, rowsC_mem.2 ⟨hX.1, hX.2.1, fun q hq => ?_, hX.2.2⟩, ih.2 ⟨Y, by simp, by simpa using hY, fun p hp => ?_, fun q hq => ?_⟩⟩
        · have h5 := hYc q (by omega)
          rw [colS_cons] at h5
          have := hpos q (by omega)
          omega
        · have h7 := hYr (p + 1) (by simp; omega)
          rw [subR_length, show i + 1 + p = i + (p + 1) by omega]
          simpa using h7
        · rw [subR_length] at hq
          have h5 := hYc q hq
          rw [colS_cons] at h5
          rw [subR_at hX.1]
          have h6 := hX.2.1 q (by omega)
          have := hpos q hq
          omega

end Go.Proofs.Ytjghcegacgpehaa
