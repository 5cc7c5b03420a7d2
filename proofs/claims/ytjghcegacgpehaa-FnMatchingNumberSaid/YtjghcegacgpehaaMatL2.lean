
/- Several texts in one: Mat, MatL, MatL2. -/
import Derived.Test.YtjghcegacgpehaaBase
import Derived.Test.YtjghcegacgpehaaInts
import Derived.Test.YtjghcegacgpehaaBlk
import Derived.Test.YtjghcegacgpehaaAppG
import Derived.Test.YtjghcegacgpehaaRng
namespace Go.Proofs.Ytjghcegacgpehaa
open Go.RowKit

def RdM (w : World) (a : Option Addr) (m : List (List Int)) : Prop :=
  ∀ r (h : r < m.length), ∃ b off a' c', a = some ⟨b, off, none⟩ ∧ w.cell? ⟨b, off + r, none⟩ = some (.slice a' (m[r]'h).length c') ∧ Rd w a' (ints (m[r]'h)) ∧ (m[r]'h).length ≤ c' ∧ c' ≤ maxLen ∧ (a' = none → c' = 0)

theorem rdM_nil (w : World) (a : Option Addr) : RdM w a [] := by intro r h; simp at h

theorem RdM.below {w w' : World} {a : Option Addr} {m : List (List Int)} (h : RdM w a m) (hb : Below w.heap.size w w') : RdM w' a m := by
  intro r hr
  obtain ⟨b, off, a', c', rfl, hc, hrd, h1, h2, h3⟩ := h r hr
  exact ⟨b, off, a', c', rfl, (hb.cell (p := ⟨b, off + r, none⟩) (Rd.lt hc)).trans hc, hrd.below hb, h1, h2, h3⟩

theorem addr_add (b off n : Nat) : (⟨b, off, none⟩ : Addr).add n = ⟨b, off + n, none⟩ := by unfold Addr.add; split <;> simp_all

theorem rd_of_cells {w : World} {x : Addr} {c l : Nat} {zs : List Int} (hl : l ≤ c) (hz : zs.length = c) (h : ∀ j, j < c → w.cell? (x.add j) = some (.int .i64 (zs.getD j 0))) : Rd w (some x) (ints (zs.take l)) := by
  intro j u hu
  have hj : j < (zs.take l).length := by have := (List.getElem?_eq_some_iff.1 hu).1; rwa [ints_length] at this
  have hjl : j < l := by simp at hj; omega
  have hjz : j < zs.length := by omega
  have hc := h j (by omega)
  obtain ⟨b, off, spot⟩ := x
  have hspot : spot = none := by simpa [Addr.add] using World.cell?_spot (h 0 (by omega))
  subst hspot
  refine ⟨b, off, rfl, ?_⟩
  rw [addr_add] at hc
  rw [hc, ← hu]
  have e2 : (ints (zs.take l))[j]? = some (.int .i64 (zs[j]'hjz)) := ints_get _ _ _ (by rw [List.getElem?_take, if_pos hjl, List.getElem?_eq_getElem hjz])
  rw [e2]
  simp [List.getD, List.getElem?_eq_getElem hjz]

theorem rdM_of_rows {w : World} {x : Addr} {len : Nat} {A : Nat → Option Addr} {L C : Nat → Nat} {Z : Nat → List Int}
    (h : ∀ r, r < len → w.cell? (x.add r) = some (.slice (A r) (L r) (C r)) ∧ L r ≤ C r ∧ C r ≤ maxLen ∧ (Z r).length = C r ∧ (A r = none → C r = 0) ∧ ∀ a', A r = some a' → ∀ c, c < C r → w.cell? (a'.add c) = some (.int .i64 ((Z r).getD c 0))) :
    ∃ m : List (List Int), m.length = len ∧ RdM w (some x) m := by
  refine ⟨(List.range len).map fun r => (Z r).take (L r), by simp, ?_⟩
  intro r hr
  have hr' : r < len := by simpa using hr
  obtain ⟨h0, h1, h2, h3, h4, h5⟩ := h r hr'
  have e : ((List.range len).map fun r => (Z r).take (L r))[r]'hr = (Z r).take (L r) := by simp
  have el : ((Z r).take (L r)).length = L r := by simp; omega
  obtain ⟨b, off, spot⟩ := x
  have hspot : spot = none := by simpa [Addr.add] using World.cell?_spot (h 0 (by omega)).1
  subst hspot
  rw [e, el]
  rw [addr_add] at h0
  refine ⟨b, off, A r, C r, rfl, h0, ?_, h1, h2, h4⟩
  cases ha : A r with
  | none =>
    have hc0 := h4 ha
    have : (Z r).take (L r) = [] := List.eq_nil_of_length_eq_zero (by omega)
    rw [this]
    exact Rd.nil _ _
  | some a' => exact rd_of_cells h1 h3 (h5 a' ha)

theorem rdM_of_rows' {w : World} {x : Addr} {len : Nat} {A : Nat → Option Addr} {L C : Nat → Nat} {Z : Nat → List Int}
    (h : ∀ r, r < len → w.cell? (x.add r) = some (.slice (A r) (L r) (C r)) ∧ L r ≤ C r ∧ C r ≤ maxLen ∧ (Z r).length = C r ∧ (A r = none → C r = 0) ∧ ∀ a', A r = some a' → ∀ c, c < C r → w.cell? (a'.add c) = some (.int .i64 ((Z r).getD c 0))) :
    ∃ m : List (List Int), m.length = len ∧ RdM w (some x) m ∧ ∀ r (hr : r < m.length), m[r]'hr = (Z r).take (L r) := by
  refine ⟨(List.range len).map fun r => (Z r).take (L r), by simp, ?_, by intro r hr; simp⟩
  intro r hr
  have hr' : r < len := by simpa using hr
  obtain ⟨h0, h1, h2, h3, h4, h5⟩ := h r hr'
  have e : ((List.range len).map fun r => (Z r).take (L r))[r]'hr = (Z r).take (L r) := by simp
  have el : ((Z r).take (L r)).length = L r := by simp; omega
  obtain ⟨b, off, spot⟩ := x
  have hspot : spot = none := by simpa [Addr.add] using World.cell?_spot (h 0 (by omega)).1
  subst hspot
  rw [e, el]
  rw [addr_add] at h0
  refine ⟨b, off, A r, C r, rfl, h0, ?_, h1, h2, h4⟩
  cases ha : A r with
  | none =>
    have hc0 := h4 ha
    have : (Z r).take (L r) = [] := List.eq_nil_of_length_eq_zero (by omega)
    rw [this]
    exact Rd.nil _ _
  | some a' => exact rd_of_cells h1 h3 (h5 a' ha)

/-- All numbers of the rows are numbers of 64 bits. -/
def WfM (m : List (List Int)) : Prop := ∀ r (h : r < m.length) k (hk : k < (m[r]'h).length), -9223372036854775808 ≤ (m[r]'h)[k]'hk ∧ (m[r]'h)[k]'hk ≤ 9223372036854775807
theorem wfM_nil : WfM [] := by intro r h; simp at h

theorem rdM_of_rows2 {w : World} {x : Addr} {len : Nat} {A : Nat → Option Addr} {L C : Nat → Nat} {Z : Nat → List Int}
    (h : ∀ r, r < len → w.cell? (x.add r) = some (.slice (A r) (L r) (C r)) ∧ L r ≤ C r ∧ C r ≤ maxLen ∧ (Z r).length = C r ∧ (A r = none → C r = 0) ∧ ∀ a', A r = some a' → ∀ c, c < C r → w.cell? (a'.add c) = some (.int .i64 ((Z r).getD c 0)))
    (hz : ∀ r, r < len → ∀ n ∈ Z r, (Lit.int .i64 n).wf = true) :
    ∃ m : List (List Int), m.length = len ∧ RdM w (some x) m ∧ WfM m := by
  obtain ⟨m, hm, hr, he⟩ := rdM_of_rows' h
  refine ⟨m, hm, hr, ?_⟩
  intro r hr k hk
  have h1 : (m[r]'hr)[k]'hk ∈ Z r := by
    have h2 : (m[r]'hr)[k]'hk ∈ (m[r]'hr) := List.getElem_mem hk
    generalize (m[r]'hr)[k]'hk = v at h2
    rw [he r hr] at h2
    exact List.mem_of_mem_take h2
  have h3 := hz r (by omega) _ h1
  have e1 : IntKind.i64.min = -9223372036854775808 := rfl
  have e2 : IntKind.i64.max = 9223372036854775807 := rfl
  simp only [Lit.wf, Bool.and_eq_true, decide_eq_true_eq] at h3
  omega

theorem Try.infoRow : (Try.prog.info? 38).map (fun i => (i.zero, i.size, i.bytes)) = some (some (.slice none 0 0), 1, 24) := by kernel_rfl
theorem Try.infoII : Info Try.prog 34 38 (.slice none 0 0) 1 24 := ⟨Try.underlying34, Try.infoRow, rfl, by decide, by decide⟩

/-- Where a row lies, and its capacity. -/
abbrev At := Option Addr × Nat
def rowVs (rs : List At) (m : List (List Int)) : List Value := (rs.zip m).map fun p => .slice p.1.1 p.2.length p.1.2
theorem rowVs_length (rs : List At) (m : List (List Int)) (h : rs.length = m.length) : (rowVs rs m).length = m.length := by simp [rowVs, h]
theorem rowVs_snoc (rs : List At) (m : List (List Int)) (r : At) (x : List Int) (h : rs.length = m.length) : rowVs (rs ++ [r]) (m ++ [x]) = rowVs rs m ++ [.slice r.1 x.length r.2] := by
  simp [rowVs, List.zip_append h]
theorem rowVs_get (rs : List At) (m : List (List Int)) (k : Nat) (h1 : k < rs.length) (h2 : k < m.length) : (rowVs rs m)[k]? = some (.slice (rs[k]'h1).1 (m[k]'h2).length (rs[k]'h1).2) := by
  have hz : k < (rs.zip m).length := by rw [List.length_zip]; omega
  rw [rowVs, List.getElem?_map, List.getElem?_eq_getElem hz, List.getElem_zip]
  rfl

/-- A matrix that is owned: its outer row, and inner rows that lie apart from each other. -/
def OwnM (w : World) (B : Nat) (a : Option Addr) (n c : Nat) (rs : List At) (m : List (List Int)) : Prop :=
  rs.length = n ∧ m.length = n ∧ w.ownsRow B 38 1 (.slice a n c) n (rowVs rs m) ∧
    (∀ r (h : r < rs.length) (h' : r < m.length), w.ownsRow B 3 1 (.slice (rs[r]'h).1 (m[r]'(h')).length (rs[r]'h).2) (m[r]'(h')).length (ints (m[r]'(h')))) ∧
    ∀ r s (h : r < s) (hs : s < rs.length), Apart (rs[r]'(by omega)).1 (rs[s]'hs).1

theorem own_shape {w : World} {B T s n c : Nat} {a : Option Addr} {cs : List Value} (h : w.ownsRow B T s (.slice a n c) n cs) : n ≤ c ∧ c ≤ maxLen ∧ (a = none → c = 0) := by
  rcases h.2 with ⟨h1, h2⟩ | ⟨g, cap, cur, h1, hB, hg, hn, hc, _⟩
  · cases h1
    exact ⟨by omega, by decide, fun _ => rfl⟩
  · cases h1
    exact ⟨hn, hc, fun h => by cases h⟩

theorem OwnM.rdM {w : World} {B n c : Nat} {a : Option Addr} {rs : List At} {m : List (List Int)} (h : OwnM w B a n c rs m) : RdM w a m := by
  intro r hr
  obtain ⟨h1, h2, h3, h4, _⟩ := h
  have hr' : r < rs.length := by omega
  obtain ⟨b, off, ha, hc⟩ := own_rd h3 r _ (rowVs_get rs m r hr' hr)
  have ho := h4 r hr' hr
  have hs := own_shape ho
  exact ⟨b, off, _, _, ha, hc, own_rd ho, hs.1, hs.2.1, hs.2.2⟩

theorem OwnM.below {w w' : World} {B n c : Nat} {a : Option Addr} {rs : List At} {m : List (List Int)} (h : OwnM w B a n c rs m) (hb : Below w.heap.size w w') : OwnM w' B a n c rs m :=
  ⟨h.1, h.2.1, own_below h.2.2.1 hb, fun r h1 h2 => own_below (h.2.2.2.1 r h1 h2) hb, h.2.2.2.2⟩
theorem OwnM.mono {w : World} {B B' n c : Nat} {a : Option Addr} {rs : List At} {m : List (List Int)} (h : OwnM w B a n c rs m) (hB : B' ≤ B) : OwnM w B' a n c rs m :=
  ⟨h.1, h.2.1, own_mono h.2.2.1 hB, fun r h1 h2 => own_mono (h.2.2.2.1 r h1 h2) hB, h.2.2.2.2⟩

/-- The blocks of two owned rows of different kinds of elements differ. -/
theorem own_kinds {w : World} {B T s n c m B' T' s' n' c' m' : Nat} {a : Option Addr} {g : Nat} {cs cs' : List Value} (h : w.ownsRow B T s (.slice a m c) n cs) (h' : w.ownsRow B' T' s' (.slice (some ⟨g, 0, none⟩) m' c') n' cs') (hT : T ≠ T') : some g ≠ (Value.slice a m c).ownBlock := by
  rcases h'.2 with ⟨h1, _⟩ | ⟨g', cap, cur, h1, hB, hg, _⟩
  · cases h1
  · cases h1
    exact own_ne h hg hT

def sumLen (m : List (List Int)) : Nat := (m.map List.length).sum
theorem sumLen_get (m : List (List Int)) (k : Nat) (h : k < m.length) : (m[k]'h).length ≤ sumLen m := by
  induction m generalizing k with
  | nil => simp at h
  | cons x l ih =>
    have e : sumLen (x :: l) = x.length + sumLen l := by simp [sumLen]
    rw [e]
    cases k with
    | zero => simp
    | succ k =>
      have := ih k (by simpa using h)
      simp only [List.getElem_cons_succ]
      omega
theorem sumLen_succ (m : List (List Int)) (k : Nat) (h : k < m.length) : sumLen (m.take (k + 1)) = sumLen (m.take k) + (m[k]'h).length := by
  rw [sumLen, List.take_succ_eq_append_getElem h, List.map_append, List.sum_append]; simp [sumLen]

theorem set_row (rs : List At) (m : List (List Int)) (n k : Nat) (r : At) (hr : rs.length = k) (hm : m.length = n) (hk : k < n) :
    (rowVs rs (m.take k) ++ List.replicate (n - k) (Value.slice none 0 0)).set k (.slice r.1 (m[k]'(by omega)).length r.2) = rowVs (rs ++ [r]) (m.take (k + 1)) ++ List.replicate (n - (k + 1)) (Value.slice none 0 0) := by
  have e : m.take (k + 1) = m.take k ++ [m[k]'(by omega)] := List.take_succ_eq_append_getElem (by omega)
  have hl : (rowVs rs (m.take k)).length = k := by rw [rowVs_length _ _ (by simp; omega)]; simp; omega
  rw [e, rowVs_snoc _ _ _ _ (by simp; omega), show n - k = (n - (k + 1)) + 1 from by omega, List.replicate_succ, List.set_append_right _ _ (by omega), hl, Nat.sub_self, List.set_cons_zero, List.append_assoc]
  rfl

theorem rows_zero (n : Nat) : (madeCells #[Value.slice none 0 0] n).toList = List.replicate n (Value.slice none 0 0) := toList_madeCells_one _ _

set_option maxHeartbeats 1000000 in
theorem eqIntSS_any (a b : Option Addr) (ca cb n : Nat) (m : List (List Int)) (w : World) (hn : m.length = n) (hx : RdM w a m) (hy : RdM w b m) (hl : n + sumLen m ≤ 1048576) :
    Calls Try.prog 135 #[.slice a n ca, .slice b n cb] w fun e w' => e = .returned (.bool true) ∧ Below w.heap.size w w' := by
  go_enter Try.func135, Try.ntmps135
  go_wp2
  go_loopw [5] (fun i wr => ∃ k : Nat, k ≤ n ∧ i = .int .i64 k ∧ Below w.heap.size w wr) (fun i _ => n - (intOf i).toNat)
  case atStart => exact ⟨0, by omega, rfl, Below.refl _ _⟩
  case round =>
    obtain ⟨k, hk, rfl, hb⟩ := hrel
    by_cases hlt : k < n
    · have hkm : k < m.length := by omega
      obtain ⟨b1, o1, a1, c1, rfl, k1, r1, _, _, _⟩ := hx.below hb k hkm
      obtain ⟨b2, o2, a2, c2, rfl, k2, r2, _, _, _⟩ := hy.below hb k hkm
      have hsl := sumLen_get m k hkm
      generalize m[k]'hkm = X at *
      obtain ⟨len, hlen⟩ : ∃ len, X.length = len := ⟨_, rfl⟩
      rw [hlen] at k1 k2 hsl
      have HE := Lib.hid (fun u : Later wr => eqIntS_b a1 a2 c1 c2 len len X X u.val hlen hlen (r1.below u.ok) (r2.below u.ok) (by omega) (by omega) true (decide_eq_true rfl))
      have d1 := later_cell k1
      have d2 := later_cell k2
      clear hlen r1 r2 k1 k2 hx hy
      go_wp2
      refine wp_region_later (by kernel_rfl) (by kernel_rfl) ?_
      repeat (go_big_quiet_step ((go_at_call 31; exact calls_later _ (HE.out _))))
      refine wpQuiet_nil ?_
      intro w1 hw'
      have hb1 := below_tr' hb (later_below hw')
      clear hw' d1 d2
      go_wp2
      go_roundw
      case rel => exact ⟨k + 1, by omega, by go_num, hb1⟩
      case measure => simp [intOf]; omega
    · go_wp2
      go_ret
      exact ⟨rfl, hb⟩

/-- What markIntSS leaves: the numbers from k0 on, row by row. -/
def markR (k0 : Int) (m : List (List Int)) (r : Nat) : List Int := marks (k0 + sumLen (m.take r)) (m.getD r []).length
def marksM (k0 : Int) (m : List (List Int)) : List (List Int) := (List.range m.length).map (markR k0 m)
theorem marksM_length (k0 : Int) (m : List (List Int)) : (marksM k0 m).length = m.length := by simp [marksM]
theorem marksM_get (k0 : Int) (m : List (List Int)) (r : Nat) (h : r < (marksM k0 m).length) : (marksM k0 m)[r]'h = markR k0 m r := by simp [marksM]
theorem markR_length (k0 : Int) (m : List (List Int)) (r : Nat) (h : r < m.length) : (markR k0 m r).length = (m[r]'h).length := by
  rw [markR, marks_length, List.getD, List.getElem?_eq_getElem h]; rfl
theorem rowVs_marks (rs : List At) (k0 : Int) (m : List (List Int)) (h : rs.length = m.length) : rowVs rs (marksM k0 m) = rowVs rs m := by
  apply List.ext_getElem?
  intro i
  by_cases hi : i < m.length
  · rw [rowVs_get rs _ i (by omega) (by rw [marksM_length]; exact hi), rowVs_get rs m i (by omega) hi, marksM_get, markR_length k0 m i hi]
  · rw [List.getElem?_eq_none (by rw [rowVs_length _ _ (by rw [marksM_length]; exact h), marksM_length]; omega), List.getElem?_eq_none (by rw [rowVs_length _ _ h]; omega)]

theorem sumLen_take (m : List (List Int)) (k : Nat) : sumLen (m.take k) ≤ sumLen m := by
  have e : sumLen m = sumLen (m.take k) + sumLen (m.drop k) := by
    rw [sumLen, sumLen, sumLen, ← List.sum_append, ← List.map_append, List.take_append_drop]
  omega

/-- No inner row lies in block i. -/
def OutOf (rs : List At) (i : Nat) : Prop := ∀ r (h : r < rs.length) x, (rs[r]'h).1 = some x → x.block ≠ i

set_option maxHeartbeats 1000000 in
theorem markIntSS_any (B : Nat) (a : Option Addr) (c n : Nat) (rs : List At) (m : List (List Int)) (k0 : Int) (w : World) (ho0 : OwnM w B a n c rs m) (hl : n + sumLen m ≤ 1048576) (hk0 : 0 ≤ k0) (hk1 : k0 ≤ 1099510579200) (hBw : B ≤ w.heap.size) :
    Calls Try.prog 136 #[.slice a n c, .int .i64 k0] w fun e w' => e = .returned (.int .i64 (k0 + sumLen m)) ∧ OwnM w' B a n c rs (marksM k0 m) ∧ Below B w w' ∧ ∀ i, i < w.heap.size → OutOf rs i → w'.heap[i]? = w.heap[i]? := by
  obtain ⟨hrs, hm, hout, hin, hap⟩ := ho0
  have hAP := Lib.hid hap
  go_enter Try.func136, Try.ntmps136
  go_wp2
  go_loopw [1, 5] (fun t i wr => ∃ k : Nat, k ≤ n ∧ i = .int .i64 k ∧ t = .int .i64 (k0 + sumLen (m.take k)) ∧ wr.ownsRow B 38 1 (.slice a n c) n (rowVs rs m) ∧
      (∀ r (h : r < rs.length) (h' : r < m.length), wr.ownsRow B 3 1 (.slice (rs[r]'h).1 (m[r]'(h')).length (rs[r]'h).2) (m[r]'(h')).length (ints (if r < k then markR k0 m r else m[r]'(h')))) ∧ Below B w wr ∧ (∀ i, i < w.heap.size → OutOf rs i → wr.heap[i]? = w.heap[i]?)) (fun _ i _ => n - (intOf i).toNat)
  case atStart => exact ⟨0, by omega, rfl, by simp [sumLen], hout, by intro r h h'; simpa using hin r h h', Below.refl _ _, fun _ _ _ => rfl⟩
  case round =>
    clear hout hin
    obtain ⟨k, hk, rfl, rfl, ho, hin, hb, hfr⟩ := hrel
    by_cases hlt : k < n
    · have hkm : k < m.length := by omega
      have hkr : k < rs.length := by omega
      obtain ⟨g, ha, hgB, hgs⟩ := own_head ho (by omega)
      subst ha
      have hrow := hin k hkr hkm
      rw [if_neg (Nat.lt_irrefl k)] at hrow
      obtain ⟨b, off, e1, hc⟩ := own_rd ho k _ (rowVs_get rs m k hkr hkm)
      cases e1
      have hsl := sumLen_get m k hkm
      have hss := sumLen_succ m k hkm
      have hst := sumLen_take m k
      have C1 := markIntS_any B (rs[k]'hkr).1 (rs[k]'hkr).2 (rs[k]'hkr).2 (m[k]'hkm).length (m[k]'hkm) (k0 + sumLen (m.take k)) wr hrow (by omega) (by omega) (by omega)
      have hkind := own_kinds hrow ho (by decide)
      have HH := Lib.hid (show ∀ w2, w2.ownsRow B 3 1 (.slice (rs[k]'hkr).1 (m[k]'hkm).length (rs[k]'hkr).2) (m[k]'hkm).length (ints (marks (k0 + sumLen (m.take k)) (m[k]'hkm).length)) → wr.grownBy w2 (Value.slice (rs[k]'hkr).1 (m[k]'hkm).length (rs[k]'hkr).2).ownBlock →
          w2.ownsRow B 38 1 (.slice (some ⟨g, 0, none⟩) n c) n (rowVs rs m) ∧
          (∀ r (h : r < rs.length) (h' : r < m.length), w2.ownsRow B 3 1 (.slice (rs[r]'h).1 (m[r]'(h')).length (rs[r]'h).2) (m[r]'(h')).length (ints (if r < k + 1 then markR k0 m r else m[r]'(h')))) ∧ Below B w w2 ∧ (∀ i, i < w.heap.size → OutOf rs i → w2.heap[i]? = w.heap[i]?) by
        intro w2 hmk hg
        refine ⟨ho.kept hg (.inr hkind), ?_, below_row hb hBw hrow hg, ?_⟩
        · intro r h h'
          by_cases e : r = k
          · subst e
            rw [if_pos (by omega)]
            have : markR k0 m r = marks (k0 + sumLen (m.take r)) (m[r]'(h')).length := by rw [markR, List.getD, List.getElem?_eq_getElem h']; rfl
            rw [this]
            exact hmk
          · have hk' : (if r < k + 1 then markR k0 m r else m[r]'(h')) = (if r < k then markR k0 m r else m[r]'(h')) := by
              by_cases h5 : r < k
              · rw [if_pos h5, if_pos (by omega)]
              · rw [if_neg h5, if_neg (by omega)]
            rw [hk']
            refine own_kept (hin r h h') hg ?_
            rcases Nat.lt_or_gt_of_ne e with h6 | h6
            · exact hap r k h6 hkr
            · exact (hap k r h6 h).symm
        · intro i hi ho
          rw [hg.block i (Nat.lt_of_lt_of_le hi hb.size) ?_, hfr i hi ho]
          intro e
          cases hr : (rs[k]'hkr).1 with
          | none => rw [hr] at e; simp [Value.ownBlock] at e
          | some x =>
            rw [hr] at e
            simp only [Value.ownBlock, Option.some.injEq] at e
            exact ho k hkr x hr e.symm)
      have HSS := Lib.hid hss
      obtain ⟨ak, hak⟩ : ∃ z, z = (rs[k]'hkr).1 := ⟨_, rfl⟩
      obtain ⟨ck, hck⟩ : ∃ z, z = (rs[k]'hkr).2 := ⟨_, rfl⟩
      obtain ⟨len, hlen⟩ : ∃ z, z = (m[k]'hkm).length := ⟨_, rfl⟩
      rw [← hak, ← hck, ← hlen] at C1 HH hc
      rw [← hlen] at HSS hsl
      simp only [Nat.zero_add] at hc
      obtain ⟨S, hS⟩ : ∃ z, z = sumLen (m.take k) := ⟨_, rfl⟩
      rw [← hS] at C1 HH hst HSS ⊢
      clear hak hck hlen hS hss hrow ho hin hap hkind hb hfr
      go_wp2_with fail
      refine C1.mono ?_
      rintro e w2 ⟨rfl, hmk, hg⟩
      have HR := Lib.hid (HH.out w2 hmk hg)
      clear C1 HH hmk hg hc
      go_wp2
      go_roundw
      case rel => exact ⟨k + 1, by omega, by go_num, by rw [HSS.out]; simp; omega, HR.out.1, HR.out.2.1, HR.out.2.2.1, HR.out.2.2.2⟩
      case measure => simp [intOf]; omega
    · obtain rfl : k = n := by omega
      have hs : sumLen (m.take k) = sumLen m := by rw [← hm, List.take_length]
      have HS := Lib.hid hs
      have hfin : OwnM wr B a k c rs (marksM k0 m) := by
        refine ⟨hrs, by rw [marksM_length]; exact hm, by rw [rowVs_marks rs k0 m (by omega)]; exact ho, ?_, hap⟩
        intro r h h'
        have h7 : r < m.length := by omega
        have h8 := hin r h h7
        rw [if_pos (by omega)] at h8
        rw [marksM_get, markR_length k0 m r h7]
        exact h8
      have HF := Lib.hid hfin
      clear hs hfin ho hin hap
      go_wp2
      go_ret
      exact ⟨ret_int (by rw [HS.out]), HF.out, hb, hfr⟩

end Go.Proofs.Ytjghcegacgpehaa
