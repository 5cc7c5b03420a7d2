
/- The laws' helpers on rows of rows of numbers: their size, copy, compare, mark. -/
import Derived.Test.YtbhhapbocnlblaaInts
import Derived.Test.YtbhhapbocnlblaaBlk
import Derived.Test.YtbhhapbocnlblaaMat
namespace Go.Proofs.Ytbhhapbocnlblaa
open Go.RowKit

theorem Try.infoRow : (Try.prog.info? 27).map (fun i => (i.zero, i.size, i.bytes)) = some (some (.slice none 0 0), 1, 24) := by kernel_rfl
theorem Try.infoII : Info Try.prog 22 27 (.slice none 0 0) 1 24 := ⟨Try.underlying22, Try.infoRow, rfl, by decide, by decide⟩

/-- Where a row lies, and its capacity. -/
abbrev At := Option Addr × Nat
def rowVs (rs : List At) (m : List (List Int)) : List Value := (rs.zip m).map fun p => .slice p.1.1 p.2.length p.1.2
theorem rowVs_length (rs : List At) (m : List (List Int)) (h : rs.length = m.length) : (rowVs rs m).length = m.length := by simp [rowVs, h]
theorem rowVs_snoc (rs : List At) (m : List (List Int)) (r : At) (x : List Int) (h : rs.length = m.length) : rowVs (rs ++ [r]) (m ++ [x]) = rowVs rs m ++ [.slice r.1 x.length r.2] := by
  simp [rowVs, List.zip_append h]
theorem rowVs_get (rs : List At) (m : List (List Int)) (k : Nat) (h1 : k < rs.length) (h2 : k < m.length) : (rowVs rs m)[k]? = some (.slice (rs[k]'h1).1 (m[k]'h2).length (rs[k]'h1).2) := by
  have hz : k < (rs.zip m).length := by rw [List.length_zip]; omega
  rw [rowVs, List.getElem?_map, List.getElem?_eq_getElem hz, List.getElem_zip]
  rfl

/-- A matrix that is owned: its outer row, and inner rows that lie apart from each other. -/
def OwnM (w : World) (B : Nat) (a : Option Addr) (n c : Nat) (rs : List At) (m : List (List Int)) : Prop :=
  rs.length = n ∧ m.length = n ∧ w.ownsRow B 27 1 (.slice a n c) n (rowVs rs m) ∧
    (∀ r (h : r < rs.length) (h' : r < m.length), w.ownsRow B 3 1 (.slice (rs[r]'h).1 (m[r]'(h')).length (rs[r]'h).2) (m[r]'(h')).length (ints (m[r]'(h')))) ∧
    ∀ r s (h : r < s) (hs : s < rs.length), Apart (rs[r]'(by omega)).1 (rs[s]'hs).1

theorem own_shape {w : World} {B T s n c : Nat} {a : Option Addr} {cs : List Value} (h : w.ownsRow B T s (.slice a n c) n cs) : n ≤ c ∧ c ≤ maxLen ∧ (a = none → c = 0) := by
  rcases h.2 with ⟨h1, h2⟩ | ⟨g, cap, cur, h1, hB, hg, hn, hc, _⟩
  · cases h1
    exact ⟨by omega, by decide, fun _ => rfl⟩
  · cases h1
    exact ⟨hn, hc, fun h => by cases h⟩

theorem OwnM.rdM {w : World} {B n c : Nat} {a : Option Addr} {rs : List At} {m : List (List Int)} (h : OwnM w B a n c rs m) : RdM w a m := by
  intro r hr
  obtain ⟨h1, h2, h3, h4, _⟩ := h
  have hr' : r < rs.length := by omega
  obtain ⟨b, off, ha, hc⟩ := own_rd h3 r _ (rowVs_get rs m r hr' hr)
  have ho := h4 r hr' hr
  have hs := own_shape ho
  exact ⟨b, off, _, _, ha, hc, own_rd ho, hs.1, hs.2.1, hs.2.2⟩

theorem OwnM.below {w w' : World} {B n c : Nat} {a : Option Addr} {rs : List At} {m : List (List Int)} (h : OwnM w B a n c rs m) (hb : Below w.heap.size w w') : OwnM w' B a n c rs m :=
  ⟨h.1, h.2.1, own_below h.2.2.1 hb, fun r h1 h2 => own_below (h.2.2.2.1 r h1 h2) hb, h.2.2.2.2⟩
theorem OwnM.mono {w : World} {B B' n c : Nat} {a : Option Addr} {rs : List At} {m : List (List Int)} (h : OwnM w B a n c rs m) (hB : B' ≤ B) : OwnM w B' a n c rs m :=
  ⟨h.1, h.2.1, own_mono h.2.2.1 hB, fun r h1 h2 => own_mono (h.2.2.2.1 r h1 h2) hB, h.2.2.2.2⟩

/-- The blocks of two owned rows of different kinds of elements differ. -/
theorem own_kinds {w : World} {B T s n c m B' T' s' n' c' m' : Nat} {a : Option Addr} {g : Nat} {cs cs' : List Value} (h : w.ownsRow B T s (.slice a m c) n cs) (h' : w.ownsRow B' T' s' (.slice (some ⟨g, 0, none⟩) m' c') n' cs') (hT : T ≠ T') : some g ≠ (Value.slice a m c).ownBlock := by
  rcases h'.2 with ⟨h1, _⟩ | ⟨g', cap, cur, h1, hB, hg, _⟩
  · cases h1
  · cases h1
    exact own_ne h hg hT

def sumLen (m : List (List Int)) : Nat := (m.map List.length).sum
theorem sumLen_get (m : List (List Int)) (k : Nat) (h : k < m.length) : (m[k]'h).length ≤ sumLen m := by
  induction m generalizing k with
  | nil => simp at h
  | cons x l ih =>
    have e : sumLen (x :: l) = x.length + sumLen l := by simp [sumLen]
    rw [e]
    cases k with
    | zero => simp
    | succ k =>
      have := ih k (by simpa using h)
      simp only [List.getElem_cons_succ]
      omega
theorem sumLen_succ (m : List (List Int)) (k : Nat) (h : k < m.length) : sumLen (m.take (k + 1)) = sumLen (m.take k) + (m[k]'h).length := by
  rw [sumLen, List.take_succ_eq_append_getElem h, List.map_append, List.sum_append]; simp [sumLen]

theorem szIntS_any (a : Option Addr) (c n : Nat) (left : Int) (w : World) (hn : n ≤ 9223372036854775807) (hl : 0 ≤ left) (hl2 : left ≤ 1048576) :
    Calls Try.prog 52 #[.slice a n c, .int .i64 left] w fun e w' => e = .returned (.int .i64 (if left < n then -1 else left - n)) ∧ Below w.heap.size w w' := by
  by_cases h : left < n
  · rw [if_pos h]
    go_enter Try.func52, Try.ntmps52
    go_wp2
    go_ret
    exact ⟨rfl, Below.refl _ _⟩
  · rw [if_neg h]
    go_enter Try.func52, Try.ntmps52
    go_wp2
    go_ret
    exact ⟨rfl, Below.refl _ _⟩

set_option maxHeartbeats 1000000 in
theorem szIntSS_any (a : Option Addr) (c n : Nat) (m : List (List Int)) (left : Int) (w : World) (hn : m.length = n) (hx : RdM w a m) (hl : n ≤ 9223372036854775807) (hl0 : 0 ≤ left) (hl2 : left ≤ 1048576) :
    Calls Try.prog 14 #[.slice a n c, .int .i64 left] w fun e w' => ∃ v : Int, e = .returned (.int .i64 v) ∧ -1 ≤ v ∧ (0 ≤ v → (n : Int) + sumLen m + v = left) ∧ Below w.heap.size w w' := by
  by_cases h : left < n
  · go_enter Try.func14, Try.ntmps14
    go_wp2
    go_ret
    exact ⟨-1, rfl, by omega, by omega, Below.refl _ _⟩
  · go_enter Try.func14, Try.ntmps14
    go_wp2
    go_loopw [1, 5] (fun t i wr => ∃ (k : Nat) (v : Int), k ≤ n ∧ i = .int .i64 k ∧ t = .int .i64 v ∧ 0 ≤ v ∧ (n : Int) + sumLen (m.take k) + v = left ∧ Below w.heap.size w wr) (fun _ i _ => n - (intOf i).toNat)
    case atStart => exact ⟨0, left - n, by omega, rfl, rfl, by omega, by simp [sumLen]; omega, Below.refl _ _⟩
    case round =>
      obtain ⟨k, v, hk, rfl, rfl, hv, hs, hb⟩ := hrel
      by_cases hlt : k < n
      · have hkm : k < m.length := by omega
        obtain ⟨b, off, a', c', rfl, hc, hrd, h1, h2, h3⟩ := hx.below hb k hkm
        have HS := Lib.hid (sumLen_succ m k hkm)
        have hml : (m[k]'hkm).length ≤ 9223372036854775807 := by unfold maxLen at h2; omega
        generalize (m[k]'hkm).length = len at *
        have C1 := szIntS_any a' c' len v wr hml hv (by omega)
        clear hrd
        by_cases hvl : v < len
        · rw [if_pos hvl] at C1
          go_wp2_with fail
          refine C1.mono ?_
          rintro e w1 ⟨rfl, hb1⟩
          have hb1 := below_tr' hb hb1
          clear C1 hc
          go_wp2
          go_ret
          exact ⟨-1, rfl, by omega, by omega, hb1⟩
        · rw [if_neg hvl] at C1
          go_wp2_with fail
          refine C1.mono ?_
          rintro e w1 ⟨rfl, hb1⟩
          have hb1 := below_tr' hb hb1
          clear C1 hc
          go_wp2
          go_roundw
          case rel => exact ⟨k + 1, v - len, by omega, by go_num, rfl, by omega, by rw [HS.out]; omega, hb1⟩
          case measure => simp [intOf]; omega
      · obtain rfl : k = n := by omega
        have hs' : (k : Int) + sumLen m + v = left := by rw [← hn, List.take_length] at hs; rw [← hn]; exact hs
        go_wp2
        go_ret
        exact ⟨v, rfl, by omega, fun _ => hs', hb⟩

theorem set_row (rs : List At) (m : List (List Int)) (n k : Nat) (r : At) (hr : rs.length = k) (hm : m.length = n) (hk : k < n) :
    (rowVs rs (m.take k) ++ List.replicate (n - k) (Value.slice none 0 0)).set k (.slice r.1 (m[k]'(by omega)).length r.2) = rowVs (rs ++ [r]) (m.take (k + 1)) ++ List.replicate (n - (k + 1)) (Value.slice none 0 0) := by
  have e : m.take (k + 1) = m.take k ++ [m[k]'(by omega)] := List.take_succ_eq_append_getElem (by omega)
  have hl : (rowVs rs (m.take k)).length = k := by rw [rowVs_length _ _ (by simp; omega)]; simp; omega
  rw [e, rowVs_snoc _ _ _ _ (by simp; omega), show n - k = (n - (k + 1)) + 1 from by omega, List.replicate_succ, List.set_append_right _ _ (by omega), hl, Nat.sub_self, List.set_cons_zero, List.append_assoc]
  rfl

theorem rows_zero (n : Nat) : (madeCells #[Value.slice none 0 0] n).toList = List.replicate n (Value.slice none 0 0) := toList_madeCells_one _ _

set_option maxHeartbeats 1000000 in
theorem toIntSS_any (a : Option Addr) (c n : Nat) (m : List (List Int)) (w : World) (hn : m.length = n) (hx : RdM w a m) (hl : n + sumLen m ≤ 1048576) :
    Calls Try.prog 16 #[.slice a n c] w fun e w' => ∃ rs, e = .returned (.slice (some ⟨w.heap.size, 0, none⟩) n n) ∧ OwnM w' w.heap.size (some ⟨w.heap.size, 0, none⟩) n n rs m ∧ Below w.heap.size w w' := by
  obtain ⟨i0, hi, hz0, hz1, hz2⟩ := info_parts Try.infoRow
  go_enter Try.func16, Try.ntmps16
  go_wp2_with (at_make; refine wpList_make_full _ rfl _ _ 22 rfl w.heap.size 27 i0 (.slice none 0 0) 1 Try.underlying22 hi hz0 hz1 _ _ _ _ n rfl rfl rfl rfl ?b1 ?b2 ?b3 ?_)
  case b1 => rw [hz2]; omega
  case b2 => unfold maxLen; omega
  case b3 => exact Nat.le_refl _
  intro w1 hown1 hg1
  have hown : w1.ownsRow w.heap.size 27 1 (.slice (some ⟨w.heap.size, 0, none⟩) n n) n (rowVs [] (m.take 0) ++ List.replicate (n - 0) (Value.slice none 0 0)) := by
    have e : (madeCells #[Value.slice none 0 0] n).toList = rowVs [] (m.take 0) ++ List.replicate (n - 0) (Value.slice none 0 0) := by
      rw [rows_zero]; simp [rowVs]
    rw [← e]; exact hown1
  have hB : Below w.heap.size w w1 := grown_none_below hg1
  clear hown1 hg1
  go_wp2
  go_loopw [4] (fun i wr => ∃ (k : Nat) (rs : List At), k ≤ n ∧ i = .int .i64 k ∧ rs.length = k ∧ wr.ownsRow w.heap.size 27 1 (.slice (some ⟨w.heap.size, 0, none⟩) n n) n (rowVs rs (m.take k) ++ List.replicate (n - k) (Value.slice none 0 0)) ∧
      (∀ r (h : r < rs.length) (h' : r < m.length), wr.ownsRow w.heap.size 3 1 (.slice (rs[r]'h).1 (m[r]'(h')).length (rs[r]'h).2) (m[r]'(h')).length (ints (m[r]'(h')))) ∧ (∀ r s (h : r < s) (hs : s < rs.length), Apart (rs[r]'(by omega)).1 (rs[s]'hs).1) ∧ Below w.heap.size w wr) (fun i _ => n - (intOf i).toNat)
  case atStart => exact ⟨0, [], by omega, rfl, rfl, hown, by intro r h; simp at h, by intro r s h hs; simp at hs, hB⟩
  case round =>
    obtain ⟨k, rs, hk, rfl, hrs, ho, hin, hap, hb⟩ := hrel
    by_cases hlt : k < n
    · have hkm : k < m.length := by omega
      obtain ⟨b, off, a', c', rfl, hc, hrd, h1, h2, h3⟩ := hx.below hb k hkm
      have hsl := sumLen_get m k hkm
      have C1 := toIntS_any a' c' (m[k]'hkm).length (m[k]'hkm) wr rfl hrd (by omega)
      have HST := Lib.hid (set_row rs m n k (some ⟨wr.heap.size, 0, none⟩, (m[k]'hkm).length) hrs hn hlt)
      have hsz := hb.size
      have HIN := Lib.hid hin
      have HAP := Lib.hid hap
      obtain ⟨X, hX⟩ : ∃ X, X = m[k]'hkm := ⟨_, rfl⟩
      rw [← hX] at C1
      have HX := Lib.hid hX
      obtain ⟨len, hlen⟩ : ∃ len, len = X.length := ⟨_, rfl⟩
      have hlk : (m[k]'hkm).length = len := by rw [hlen, hX]
      rw [hlk] at hc
      rw [← hlen] at C1
      have HLEN := Lib.hid hlen
      have HLK := Lib.hid hlk
      clear hX hlen hlk hrd hin hap hx
      go_wp2_with fail
      refine C1.mono ?_
      rintro e w2 ⟨rfl, hrow, hb2⟩
      have ho := own_below ho hb2
      have HB2 := below_tr' hb hb2
      obtain ⟨v, c3⟩ := own_some ho k (by omega)
      have f3 := ho.frozenAt k
      have hos := (ho.stored k (.slice (some ⟨wr.heap.size, 0, none⟩) len len)).1
      have hset := HST.out
      rw [HLK.out] at hset
      rw [hset] at hos
      have hrow2 := own_setOther hrow w.heap.size k (.slice (some ⟨wr.heap.size, 0, none⟩) len len) (own_kinds hrow ho (by decide))
      have hinn : ∀ r (h : r < rs.length) (h' : r < m.length), (w2.setCell ⟨w.heap.size, k, none⟩ (.slice (some ⟨wr.heap.size, 0, none⟩) len len)).ownsRow w.heap.size 3 1 (.slice (rs[r]'h).1 (m[r]'(h')).length (rs[r]'h).2) (m[r]'(h')).length (ints (m[r]'(h'))) := by
        intro r h h'
        have h5 := own_below (HIN.out r h h') hb2
        exact own_setOther h5 _ _ _ (own_kinds h5 ho (by decide))
      have hlow : ∀ r (h : r < rs.length) (h' : r < m.length) x, (rs[r]'h).1 = some x → x.block < wr.heap.size := fun r h h' x hx => (own_lt (HIN.out r h h') x hx).2
      have SB := Lib.hid (HB2.setCell (p := ⟨w.heap.size, k, none⟩) (Nat.le_refl _) (.slice (some ⟨wr.heap.size, 0, none⟩) len len))
      have SO := Lib.hid hos
      have SR := Lib.hid (own_mono hrow2 hsz)
      have SI := Lib.hid hinn
      have SL := Lib.hid hlow
      clear ho hos hset hrow hrow2 hinn hlow C1 hc HB2
      go_wp2
      go_roundw
      case rel =>
        refine ⟨k + 1, rs ++ [(some ⟨wr.heap.size, 0, none⟩, len)], by omega, by go_num, by simp [hrs], SO.out, ?_, ?_, SB.out⟩
        · intro r h h'
          by_cases e : r < rs.length
          · rw [List.getElem_append_left e]
            exact SI.out r e h'
          · have e : r = k := by simp at h; omega
            subst e
            rw [List.getElem_append_right (by omega)]
            have e9 : m[r]'(h') = X := HX.out.symm
            simp only [hrs, Nat.sub_self, List.getElem_cons_zero]
            rw [e9, ← HLEN.out]
            exact SR.out
        · intro r s h hs
          by_cases e : s < rs.length
          · rw [List.getElem_append_left e, List.getElem_append_left (by omega)]
            exact HAP.out r s h e
          · have e : s = rs.length := by simp at hs; omega
            subst e
            rw [List.getElem_append_right (Nat.le_refl _), List.getElem_append_left h]
            intro x y hx hy
            simp only [Nat.sub_self, List.getElem_cons_zero, Option.some.injEq] at hy
            have h8 := SL.out r h (by omega) x hx
            rw [← hy]
            show x.block ≠ wr.heap.size
            omega
      case measure => simp [intOf]; omega
    · obtain rfl : k = n := by omega
      have hfin : wr.ownsRow w.heap.size 27 1 (.slice (some ⟨w.heap.size, 0, none⟩) k k) k (rowVs rs m) := by
        have e : rowVs rs (m.take k) ++ List.replicate (k - k) (Value.slice none 0 0) = rowVs rs m := by rw [← hn, List.take_length]; simp
        rw [← e]; exact ho
      have HF := Lib.hid hfin
      clear ho hfin
      go_wp2
      go_ret
      exact ⟨rs, rfl, ⟨hrs, hn, HF.out, hin, hap⟩, hb⟩

end Go.Proofs.Ytbhhapbocnlblaa
