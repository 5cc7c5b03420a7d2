
/- The laws' helpers on rows of rows of numbers: compare (equal ones), mark. -/
import Derived.Test.YtjmiafkkbganlaaMatL
import Derived.Test.YtjmiafkkbganlaaLater
import Derived.Test.YtjmiafkkbganlaaAppG
import Derived.Test.YtjmiafkkbganlaaRng
namespace Go.Proofs.Ytjmiafkkbganlaa
open Go.RowKit

set_option maxHeartbeats 1000000 in
theorem eqIntSS_any (a b : Option Addr) (ca cb n : Nat) (m : List (List Int)) (w : World) (hn : m.length = n) (hx : RdM w a m) (hy : RdM w b m) (hl : n + sumLen m ≤ 1048576) :
    Calls Try.prog 31 #[.slice a n ca, .slice b n cb] w fun e w' => e = .returned (.bool true) ∧ Below w.heap.size w w' := by
  go_enter Try.func31, Try.ntmps31
  go_wp2
  go_loopw [5] (fun i wr => ∃ k : Nat, k ≤ n ∧ i = .int .i64 k ∧ Below w.heap.size w wr) (fun i _ => n - (intOf i).toNat)
  case atStart => exact ⟨0, by omega, rfl, Below.refl _ _⟩
  case round =>
    obtain ⟨k, hk, rfl, hb⟩ := hrel
    by_cases hlt : k < n
    · have hkm : k < m.length := by omega
      obtain ⟨b1, o1, a1, c1, rfl, k1, r1, _, _, _⟩ := hx.below hb k hkm
      obtain ⟨b2, o2, a2, c2, rfl, k2, r2, _, _, _⟩ := hy.below hb k hkm
      have hsl := sumLen_get m k hkm
      generalize m[k]'hkm = X at *
      obtain ⟨len, hlen⟩ : ∃ len, X.length = len := ⟨_, rfl⟩
      rw [hlen] at k1 k2 hsl
      have HE := Lib.hid (fun u : Later wr => eqIntS_b a1 a2 c1 c2 len len X X u.val hlen hlen (r1.below u.ok) (r2.below u.ok) (by omega) (by omega) true (decide_eq_true rfl))
      have d1 := later_cell k1
      have d2 := later_cell k2
      clear hlen r1 r2 k1 k2 hx hy
      go_wp2
      refine wp_region_later (by kernel_rfl) (by kernel_rfl) ?_
      repeat (go_big_quiet_step ((go_at_call 17; exact calls_later _ (HE.out _))))
      refine wpQuiet_nil ?_
      intro w1 hw'
      have hb1 := below_tr' hb (later_below hw')
      clear hw' d1 d2
      go_wp2
      go_roundw
      case rel => exact ⟨k + 1, by omega, by go_num, hb1⟩
      case measure => simp [intOf]; omega
    · go_wp2
      go_ret
      exact ⟨rfl, hb⟩

/-- What markIntSS leaves: the numbers from k0 on, row by row. -/
def markR (k0 : Int) (m : List (List Int)) (r : Nat) : List Int := marks (k0 + sumLen (m.take r)) (m.getD r []).length
def marksM (k0 : Int) (m : List (List Int)) : List (List Int) := (List.range m.length).map (markR k0 m)
theorem marksM_length (k0 : Int) (m : List (List Int)) : (marksM k0 m).length = m.length := by simp [marksM]
theorem marksM_get (k0 : Int) (m : List (List Int)) (r : Nat) (h : r < (marksM k0 m).length) : (marksM k0 m)[r]'h = markR k0 m r := by simp [marksM]
theorem markR_length (k0 : Int) (m : List (List Int)) (r : Nat) (h : r < m.length) : (markR k0 m r).length = (m[r]'h).length := by
  rw [markR, marks_length, List.getD, List.getElem?_eq_getElem h]; rfl
theorem rowVs_marks (rs : List At) (k0 : Int) (m : List (List Int)) (h : rs.length = m.length) : rowVs rs (marksM k0 m) = rowVs rs m := by
  apply List.ext_getElem?
  intro i
  by_cases hi : i < m.length
  · rw [rowVs_get rs _ i (by omega) (by rw [marksM_length]; exact hi), rowVs_get rs m i (by omega) hi, marksM_get, markR_length k0 m i hi]
  · rw [List.getElem?_eq_none (by rw [rowVs_length _ _ (by rw [marksM_length]; exact h), marksM_length]; omega), List.getElem?_eq_none (by rw [rowVs_length _ _ h]; omega)]

theorem sumLen_take (m : List (List Int)) (k : Nat) : sumLen (m.take k) ≤ sumLen m := by
  have e : sumLen m = sumLen (m.take k) + sumLen (m.drop k) := by
    rw [sumLen, sumLen, sumLen, ← List.sum_append, ← List.map_append, List.take_append_drop]
  omega

/-- No inner row lies in block i. -/
def OutOf (rs : List At) (i : Nat) : Prop := ∀ r (h : r < rs.length) x, (rs[r]'h).1 = some x → x.block ≠ i

set_option maxHeartbeats 1000000 in
theorem markIntSS_any (B : Nat) (a : Option Addr) (c n : Nat) (rs : List At) (m : List (List Int)) (k0 : Int) (w : World) (ho0 : OwnM w B a n c rs m) (hl : n + sumLen m ≤ 1048576) (hk0 : 0 ≤ k0) (hk1 : k0 ≤ 1099510579200) (hBw : B ≤ w.heap.size) :
    Calls Try.prog 32 #[.slice a n c, .int .i64 k0] w fun e w' => e = .returned (.int .i64 (k0 + sumLen m)) ∧ OwnM w' B a n c rs (marksM k0 m) ∧ Below B w w' ∧ ∀ i, i < w.heap.size → OutOf rs i → w'.heap[i]? = w.heap[i]? := by
  obtain ⟨hrs, hm, hout, hin, hap⟩ := ho0
  have hAP := Lib.hid hap
  go_enter Try.func32, Try.ntmps32
  go_wp2
  go_loopw [1, 5] (fun t i wr => ∃ k : Nat, k ≤ n ∧ i = .int .i64 k ∧ t = .int .i64 (k0 + sumLen (m.take k)) ∧ wr.ownsRow B 25 1 (.slice a n c) n (rowVs rs m) ∧
      (∀ r (h : r < rs.length) (h' : r < m.length), wr.ownsRow B 3 1 (.slice (rs[r]'h).1 (m[r]'(h')).length (rs[r]'h).2) (m[r]'(h')).length (ints (if r < k then markR k0 m r else m[r]'(h')))) ∧ Below B w wr ∧ (∀ i, i < w.heap.size → OutOf rs i → wr.heap[i]? = w.heap[i]?)) (fun _ i _ => n - (intOf i).toNat)
  case atStart => exact ⟨0, by omega, rfl, by simp [sumLen], hout, by intro r h h'; simpa using hin r h h', Below.refl _ _, fun _ _ _ => rfl⟩
  case round =>
    clear hout hin
    obtain ⟨k, hk, rfl, rfl, ho, hin, hb, hfr⟩ := hrel
    by_cases hlt : k < n
    · have hkm : k < m.length := by omega
      have hkr : k < rs.length := by omega
      obtain ⟨g, ha, hgB, hgs⟩ := own_head ho (by omega)
      subst ha
      have hrow := hin k hkr hkm
      rw [if_neg (Nat.lt_irrefl k)] at hrow
      obtain ⟨b, off, e1, hc⟩ := own_rd ho k _ (rowVs_get rs m k hkr hkm)
      cases e1
      have hsl := sumLen_get m k hkm
      have hss := sumLen_succ m k hkm
      have hst := sumLen_take m k
      have C1 := markIntS_any B (rs[k]'hkr).1 (rs[k]'hkr).2 (rs[k]'hkr).2 (m[k]'hkm).length (m[k]'hkm) (k0 + sumLen (m.take k)) wr hrow (by omega) (by omega) (by omega)
      have hkind := own_kinds hrow ho (by decide)
      have HH := Lib.hid (show ∀ w2, w2.ownsRow B 3 1 (.slice (rs[k]'hkr).1 (m[k]'hkm).length (rs[k]'hkr).2) (m[k]'hkm).length (ints (marks (k0 + sumLen (m.take k)) (m[k]'hkm).length)) → wr.grownBy w2 (Value.slice (rs[k]'hkr).1 (m[k]'hkm).length (rs[k]'hkr).2).ownBlock →
          w2.ownsRow B 25 1 (.slice (some ⟨g, 0, none⟩) n c) n (rowVs rs m) ∧
          (∀ r (h : r < rs.length) (h' : r < m.length), w2.ownsRow B 3 1 (.slice (rs[r]'h).1 (m[r]'(h')).length (rs[r]'h).2) (m[r]'(h')).length (ints (if r < k + 1 then markR k0 m r else m[r]'(h')))) ∧ Below B w w2 ∧ (∀ i, i < w.heap.size → OutOf rs i → w2.heap[i]? = w.heap[i]?) by
        intro w2 hmk hg
        refine ⟨ho.kept hg (.inr hkind), ?_, below_row hb hBw hrow hg, ?_⟩
        · intro r h h'
          by_cases e : r = k
          · subst e
            rw [if_pos (by omega)]
            have : markR k0 m r = marks (k0 + sumLen (m.take r)) (m[r]'(h')).length := by rw [markR, List.getD, List.getElem?_eq_getElem h']; rfl
            rw [this]
            exact hmk
          · have hk' : (if r < k + 1 then markR k0 m r else m[r]'(h')) = (if r < k then markR k0 m r else m[r]'(h')) := by
              by_cases h5 : r < k
              · rw [if_pos h5, if_pos (by omega)]
              · rw [if_neg h5, if_neg (by omega)]
            rw [hk']
            refine own_kept (hin r h h') hg ?_
            rcases Nat.lt_or_gt_of_ne e with h6 | h6
            · exact hap r k h6 hkr
            · exact (hap k r h6 h).symm
        · intro i hi ho
          rw [hg.block i (Nat.lt_of_lt_of_le hi hb.size) ?_, hfr i hi ho]
          intro e
          cases hr : (rs[k]'hkr).1 with
          | none => rw [hr] at e; simp [Value.ownBlock] at e
          | some x =>
            rw [hr] at e
            simp only [Value.ownBlock, Option.some.injEq] at e
            exact ho k hkr x hr e.symm)
      have HSS := Lib.hid hss
      obtain ⟨ak, hak⟩ : ∃ z, z = (rs[k]'hkr).1 := ⟨_, rfl⟩
      obtain ⟨ck, hck⟩ : ∃ z, z = (rs[k]'hkr).2 := ⟨_, rfl⟩
      obtain ⟨len, hlen⟩ : ∃ z, z = (m[k]'hkm).length := ⟨_, rfl⟩
      rw [← hak, ← hck, ← hlen] at C1 HH hc
      rw [← hlen] at HSS hsl
      simp only [Nat.zero_add] at hc
      obtain ⟨S, hS⟩ : ∃ z, z = sumLen (m.take k) := ⟨_, rfl⟩
      rw [← hS] at C1 HH hst HSS ⊢
      clear hak hck hlen hS hss hrow ho hin hap hkind hb hfr
      go_wp2_with fail
      refine C1.mono ?_
      rintro e w2 ⟨rfl, hmk, hg⟩
      have HR := Lib.hid (HH.out w2 hmk hg)
      clear C1 HH hmk hg hc
      go_wp2
      go_roundw
      case rel => exact ⟨k + 1, by omega, by go_num, by rw [HSS.out]; simp; omega, HR.out.1, HR.out.2.1, HR.out.2.2.1, HR.out.2.2.2⟩
      case measure => simp [intOf]; omega
    · obtain rfl : k = n := by omega
      have hs : sumLen (m.take k) = sumLen m := by rw [← hm, List.take_length]
      have HS := Lib.hid hs
      have hfin : OwnM wr B a k c rs (marksM k0 m) := by
        refine ⟨hrs, by rw [marksM_length]; exact hm, by rw [rowVs_marks rs k0 m (by omega)]; exact ho, ?_, hap⟩
        intro r h h'
        have h7 : r < m.length := by omega
        have h8 := hin r h h7
        rw [if_pos (by omega)] at h8
        rw [marksM_get, markR_length k0 m r h7]
        exact h8
      have HF := Lib.hid hfin
      clear hs hfin ho hin hap
      go_wp2
      go_ret
      exact ⟨ret_int (by rw [HS.out]), HF.out, hb, hfr⟩

end Go.Proofs.Ytjmiafkkbganlaa
