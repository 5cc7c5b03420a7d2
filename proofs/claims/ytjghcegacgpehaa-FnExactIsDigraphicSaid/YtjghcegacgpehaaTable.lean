
/- impl.table: a matrix of a function value. -/
import Derived.Test.YtjghcegacgpehaaRowM
namespace Go.Proofs.Ytjghcegacgpehaa
open Go.RowKit

/-- A function value that answers 'f i k' at the places of a matrix, over memory that lies as it did at 'w'. -/
def GivesM (w : World) (K : Nat) (cap : Array Value) (rows cols : Nat) (f : Nat → Nat → Int) : Prop :=
  Enters Try.prog K ∧ ∀ w' (i k : Nat), Below w.heap.size w w' → i < rows → k < cols → Calls Try.prog K (#[.int .i64 i, .int .i64 k] ++ cap) w' fun e w'' => e = .returned (.int .i64 (f i k)) ∧ Below w'.heap.size w' w''

theorem rowVs_at {rs : List At} {m : List (List Int)} {r : At} {X : List Int} {n : Nat} (h : rs.length = m.length) : (rowVs (rs ++ [r]) (m ++ [X]) ++ List.replicate n (Value.slice none 0 0))[m.length]? = some (.slice r.1 X.length r.2) := by
  have hl : (rowVs rs m).length = m.length := rowVs_length _ _ h
  rw [rowVs_snoc _ _ _ _ h, List.append_assoc, List.getElem?_append_right (by omega), hl, Nat.sub_self]
  rfl
theorem set_last (m : List (List Int)) (X : List Int) (j : Nat) (v : Int) (h : m.length < (m ++ [X]).length) : (m ++ [X]).set m.length (((m ++ [X])[m.length]'h).set j v) = m ++ [X.set j v] := by
  have e : (m ++ [X])[m.length]'h = X := by simp
  rw [e, List.set_append_right _ _ (Nat.le_refl _), Nat.sub_self, List.set_cons_zero]

theorem fill_facts {w wr w2 : World} {rows i cols : Nat} {rs : List At} {m : List (List Int)} {g : Nat} (hP : PartM wr w.heap.size g rows rs m) (hm : m.length = i) (hlt : i < rows) (hB2 : Below wr.heap.size wr w2)
    (hown2 : w2.ownsRow wr.heap.size 3 1 (.slice (some ⟨wr.heap.size, 0, none⟩) cols cols) cols (List.replicate cols (.int .i64 0))) (hb : Below w.heap.size w wr) :
    (∃ v, w2.cell? ⟨g, i, none⟩ = some v) ∧ w2.frozen? ⟨g, i, none⟩ = false ∧ Hid (PartM (w2.setCell ⟨g, i, none⟩ (.slice (some ⟨wr.heap.size, 0, none⟩) cols cols)) w.heap.size g rows (rs ++ [(some ⟨wr.heap.size, 0, none⟩, cols)]) (m ++ [List.replicate cols 0])) ∧
      Hid (Below w.heap.size w (w2.setCell ⟨g, i, none⟩ (.slice (some ⟨wr.heap.size, 0, none⟩) cols cols))) ∧ (w2.setCell ⟨g, i, none⟩ (.slice (some ⟨wr.heap.size, 0, none⟩) cols cols)).cell? ⟨g, i, none⟩ = some (.slice (some ⟨wr.heap.size, 0, none⟩) cols cols) := by
  have hsz := hb.size
  have hP2 := hP.below hB2
  have hb2 := below_tr' hb hB2
  have hown3 : w2.ownsRow w.heap.size 3 1 (.slice (some ⟨wr.heap.size, 0, none⟩) cols cols) cols (ints (List.replicate cols 0)) := by
    have := own_mono hown2 hsz
    simpa [ints] using this
  have hfr : ApartA rs (some ⟨wr.heap.size, 0, none⟩) := ApartA.fresh hP.2.2.2.1 hP.1 (by intro x hx; cases hx; exact Nat.le_refl _)
  have hP3 := hP2.fill (by rw [hm]; exact hlt) hfr (by simp) hown3
  have hgB : w.heap.size ≤ g := by
    obtain ⟨g', e1, e3, _⟩ := own_head hP.2.2.1 (by omega)
    cases e1
    exact e3
  have hb3 := hb2.setCell (p := ⟨g, i, none⟩) hgB (.slice (some ⟨wr.heap.size, 0, none⟩) cols cols)
  rw [hm] at hP3
  have c4 := rowVs_at (rs := rs) (m := m) (r := (some ⟨wr.heap.size, 0, none⟩, cols)) (X := List.replicate cols (0 : Int)) (n := rows - (m ++ [List.replicate cols (0:Int)]).length) hP.1
  have c5 := hP3.2.2.1.cellAt i (by omega)
  rw [hm] at c4
  rw [c4] at c5
  simp only [List.length_replicate] at c5
  exact ⟨own_some hP2.2.2.1 i (by omega), hP2.2.2.1.frozenAt i, hP3, hb3, c5⟩

set_option maxHeartbeats 4000000 in
theorem table_any (rows cols K : Nat) (cap : Array Value) (f : Nat → Nat → Int) (w : World) (h1 : rows ≤ 1000) (h2 : cols ≤ 1000) (hf : GivesM w K cap rows cols f) :
    Calls Try.prog 88 #[.int .i64 rows, .int .i64 cols, .func (.func K) #[] cap] w fun e w' => ∃ rs, e = .returned (.slice (some ⟨w.heap.size, 0, none⟩) rows rows) ∧
      OwnM w' w.heap.size (some ⟨w.heap.size, 0, none⟩) rows rows rs (tbl rows cols f) ∧ Below w.heap.size w w' := by
  obtain ⟨hK, hf⟩ := hf
  have hK' : ∀ args w, (callFunc K args).run Try.prog w = .ok (.enter K args) w := hK
  have HF := Lib.hid hf
  clear hf
  go_enter Try.func88, Try.ntmps88
  go_wp2_with (at_make; refine makeN Try.infoII _ _ rfl rfl rfl rfl rfl rfl (by omega) rfl ?_; intro w1 hown1 hB1)
  have HP := Lib.hid (PartM.start hown1)
  clear hown1
  go_loopw [8, 9, 14, 27] (fun _ _ i _ wr => ∃ (k : Nat) (rs : List At), k ≤ rows ∧ i = .int .i64 k ∧ PartM wr w.heap.size w.heap.size rows rs (tbl k cols f) ∧ Below w.heap.size w wr) (fun _ _ i _ _ => rows - (intOf i).toNat)
  case atStart => exact ⟨0, [], by omega, rfl, HP.out, hB1⟩
  case round =>
    obtain ⟨i, rs, hi, rfl, hP, hb⟩ := hrel
    clear HP hB1
    by_cases hlt : i < rows
    · have htl : (tbl i cols f).length = i := tbl_length _ _ _
      have hrl : rs.length = i := by rw [hP.1, htl]
      have hsz := hb.size
      go_wp2_with (at_make; refine makeN Try.infoI _ _ rfl rfl rfl rfl rfl rfl (by omega) rfl ?_; intro w2 hown2 hB2; obtain ⟨⟨v, c3⟩, f3, HP3, HB3, c5⟩ := fill_facts hP htl hlt hB2 hown2 hb)
      obtain ⟨b0, hv0⟩ : ∃ b0, b0 = wr.heap.size := ⟨_, rfl⟩
      rw [← hv0] at HP3 HB3 c5 ⊢
      clear hown2 hB2 hv0 hP hb
      generalize (w2.setCell ⟨w.heap.size, i, none⟩ (.slice (some ⟨b0, 0, none⟩) cols cols)) = w3 at *
      clear c3 f3
      go_loopw [9, 27] (fun _ j wr => ∃ k : Nat, k ≤ cols ∧ j = .int .i64 k ∧ PartM wr w.heap.size w.heap.size rows (rs ++ [(some ⟨b0, 0, none⟩, cols)]) (tbl i cols f ++ [rowF (f i) k ++ List.replicate (cols - k) 0]) ∧ Below w.heap.size w wr) (fun _ j _ => cols - (intOf j).toNat)
      case atStart => exact ⟨0, by omega, rfl, by simpa [rowF] using HP3.out, HB3.out⟩
      case round =>
        obtain ⟨k, hk, rfl, hP, hb⟩ := hrel
        clear HP3 HB3 c5
        by_cases hlt2 : k < cols
        · have hb' := hb
          have hl2 : (tbl i cols f ++ [rowF (f i) k ++ List.replicate (cols - k) 0]).length = i + 1 := by simp [htl]
          have hXl : (rowF (f i) k ++ List.replicate (cols - k) (0 : Int)).length = cols := by simp [rowF]; omega
          have c4 := rowVs_at (rs := rs) (m := tbl i cols f) (r := (some ⟨b0, 0, none⟩, cols)) (X := rowF (f i) k ++ List.replicate (cols - k) 0) (n := rows - (tbl i cols f ++ [rowF (f i) k ++ List.replicate (cols - k) 0]).length) (by rw [hrl, htl])
          have c5 := hP.2.2.1.cellAt i (by omega)
          rw [htl] at c4
          rw [c4, hXl] at c5
          clear c4
          have hbd : Below w.heap.size w wr.drew := bel_drew hb
          have HC := HF.out wr.drew i k hbd hlt hlt2
          have d5 := later_cell c5
          have bd := bel_drew (Below.refl wr.heap.size wr)
          have HP := Lib.hid hP
          have hgr : ((rs ++ [((some ⟨b0, 0, none⟩ : Option Addr), cols)])[i]'(by simp; omega)).1 = some ⟨b0, 0, none⟩ := by
            simp [← hrl]
          have HGR := Lib.hid hgr
          have hrow := hP.2.2.2.1 i (by simp; omega) (by omega)
          have e2 : (tbl i cols f ++ [rowF (f i) k ++ List.replicate (cols - k) 0])[i]'(by omega) = rowF (f i) k ++ List.replicate (cols - k) 0 := by simp [htl]
          rw [hgr, e2, hXl] at hrow
          have HROW := Lib.hid hrow
          clear hP hb' hl2 c5 hbd e2 hrow hgr hXl
          go_wp2
          refine wp_region_flags [true, true, true, true, true, true, true, true, false, false, false] 10 (C := fun w' => ∃ u : Later wr, w' = u.val) (by kernel_rfl) (by kernel_rfl) ⟨⟨_, bd⟩, rfl⟩ ?_
          simp only [pickT, pickF]
          repeat (go_big_quiet_step (fail))
          refine wpQuiet_nil ?_
          refine tail_step fun K2 hK2 => ?_
          go_wp2_with fail
          refine HC.mono ?_
          rintro e w5 ⟨rfl, hb5⟩
          have hb6 : Below wr.heap.size wr w5 := bd.trans hb5
          have hb7 := below_tr' hb hb6
          have hP5 := HP.out.below hb6
          have hr5 := own_below HROW.out hb6
          clear HC hb5
          go_wp2
          refine hK2 _ _ ⟨⟨_, hb6⟩, rfl⟩ ?_
          clear hK2 d5
          refine tail_step fun K3 hK3 => ?_
          go_wp2
          refine hK3 _ _ ⟨⟨_, hb6⟩, rfl⟩ ?_
          clear hK3
          refine tail_last fun K4 hK4 => ?_
          obtain ⟨v, c6⟩ := own_some hr5 k (by omega)
          have f6 := hr5.frozenAt k
          have hPs := PartM.store hP5 (r := i) (j := k) (gr := b0) (by simp [htl]) (by simp; omega) HGR.out (f i k)
          have hset := set_last (tbl i cols f) (rowF (f i) k ++ List.replicate (cols - k) 0) k (f i k) (by simp)
          simp only [htl] at hset
          rw [hset, rowF_set _ _ _ hlt2] at hPs
          have hbs := hb7.setCell (p := ⟨b0, k, none⟩) (show w.heap.size ≤ b0 from by
            obtain ⟨g, e1, e3, _⟩ := own_head hr5 (by omega)
            cases e1
            exact e3) (.int .i64 (f i k))
          have HPS := Lib.hid hPs
          have HBS := Lib.hid hbs
          generalize f i k = y at *
          clear hP5 hr5 hPs hset hbs hb6 hb7 hb HP HROW HGR HF
          go_wp2
          go_roundw
          case rel => exact ⟨k + 1, by omega, by go_num, HPS.out, HBS.out⟩
          case measure => simp [intOf]; omega
        · obtain rfl : k = cols := by omega
          have hfin : PartM wr w.heap.size w.heap.size rows (rs ++ [(some ⟨b0, 0, none⟩, k)]) (tbl (i + 1) k f) := by
            rw [tbl_succ]; simpa using hP
          have HR := Lib.hid hfin
          clear hP hfin
          go_wp2
          go_roundw
          case rel => exact ⟨i + 1, _, by omega, by go_num, HR.out, hb⟩
          case measure => simp [intOf]; omega
    · obtain rfl : i = rows := by omega
      have HR := Lib.hid (hP.fin (tbl_length _ _ _))
      clear hP
      go_wp2
      go_ret
      exact ⟨rs, rfl, HR.out, hb⟩

end Go.Proofs.Ytjghcegacgpehaa
