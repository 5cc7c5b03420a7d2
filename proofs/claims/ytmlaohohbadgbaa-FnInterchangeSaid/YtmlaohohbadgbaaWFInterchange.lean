
/- The walk of the law FnInterchange. (Printed by laws_d.py.) -/
import Derived.Test.YtmlaohohbadgbaaDrawI
import Derived.Test.YtmlaohohbadgbaaPlainMat
import Derived.Test.YtmlaohohbadgbaaMarg
namespace Go.Proofs.Ytmlaohohbadgbaa
open Go.RowKit

set_option maxHeartbeats 4000000 in
set_option linter.unusedVariables false in
theorem walk_FnInterchange (a_c : Option Addr) (c_c n_c : Nat) (bs : List Int) (w : World) (hc : CodeOK w a_c c_c n_c bs) :
    Calls Try.prog 7 #[.slice a_c n_c c_c] w fun e w' => e = .returned (.bool true) ∧ Below w.heap.size w w' := by
  by_cases hs : 1048576 < n_c
  · go_enter Try.func7, Try.ntmps7
    go_wp2
    go_ret
    exact ⟨rfl, Below.refl _ _⟩
  have hs' : n_c ≤ 1048576 := by omega
  have HB0 := Below.refl w.heap.size w
  go_enter Try.func7, Try.ntmps7
  have C1 := DrawInterchange_any a_c c_c n_c bs w hc hs'
  go_wp2_with fail
  refine C1.mono ?_
  rintro e w1 ⟨m, a_m, c_m, A, B, C, D, rfl, hS, hx, hb1⟩
  clear C1
  have hsz := hS.size
  have hwf := hS.wf
  obtain ⟨n_m, hn⟩ : ∃ n, m.length = n := ⟨_, rfl⟩
  rw [hn]
  rw [hn] at hsz
  have HB1 := below_tr' HB0 hb1
  clear hb1
  have hL1 := transL_len m
  have hL2 := flipL_len m
  have hLI := interL_len m A B C D
  have hLm := marg_len m
  have HA := below_alloc w1 (.cells #[.int .i64 A, .int .i64 B, .int .i64 C, .int .i64 D] 32)
  have q := heap_alloc_new w1 (.cells #[.int .i64 A, .int .i64 B, .int .i64 C, .int .i64 D] 32)
  have hx := hx.below HA
  have HBs := below_tr' HB1 HA
  generalize hV : w1.alloc (.cells #[.int .i64 A, .int .i64 B, .int .i64 C, .int .i64 D] 32) = vs at *
  have HV := Lib.hid hV
  clear hV HA
  cases hv : interOK m A B C D
  · have C2 := implInter_any a_m c_m n_m m A B C D vs hn hx (by omega)
    rw [hv] at C2
    have g0 := blk_cell q 0 (.int .i64 A) rfl
    have g1 := blk_cell q 1 (.int .i64 B) rfl
    have g2 := blk_cell q 2 (.int .i64 C) rfl
    have g3 := blk_cell q 3 (.int .i64 D) rfl
    go_wp2_with (simp only [HV.out])
    refine C2.mono ?_
    rintro e w2 ⟨a2, c2, rs2, rfl, hM2, hb2⟩
    clear C2 g0 g1 g2 g3
    have HB2 := below_tr' HBs hb2
    have hx := hx.below hb2
    have q := blk_below q hb2
    clear hb2
    have ho := hM2.rdM
    clear hM2
    have C3 := specInter_any a_m c_m n_m m A B C D w2 hn hx (by omega)
    rw [hv] at C3
    have g0 := blk_cell q 0 (.int .i64 A) rfl
    have g1 := blk_cell q 1 (.int .i64 B) rfl
    have g2 := blk_cell q 2 (.int .i64 C) rfl
    have g3 := blk_cell q 3 (.int .i64 D) rfl
    go_wp2_with fail
    refine C3.mono ?_
    rintro e w3 ⟨a3, c3, rs3, rfl, hM3, hb3⟩
    clear C3 g0 g1 g2 g3
    have HB3 := below_tr' HB2 hb3
    have hx := hx.below hb3
    have ho := ho.below hb3
    have q := blk_below q hb3
    clear hb3
    have hw := hM3.rdM
    clear hM3
    have C4 := equalLists_any a2 a3 c2 c3 (interL m A B C D).length (interL m A B C D) w3 rfl ho hw (by omega)
    go_wp2_with fail
    refine C4.mono ?_
    rintro e w4 ⟨rfl, hb4⟩
    clear C4
    have HB4 := below_tr' HB3 hb4
    have hx := hx.below hb4
    have ho := ho.below hb4
    have hw := hw.below hb4
    have q := blk_below q hb4
    clear hb4
    have C5 := equalLists_any a2 a3 c2 c3 (interL m A B C D).length (interL m A B C D) w4 rfl ho hw (by omega)
    go_wp2_with fail
    refine C5.mono ?_
    rintro e w5 ⟨rfl, hb5⟩
    clear C5
    have HB5 := below_tr' HB4 hb5
    have hx := hx.below hb5
    have ho := ho.below hb5
    have hw := hw.below hb5
    have q := blk_below q hb5
    clear hb5
    go_wp2
    go_ret
    exact ⟨rfl, HB5⟩
  · have C2 := implInter_any a_m c_m n_m m A B C D vs hn hx (by omega)
    rw [hv] at C2
    have g0 := blk_cell q 0 (.int .i64 A) rfl
    have g1 := blk_cell q 1 (.int .i64 B) rfl
    have g2 := blk_cell q 2 (.int .i64 C) rfl
    have g3 := blk_cell q 3 (.int .i64 D) rfl
    go_wp2_with (simp only [HV.out])
    refine C2.mono ?_
    rintro e w2 ⟨a2, c2, rs2, rfl, hM2, hb2⟩
    clear C2 g0 g1 g2 g3
    have HB2 := below_tr' HBs hb2
    have hx := hx.below hb2
    have q := blk_below q hb2
    clear hb2
    have ho := hM2.rdM
    clear hM2
    have C3 := specInter_any a_m c_m n_m m A B C D w2 hn hx (by omega)
    rw [hv] at C3
    have g0 := blk_cell q 0 (.int .i64 A) rfl
    have g1 := blk_cell q 1 (.int .i64 B) rfl
    have g2 := blk_cell q 2 (.int .i64 C) rfl
    have g3 := blk_cell q 3 (.int .i64 D) rfl
    go_wp2_with fail
    refine C3.mono ?_
    rintro e w3 ⟨a3, c3, rs3, rfl, hM3, hb3⟩
    clear C3 g0 g1 g2 g3
    have HB3 := below_tr' HB2 hb3
    have hx := hx.below hb3
    have ho := ho.below hb3
    have q := blk_below q hb3
    clear hb3
    have hw := hM3.rdM
    clear hM3
    have C4 := equalLists_any a2 a3 c2 c3 (interL m A B C D).length (interL m A B C D) w3 rfl ho hw (by omega)
    go_wp2_with fail
    refine C4.mono ?_
    rintro e w4 ⟨rfl, hb4⟩
    clear C4
    have HB4 := below_tr' HB3 hb4
    have hx := hx.below hb4
    have ho := ho.below hb4
    have hw := hw.below hb4
    have q := blk_below q hb4
    clear hb4
    obtain ⟨hl1, hl2, hl3, hl4, hl5⟩ := inter_law hv
    have HL2 := Lib.hid hl2
    have HL3 := Lib.hid hl3
    have HL4 := Lib.hid hl4
    have HL5 := Lib.hid hl5
    clear hl1 hl2 hl3 hl4 hl5
    have C5 := implMarg_any a2 c2 (interL m A B C D).length (interL m A B C D) w4 rfl ho (by omega)
    rw [HL2.out, HL3.out] at C5
    go_wp2_with fail
    refine C5.mono ?_
    rintro e w5 ⟨ra5, ca5, rb5, cb5, rfl, hR5, hK5, _, hb5⟩
    clear C5
    have HB5 := below_tr' HB4 hb5
    have hx := hx.below hb5
    have ho := ho.below hb5
    have hw := hw.below hb5
    have q := blk_below q hb5
    clear hb5
    have r1 := own_rd hR5
    have r2 := own_rd hK5
    clear hR5 hK5
    have C6 := implMarg_any a_m c_m n_m m w5 hn hx (by omega)
    go_wp2_with fail
    refine C6.mono ?_
    rintro e w6 ⟨ra6, ca6, rb6, cb6, rfl, hR6, hK6, _, hb6⟩
    clear C6
    have HB6 := below_tr' HB5 hb6
    have hx := hx.below hb6
    have ho := ho.below hb6
    have hw := hw.below hb6
    have r1 := r1.below hb6
    have r2 := r2.below hb6
    have q := blk_below q hb6
    clear hb6
    have s1 := own_rd hR6
    have s2 := own_rd hK6
    clear hR6 hK6
    have C7 := implInter_any a2 c2 (interL m A B C D).length (interL m A B C D) A D C B w6 rfl ho (by omega)
    rw [HL4.out, HL5.out, hn] at C7
    have g0 := blk_cell q 0 (.int .i64 A) rfl
    have g1 := blk_cell q 1 (.int .i64 B) rfl
    have g2 := blk_cell q 2 (.int .i64 C) rfl
    have g3 := blk_cell q 3 (.int .i64 D) rfl
    go_wp2_with fail
    refine C7.mono ?_
    rintro e w7 ⟨a7, c7, rs7, rfl, hM7, hb7⟩
    clear C7 g0 g1 g2 g3
    have HB7 := below_tr' HB6 hb7
    have hx := hx.below hb7
    have ho := ho.below hb7
    have hw := hw.below hb7
    have r1 := r1.below hb7
    have r2 := r2.below hb7
    have s1 := s1.below hb7
    have s2 := s2.below hb7
    have q := blk_below q hb7
    clear hb7
    have hk := hM7.rdM
    clear hM7
    have C8 := equalInts_any ra5 ra6 ca5 ca6 (margR m).length (margR m) w7 rfl r1 s1 (by omega)
    go_wp2_with fail
    refine C8.mono ?_
    rintro e w8 ⟨rfl, hb8⟩
    clear C8
    have HB8 := below_tr' HB7 hb8
    have hx := hx.below hb8
    have ho := ho.below hb8
    have hw := hw.below hb8
    have r1 := r1.below hb8
    have r2 := r2.below hb8
    have s1 := s1.below hb8
    have s2 := s2.below hb8
    have hk := hk.below hb8
    have q := blk_below q hb8
    clear hb8
    have C9 := equalInts_any rb5 rb6 cb5 cb6 (margC m).length (margC m) w8 rfl r2 s2 (by omega)
    go_wp2_with fail
    refine C9.mono ?_
    rintro e w9 ⟨rfl, hb9⟩
    clear C9
    have HB9 := below_tr' HB8 hb9
    have hx := hx.below hb9
    have ho := ho.below hb9
    have hw := hw.below hb9
    have r1 := r1.below hb9
    have r2 := r2.below hb9
    have s1 := s1.below hb9
    have s2 := s2.below hb9
    have hk := hk.below hb9
    have q := blk_below q hb9
    clear hb9
    have C10 := equalLists_any a7 a_m c7 c_m n_m (m) w9 hn hk hx (by omega)
    go_wp2_with fail
    refine C10.mono ?_
    rintro e w10 ⟨rfl, hb10⟩
    clear C10
    have HB10 := below_tr' HB9 hb10
    have hx := hx.below hb10
    have ho := ho.below hb10
    have hw := hw.below hb10
    have r1 := r1.below hb10
    have r2 := r2.below hb10
    have s1 := s1.below hb10
    have s2 := s2.below hb10
    have hk := hk.below hb10
    have q := blk_below q hb10
    clear hb10
    go_wp2
    go_ret
    exact ⟨rfl, HB10⟩

end Go.Proofs.Ytmlaohohbadgbaa
