
/- The graph of a code, both sides. (Printed by gen_codeg.py.) -/
import Derived.Test.YtbiekdhikanhcaaCode
import Derived.Test.YtbiekdhikanhcaaSorted
import Derived.Test.YtbiekdhikanhcaaWhich
namespace Go.Proofs.Ytbiekdhikanhcaa
open Go.RowKit

theorem byteAt (s : ByteArray) (k : Nat) (h : k < s.size) : s.data.toList.getD k 0 = s[k] := by
  have h' : k < s.data.toList.length := by simpa using h
  rw [List.getD, List.getElem?_eq_getElem h']; rfl
/-- The second vertex of a pair has the letter d. -/
def dP (s : ByteArray) (e : E2) : Bool := decide ((s.data.toList.getD e.2.toNat 0).toNat = 100)
theorem dP_at {s : ByteArray} {x : Int} {y : Nat} (h : y < s.size) : dP s (x, (y : Int)) = decide ((s[y]'h).toNat = 100) := by
  unfold dP
  rw [show ((x, (y : Int)) : E2).2.toNat = y from by simp, byteAt s y h]
def codeL (s : ByteArray) : List E2 := (pairsL s.size).filter (dP s)

noncomputable def cgrN (s : ByteArray) : Int := if codeB s then (s.size : Int) else 0
noncomputable def cgrL (s : ByteArray) : List E2 := if codeB s then codeL s else []
theorem cgrL_len (s : ByteArray) : (cgrL s).length ≤ 1000000 := by
  unfold cgrL
  split
  · rename_i h
    have h1 := codeB_true h
    exact Nat.le_trans (List.length_filter_le _ _) (pairsL_len (by omega))
  · simp

theorem enters_codeG : Enters Try.prog 74 := enters Try.func74 (by kernel_rfl) rfl
theorem codeG1_any (s : ByteArray) (x : Int) (y : Nat) (b : Nat) (w : World) (hy : y < s.size) (_hl : s.size ≤ 7) (c : w.cell? ⟨b, 0, none⟩ = some (.string s)) :
    Calls Try.prog 74 #[.int .i64 x, .int .i64 y, .pointer (some ⟨b, 0, none⟩)] w fun e w' => e = .returned (.bool (dP s (x, (y : Int)))) ∧ Below w.heap.size w w' := by
  have HD := Lib.hid (dP_at (x := x) hy)
  go_enter Try.func74, Try.ntmps74
  go_wp2
  go_ret
  exact ⟨ret_bool (by rw [HD.out]; rw [Bool.eq_iff_iff]; simp; omega), Below.refl _ _⟩

set_option maxHeartbeats 1000000 in
theorem implCodeGraph_any (s : ByteArray) (w : World) (hl : s.size ≤ 9223372036854775807) :
    Calls Try.prog 27 #[.string s] w fun e w' => ∃ a' c' d', e = .returned (.tuple #[graphV (cgrN s) a' (cgrL s).length d', .bool (codeB s)]) ∧
      w'.ownsRow w.heap.size 52 2 (.slice a' (cgrL s).length c') (cgrL s).length (edges (cgrL s)) ∧ Below w.heap.size w w' := by
  have hB := below_alloc2 w (.cells #[.string s] 9) (.cells #[.int .i64 0, .slice none 0 0] 25)
  have q0 := blk_below (heap_alloc_new w (.cells #[.string s] 9)) (below_alloc _ (.cells #[.int .i64 0, .slice none 0 0] 25))
  have q1 := heap_alloc_new (w.alloc (.cells #[.string s] 9)) (.cells #[.int .i64 0, .slice none 0 0] 25)
  rw [show (w.alloc (.cells #[.string s] 9)).heap.size = w.heap.size + 1 from by simp] at q1
  generalize hW : (w.alloc (.cells #[.string s] 9)).alloc (.cells #[.int .i64 0, .slice none 0 0] 25) = W at *
  have g0 := blk_cell q0 0 (.string s) rfl
  have HW := Lib.hid hW
  clear hW
  have C1 := implCode_any s W hl
  have z0 := blk_cell q1 0 (.int .i64 0) rfl
  have z1 := blk_cell q1 1 (.slice none 0 0) rfl
  have f0 := blk_free q1 0
  have f1 := blk_free q1 1
  have Q1 := Lib.hid q1
  cases hv : codeB s
  · rw [hv] at C1
    have HR := Lib.hid (show cgrL s = [] by simp [cgrL, hv])
    have HRN := Lib.hid (show cgrN s = 0 by simp [cgrN, hv])
    have SB := Lib.hid ((hB.setCell (p := ⟨w.heap.size + 1, 0, none⟩) (by simp) (.int .i64 0)).setCell (p := ⟨w.heap.size + 1, 1, none⟩) (by simp) (.slice none 0 0))
    clear q1
    go_enter Try.func27, Try.ntmps27
    go_wp2_with (simp only [HW.out])
    refine C1.mono ?_
    rintro e w1 ⟨rfl, rfl⟩
    clear C1
    go_wp2
    refine bodyPost_ret (v := .tuple #[graphV 0 none 0 0, .bool false]) (by simp [results, Try.results27, go_sem, z0, z1]) rfl ⟨none, 0, 0, by rw [HR.out, HRN.out]; rfl, by rw [HR.out]; exact World.ownsRow_nil _ _ _ _, SB.out⟩
  · rw [hv] at C1
    have hcb := codeB_true hv
    have h7 : s.size ≤ 7 := hcb.2.2
    have HR := Lib.hid (show cgrL s = codeL s by simp [cgrL, hv])
    have HRN := Lib.hid (show cgrN s = s.size by simp [cgrN, hv])
    have hA : AnswersE W 74 #[.pointer (some ⟨w.heap.size, 0, none⟩)] (pairsL s.size) (dP s) := by
      refine ⟨enters_codeG, fun w' e hb he => ?_⟩
      have hm := mem_pairsL.1 he
      obtain ⟨x, y⟩ := e
      simp only at hm
      obtain ⟨y, rfl⟩ : ∃ z : Nat, y = z := ⟨y.toNat, by omega⟩
      exact codeG1_any s x y w.heap.size w' (by omega) (by omega) (blk_cell (blk_below q0 hb) 0 (.string s) rfl)
    have C2 := which_any s.size _ _ (dP s) W (by omega) hA
    rw [show (pairsL s.size).filter (dP s) = codeL s from rfl] at C2
    obtain ⟨L, hL⟩ : ∃ L, L = codeL s := ⟨_, rfl⟩
    rw [← hL] at C2
    have HL := Lib.hid hL
    clear hL q1 hcb z0 z1 f0 f1 hA
    go_enter Try.func27, Try.ntmps27
    go_wp2_with (simp only [HW.out])
    refine C1.mono ?_
    rintro e w1 ⟨rfl, rfl⟩
    clear C1
    go_wp2_with fail
    refine C2.mono ?_
    rintro e w2 ⟨a', c', rfl, ho, hb2⟩
    have ho := own_mono ho hB.size
    have hb3 := below_tr' hB hb2
    have r0 := blk_below Q1.out hb2
    have z0 := blk_cell r0 0 (.int .i64 0) rfl
    have z1 := blk_cell r0 1 (.slice none 0 0) rfl
    have f0 := blk_free r0 0
    have f1 := blk_free r0 1
    have sO := own_setOther (own_setOther ho (w.heap.size + 1) 0 (.int .i64 s.size) (own_ne ho r0 (by decide))) (w.heap.size + 1) 1 (.slice a' L.length L.length) (own_ne ho r0 (by decide))
    have sB := (hb3.setCell (p := ⟨w.heap.size + 1, 0, none⟩) (by simp) (.int .i64 s.size)).setCell (p := ⟨w.heap.size + 1, 1, none⟩) (by simp) (.slice a' L.length L.length)
    have SO := Lib.hid sO
    have SB := Lib.hid sB
    clear sO sB C2 r0 ho hb2 hb3
    go_wp2
    refine bodyPost_ret (v := .tuple #[graphV s.size a' L.length L.length, .bool true]) (by simp [results, Try.results27, go_sem, z0, z1]) rfl ⟨a', c', L.length, by rw [HRN.out, HR.out, ← HL.out], by rw [HR.out, ← HL.out]; exact SO.out, SB.out⟩

end Go.Proofs.Ytbiekdhikanhcaa
