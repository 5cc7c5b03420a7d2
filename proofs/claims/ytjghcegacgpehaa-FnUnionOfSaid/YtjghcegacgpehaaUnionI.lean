
/- The union of two graphs: the program's. (Printed by gen_union.py.) -/
import Derived.Test.YtjghcegacgpehaaSorted
import Derived.Test.YtjghcegacgpehaaIsPart2
import Derived.Test.YtjghcegacgpehaaWhich
namespace Go.Proofs.Ytjghcegacgpehaa
open Go.RowKit

def orM (gs hs : List E2) (e : E2) : Bool := hasM gs e.1 e.2 || hasM hs e.1 e.2
def uniL (N : Nat) (gs hs : List E2) : List E2 := (pairsL N).filter (orM gs hs)
noncomputable def uniN (Ng : Int) (gs : List E2) (Nh : Int) (hs : List E2) : Int := if bothV Ng gs Nh hs then Ng else 0
noncomputable def uniE (Ng : Int) (gs : List E2) (Nh : Int) (hs : List E2) : List E2 := if bothV Ng gs Nh hs then uniL Ng.toNat gs hs else []
theorem bothV_true {Ng : Int} {gs : List E2} {Nh : Int} {hs : List E2} (h : bothV Ng gs Nh hs = true) : validG Ng gs = true ∧ validG Nh hs = true ∧ Ng = Nh := by simpa [bothV] using h
theorem uniE_len (Ng : Int) (gs : List E2) (Nh : Int) (hs : List E2) : (uniE Ng gs Nh hs).length ≤ 1000000 := by
  unfold uniE
  split
  · rename_i h
    have h1 := (validG_true.1 (bothV_true h).1).2
    exact Nat.le_trans (List.length_filter_le _ _) (pairsL_len (by omega))
  · simp

theorem enters_union : Enters Try.prog 80 := enters Try.func80 (by kernel_rfl) rfl
theorem union1_any (Ng : Int) (ag : Option Addr) (cg ng : Nat) (gs : List E2) (Nh : Int) (ah : Option Addr) (ch nh : Nat) (hs : List E2) (x y : Int) (b b2 : Nat) (w : World) (qg : w.heap[b]? = some (.cells #[.int .i64 Ng, .slice ag ng cg] 25 (0, 0))) (qh : w.heap[b2]? = some (.cells #[.int .i64 Nh, .slice ah nh ch] 25 (0, 0))) (hng : gs.length = ng) (hxg : Rd w ag (edges gs)) (hlg : ng ≤ 8796093022208) (hnh : hs.length = nh) (hxh : Rd w ah (edges hs)) (hlh : nh ≤ 8796093022208) :
    Calls Try.prog 80 #[.int .i64 x, .int .i64 y, .pointer (some ⟨b, 0, none⟩), .pointer (some ⟨b2, 0, none⟩)] w fun e w' => e = .returned (.bool (orM gs hs (x, y))) ∧ Below w.heap.size w w' := by
  have g0 := blk_cell qg 0 (.int .i64 Ng) rfl
  have g1 := blk_cell qg 1 (.slice ag ng cg) rfl
  have C1 := has_any Ng ag cg ng gs x y w hng hxg hlg
  cases hA : hasM gs x y
  · rw [hA] at C1
    have HR := Lib.hid (show hasM hs x y = orM gs hs (x, y) by simp [orM, hA])
    go_enter Try.func80, Try.ntmps80
    go_wp2_with fail
    refine C1.mono ?_
    rintro e w1 ⟨rfl, hb⟩
    have rh := blk_below qh hb
    have h0 := blk_cell rh 0 (.int .i64 Nh) rfl
    have h1 := blk_cell rh 1 (.slice ah nh ch) rfl
    have C2 := has_any Nh ah ch nh hs x y w1 hnh (hxh.below hb) hlh
    go_wp2_with fail
    refine C2.mono ?_
    rintro e w2 ⟨rfl, hb2⟩
    go_wp2
    go_ret
    exact ⟨ret_bool HR.out, below_tr' hb hb2⟩
  · rw [hA] at C1
    have HR := Lib.hid (show true = orM gs hs (x, y) by simp [orM, hA])
    go_enter Try.func80, Try.ntmps80
    go_wp2_with fail
    refine C1.mono ?_
    rintro e w1 ⟨rfl, hb⟩
    go_wp2
    go_ret
    exact ⟨ret_bool HR.out, hb⟩

set_option maxHeartbeats 2000000 in
theorem implUnionOf_any (Ng : Int) (ag : Option Addr) (cg ng : Nat) (gs : List E2) (Nh : Int) (ah : Option Addr) (ch nh : Nat) (hs : List E2) (w : World) (hNg : Ng ≤ 9223372036854775807) (hNh : Nh ≤ 9223372036854775807) (hng : gs.length = ng) (hxg : Rd w ag (edges gs)) (hlg : ng ≤ 8796093022208) (hnh : hs.length = nh) (hxh : Rd w ah (edges hs)) (hlh : nh ≤ 8796093022208) :
    Calls Try.prog 20 #[graphV Ng ag ng cg, graphV Nh ah nh ch] w fun e w' => ∃ a' c' d', e = .returned (.tuple #[graphV (uniN Ng gs Nh hs) a' (uniE Ng gs Nh hs).length d', .bool (bothV Ng gs Nh hs)]) ∧
      w'.ownsRow w.heap.size 48 2 (.slice a' (uniE Ng gs Nh hs).length c') (uniE Ng gs Nh hs).length (edges (uniE Ng gs Nh hs)) ∧ Below w.heap.size w w' := by
  have hB := below_tr' (below_alloc2 w (.cells #[.int .i64 Ng, .slice ag ng cg] 25) (.cells #[.int .i64 Nh, .slice ah nh ch] 25)) (below_alloc _ (.cells #[.int .i64 0, .slice none 0 0] 25))
  have qg := blk_below (blk_below (heap_alloc_new w (.cells #[.int .i64 Ng, .slice ag ng cg] 25)) (below_alloc _ (.cells #[.int .i64 Nh, .slice ah nh ch] 25))) (below_alloc _ (.cells #[.int .i64 0, .slice none 0 0] 25))
  have qh := blk_below (heap_alloc_new (w.alloc (.cells #[.int .i64 Ng, .slice ag ng cg] 25)) (.cells #[.int .i64 Nh, .slice ah nh ch] 25)) (below_alloc _ (.cells #[.int .i64 0, .slice none 0 0] 25))
  have q1 := heap_alloc_new ((w.alloc (.cells #[.int .i64 Ng, .slice ag ng cg] 25)).alloc (.cells #[.int .i64 Nh, .slice ah nh ch] 25)) (.cells #[.int .i64 0, .slice none 0 0] 25)
  rw [show (w.alloc (.cells #[.int .i64 Ng, .slice ag ng cg] 25)).heap.size = w.heap.size + 1 from by simp] at qh
  rw [show ((w.alloc (.cells #[.int .i64 Ng, .slice ag ng cg] 25)).alloc (.cells #[.int .i64 Nh, .slice ah nh ch] 25)).heap.size = w.heap.size + 1 + 1 from by simp] at q1
  have hWs : w.heap.size + 1 + 1 < (((w.alloc (.cells #[.int .i64 Ng, .slice ag ng cg] 25)).alloc (.cells #[.int .i64 Nh, .slice ah nh ch] 25)).alloc (.cells #[.int .i64 0, .slice none 0 0] 25)).heap.size := by simp
  generalize hW : ((w.alloc (.cells #[.int .i64 Ng, .slice ag ng cg] 25)).alloc (.cells #[.int .i64 Nh, .slice ah nh ch] 25)).alloc (.cells #[.int .i64 0, .slice none 0 0] 25) = W at *
  have HW := Lib.hid hW
  clear hW
  have xg := hxg.below hB
  have xh := hxh.below hB
  clear hxg hxh
  have Q1 := Lib.hid q1
  have Qg := Lib.hid qg
  have Qh := Lib.hid qh
  have g0 := blk_cell qg 0 (.int .i64 Ng) rfl
  have g1 := blk_cell qg 1 (.slice ag ng cg) rfl
  have h0 := blk_cell qh 0 (.int .i64 Nh) rfl
  have h1 := blk_cell qh 1 (.slice ah nh ch) rfl
  have C1 := both_any Ng ag cg ng gs Nh ah ch nh hs W hNg hNh hng xg hlg hnh xh hlh
  clear qg qh q1
  cases hv : bothV Ng gs Nh hs
  · rw [hv] at C1
    have HR := Lib.hid (show uniE Ng gs Nh hs = [] by simp [uniE, hv])
    have HRN := Lib.hid (show uniN Ng gs Nh hs = 0 by simp [uniN, hv])
    go_enter Try.func20, Try.ntmps20
    go_wp2_with (simp only [HW.out])
    refine C1.mono ?_
    rintro e w1 ⟨rfl, hb⟩
    have hB := below_tr' hB hb
    have r0 := blk_below Q1.out hb
    have z0 := blk_cell r0 0 (.int .i64 0) rfl
    have z1 := blk_cell r0 1 (.slice none 0 0) rfl
    have f0 := blk_free r0 0
    have f1 := blk_free r0 1
    have SB := Lib.hid ((hB.setCell (p := ⟨w.heap.size + 1 + 1, 0, none⟩) (by simp <;> omega) (.int .i64 0)).setCell (p := ⟨w.heap.size + 1 + 1, 1, none⟩) (by simp <;> omega) (.slice none 0 0))
    clear r0 C1
    go_wp2
    refine bodyPost_ret (v := .tuple #[graphV 0 none 0 0, .bool false]) (by simp [results, Try.results20, go_sem, z0, z1]) rfl ⟨none, 0, 0, by rw [HR.out, HRN.out]; rfl, by rw [HR.out]; exact World.ownsRow_nil _ _ _ _, SB.out⟩
  · rw [hv] at C1
    have hvv := bothV_true hv
    have h7 := (validG_true.1 hvv.1).2
    obtain ⟨M, rfl⟩ : ∃ M : Nat, Ng = M := ⟨Ng.toNat, by omega⟩
    have HR := Lib.hid (show uniE M gs Nh hs = uniL M gs hs by simp [uniE, hv])
    have HRN := Lib.hid (show uniN M gs Nh hs = M by simp [uniN, hv])
    clear hvv hv
    go_enter Try.func20, Try.ntmps20
    go_wp2_with (simp only [HW.out])
    refine C1.mono ?_
    rintro e w1 ⟨rfl, hb⟩
    have rg := blk_below Qg.out hb
    have rh := blk_below Qh.out hb
    have Q1 := Lib.hid (blk_below Q1.out hb)
    have hB := below_tr' hB hb
    clear C1 g0 g1 h0 h1
    have g0 := blk_cell rg 0 (.int .i64 M) rfl
    have hAn : AnswersE w1 80 #[.pointer (some ⟨w.heap.size, 0, none⟩), .pointer (some ⟨w.heap.size + 1, 0, none⟩)] (pairsL M) (orM gs hs) :=
      ⟨enters_union, fun w' e hb' _ => union1_any M ag cg ng gs Nh ah ch nh hs e.1 e.2 w.heap.size (w.heap.size + 1) w' (blk_below rg hb') (blk_below rh hb') hng ((xg.below hb).below hb') hlg hnh ((xh.below hb).below hb') hlh⟩
    have C2 := which_any M _ _ (orM gs hs) w1 (by omega) hAn
    rw [show (pairsL M).filter (orM gs hs) = uniL M gs hs from rfl] at C2
    obtain ⟨L, hL⟩ : ∃ L, L = uniL M gs hs := ⟨_, rfl⟩
    rw [← hL] at C2
    have HL := Lib.hid hL
    clear hL hAn rg rh
    go_wp2_with fail
    refine C2.mono ?_
    rintro e w2 ⟨a', c', rfl, ho, hb2⟩
    have ho := own_mono ho hB.size
    have hb3 := below_tr' hB hb2
    have r0 := blk_below Q1.out hb2
    have z0 := blk_cell r0 0 (.int .i64 0) rfl
    have z1 := blk_cell r0 1 (.slice none 0 0) rfl
    have f0 := blk_free r0 0
    have f1 := blk_free r0 1
    have sO := own_setOther (own_setOther ho (w.heap.size + 1 + 1) 0 (.int .i64 M) (own_ne ho r0 (by decide))) (w.heap.size + 1 + 1) 1 (.slice a' L.length L.length) (own_ne ho r0 (by decide))
    have sB := (hb3.setCell (p := ⟨w.heap.size + 1 + 1, 0, none⟩) (by simp <;> omega) (.int .i64 M)).setCell (p := ⟨w.heap.size + 1 + 1, 1, none⟩) (by simp <;> omega) (.slice a' L.length L.length)
    have SO := Lib.hid sO
    have SB := Lib.hid sB
    clear sO sB C2 r0 ho hb2 hb3 g0
    go_wp2
    refine bodyPost_ret (v := .tuple #[graphV M a' L.length L.length, .bool true]) (by simp [results, Try.results20, go_sem, z0, z1]) rfl ⟨a', c', L.length, by rw [HRN.out, HR.out, ← HL.out], by rw [HR.out, ← HL.out]; exact SO.out, SB.out⟩

end Go.Proofs.Ytjghcegacgpehaa
