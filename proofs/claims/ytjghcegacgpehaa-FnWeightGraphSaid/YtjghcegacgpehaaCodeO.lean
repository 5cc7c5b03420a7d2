
/- The code of a graph: impl.CodeOf: its two function values. -/
import Derived.Test.YtjghcegacgpehaaPlainTh
import Derived.Test.YtjghcegacgpehaaIdx
import Derived.Test.YtjghcegacgpehaaCount
import Derived.Test.YtjghcegacgpehaaSliI
import Derived.Test.YtjghcegacgpehaaHas
namespace Go.Proofs.Ytjghcegacgpehaa
open Go.RowKit

/-- Joined, and no vertex itself. -/
def joinB (gs : List E2) (v u : Int) : Bool := u != v && hasM gs u v
theorem joinedL_eq (gs : List E2) (L : List Int) (v : Int) : L.countP (joinB gs v) = joinedL gs L v := rfl

theorem codeOf1_any (N : Nat) (a : Option Addr) (c n : Nat) (gs : List E2) (u v : Int) (bv bg : Nat) (w : World) (qv : w.heap[bv]? = some (.cells #[.int .i64 v] 3 (0, 0))) (qg : w.heap[bg]? = some (.cells #[.int .i64 N, .slice a n c] 25 (0, 0))) (hn : gs.length = n) (hx : Rd w a (edges gs)) (hl : n ≤ 8796093022208) :
    Calls Try.prog 112 #[.int .i64 u, .pointer (some ⟨bv, 0, none⟩), .pointer (some ⟨bg, 0, none⟩)] w fun e w' => e = .returned (.bool (joinB gs v u)) ∧ Below w.heap.size w w' := by
  have v0 := blk_cell qv 0 (.int .i64 v) rfl
  have g0 := blk_cell qg 0 (.int .i64 N) rfl
  have g1 := blk_cell qg 1 (.slice a n c) rfl
  cases h1 : (u != v)
  · have HR := Lib.hid (show joinB gs v u = false by simp [joinB, h1])
    go_enter Try.func112, Try.ntmps112
    go_wp2
    go_ret
    exact ⟨ret_bool HR.out.symm, Below.refl _ _⟩
  · have C1 := has_any N a c n gs u v w hn hx hl
    have HR := Lib.hid (show hasM gs u v = joinB gs v u by simp [joinB, h1])
    go_enter Try.func112, Try.ntmps112
    go_wp2_with fail
    refine C1.mono ?_
    rintro e w1 ⟨rfl, hb⟩
    go_wp2
    go_ret
    exact ⟨ret_bool HR.out, hb⟩

theorem codeOf2_any (u v : Int) (bv : Nat) (w : World) (v0 : w.cell? ⟨bv, 0, none⟩ = some (.int .i64 v)) :
    Calls Try.prog 115 #[.int .i64 u, .pointer (some ⟨bv, 0, none⟩)] w fun e w' => e = .returned (.bool (u == v)) ∧ Below w.heap.size w w' := by
  go_enter Try.func115, Try.ntmps115
  go_wp2
  go_ret
  exact ⟨rfl, Below.refl _ _⟩
theorem enters_codeOf1 : Enters Try.prog 112 := enters Try.func112 (by kernel_rfl) rfl
theorem enters_codeOf2 : Enters Try.prog 115 := enters Try.func115 (by kernel_rfl) rfl

/-- The row without a vertex. -/
def dropL (v : Int) (L : List Int) : List Int := keepI (fun u => u == v) L
theorem dropL_length {v : Int} {L : List Int} (hn : L.Nodup) (hv : v ∈ L) : (dropL v L).length + 1 = L.length := by
  rw [← count_ne hn hv, dropL, keepI, List.countP_eq_length_filter]
  rfl
theorem dropL_nodup {v : Int} {L : List Int} (hn : L.Nodup) : (dropL v L).Nodup := hn.filter _
theorem dropL_mem {v x : Int} {L : List Int} (h : x ∈ dropL v L) : x ∈ L := (List.mem_filter.1 h).1

end Go.Proofs.Ytjghcegacgpehaa
