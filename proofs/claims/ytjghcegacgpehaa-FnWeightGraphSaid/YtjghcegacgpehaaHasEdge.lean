
/- Whether a graph has an edge: the reference's hasEdge. -/
import Derived.Test.YtjghcegacgpehaaPairs
import Derived.Test.YtjghcegacgpehaaRng
namespace Go.Proofs.Ytjghcegacgpehaa
open Go.RowKit

def isEdge (x y : Int) (e : E2) : Bool := ((e.1 == x) && (e.2 == y)) || ((e.1 == y) && (e.2 == x))
def hasB (es : List E2) (x y : Int) : Bool := es.any (isEdge x y)

set_option maxHeartbeats 4000000 in
theorem specHasEdge_any (N : Int) (a : Option Addr) (c n : Nat) (es : List E2) (x y : Int) (w : World) (hn : es.length = n) (hx : Rd w a (edges es)) (hl : n ≤ 8796093022208) :
    Calls Try.prog 81 #[graphV N a n c, .int .i64 x, .int .i64 y] w fun e w' => e = .returned (.bool (hasB es x y)) ∧ Below w.heap.size w w' := by
  go_enter Try.func81, Try.ntmps81
  go_wp2
  have hB := below_alloc w (.cells #[.int .i64 N, .slice a n c] 25)
  go_loopw [7, 8] (fun i _ wr => ∃ k : Nat, k ≤ n ∧ i = .int .i64 k ∧ (∀ j (_ : j < k) (h : j < es.length), isEdge x y (es[j]'h) = false) ∧ Below (w.alloc (.cells #[.int .i64 N, .slice a n c] 25)).heap.size (w.alloc (.cells #[.int .i64 N, .slice a n c] 25)) wr) (fun i _ _ => n - (intOf i).toNat)
  case atStart => exact ⟨0, by omega, rfl, by intro j hj; omega, Below.refl _ _⟩
  case round =>
    obtain ⟨k, hk, rfl, hno, hb⟩ := hrel
    have cN : wr.cell? ⟨w.heap.size, 1, none⟩ = some (.slice a n c) := by
      rw [hb.cell (p := ⟨w.heap.size, 1, none⟩) (by simp), World.cell?_alloc_at _ _ _ _ rfl]; rfl
    have HBB := below_tr' hB hb
    by_cases hlt : k < n
    · obtain ⟨b1, o1, rfl, c1, c2⟩ := (hx.below HBB).edge (k := k) (by omega)
      have hlt1 : b1 < wr.heap.size := Rd.lt c1
      have hy : isEdge x y (es[k]'(by omega)) = true → hasB es x y = true := fun h => List.any_eq_true.2 ⟨_, List.getElem_mem _, h⟩
      have hn' : isEdge x y (es[k]'(by omega)) = false → (∀ j (_ : j < k + 1) (h : j < es.length), isEdge x y (es[j]'h) = false) := by
        intro h0 j hj h
        by_cases e : j = k
        · subst e; exact h0
        · exact hno j (by omega) h
      have hXY : isEdge x y (es[k]'(by omega)) = (((es[k]'(by omega)).1 == x) && ((es[k]'(by omega)).2 == y) || ((es[k]'(by omega)).1 == y) && ((es[k]'(by omega)).2 == x)) := rfl
      rw [hXY] at hy hn'
      clear hXY hno
      generalize (es[k]'(by omega)).1 = X at *
      generalize (es[k]'(by omega)).2 = Y at *
      have HL := fun o => Lib.hid (below_tr HBB (below_alloc wr o) (Nat.le_refl _))
      have HL2 := fun o => Lib.hid (hb.trans ((below_alloc wr o).mono hb.size))
      have HY := Lib.hid hy
      have HN := Lib.hid hn'
      clear hy hn' hx
      cases h1 : (X == x)
      · cases h3 : (X == y)
        · have HR := HN.out (by simp [h1, h3])
          have HR := Lib.hid HR
          clear HY HN
          go_wp2
          go_roundw
          case rel => exact ⟨k + 1, by omega, by go_num, HR.out, (HL2 _).out⟩
          case measure => simp [intOf]; omega
        · cases h4 : (Y == x)
          · have HR := HN.out (by simp [h1, h3, h4])
            have HR := Lib.hid HR
            clear HY HN
            go_wp2
            go_roundw
            case rel => exact ⟨k + 1, by omega, by go_num, HR.out, (HL2 _).out⟩
            case measure => simp [intOf]; omega
          · have HR := HY.out (by simp [h1, h3, h4])
            have HR := Lib.hid HR
            clear HY HN
            go_wp2
            go_ret
            exact ⟨ret_bool HR.out.symm, (HL _).out⟩
      · cases h2 : (Y == y)
        · cases h3 : (X == y)
          · have HR := HN.out (by simp [h1, h2, h3])
            have HR := Lib.hid HR
            clear HY HN
            go_wp2
            go_roundw
            case rel => exact ⟨k + 1, by omega, by go_num, HR.out, (HL2 _).out⟩
            case measure => simp [intOf]; omega
          · cases h4 : (Y == x)
            · have HR := HN.out (by simp [h1, h2, h3, h4])
              have HR := Lib.hid HR
              clear HY HN
              go_wp2
              go_roundw
              case rel => exact ⟨k + 1, by omega, by go_num, HR.out, (HL2 _).out⟩
              case measure => simp [intOf]; omega
            · have HR := HY.out (by simp [h1, h2, h3, h4])
              have HR := Lib.hid HR
              clear HY HN
              go_wp2
              go_ret
              exact ⟨ret_bool HR.out.symm, (HL _).out⟩
        · have HR := HY.out (by simp [h1, h2])
          have HR := Lib.hid HR
          clear HY HN
          go_wp2
          go_ret
          exact ⟨ret_bool HR.out.symm, (HL _).out⟩
    · have hf : hasB es x y = false := by
        rw [hasB, List.any_eq_false]
        intro e he
        obtain ⟨i, hi, rfl⟩ := List.getElem_of_mem he
        simp [hno i (by omega) hi]
      have HF := Lib.hid hf
      clear hf hno
      go_wp2
      go_ret
      exact ⟨ret_bool HF.out.symm, HBB⟩

end Go.Proofs.Ytjghcegacgpehaa
