
/- The reader of bytes that drawn inputs come from: pick, one, newReader. -/
import Derived.Test.YtjghcegacgpehaaBlk
import Derived.Test.YtjghcegacgpehaaRng
import Derived.Test.YtjghcegacgpehaaAppG
import Derived.Laws.Bits64
namespace Go.Proofs.Ytjghcegacgpehaa
open Go.RowKit

theorem bits_xor_i64 (a b : Nat) (ha : a < 4611686018427387904) (hb : b < 4611686018427387904) : bits .xor .i64 (a : Int) (b : Int) = ((a ^^^ b : Nat) : Int) ∧ a ^^^ b < 4611686018427387904 := by
  have hx : a ^^^ b < 2 ^ 62 := Nat.xor_lt_two_pow (by omega) (by omega)
  have h1 : (BitVec.ofInt 64 (a : Int)).toNat = a := by
    rw [BitVec.ofInt_natCast, BitVec.toNat_ofNat]; exact Nat.mod_eq_of_lt (by omega)
  have h2 : (BitVec.ofInt 64 (b : Int)).toNat = b := by
    rw [BitVec.ofInt_natCast, BitVec.toNat_ofNat]; exact Nat.mod_eq_of_lt (by omega)
  refine ⟨?_, by omega⟩
  show IntKind.i64.wrap ((BitVec.ofInt 64 (a : Int) ^^^ BitVec.ofInt 64 (b : Int)).toNat : Int) = _
  rw [BitVec.toNat_xor, h1, h2, IntKind.wrap_i64]
  omega

def bytesV (bs : List Int) : List Value := bs.map (Value.int .u8)
theorem Rd.byte {w : World} {a : Option Addr} {bs : List Int} (h : Rd w a (bytesV bs)) {k : Nat} (hk : k < bs.length) :
    ∃ b off, a = some ⟨b, off, none⟩ ∧ w.cell? ⟨b, off + k, none⟩ = some (.int .u8 (bs[k]'hk)) :=
  h k _ (by simp [bytesV, hk])

theorem below_grownby {w w' : World} (hb : Below w.heap.size w w') (row : Option Nat) : w.grownBy w' row := ⟨hb.os, hb.tape, hb.output, hb.size, fun i hi _ => hb.block i hi⟩

/-- A reader in block R; its bytes lie ahead of R. -/
def RdrAt (w : World) (R p : Nat) : Prop :=
  ∃ (ab : Option Addr) (nb cb : Nat) (bs : List Int), w.heap[R]? = some (.cells #[.slice ab nb cb, .int .i64 (p : Int)] 122 (0, 0)) ∧ bs.length = nb ∧ nb ≤ 2000 ∧ Rd w ab (bytesV bs) ∧ (∀ x ∈ bs, 0 ≤ x ∧ x < 256) ∧ ∀ x, ab = some x → bs ≠ [] → x.block < R

theorem RdrAt.blk {w : World} {R p : Nat} (h : RdrAt w R p) : ∃ cs, w.heap[R]? = some (.cells cs 122 (0, 0)) := by
  obtain ⟨_, _, _, _, h, _⟩ := h
  exact ⟨_, h⟩
theorem RdrAt.lt {w : World} {R p : Nat} (h : RdrAt w R p) : R < w.heap.size := by
  obtain ⟨_, h⟩ := h.blk
  exact blk_lt h
theorem RdrAt.grown {w w' : World} {R p : Nat} {row : Option Nat} (h : RdrAt w R p) (hg : w.grownBy w' row) (hr : ∀ k, row = some k → R < k) : RdrAt w' R p := by
  obtain ⟨ab, nb, cb, bs, h1, h2, h3, h4, h5, h6⟩ := h
  refine ⟨ab, nb, cb, bs, blk_grown h1 hg ?_, h2, h3, ?_, h5, h6⟩
  · intro e
    have := hr R e.symm
    omega
  · by_cases hbs : bs = []
    · subst hbs; exact Rd.nil _ _
    · refine h4.grown hg ?_
      intro x hx e
      have := hr _ e.symm
      have := h6 x hx hbs
      omega
theorem RdrAt.below {w w' : World} {R p : Nat} (h : RdrAt w R p) (hb : Below w.heap.size w w') : RdrAt w' R p := h.grown (below_grownby hb none) (by simp)
theorem RdrAt.ne {w : World} {R p B T s n c m : Nat} {a : Option Addr} {cs : List Value} (h : RdrAt w R p) (ho : w.ownsRow B T s (.slice a m c) n cs) (hT : T ≠ 122) : some R ≠ (Value.slice a m c).ownBlock := by
  obtain ⟨_, h⟩ := h.blk
  exact own_ne ho h hT
theorem RdrAt.setOther {w : World} {R p : Nat} (h : RdrAt w R p) (b j : Nat) (v : Value) (hb : R < b) : RdrAt (w.setCell ⟨b, j, none⟩ v) R p := by
  obtain ⟨ab, nb, cb, bs, h1, h2, h3, h4, h5, h6⟩ := h
  refine ⟨ab, nb, cb, bs, blk_set_other h1 j v (by omega), h2, h3, ?_, h5, h6⟩
  by_cases hbs : bs = []
  · subst hbs; exact Rd.nil _ _
  · refine rd_setOther h4 b j v ?_
    intro x hx
    have := h6 x hx hbs
    omega

theorem grown_set (w : World) (R j : Nat) (v : Value) : w.grownBy (w.setCell ⟨R, j, none⟩ v) (some R) :=
  ⟨rfl, rfl, rfl, by simp, fun i _ hi => heap_setCell_other w ⟨R, j, none⟩ i v (by intro e; exact hi (by rw [e]))⟩

theorem grown_below {w w1 w2 : World} {row : Option Nat} (h : w.grownBy w1 row) (hb : Below w1.heap.size w1 w2) : w.grownBy w2 row := grown_trans h (below_grownby hb row)
/-- A row that was made since may be written, too. -/
theorem grown_row {w w1 w2 : World} {row : Option Nat} {T s n c m : Nat} {a : Option Addr} {cs : List Value} (h : w.grownBy w1 row) (ho : w1.ownsRow w.heap.size T s (.slice a m c) n cs) (hg : w1.grownBy w2 (Value.slice a m c).ownBlock) : w.grownBy w2 row := by
  refine ⟨hg.os.trans h.os, hg.tape.trans h.tape, hg.output.trans h.output, Nat.le_trans h.size hg.size, fun i hi hr => ?_⟩
  rw [hg.block i (Nat.lt_of_lt_of_le hi h.size) ?_, h.block i hi hr]
  intro e
  have := (ho.lt i e.symm).1
  omega
theorem grown_setNew {w w1 : World} {row : Option Nat} (h : w.grownBy w1 row) (b j : Nat) (v : Value) (hb : w.heap.size ≤ b) : w.grownBy (w1.setCell ⟨b, j, none⟩ v) row := by
  refine ⟨h.os, h.tape, h.output, by simpa using h.size, fun i hi hr => ?_⟩
  rw [heap_setCell_other w1 ⟨b, j, none⟩ i v (by simp; omega), h.block i hi hr]
theorem own_grown {w w' : World} {B T s n c m : Nat} {a : Option Addr} {cs : List Value} {row : Option Nat} (h : w.ownsRow B T s (.slice a m c) n cs) (hg : w.grownBy w' row) (hr : row ≠ (Value.slice a m c).ownBlock) : w'.ownsRow B T s (.slice a m c) n cs := by
  refine h.kept hg ?_
  cases a with
  | none => exact .inl rfl
  | some x => exact .inr fun e => hr e.symm
theorem rdr_row {w w' : World} {R p B T s n c m : Nat} {a : Option Addr} {cs : List Value} (h : RdrAt w R p) (ho : w.ownsRow B T s (.slice a m c) n cs) (hg : w.grownBy w' (Value.slice a m c).ownBlock) (hR : R < B) : RdrAt w' R p :=
  h.grown hg fun k hk => Nat.lt_of_lt_of_le hR (ho.lt k hk).1

set_option maxHeartbeats 4000000 in
theorem pick_any (R p : Nat) (n : Int) (w : World) (h : RdrAt w R p) (hp : p ≤ 1099511627776) (hn : n ≤ 9223372036854775807) :
    Calls Try.prog 105 #[.pointer (some ⟨R, 0, none⟩), .int .i64 n] w fun e w' => ∃ v : Nat, e = .returned (.int .i64 v) ∧ (v = 0 ∨ (v : Int) < n) ∧ RdrAt w' R (p + 1) ∧ w.grownBy w' (some R) := by
  obtain ⟨ab, nb, cb, bs, hq, hbl, hnb, hx, hby, hab⟩ := h
  have c0 := blk_cell hq 0 (.slice ab nb cb) rfl
  have c1 := blk_cell hq 1 (.int .i64 p) rfl
  have f1 := blk_free hq 1
  have sq := blk_set hq 1 (.int .i64 ((p : Int) + 1))
  have sx : Rd (w.setCell ⟨R, 1, none⟩ (.int .i64 ((p : Int) + 1))) ab (bytesV bs) := by
    by_cases hbs : bs = []
    · subst hbs; exact Rd.nil _ _
    · exact rd_setOther hx R 1 (.int .i64 ((p : Int) + 1)) (fun x h => by have := hab x h hbs; omega)
  have e0 := blk_cell sq 0 (.slice ab nb cb) rfl
  have e1 := blk_cell sq 1 (.int .i64 ((p : Int) + 1)) rfl
  have HQ := Lib.hid (show RdrAt (w.setCell ⟨R, 1, none⟩ (.int .i64 ((p : Int) + 1))) R (p + 1) from ⟨ab, nb, cb, bs, sq, hbl, hnb, sx, hby, hab⟩)
  have HG := Lib.hid (grown_set w R 1 (.int .i64 ((p : Int) + 1)))
  by_cases h1 : n < 1
  · clear sq sx hx hq
    go_enter Try.func105, Try.ntmps105
    go_wp2
    go_ret
    exact ⟨0, rfl, .inl rfl, HQ.out, HG.out⟩
  · by_cases h2 : nb = 0
    · subst h2
      clear sq sx hx hq
      go_enter Try.func105, Try.ntmps105
      go_wp2
      go_ret
      exact ⟨0, rfl, .inl rfl, HQ.out, HG.out⟩
    · by_cases h3 : p < nb
      · obtain ⟨b1, o1, ea, k1⟩ := sx.byte (k := p) (by omega)
        have hB := hby _ (List.getElem_mem (l := bs) (n := p) (by omega))
        generalize bs[p]'(by omega) = x at *
        subst ea
        clear sq sx hx hq
        go_enter Try.func105, Try.ntmps105
        go_wp2
        go_ret
        have h0 : 0 ≤ x % n := Int.emod_nonneg _ (by omega)
        have h9 : x % n < n := Int.emod_lt_of_pos _ (by omega)
        exact ⟨(x % n).toNat, by rw [Int.toNat_of_nonneg h0]; rfl, .inr (by rw [Int.toNat_of_nonneg h0]; exact h9), HQ.out, HG.out⟩
      · obtain ⟨i1, hi1⟩ : ∃ i1, i1 = p % nb := ⟨_, rfl⟩
        obtain ⟨i2, hi2⟩ : ∃ i2, i2 = (p * 7 + 3) % nb := ⟨_, rfl⟩
        obtain ⟨d, hd⟩ : ∃ d, d = p / nb := ⟨_, rfl⟩
        have l1 : i1 < nb := by rw [hi1]; exact Nat.mod_lt _ (by omega)
        have l2 : i2 < nb := by rw [hi2]; exact Nat.mod_lt _ (by omega)
        have ld : d ≤ p := by rw [hd]; exact Nat.div_le_self _ _
        have m1 : (p : Int) % (nb : Int) = (i1 : Int) := by rw [hi1]; exact (Int.natCast_emod p nb).symm
        have m2 : ((p : Int) * 7 + 3) % (nb : Int) = (i2 : Int) := by rw [hi2, Int.natCast_emod]; rfl
        have m3 : (p : Int) / (nb : Int) = (d : Int) := by rw [hd]; exact (Int.natCast_ediv p nb).symm
        clear hi1 hi2 hd
        obtain ⟨b1, o1, ea, k1⟩ := sx.byte (k := i1) (by omega)
        obtain ⟨b2, o2, ea2, k2⟩ := sx.byte (k := i2) (by omega)
        have hB := hby _ (List.getElem_mem (l := bs) (n := i1) (by omega))
        have hB2 := hby _ (List.getElem_mem (l := bs) (n := i2) (by omega))
        generalize bs[i1]'(by omega) = x at *
        generalize bs[i2]'(by omega) = y at *
        subst ea
        cases ea2
        obtain ⟨x, rfl⟩ : ∃ z : Nat, x = z := ⟨x.toNat, by omega⟩
        obtain ⟨y, rfl⟩ : ∃ z : Nat, y = z := ⟨y.toNat, by omega⟩
        have hX : x * 131 + y * 1117 + p * 29 + d * 53 < 4611686018427387904 := by omega
        clear sq sx hx hq
        have d0 := later_cell e0
        have d1 := later_cell e1
        have d2 := later_cell k1
        have d3 := later_cell k2
        go_enter Try.func105, Try.ntmps105
        go_wp2
        refine wp_region_later (by kernel_rfl) (by kernel_rfl) ?_
        repeat (go_big_quiet_step (fail))
        refine wpQuiet_nil ?_
        intro w1 hw'
        have hb1 := later_below hw'
        clear hw' d0 d1 d2 d3
        obtain ⟨X, hXe⟩ : ∃ X : Nat, X = x * 131 + y * 1117 + p * 29 + d * 53 := ⟨_, rfl⟩
        rw [← hXe] at hX
        have hXi : (x : Int) * 131 + (y : Int) * 1117 + (p : Int) * 29 + (d : Int) * 53 = (X : Int) := by omega
        rw [hXi]
        clear hXe hXi
        have HX := bits_xor_i64 X (X / 64) hX (by omega)
        obtain ⟨Z, hZ⟩ : ∃ Z, Z = X ^^^ X / 64 := ⟨_, rfl⟩
        obtain ⟨Y, hY⟩ : ∃ Y, Y = X / 64 := ⟨_, rfl⟩
        have m4 : (X : Int) / 64 = (Y : Int) := by rw [hY]; exact (Int.natCast_ediv X 64).symm
        rw [← hZ, ← hY] at HX
        have HX2 := HX.2
        have HX1 := HX.1
        clear HX hZ hY m1 m2 m3
        have HQ1 := Lib.hid (HQ.out.below hb1)
        have HG1 := Lib.hid (grown_trans HG.out (below_grownby hb1 _))
        go_wp2
        go_ret
        have h0 : 0 ≤ (Z : Int) % n := Int.emod_nonneg _ (by omega)
        have h9 : (Z : Int) % n < n := Int.emod_lt_of_pos _ (by omega)
        exact ⟨((Z : Int) % n).toNat, by rw [Int.toNat_of_nonneg h0]; rfl, .inr (by rw [Int.toNat_of_nonneg h0]; exact h9), HQ1.out, HG1.out⟩

theorem one_any (R p : Nat) (a : Option Addr) (c n : Nat) (xs : List Int) (w : World) (h : RdrAt w R p) (hp : p ≤ 1099511627776) (hn : xs.length = n) (h0 : 0 < n) (hl : n ≤ 1048576) (hx : Rd w a (ints xs)) (hr : ∀ x, a = some x → x.block ≠ R) :
    Calls Try.prog 104 #[.pointer (some ⟨R, 0, none⟩), .slice a n c] w fun e w' => ∃ v ∈ xs, e = .returned (.int .i64 v) ∧ RdrAt w' R (p + 1) ∧ w.grownBy w' (some R) := by
  have C1 := pick_any R p n w h hp (by omega)
  go_enter Try.func104, Try.ntmps104
  go_wp2_with fail
  refine C1.mono ?_
  rintro e w1 ⟨v, rfl, hv, hq, hg⟩
  have hv : v < n := by omega
  obtain ⟨b1, o1, rfl, k1⟩ := (hx.grown hg (fun x h e => hr x h (by simpa using e))).int (k := v) (by omega)
  have HM := Lib.hid (List.getElem_mem (l := xs) (n := v) (by omega))
  generalize xs[v]'(by omega) = y at *
  go_wp2
  go_ret
  exact ⟨y, HM.out, rfl, hq, hg⟩

theorem rd_bytes_take {w : World} {a : Option Addr} {bs : List Int} (h : Rd w a (bytesV bs)) (k : Nat) : Rd w a (bytesV (bs.take k)) := by
  intro j u hu
  refine h j u ?_
  rw [bytesV, List.map_take, List.getElem?_take] at hu
  split at hu
  · exact hu
  · cases hu

theorem newReader_any (a : Option Addr) (c n : Nat) (bs : List Int) (w : World) (hn : n ≤ bs.length) (hl : n ≤ 1048576) (hc : n ≤ c) (hx : Rd w a (bytesV bs)) (hby : ∀ x ∈ bs, 0 ≤ x ∧ x < 256) (hb : ∀ x, a = some x → bs ≠ [] → x.block < w.heap.size) :
    Calls Try.prog 69 #[.slice a n c] w fun e w' => e = .returned (.pointer (some ⟨w.heap.size, 0, none⟩)) ∧ RdrAt w' w.heap.size 0 ∧ Below w.heap.size w w' := by
  have HX := fun k => Lib.hid (rd_bytes_take hx k)
  have HB := fun k => Lib.hid (fun (x : Addr) (h : a = some x) (h2 : bs.take k ≠ []) => hb x h (by rintro rfl; simp at h2))
  have HBy : ∀ k, ∀ x ∈ bs.take k, 0 ≤ x ∧ x < 256 := fun k x h => hby x (List.mem_of_mem_take h)
  by_cases h : 2000 < n
  · go_enter Try.func69, Try.ntmps69
    go_wp2
    go_ret
    exact ⟨rfl, ⟨a, 2000, c, bs.take 2000, heap_alloc_new w _, by simp; omega, by omega, (HX 2000).out.below (below_alloc w _), HBy 2000, (HB 2000).out⟩, below_alloc w _⟩
  · go_enter Try.func69, Try.ntmps69
    go_wp2
    go_ret
    exact ⟨rfl, ⟨a, n, c, bs.take n, heap_alloc_new w _, by simp; omega, by omega, (HX n).out.below (below_alloc w _), HBy n, (HB n).out⟩, below_alloc w _⟩

end Go.Proofs.Ytjghcegacgpehaa
