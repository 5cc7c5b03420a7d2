
/- Rows of matrices: for reading, owned; the laws' helpers on them. -/
import Derived.Test.YtjghcegacgpehaaFrL
import Derived.Test.YtjghcegacgpehaaMatW
import Derived.Test.YtjghcegacgpehaaMatC
namespace Go.Proofs.Ytjghcegacgpehaa
open Go.RowKit

abbrev Cube := List (List (List Int))
/-- Every matrix of a row of matrices, for reading. -/
def RdK (w : World) (a : Option Addr) (ms : Cube) : Prop :=
  ∀ r (h : r < ms.length), ∃ b off a' c', a = some ⟨b, off, none⟩ ∧ w.cell? ⟨b, off + r, none⟩ = some (.slice a' (ms[r]'h).length c') ∧ RdM w a' (ms[r]'h)
theorem RdK.below {w w' : World} {a : Option Addr} {ms : Cube} (h : RdK w a ms) (hb : Below w.heap.size w w') : RdK w' a ms := by
  intro r hr
  obtain ⟨b, off, a', c', rfl, h1, h2⟩ := h r hr
  exact ⟨b, off, a', c', rfl, (hb.cell (p := ⟨b, off + r, none⟩) (Rd.lt h1)).trans h1, h2.below hb⟩
theorem rdK_nil (w : World) (a : Option Addr) : RdK w a [] := by intro r h; simp at h

set_option maxHeartbeats 1000000 in
theorem eqIntSSS_any (a b : Option Addr) (ca cb n : Nat) (ms : Cube) (w : World) (hn : ms.length = n) (hx : RdK w a ms) (hy : RdK w b ms) (hl : n ≤ 2097152) (hl2 : ∀ m ∈ ms, m.length + sumLen m ≤ 1000) :
    Calls Try.prog 60 #[.slice a n ca, .slice b n cb] w fun e w' => e = .returned (.bool true) ∧ Below w.heap.size w w' := by
  have HN := Lib.hid hn
  clear hn
  go_enter Try.func60, Try.ntmps60
  go_wp2
  go_loopw [5] (fun i wr => ∃ k : Nat, k ≤ n ∧ i = .int .i64 k ∧ Below w.heap.size w wr) (fun i _ => n - (intOf i).toNat)
  case atStart => exact ⟨0, by omega, rfl, Below.refl _ _⟩
  case round =>
    obtain ⟨k, hk, rfl, hb⟩ := hrel
    by_cases hlt : k < n
    · have hkg : k < ms.length := by rw [HN.out]; exact hlt
      obtain ⟨b1, o1, a1, c1, ea, e1, r1⟩ := (hx.below hb) k hkg
      obtain ⟨b2, o2, a2, c2, eb, f1, r2⟩ := (hy.below hb) k hkg
      have hgl := hl2 _ (List.getElem_mem hkg)
      generalize (ms[k]'hkg) = G at *
      subst ea eb
      have d1 := later_cell e1
      have d3 := later_cell f1
      have HE := Lib.hid (fun u : Later wr => eqIntSS_any a1 a2 c1 c2 G.length G u.val rfl (r1.below u.ok) (r2.below u.ok) (by omega))
      clear e1 f1 r1 r2
      go_wp2
      refine wp_region_later (by kernel_rfl) (by kernel_rfl) ?_
      repeat (go_big_quiet_step ((go_at_call 135; exact calls_later _ (HE.out _))))
      refine wpQuiet_nil ?_
      intro w2 hw'
      have hb2 := below_tr' hb (later_below hw')
      clear hw' d1 d3 HE
      go_wp2
      go_roundw
      case rel => exact ⟨k + 1, by omega, by go_num, hb2⟩
      case measure => simp [intOf]; omega
    · go_wp2
      go_ret
      exact ⟨rfl, hb⟩

/-- The number that the mark of a matrix begins with. -/
def kK (k0 : Int) (ms : Cube) (r : Nat) : Int := k0 + ((ms.take r).map fun m => (sumLen m : Int)).sum
theorem kK_zero (k0 : Int) (ms : Cube) : kK k0 ms 0 = k0 := by simp [kK]
theorem kK_succ {k0 : Int} {ms : Cube} {r : Nat} (h : r < ms.length) : kK k0 ms (r + 1) = kK k0 ms r + (sumLen (ms[r]'h) : Int) := by
  rw [kK, kK, List.take_succ_eq_append_getElem h, List.map_append, List.sum_append]
  simp only [List.map_cons, List.map_nil, List.sum_cons, List.sum_nil]
  omega
theorem kK_le {k0 : Int} {ms : Cube} (hl : ∀ m ∈ ms, m.length + sumLen m ≤ 1000) : ∀ r, r ≤ ms.length → k0 ≤ kK k0 ms r ∧ kK k0 ms r ≤ k0 + 1000 * (r : Int) := by
  intro r
  induction r with
  | zero => intro _; rw [kK_zero]; omega
  | succ r ih =>
    intro h
    have h1 := ih (by omega)
    have h2 := hl _ (List.getElem_mem (show r < ms.length by omega))
    rw [kK_succ (show r < ms.length by omega)]
    omega
/-- The first r matrices are marked. -/
def marksK (k0 : Int) (ms : Cube) (r : Nat) : Cube := (List.range ms.length).map fun j => if j < r then marksM (kK k0 ms j) (ms.getD j []) else ms.getD j []
theorem marksK_length (k0 : Int) (ms : Cube) (r : Nat) : (marksK k0 ms r).length = ms.length := by simp [marksK]
theorem marksK_get (k0 : Int) (ms : Cube) (r j : Nat) (h : j < (marksK k0 ms r).length) (h2 : j < ms.length) : (marksK k0 ms r)[j]'h = if j < r then marksM (kK k0 ms j) (ms[j]'h2) else ms[j]'h2 := by
  have e : ms.getD j [] = ms[j]'h2 := by rw [List.getD_eq_getElem?_getD, List.getElem?_eq_getElem h2]; rfl
  simp only [marksK, List.getElem_map, List.getElem_range, e]
theorem marksK_zero (k0 : Int) (ms : Cube) : marksK k0 ms 0 = ms := by
  apply List.ext_getElem
  · rw [marksK_length]
  · intro j h1 h2
    rw [marksK_get _ _ _ _ h1 h2, if_neg (Nat.not_lt_zero _)]

set_option maxHeartbeats 1000000 in
theorem heldIntSSS_any (a : Option Addr) (c n : Nat) (k0 : Int) (ms : Cube) (w : World) (hn : ms.length = n) (hx : RdK w a (marksK k0 ms n)) (hl : n ≤ 2097152) (hl2 : ∀ m ∈ ms, m.length + sumLen m ≤ 1000) (hk0 : 0 ≤ k0) (hk1 : k0 ≤ 1048576) :
    Calls Try.prog 63 #[.slice a n c, .int .i64 k0] w fun e w' => e = .returned (.int .i64 (kK k0 ms n)) ∧ Below w.heap.size w w' := by
  have HN := Lib.hid hn
  clear hn
  go_enter Try.func63, Try.ntmps63
  go_wp2
  go_loopw [1, 5] (fun t i wr => ∃ r : Nat, r ≤ n ∧ i = .int .i64 r ∧ t = .int .i64 (kK k0 ms r) ∧ Below w.heap.size w wr) (fun _ i _ => n - (intOf i).toNat)
  case atStart => exact ⟨0, by omega, rfl, by rw [kK_zero], Below.refl _ _⟩
  case round =>
    obtain ⟨r, hr, rfl, rfl, hb⟩ := hrel
    by_cases hlt : r < n
    · have hkg : r < ms.length := by rw [HN.out]; exact hlt
      have hkm : r < (marksK k0 ms n).length := by rw [marksK_length]; exact hkg
      obtain ⟨b1, o1, a1, c1, ea, e1, r1⟩ := (hx.below hb) r hkm
      have eM := marksK_get k0 ms n r hkm hkg
      rw [if_pos hlt] at eM
      rw [eM] at r1 e1
      rw [marksM_length] at e1
      have hgl := hl2 _ (List.getElem_mem hkg)
      have hbd := kK_le (k0 := k0) hl2 r (by omega)
      have HS := Lib.hid (kK_succ (k0 := k0) hkg)
      clear eM
      generalize (ms[r]'hkg) = G at *
      have C1 := heldIntSS_any a1 c1 G.length G (kK k0 ms r) wr rfl r1 (by omega) (by omega) (by omega)
      obtain ⟨K, hK⟩ : ∃ K, K = kK k0 ms r := ⟨_, rfl⟩
      rw [← hK] at hbd HS C1 ⊢
      have hge : 0 ≤ K + (sumLen G : Int) := by omega
      subst ea
      clear r1 hK
      go_wp2_with fail
      refine C1.mono ?_
      rintro e w2 ⟨rfl, hb2⟩
      have hb3 := below_tr' hb hb2
      clear C1 hb2
      go_wp2
      go_roundw
      case rel => exact ⟨r + 1, by omega, by go_num, by rw [HS.out], hb3⟩
      case measure => simp [intOf]; omega
    · have e : r = n := by omega
      subst e
      go_wp2
      go_ret
      exact ⟨rfl, hb⟩

/-- Where a matrix lies. -/
abbrev AtM := Option Addr × List At
def cubeV (n : Nat) (vs : List AtM) : List Value := vs.map fun v => .slice v.1 n n
def innK (vs : List AtM) : List Nat := vs.flatMap fun v => mblks v.1 v.2
theorem innK_mem {vs : List AtM} {r : Nat} (h : r < vs.length) : ∀ i ∈ mblks (vs[r]'h).1 (vs[r]'h).2, i ∈ innK vs := fun _ hi => List.mem_flatMap.2 ⟨_, List.getElem_mem h, hi⟩
theorem innK_snoc (vs : List AtM) (v : AtM) : innK (vs ++ [v]) = innK vs ++ mblks v.1 v.2 := by simp [innK]
def ApartK (vs : List AtM) : Prop := vs.Pairwise fun u v => ∀ i, i ∈ mblks u.1 u.2 → i ∉ mblks v.1 v.2
theorem apartK_get {vs : List AtM} (h : ApartK vs) {i j : Nat} (h1 : i < vs.length) (h2 : j < vs.length) (hn : i ≠ j) : ∀ b, b ∈ mblks (vs[i]'h1).1 (vs[i]'h1).2 → b ∉ mblks (vs[j]'h2).1 (vs[j]'h2).2 := by
  intro b hb hb2
  have hp := List.pairwise_iff_getElem.1 h
  rcases Nat.lt_or_gt_of_ne hn with h3 | h3
  · exact hp i j h1 h2 h3 b hb hb2
  · exact hp j i h2 h1 h3 b hb2 hb
/-- A row of matrices of n rows, owned. -/
def OwnK (w : World) (B : Nat) (a : Option Addr) (c n : Nat) (vs : List AtM) (ms : Cube) : Prop :=
  vs.length = ms.length ∧ w.ownsRow B 34 1 (.slice a ms.length c) ms.length (cubeV n vs) ∧ (∀ r (h1 : r < vs.length) (h2 : r < ms.length), OwnM w B (vs[r]'h1).1 n n (vs[r]'h1).2 (ms[r]'h2)) ∧ ApartK vs
theorem OwnK.lt {w : World} {B c n : Nat} {a : Option Addr} {vs : List AtM} {ms : Cube} (h : OwnK w B a c n vs ms) : ∀ i ∈ blks a ++ innK vs, B ≤ i ∧ i < w.heap.size := by
  intro i hi
  rcases List.mem_append.1 hi with h1 | h1
  · exact own_blks h.2.1 i h1
  · obtain ⟨v, hv, h2⟩ := List.mem_flatMap.1 h1
    obtain ⟨r, hr, rfl⟩ := List.getElem_of_mem hv
    exact (h.2.2.1 r hr (by rw [← h.1]; exact hr)).blts i h2
theorem OwnK.same {w w' : World} {B c n : Nat} {a : Option Addr} {vs : List AtM} {ms : Cube} (h : OwnK w B a c n vs ms) (hs : ∀ i ∈ blks a ++ innK vs, w'.heap[i]? = w.heap[i]?) : OwnK w' B a c n vs ms :=
  ⟨h.1, own_same2 h.2.1 fun x hx => hs x.block (List.mem_append_left _ (blks_mem.2 ⟨x, hx, rfl⟩)), fun r h1 h2 => (h.2.2.1 r h1 h2).same fun i hi => hs i (List.mem_append_right _ (innK_mem h1 i hi)), h.2.2.2⟩
theorem OwnK.below {w w' : World} {B c n : Nat} {a : Option Addr} {vs : List AtM} {ms : Cube} (h : OwnK w B a c n vs ms) (hb : Below w.heap.size w w') : OwnK w' B a c n vs ms :=
  h.same fun i hi => hb.block i (h.lt i hi).2
theorem OwnM.rebase3 {w : World} {B B' n c : Nat} {a : Option Addr} {rs : List At} {m : List (List Int)} (h : OwnM w B a n c rs m) (hs : ∀ i ∈ mblks a rs, B' ≤ i) : OwnM w B' a n c rs m :=
  ⟨h.1, h.2.1, own_rebase2 h.2.2.1 fun i hi => hs i (List.mem_append_left _ hi), fun r h1 h2 => own_rebase2 (h.2.2.2.1 r h1 h2) fun i hi => hs i (mblks_row h1 i hi), h.2.2.2.2⟩
theorem OwnK.rebase {w : World} {B B' c n : Nat} {a : Option Addr} {vs : List AtM} {ms : Cube} (h : OwnK w B a c n vs ms) (hs : ∀ i ∈ blks a ++ innK vs, B' ≤ i) : OwnK w B' a c n vs ms :=
  ⟨h.1, own_rebase2 h.2.1 fun i hi => hs i (List.mem_append_left _ hi), fun r h1 h2 => (h.2.2.1 r h1 h2).rebase3 fun i hi => hs i (List.mem_append_right _ (innK_mem h1 i hi)), h.2.2.2⟩
theorem ownK_none (w : World) (B n : Nat) : OwnK w B none 0 n [] [] := ⟨rfl, World.ownsRow_nil _ _ _ _, fun r h1 => by simp at h1, List.Pairwise.nil⟩
theorem cubeV_get (n : Nat) (vs : List AtM) (r : Nat) (h : r < vs.length) : (cubeV n vs)[r]? = some (.slice (vs[r]'h).1 n n) := by simp [cubeV, List.getElem?_eq_getElem h]
theorem OwnK.rdK {w : World} {B c n : Nat} {a : Option Addr} {vs : List AtM} {ms : Cube} (h : OwnK w B a c n vs ms) : RdK w a ms := by
  intro r hr
  have hv : r < vs.length := by rw [h.1]; exact hr
  obtain ⟨b, off, rfl, k1⟩ := own_rd h.2.1 _ _ (cubeV_get n vs r hv)
  have hm := h.2.2.1 r hv hr
  exact ⟨b, off, _, n, rfl, by rw [hm.2.1]; exact k1, hm.rdM⟩
theorem outOf_mblks {a : Option Addr} {rs : List At} {i : Nat} (h : i ∉ mblks a rs) : OutOf rs i := by
  intro r hr x hx e
  exact h (mblks_row hr i (blks_mem.2 ⟨x, hx, e⟩))

set_option maxHeartbeats 1000000 in
theorem markIntSSS_any (B : Nat) (a : Option Addr) (c cv n nr : Nat) (vs : List AtM) (ms : Cube) (k0 : Int) (w : World) (hn : ms.length = n) (hO : OwnK w B a c nr vs ms) (hl : n ≤ 2097152) (hl2 : ∀ m ∈ ms, m.length + sumLen m ≤ 1000) (hk0 : 0 ≤ k0) (hk1 : k0 ≤ 1048576) (hBw : B ≤ w.heap.size) :
    Calls Try.prog 62 #[.slice a n cv, .int .i64 k0] w fun e w' => e = .returned (.int .i64 (kK k0 ms n)) ∧ OwnK w' B a c nr vs (marksK k0 ms n) ∧ FrL (innK vs) w w' := by
  have HN := Lib.hid hn
  have h0 : OwnK w B a c nr vs (marksK k0 ms 0) := by rw [marksK_zero]; exact hO
  have hvl := hO.1
  rw [hn] at hvl
  clear hn hO
  go_enter Try.func62, Try.ntmps62
  go_wp2
  go_loopw [1, 5] (fun t i wr => ∃ r : Nat, r ≤ n ∧ i = .int .i64 r ∧ t = .int .i64 (kK k0 ms r) ∧ OwnK wr B a c nr vs (marksK k0 ms r) ∧ FrL (innK vs) w wr) (fun _ i _ => n - (intOf i).toNat)
  case atStart => exact ⟨0, by omega, rfl, by rw [kK_zero], h0, FrL.refl _ _⟩
  case round =>
    clear h0
    obtain ⟨r, hr, rfl, rfl, hO, hF⟩ := hrel
    by_cases hlt : r < n
    · have hkg : r < ms.length := by rw [HN.out]; exact hlt
      have hkm : r < (marksK k0 ms r).length := by rw [marksK_length]; exact hkg
      have hv : r < vs.length := by omega
      have eM := marksK_get k0 ms r r hkm hkg
      rw [if_neg (Nat.lt_irrefl _)] at eM
      have hM := hO.2.2.1 r hv hkm
      rw [eM] at hM
      obtain ⟨b1, o1, ea, e1⟩ := own_rd hO.2.1 _ _ (cubeV_get nr vs r hv)
      have hgl := hl2 _ (List.getElem_mem hkg)
      have hbd := kK_le (k0 := k0) hl2 r (by omega)
      have hmn := hM.2.1
      have C1 := markIntSS_any B (vs[r]'hv).1 nr nr (vs[r]'hv).2 (ms[r]'hkg) (kK k0 ms r) wr hM (by omega) (by omega) (by omega) (by have := hF.size; omega)
      have HR := Lib.hid (fun (w2 : World) (hm : OwnM w2 B (vs[r]'hv).1 nr nr (vs[r]'hv).2 (marksM (kK k0 ms r) (ms[r]'hkg))) (hb : Below B wr w2) (hs : ∀ i, i < wr.heap.size → OutOf (vs[r]'hv).2 i → w2.heap[i]? = wr.heap[i]?) =>
        (show OwnK w2 B a c nr vs (marksK k0 ms (r + 1)) ∧ FrL (innK vs) w w2 from by
          have hsame : ∀ i, i < wr.heap.size → i ∉ mblks (vs[r]'hv).1 (vs[r]'hv).2 → w2.heap[i]? = wr.heap[i]? := fun i h1 h2 => hs i h1 (outOf_mblks h2)
          refine ⟨⟨by rw [marksK_length, hO.1, marksK_length], ?_, ?_, hO.2.2.2⟩, ?_⟩
          · have ho := hO.2.1
            rw [marksK_length] at ho ⊢
            refine own_same2 ho fun x hx => hs x.block (own_lt ho x hx).2 ?_
            intro q hq y hy e
            have hrow := hM.2.2.2.1 q hq (by have := hM.1; omega)
            obtain ⟨g, rfl, _, _⟩ : ∃ g, y = ⟨g, 0, none⟩ ∧ True ∧ True := by
              rcases hrow.2 with ⟨h5, _⟩ | ⟨g, cap, cur, h5, _⟩
              · rw [hy] at h5; cases h5
              · rw [hy] at h5; cases h5; exact ⟨g, rfl, trivial, trivial⟩
            rw [hy] at hrow
            have h6 := own_kinds ho hrow (by decide)
            apply h6
            rw [hx]
            simp only [Value.ownBlock]
            have e2 : g = x.block := e
            rw [e2]
          · intro j h1 h2
            have h3 : j < ms.length := by rw [marksK_length] at h2; exact h2
            rw [marksK_get _ _ _ _ h2 h3]
            by_cases e : j = r
            · subst e
              rw [if_pos (Nat.lt_succ_self _)]; exact hm
            · have h4 : j < (marksK k0 ms r).length := by rw [marksK_length]; exact h3
              have hj := hO.2.2.1 j h1 h4
              rw [marksK_get _ _ _ _ h4 h3] at hj
              have e5 : (if j < r + 1 then marksM (kK k0 ms j) (ms[j]'h3) else ms[j]'h3) = (if j < r then marksM (kK k0 ms j) (ms[j]'h3) else ms[j]'h3) := by
                by_cases h5 : j < r
                · rw [if_pos h5, if_pos (by omega)]
                · rw [if_neg h5, if_neg (by omega)]
              rw [e5]
              exact hj.same fun i hi => hsame i (hj.blts i hi).2 (apartK_get hO.2.2.2 h1 hv e i hi)
          · refine hF.trans ⟨hb.os, hb.tape, hb.output, hb.size, fun i hi hn2 => hsame i hi fun h5 => hn2 (innK_mem hv i h5)⟩))
      have HS := Lib.hid (kK_succ (k0 := k0) hkg)
      clear eM hM hO hF
      generalize (ms[r]'hkg) = G at *
      generalize marksM (kK k0 ms r) G = G2 at *
      obtain ⟨K, hK⟩ : ∃ K, K = kK k0 ms r := ⟨_, rfl⟩
      rw [← hK] at hbd HS C1 ⊢
      obtain ⟨a1, ha1⟩ : ∃ a1, a1 = (vs[r]'hv).1 := ⟨_, rfl⟩
      obtain ⟨rs1, hrs1⟩ : ∃ rs1, rs1 = (vs[r]'hv).2 := ⟨_, rfl⟩
      rw [← ha1] at e1 HR C1
      rw [← hrs1] at HR C1
      subst ea
      clear hK ha1 hrs1
      go_wp2_with fail
      refine C1.mono ?_
      rintro e w2 ⟨rfl, m1, m2, m3⟩
      have HH := Lib.hid (HR.out w2 m1 m2 m3)
      clear C1 HR m1 m2 m3 e1
      go_wp2
      go_roundw
      case rel => exact ⟨r + 1, by omega, by go_num, by rw [HS.out], HH.out.1, HH.out.2⟩
      case measure => simp [intOf]; omega
    · have e : r = n := by omega
      subst e
      have HH := Lib.hid (And.intro hO hF)
      clear hO hF
      go_wp2
      go_ret
      exact ⟨rfl, HH.out.1, HH.out.2⟩

/-- A row of matrices for reading, in the blocks below hi. -/
def HoldsRK (hi : Nat) (a : Option Addr) (ms : Cube) (w : World) : Prop := hi ≤ w.heap.size ∧ ∃ W, W.heap.size ≤ hi ∧ RdK W a ms ∧ Stays 0 W.heap.size W w
theorem HoldsRK.of {w : World} {a : Option Addr} {ms : Cube} (h : RdK w a ms) : HoldsRK w.heap.size a ms w := ⟨Nat.le_refl _, w, Nat.le_refl _, h, fun _ _ _ => rfl⟩
theorem HoldsRK.below {w w' : World} {hi : Nat} {a : Option Addr} {ms : Cube} (h : HoldsRK hi a ms w) (hb : Below w.heap.size w w') : HoldsRK hi a ms w' := by
  obtain ⟨h1, W, h2, h3, h4⟩ := h
  exact ⟨Nat.le_trans h1 hb.size, W, h2, h3, fun i hi1 hi2 => (hb.block i (by omega)).trans (h4 i hi1 hi2)⟩
theorem HoldsRK.fr {w w' : World} {hi lo2 hi2 : Nat} {a : Option Addr} {ms : Cube} (h : HoldsRK hi a ms w) (hf : MarkFr lo2 hi2 w w') (hd : hi ≤ lo2) : HoldsRK hi a ms w' := by
  obtain ⟨h1, W, h2, h3, h4⟩ := h
  exact ⟨Nat.le_trans h1 hf.1.size, W, h2, h3, fun i hi1 hi2 => (hf.2 i (by omega) (.inl (by omega))).trans (h4 i hi1 hi2)⟩
theorem cell_stays {w w' : World} {b j : Nat} {v : Value} (h : w.cell? ⟨b, j, none⟩ = some v) (hs : Stays 0 w.heap.size w w') : w'.cell? ⟨b, j, none⟩ = some v :=
  (World.cell?_of_block (w := w) (a := ⟨b, j, none⟩) (hs b (Nat.zero_le _) (Rd.lt h))).trans h
theorem RdM.stays {w w' : World} {a : Option Addr} {m : List (List Int)} (h : RdM w a m) (hs : Stays 0 w.heap.size w w') : RdM w' a m := by
  intro r hr
  obtain ⟨b, off, a', c', rfl, h1, h2, h3⟩ := h r hr
  refine ⟨b, off, a', c', rfl, cell_stays h1 hs, ?_, h3⟩
  intro j u hu
  obtain ⟨b2, o2, rfl, h4⟩ := h2 j u hu
  exact ⟨b2, o2, rfl, cell_stays h4 hs⟩
theorem RdK.stays {w w' : World} {a : Option Addr} {ms : Cube} (h : RdK w a ms) (hs : Stays 0 w.heap.size w w') : RdK w' a ms := by
  intro r hr
  obtain ⟨b, off, a', c', rfl, h1, h2⟩ := h r hr
  exact ⟨b, off, a', c', rfl, cell_stays h1 hs, h2.stays hs⟩
theorem HoldsRK.rdK {w : World} {hi : Nat} {a : Option Addr} {ms : Cube} (h : HoldsRK hi a ms w) : RdK w a ms := by
  obtain ⟨h1, W, h2, h3, h4⟩ := h
  exact h3.stays h4
/-- A row of matrices whose blocks lie from lo to hi. -/
def HoldsC (lo hi : Nat) (a : Option Addr) (ms : Cube) (w : World) : Prop := ∃ c n vs, OwnK w lo a c n vs ms ∧ ∀ i ∈ blks a ++ innK vs, lo ≤ i ∧ i < hi
theorem HoldsC.of {w : World} {lo c n : Nat} {a : Option Addr} {vs : List AtM} {ms : Cube} (h : OwnK w lo a c n vs ms) : HoldsC lo w.heap.size a ms w := ⟨c, n, vs, h, h.lt⟩
theorem HoldsC.below {w w' : World} {lo hi : Nat} {a : Option Addr} {ms : Cube} (h : HoldsC lo hi a ms w) (hb : Below w.heap.size w w') : HoldsC lo hi a ms w' := by
  obtain ⟨c, n, vs, h1, h2⟩ := h
  exact ⟨c, n, vs, h1.below hb, h2⟩
theorem HoldsC.fr {w w' : World} {lo hi lo2 hi2 : Nat} {a : Option Addr} {ms : Cube} (h : HoldsC lo hi a ms w) (hf : MarkFr lo2 hi2 w w') (hd : hi ≤ lo2 ∨ hi2 ≤ lo) : HoldsC lo hi a ms w' := by
  obtain ⟨c, n, vs, h1, h2⟩ := h
  exact ⟨c, n, vs, h1.same fun i hi => by have := h2 i hi; have := (h1.lt i hi).2; exact hf.2 i this (by omega), h2⟩
theorem HoldsC.rdK {w : World} {lo hi : Nat} {a : Option Addr} {ms : Cube} (h : HoldsC lo hi a ms w) : RdK w a ms := by
  obtain ⟨c, n, vs, h1, h2⟩ := h
  exact h1.rdK
theorem markHC_any {w : World} {lo hi n : Nat} {a : Option Addr} {ms : Cube} (k0 : Int) (ca : Nat) (h : HoldsC lo hi a ms w) (hn : ms.length = n) (hl : n ≤ 2097152) (hl2 : ∀ m ∈ ms, m.length + sumLen m ≤ 1000) (hk0 : 0 ≤ k0) (hk1 : k0 ≤ 1048576) (hlo : lo ≤ w.heap.size) :
    Calls Try.prog 62 #[.slice a n ca, .int .i64 k0] w fun e w' => e = .returned (.int .i64 (kK k0 ms n)) ∧ HoldsC lo hi a (marksK k0 ms n) w' ∧ MarkFr lo hi w w' := by
  obtain ⟨c, nr, vs, h1, h2⟩ := h
  refine (markIntSSS_any lo a c ca n nr vs ms k0 w hn h1 hl hl2 hk0 hk1 hlo).mono ?_
  rintro e w' ⟨rfl, g1, g2⟩
  exact ⟨rfl, ⟨c, nr, vs, g1, h2⟩, g2.below hlo fun i hi => (h2 i (List.mem_append_right _ hi)).1, fun i hi1 hi2 => g2.block i hi1 fun hm => by have := h2 i (List.mem_append_right _ hm); omega⟩

end Go.Proofs.Ytjghcegacgpehaa
