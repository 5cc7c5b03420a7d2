
/- Matrices whose rows may have been clipped (a value's capacity is less than that of the block), and what a law's walk needs of them: all blocks in a range. -/
import Derived.Test.YtjmiafkkbganlaaMatL3
namespace Go.Proofs.Ytjmiafkkbganlaa
open Go.RowKit

def CapOK (vs : List At) (m : List (List Int)) : Prop := ∀ r (h : r < vs.length) (h' : r < m.length), (m[r]'(h')).length ≤ (vs[r]'h).2 ∧ (vs[r]'h).2 ≤ maxLen ∧ ((vs[r]'h).1 = none → (vs[r]'h).2 = 0)
/-- An owned matrix: rs tells where the rows lie, with the blocks' capacities; vs the rows as values. -/
def OwnC (w : World) (B : Nat) (a : Option Addr) (n c : Nat) (rs vs : List At) (m : List (List Int)) : Prop :=
  rs.length = n ∧ m.length = n ∧ vs.map Prod.fst = rs.map Prod.fst ∧ CapOK vs m ∧ w.ownsRow B 25 1 (.slice a n c) n (rowVs vs m) ∧ Inn w B rs m ∧ ApartL rs

theorem fst_len {rs vs : List At} (h : vs.map Prod.fst = rs.map Prod.fst) : vs.length = rs.length := by simpa using congrArg List.length h
theorem fst_get {rs vs : List At} (h : vs.map Prod.fst = rs.map Prod.fst) {r : Nat} (h1 : r < vs.length) (h2 : r < rs.length) : (vs[r]'h1).1 = (rs[r]'h2).1 := by
  have := congrArg (fun l => l[r]?) h
  simpa [h1, h2] using this

theorem ownC_of {w : World} {B n c : Nat} {a : Option Addr} {rs : List At} {m : List (List Int)} (h : OwnM w B a n c rs m) : OwnC w B a n c rs rs m :=
  ⟨h.1, h.2.1, rfl, fun r h1 h2 => own_shape (h.2.2.2.1 r h1 h2), h.2.2.1, h.2.2.2.1, h.2.2.2.2⟩
theorem OwnC.vlen {w : World} {B n c : Nat} {a : Option Addr} {rs vs : List At} {m : List (List Int)} (h : OwnC w B a n c rs vs m) : vs.length = n := by rw [fst_len h.2.2.1, h.1]
theorem OwnC.below {w w' : World} {B n c : Nat} {a : Option Addr} {rs vs : List At} {m : List (List Int)} (h : OwnC w B a n c rs vs m) (hb : Below w.heap.size w w') : OwnC w' B a n c rs vs m :=
  ⟨h.1, h.2.1, h.2.2.1, h.2.2.2.1, own_below h.2.2.2.2.1 hb, h.2.2.2.2.2.1.below hb, h.2.2.2.2.2.2⟩
theorem OwnC.mono {w : World} {B B' n c : Nat} {a : Option Addr} {rs vs : List At} {m : List (List Int)} (h : OwnC w B a n c rs vs m) (hB : B' ≤ B) : OwnC w B' a n c rs vs m :=
  ⟨h.1, h.2.1, h.2.2.1, h.2.2.2.1, own_mono h.2.2.2.2.1 hB, fun r h1 h2 => own_mono (h.2.2.2.2.2.1 r h1 h2) hB, h.2.2.2.2.2.2⟩
theorem OwnC.rdM {w : World} {B n c : Nat} {a : Option Addr} {rs vs : List At} {m : List (List Int)} (h : OwnC w B a n c rs vs m) : RdM w a m := by
  intro r hr
  have hv := h.vlen
  obtain ⟨h1, h2, h3, h4, h5, h6, _⟩ := h
  have hr' : r < rs.length := by omega
  have hrv : r < vs.length := by omega
  obtain ⟨b, off, ha, hc⟩ := own_rd h5 r _ (rowVs_get vs m r hrv hr)
  have hs := h4 r hrv hr
  have ho := own_rd (h6 r hr' hr)
  rw [← fst_get h3 hrv hr'] at ho
  exact ⟨b, off, _, _, ha, hc, ho, hs.1, hs.2.1, hs.2.2⟩
theorem OwnC.min {w : World} {B n c : Nat} {a : Option Addr} {rs vs : List At} {m : List (List Int)} (h : OwnC w B a n c rs vs m) : MIn B w.heap.size a rs :=
  ⟨fun x hx => own_lt h.2.2.2.2.1 x hx, fun r hr x hx => own_lt (h.2.2.2.2.2.1 r hr (by have := h.1; have := h.2.1; omega)) x hx⟩
theorem ownC_none (w : World) (B : Nat) : OwnC w B none 0 0 [] [] [] := ownC_of (ownM_none w B)

theorem OwnC.kept_row {w w' : World} {B n c n' c' : Nat} {a a' : Option Addr} {rs vs : List At} {m : List (List Int)} {cs' : List Value} (h : OwnC w B a n c rs vs m) (ha : ApartA rs a') (ho : w.ownsRow B 3 1 (.slice a' n' c') n' cs') (hg : w.grownBy w' (Value.slice a' n' c').ownBlock) : OwnC w' B a n c rs vs m :=
  ⟨h.1, h.2.1, h.2.2.1, h.2.2.2.1, own_kept_kind h.2.2.2.2.1 ho (by decide) hg, Inn.kept_row h.2.2.2.2.2.1 ha hg, h.2.2.2.2.2.2⟩

/-- 'row = append(row, y)' beside a matrix. -/
theorem appendRowC {w0 w : World} {B0 B : Nat} {y : Int} {ops : Array Oper} {rest : List Oper} {o : Oper} {act : Act} {Q : Exit → Act → World → Prop} (s x : Operand) (hgd : o.guard = none)
    (ho : o.op = .call { callee := .builtin .append, args := #[s, x], argTypes := #[25, 25] })
    {a ar : Option Addr} {k c n cr cx : Nat} {rs vs : List At} {m : List (List Int)} {X : List Int} (hM : OwnC w B a k c rs vs m) (hap : ApartA rs ar) (hrow : w.ownsRow B 3 1 (.slice ar n cr) n (ints X))
    (hb : Below B0 w0 w) (hB0 : B0 ≤ B) (hBw : B ≤ w.heap.size) (hs : act.eval s = .slice ar n cr) (hx : act.eval x = .slice (some ⟨w.heap.size, 0, none⟩) 1 cx) (hN : n + 1 ≤ 17592186044416)
    (h : ∀ a' c' w', OwnC w' B a k c rs vs m → ApartA rs a' → w'.ownsRow B 3 1 (.slice a' (n + 1) c') (n + 1) (ints (X ++ [y])) → Below B0 w0 w' → wpList Try.prog ops Q rest (act.put o.dst (.slice a' (n + 1) c')) w') :
    wpList Try.prog ops Q (o :: rest) act (w.alloc (.cells #[.int .i64 y] 3)) := by
  refine append1g Try.infoI s x hgd ho hrow (World.grownBy.refl w _) hBw hs hx rfl (by intro u hu; simp at hu; subst hu; rfl) (by omega) ?_
  intro a' c' w' h1 h2 h3
  refine h a' c' w' (hM.kept_row hap hrow h2) (hap.grown hM.2.2.2.2.2.1 (by rw [hM.1, hM.2.1]) h3) (by rw [ints_append]; exact h1) ?_
  exact hb.grown h2 (by have := hb.size; omega) (fun i hi => by have := (hrow.lt i hi).1; omega)

/-- 'out = append(out, row)', of a row that may be clipped. -/
theorem pushRowC {w0 w : World} {B0 B : Nat} {ops : Array Oper} {rest : List Oper} {o : Oper} {act : Act} {Q : Exit → Act → World → Prop} (s x : Operand) (hgd : o.guard = none)
    (ho : o.op = .call { callee := .builtin .append, args := #[s, x], argTypes := #[44, 44] })
    {a ar : Option Addr} {k c n cr cv cx : Nat} {rs vs : List At} {m : List (List Int)} {X : List Int} (hM : OwnC w B a k c rs vs m) (hap : ApartA rs ar) (hn : X.length = n) (hrow : w.ownsRow B 3 1 (.slice ar n cr) n (ints X)) (hcv : n ≤ cv ∧ cv ≤ cr)
    (hb : Below B0 w0 w) (hB0 : B0 ≤ B) (hBw : B ≤ w.heap.size) (hs : act.eval s = .slice a k c) (hx : act.eval x = .slice (some ⟨w.heap.size, 0, none⟩) 1 cx) (hN : (k + 1) * 24 ≤ 140737488355328)
    (h : ∀ a' c' w', OwnC w' B a' (k + 1) c' (rs ++ [(ar, cr)]) (vs ++ [(ar, cv)]) (m ++ [X]) → Below B0 w0 w' → wpList Try.prog ops Q rest (act.put o.dst (.slice a' (k + 1) c')) w') :
    wpList Try.prog ops Q (o :: rest) act (w.alloc (.cells #[.slice ar n cv] 25)) := by
  subst hn
  have hvl := hM.vlen
  have hsh := own_shape hrow
  obtain ⟨M1, M2, M3, M4, M5, M6, M7⟩ := hM
  refine append1g Try.infoII s x hgd ho M5 (World.grownBy.refl w _) hBw hs hx rfl (by intro u hu; simp at hu; subst hu; rfl) hN ?_
  intro a' c' w' h1 h2 h3
  have hl : rs.length = m.length := by rw [M1, M2]
  refine h a' c' w' ⟨by simp [M1], by simp [M2], by simp [M3], ?_, ?_, ?_, ?_⟩ ?_
  · intro r hr hr'
    by_cases e : r < vs.length
    · have e2 : r < m.length := by omega
      simp only [List.getElem_append_left e, List.getElem_append_left e2]
      exact M4 r e e2
    · have e1 : r = vs.length := by simp at hr; omega
      subst e1
      have f1 : (vs ++ [(ar, cv)])[vs.length]'hr = (ar, cv) := by simp
      have f2 : (m ++ [X])[vs.length]'hr' = X := by simp [hvl, M2]
      rw [f1, f2]
      exact ⟨hcv.1, by show cv ≤ maxLen; omega, fun h0 => by have := hsh.2.2 h0; show cv = 0; omega⟩
  · rw [rowVs_snoc _ _ _ _ (by omega)]; exact h1
  · exact Inn.snoc (Inn.kept_outer M6 M5 h2) hl (own_kept_kind hrow M5 (by decide) h2)
  · exact ApartL.snoc M7 hap
  · exact hb.grown h2 (by have := hb.size; omega) (fun i hi => by have := (M5.lt i hi).1; omega)

set_option maxHeartbeats 1000000 in
theorem markC_any (B : Nat) (a : Option Addr) (c cv n : Nat) (rs vs : List At) (m : List (List Int)) (k0 : Int) (w : World) (ho0 : OwnC w B a n c rs vs m) (hl : n + sumLen m ≤ 1048576) (hk0 : 0 ≤ k0) (hk1 : k0 ≤ 1099510579200) (hBw : B ≤ w.heap.size) :
    Calls Try.prog 32 #[.slice a n cv, .int .i64 k0] w fun e w' => e = .returned (.int .i64 (k0 + sumLen m)) ∧ OwnC w' B a n c rs vs (marksM k0 m) ∧ Below B w w' ∧ ∀ i, i < w.heap.size → OutOf rs i → w'.heap[i]? = w.heap[i]? := by
  have hvl := ho0.vlen
  obtain ⟨hrs, hm, hfst, hcap, hout, hin, hap⟩ := ho0
  have hAP := Lib.hid hap
  have HFST := Lib.hid hfst
  have HCAP := Lib.hid hcap
  have hfk := fun (k : Nat) (h1 : k < vs.length) (h2 : k < rs.length) => fst_get hfst h1 h2
  clear hfst hcap
  go_enter Try.func32, Try.ntmps32
  go_wp2
  go_loopw [1, 5] (fun t i wr => ∃ k : Nat, k ≤ n ∧ i = .int .i64 k ∧ t = .int .i64 (k0 + sumLen (m.take k)) ∧ wr.ownsRow B 25 1 (.slice a n c) n (rowVs vs m) ∧
      (∀ r (h : r < rs.length) (h' : r < m.length), wr.ownsRow B 3 1 (.slice (rs[r]'h).1 (m[r]'(h')).length (rs[r]'h).2) (m[r]'(h')).length (ints (if r < k then markR k0 m r else m[r]'(h')))) ∧ Below B w wr ∧ (∀ i, i < w.heap.size → OutOf rs i → wr.heap[i]? = w.heap[i]?)) (fun _ i _ => n - (intOf i).toNat)
  case atStart => exact ⟨0, by omega, rfl, by simp [sumLen], hout, by intro r h h'; simpa using hin r h h', Below.refl _ _, fun _ _ _ => rfl⟩
  case round =>
    clear hout hin
    obtain ⟨k, hk, rfl, rfl, ho, hin, hb, hfr⟩ := hrel
    by_cases hlt : k < n
    · have hkm : k < m.length := by omega
      have hkr : k < rs.length := by omega
      have hkv : k < vs.length := by omega
      obtain ⟨g, ha, hgB, hgs⟩ := own_head ho (by omega)
      subst ha
      have hrow := hin k hkr hkm
      rw [if_neg (Nat.lt_irrefl k)] at hrow
      obtain ⟨b, off, e1, hc⟩ := own_rd ho k _ (rowVs_get vs m k hkv hkm)
      rw [hfk k hkv hkr] at hc
      cases e1
      have hsl := sumLen_get m k hkm
      have hss := sumLen_succ m k hkm
      have hst := sumLen_take m k
      have C1 := markIntS_any B (rs[k]'hkr).1 (rs[k]'hkr).2 (vs[k]'hkv).2 (m[k]'hkm).length (m[k]'hkm) (k0 + sumLen (m.take k)) wr hrow (by omega) (by omega) (by omega)
      have hkind := own_kinds hrow ho (by decide)
      have HH := Lib.hid (show ∀ w2, w2.ownsRow B 3 1 (.slice (rs[k]'hkr).1 (m[k]'hkm).length (rs[k]'hkr).2) (m[k]'hkm).length (ints (marks (k0 + sumLen (m.take k)) (m[k]'hkm).length)) → wr.grownBy w2 (Value.slice (rs[k]'hkr).1 (m[k]'hkm).length (rs[k]'hkr).2).ownBlock →
          w2.ownsRow B 25 1 (.slice (some ⟨g, 0, none⟩) n c) n (rowVs vs m) ∧
          (∀ r (h : r < rs.length) (h' : r < m.length), w2.ownsRow B 3 1 (.slice (rs[r]'h).1 (m[r]'(h')).length (rs[r]'h).2) (m[r]'(h')).length (ints (if r < k + 1 then markR k0 m r else m[r]'(h')))) ∧ Below B w w2 ∧ (∀ i, i < w.heap.size → OutOf rs i → w2.heap[i]? = w.heap[i]?) by
        intro w2 hmk hg
        refine ⟨ho.kept hg (.inr hkind), ?_, below_row hb hBw hrow hg, ?_⟩
        · intro r h h'
          by_cases e : r = k
          · subst e
            rw [if_pos (by omega)]
            have : markR k0 m r = marks (k0 + sumLen (m.take r)) (m[r]'(h')).length := by rw [markR, List.getD, List.getElem?_eq_getElem h']; rfl
            rw [this]
            exact hmk
          · have hk' : (if r < k + 1 then markR k0 m r else m[r]'(h')) = (if r < k then markR k0 m r else m[r]'(h')) := by
              by_cases h5 : r < k
              · rw [if_pos h5, if_pos (by omega)]
              · rw [if_neg h5, if_neg (by omega)]
            rw [hk']
            refine own_kept (hin r h h') hg ?_
            rcases Nat.lt_or_gt_of_ne e with h6 | h6
            · exact hap r k h6 hkr
            · exact (hap k r h6 h).symm
        · intro i hi ho
          rw [hg.block i (Nat.lt_of_lt_of_le hi hb.size) ?_, hfr i hi ho]
          intro e
          cases hr : (rs[k]'hkr).1 with
          | none => rw [hr] at e; simp [Value.ownBlock] at e
          | some x =>
            rw [hr] at e
            simp only [Value.ownBlock, Option.some.injEq] at e
            exact ho k hkr x hr e.symm)
      have HSS := Lib.hid hss
      obtain ⟨ak, hak⟩ : ∃ z, z = (rs[k]'hkr).1 := ⟨_, rfl⟩
      obtain ⟨ck, hck⟩ : ∃ z, z = (rs[k]'hkr).2 := ⟨_, rfl⟩
      obtain ⟨kv, hkv2⟩ : ∃ z, z = (vs[k]'hkv).2 := ⟨_, rfl⟩
      obtain ⟨len, hlen⟩ : ∃ z, z = (m[k]'hkm).length := ⟨_, rfl⟩
      rw [← hak, ← hck, ← hlen] at HH
      rw [← hak, ← hkv2, ← hlen] at hc
      rw [← hak, ← hck, ← hkv2, ← hlen] at C1
      rw [← hlen] at HSS hsl
      simp only [Nat.zero_add] at hc
      obtain ⟨S, hS⟩ : ∃ z, z = sumLen (m.take k) := ⟨_, rfl⟩
      rw [← hS] at C1 HH hst HSS ⊢
      clear hak hck hkv2 hlen hS hss hrow ho hin hap hkind hb hfr
      go_wp2_with fail
      refine C1.mono ?_
      rintro e w2 ⟨rfl, hmk, hg⟩
      have HR := Lib.hid (HH.out w2 hmk hg)
      clear C1 HH hmk hg hc
      go_wp2
      go_roundw
      case rel => exact ⟨k + 1, by omega, by go_num, by rw [HSS.out]; simp; omega, HR.out.1, HR.out.2.1, HR.out.2.2.1, HR.out.2.2.2⟩
      case measure => simp [intOf]; omega
    · obtain rfl : k = n := by omega
      have hs : sumLen (m.take k) = sumLen m := by rw [← hm, List.take_length]
      have HS := Lib.hid hs
      have hfin : OwnC wr B a k c rs vs (marksM k0 m) := by
        refine ⟨hrs, by rw [marksM_length]; exact hm, HFST.out, ?_, by rw [rowVs_marks vs k0 m (by omega)]; exact ho, ?_, hap⟩
        · intro r h h'
          have h7 : r < m.length := by omega
          rw [marksM_get, markR_length k0 m r h7]
          exact HCAP.out r h h7
        · intro r h h'
          have h7 : r < m.length := by omega
          have h8 := hin r h h7
          rw [if_pos (by omega)] at h8
          rw [marksM_get, markR_length k0 m r h7]
          exact h8
      have HF := Lib.hid hfin
      clear hs hfin ho hin hap
      go_wp2
      go_ret
      exact ⟨ret_int (by rw [HS.out]), HF.out, hb, hfr⟩

/-- The blocks from lo to hi stay as they are. -/
def Stays (lo hi : Nat) (w w' : World) : Prop := ∀ i, lo ≤ i → i < hi → w'.heap[i]? = w.heap[i]?
/-- What marking a datum in the blocks from lo to hi leaves of the rest. -/
def MarkFr (lo hi : Nat) (w w' : World) : Prop := Below lo w w' ∧ ∀ i, i < w.heap.size → i < lo ∨ hi ≤ i → w'.heap[i]? = w.heap[i]?
theorem MarkFr.stays {lo hi l h : Nat} {w w' : World} (hf : MarkFr lo hi w w') (hd : h ≤ lo ∨ hi ≤ l) (hw : h ≤ w.heap.size) : Stays l h w w' :=
  fun i h1 h2 => hf.2 i (by omega) (by omega)
theorem MarkFr.row {w w' : World} {lo hi n c : Nat} {a : Option Addr} (hr : RIn lo hi a) (hB : Below lo w w') (hg : w.grownBy w' (Value.slice a n c).ownBlock) : MarkFr lo hi w w' := by
  refine ⟨hB, fun i hi1 hi2 => hg.block i hi1 ?_⟩
  intro e
  cases ha : a with
  | none => rw [ha] at e; simp [Value.ownBlock] at e
  | some x =>
    rw [ha] at e
    simp only [Value.ownBlock, Option.some.injEq] at e
    have := hr x ha
    omega
theorem own_stays {w w' : World} {B T s n c m lo hi : Nat} {a : Option Addr} {cs : List Value} (h : w.ownsRow B T s (.slice a m c) n cs) (hr : RIn lo hi a) (hs : Stays lo hi w w') : w'.ownsRow B T s (.slice a m c) n cs :=
  own_same h fun x hx => hs _ (hr x hx).1 (hr x hx).2
theorem blk_stays {w w' : World} {b lo hi : Nat} {o : Obj} (h : w.heap[b]? = some o) (hf : MarkFr lo hi w w') (hb : b < lo ∨ hi ≤ b) : w'.heap[b]? = some o := by rw [hf.2 b (blk_lt h) hb]; exact h

/-- A matrix whose blocks lie from lo to hi. -/
def HoldsM (lo hi : Nat) (a : Option Addr) (n : Nat) (m : List (List Int)) (w : World) : Prop := ∃ B co rs vs, lo ≤ B ∧ OwnC w B a n co rs vs m ∧ MIn lo hi a rs
theorem HoldsM.of {w : World} {B lo n co : Nat} {a : Option Addr} {rs vs : List At} {m : List (List Int)} (h : OwnC w B a n co rs vs m) (hB : lo ≤ B) : HoldsM lo w.heap.size a n m w := by
  have hm := h.min
  exact ⟨B, co, rs, vs, hB, h, fun x hx => by have := hm.1 x hx; omega, fun r hr x hx => by have := hm.2 r hr x hx; omega⟩
theorem HoldsM.below {w w' : World} {lo hi n : Nat} {a : Option Addr} {m : List (List Int)} (h : HoldsM lo hi a n m w) (hb : Below w.heap.size w w') : HoldsM lo hi a n m w' := by
  obtain ⟨B, co, rs, vs, h1, h2, h3⟩ := h
  exact ⟨B, co, rs, vs, h1, h2.below hb, h3⟩
theorem HoldsM.stays {w w' : World} {lo hi n : Nat} {a : Option Addr} {m : List (List Int)} (h : HoldsM lo hi a n m w) (hs : Stays lo hi w w') : HoldsM lo hi a n m w' := by
  obtain ⟨B, co, rs, vs, h1, ⟨g1, g2, g3, g4, g5, g6, g7⟩, h3⟩ := h
  refine ⟨B, co, rs, vs, h1, ⟨g1, g2, g3, g4, own_same g5 fun x hx => hs _ (h3.1 x hx).1 (h3.1 x hx).2, fun r hr hr' => own_same (g6 r hr hr') fun x hx => hs _ (h3.2 r hr x hx).1 (h3.2 r hr x hx).2, g7⟩, h3⟩
theorem HoldsM.rdM {w : World} {lo hi n : Nat} {a : Option Addr} {m : List (List Int)} (h : HoldsM lo hi a n m w) : RdM w a m := by
  obtain ⟨B, co, rs, vs, h1, h2, h3⟩ := h
  exact h2.rdM
theorem HoldsM.len {w : World} {lo hi n : Nat} {a : Option Addr} {m : List (List Int)} (h : HoldsM lo hi a n m w) : m.length = n := by
  obtain ⟨B, co, rs, vs, h1, h2, h3⟩ := h
  exact h2.2.1
theorem eqHM_any {w : World} {lo hi lo' hi' n : Nat} {a b : Option Addr} {m : List (List Int)} (ca cb : Nat) (h : HoldsM lo hi a n m w) (h' : HoldsM lo' hi' b n m w) (hl : n + sumLen m ≤ 1048576) :
    Calls Try.prog 31 #[.slice a n ca, .slice b n cb] w fun e w' => e = .returned (.bool true) ∧ Below w.heap.size w w' :=
  eqIntSS_any a b ca cb n m w h.len h.rdM h'.rdM hl
theorem heldHM_any {w : World} {lo hi n : Nat} {a : Option Addr} {m : List (List Int)} (k0 : Int) (ca : Nat) (h : HoldsM lo hi a n (marksM k0 m) w) (hl : n + sumLen m ≤ 1048576) (hk0 : 0 ≤ k0) (hk1 : k0 ≤ 1099510579200) :
    Calls Try.prog 33 #[.slice a n ca, .int .i64 k0] w fun e w' => e = .returned (.int .i64 (k0 + sumLen m)) ∧ Below w.heap.size w w' :=
  heldIntSS_any a ca n m k0 w (by have := h.len; rw [marksM_length] at this; exact this) h.rdM hl hk0 hk1
theorem markHM_any {w : World} {lo hi n : Nat} {a : Option Addr} {m : List (List Int)} (k0 : Int) (ca : Nat) (h : HoldsM lo hi a n m w) (hl : n + sumLen m ≤ 1048576) (hk0 : 0 ≤ k0) (hk1 : k0 ≤ 1099510579200) (hlo : lo ≤ w.heap.size) :
    Calls Try.prog 32 #[.slice a n ca, .int .i64 k0] w fun e w' => e = .returned (.int .i64 (k0 + sumLen m)) ∧ HoldsM lo hi a n (marksM k0 m) w' ∧ MarkFr lo hi w w' := by
  obtain ⟨B, co, rs, vs, h1, h2, h3⟩ := h
  have h4 : OwnC w lo a n co rs vs m := h2.mono h1
  refine (markC_any lo a co ca n rs vs m k0 w h4 hl hk0 hk1 hlo).mono ?_
  rintro e w' ⟨rfl, g1, g2, g3⟩
  refine ⟨rfl, ⟨lo, co, rs, vs, Nat.le_refl _, g1, h3⟩, g2, fun i hi1 hi2 => g3 i hi1 ?_⟩
  intro r hr x hx
  have := h3.2 r hr x hx
  omega

end Go.Proofs.Ytjmiafkkbganlaa
