
/- The laws' marks on rows of graphs. -/
import Derived.Test.YtjghcegacgpehaaGraphL
import Derived.Test.YtjghcegacgpehaaMatC
import Derived.Test.YtjghcegacgpehaaAllS
namespace Go.Proofs.Ytjghcegacgpehaa
open Go.RowKit

/-- A row of graphs while it is marked: the first r ones are. -/
def MidG (w : World) (B : Nat) (a : Option Addr) (c N : Nat) (k0 : Int) (vs : List AtG) (gs : List (List N2)) (r : Nat) : Prop :=
  (∃ L, w.ownsRow B 25 2 (.slice a gs.length c) gs.length L ∧ ∀ j (h1 : j < vs.length) (h2 : j < gs.length), L[j * 2]? = some (.int .i64 (if j < r then kOf k0 gs j else (N : Int))) ∧ L[j * 2 + 1]? = some (.slice (vs[j]'h1).1 (gs[j]'h2).length (vs[j]'h1).2)) ∧
  ∀ j (h1 : j < vs.length) (h2 : j < gs.length), ∃ d, w.ownsRow B 48 2 (.slice (vs[j]'h1).1 (gs[j]'h2).length d) (gs[j]'h2).length (edges (if j < r then marksE (kOf k0 gs j + 1) (gs[j]'h2).length else en2 (gs[j]'h2)))
theorem OwnG.mid {w : World} {B c N : Nat} {a : Option Addr} {vs : List AtG} {gs : List (List N2)} (k0 : Int) (h : OwnG w B a c N vs gs) : MidG w B a c N k0 vs gs 0 :=
  ⟨⟨_, h.2.1, fun j h1 h2 => by simpa using graphsV_get N vs gs j h1 h2⟩, fun j h1 h2 => by
    obtain ⟨_, _, _, d, ho⟩ := h.2.2.1 j h1 h2
    exact ⟨d, by simpa using ho⟩⟩
theorem apartG_get {vs : List AtG} (h : ApartG vs) {i j : Nat} (h1 : i < vs.length) (h2 : j < vs.length) (hn : i ≠ j) : ∀ b, b ∈ blks (vs[i]'h1).1 → b ∉ blks (vs[j]'h2).1 := by
  intro b hb hb2
  have hp := List.pairwise_iff_getElem.1 h
  rcases Nat.lt_or_gt_of_ne hn with h3 | h3
  · exact hp i j h1 h2 h3 b hb hb2
  · exact hp j i h2 h1 h3 b hb2 hb
theorem mid_step {w0 w : World} {B g c N r d : Nat} {k0 : Int} {vs : List AtG} {gs : List (List N2)} (hap : ApartG vs) (h : MidG w B (some ⟨g, 0, none⟩) c N k0 vs gs r) (hF : FrL (blks (some ⟨g, 0, none⟩) ++ innB vs) w0 w) (hr : r < gs.length) (hrv : r < vs.length)
    (hd : w.ownsRow B 48 2 (.slice (vs[r]'hrv).1 (gs[r]'hr).length d) (gs[r]'hr).length (edges (en2 (gs[r]'hr)))) :
    (w.setCell ⟨g, r * 2, none⟩ (.int .i64 (kOf k0 gs r))).ownsRow B 48 2 (.slice (vs[r]'hrv).1 (gs[r]'hr).length d) (gs[r]'hr).length (edges (en2 (gs[r]'hr))) ∧
    ∀ w2, w2.ownsRow B 48 2 (.slice (vs[r]'hrv).1 (gs[r]'hr).length d) (gs[r]'hr).length (edges (marksE (kOf k0 gs r + 1) (gs[r]'hr).length)) → (w.setCell ⟨g, r * 2, none⟩ (.int .i64 (kOf k0 gs r))).grownBy w2 (Value.slice (vs[r]'hrv).1 (gs[r]'hr).length d).ownBlock →
      MidG w2 B (some ⟨g, 0, none⟩) c N k0 vs gs (r + 1) ∧ FrL (blks (some ⟨g, 0, none⟩) ++ innB vs) w0 w2 := by
  obtain ⟨⟨L, ho, hL⟩, hin⟩ := h
  have hs1 := ho.stored (r * 2) (.int .i64 (kOf k0 gs r))
  have hd1 := own_kept_kind2 hd ho (by decide) hs1.2
  refine ⟨hd1, ?_⟩
  intro w2 hm hg
  have hlen : L.length = gs.length * 2 := ho.1
  refine ⟨⟨⟨_, own_kept_kind2 hs1.1 hd1 (by decide) hg, ?_⟩, ?_⟩, ?_⟩
  · intro j h1 h2
    obtain ⟨e1, e2⟩ := hL j h1 h2
    refine ⟨?_, ?_⟩
    · by_cases e : j = r
      · subst e
        rw [List.getElem?_set_self (by omega), if_pos (by omega)]
      · rw [List.getElem?_set_ne (by omega), e1]
        by_cases h5 : j < r
        · rw [if_pos h5, if_pos (by omega)]
        · rw [if_neg h5, if_neg (by omega)]
    · rw [List.getElem?_set_ne (by omega), e2]
  · intro j h1 h2
    by_cases e : j = r
    · subst e
      exact ⟨d, by rw [if_pos (by omega)]; exact hm⟩
    · obtain ⟨dj, hj⟩ := hin j h1 h2
      have hj1 := own_kept_kind2 hj ho (by decide) hs1.2
      have hF2 := FrL.of_grown hg (blks (vs[r]'hrv).1) fun b e => blks_own e
      have hj2 := hF2.own hj1 fun x hx => apartG_get hap h1 hrv e x.block (blks_mem.2 ⟨x, hx, rfl⟩)
      refine ⟨dj, ?_⟩
      have hk' : (if j < r + 1 then marksE (kOf k0 gs j + 1) (gs[j]'h2).length else en2 (gs[j]'h2)) = (if j < r then marksE (kOf k0 gs j + 1) (gs[j]'h2).length else en2 (gs[j]'h2)) := by
        by_cases h5 : j < r
        · rw [if_pos h5, if_pos (by omega)]
        · rw [if_neg h5, if_neg (by omega)]
      rw [hk']
      exact hj2
  · refine hF.trans ((FrL.set w g _ _ _ (List.mem_append_left _ (by simp [blks]))).trans (FrL.of_grown hg _ fun b e => List.mem_append_right _ (innB_mem hrv b (blks_own e))))

set_option maxHeartbeats 1000000 in
theorem markGraphS_any (B : Nat) (a : Option Addr) (c cv n N : Nat) (vs : List AtG) (gs : List (List N2)) (k0 : Int) (w : World) (hn : gs.length = n) (hO : OwnG w B a c N vs gs) (hl : n ≤ 2097152) (hl2 : ∀ g ∈ gs, g.length ≤ 1000) (hk0 : 0 ≤ k0) (hk1 : k0 ≤ 1048576) :
    Calls Try.prog 67 #[.slice a n cv, .int .i64 k0] w fun e w' => e = .returned (.int .i64 (kOf k0 gs n)) ∧ MidG w' B a c N k0 vs gs n ∧ FrL (blks a ++ innB vs) w w' := by
  subst hn
  have hvl := hO.1
  have hap := hO.2.2.2
  have hmid := hO.mid k0
  have hcp := fun (k : Nat) (h1 : k < vs.length) (h2 : k < gs.length) => (hO.2.2.1 k h1 h2).1
  clear hO
  have hcap := Lib.hid hcp
  clear hcp
  go_enter Try.func67, Try.ntmps67
  go_wp2
  go_loopw [1, 5] (fun t i wr => ∃ r : Nat, r ≤ gs.length ∧ i = .int .i64 r ∧ t = .int .i64 (kOf k0 gs r) ∧ MidG wr B a c N k0 vs gs r ∧ FrL (blks a ++ innB vs) w wr) (fun _ i _ => gs.length - (intOf i).toNat)
  case atStart => exact ⟨0, by omega, rfl, by rw [kOf_zero], hmid, FrL.refl _ _⟩
  case round =>
    clear hmid
    obtain ⟨r, hr, rfl, rfl, hm, hF⟩ := hrel
    by_cases hlt : r < gs.length
    · have hrv : r < vs.length := by omega
      obtain ⟨⟨L, ho, hL⟩, hin⟩ := hm
      obtain ⟨g, ha, hgB, hgs⟩ := own_head ho (by omega)
      subst ha
      obtain ⟨d, hd⟩ := hin r hrv hlt
      rw [if_neg (Nat.lt_irrefl r)] at hd
      obtain ⟨m1, m2⟩ := mid_step hap ⟨⟨L, ho, hL⟩, hin⟩ hF hlt hrv hd
      obtain ⟨e1, e2⟩ := hL r hrv hlt
      rw [if_neg (Nat.lt_irrefl r)] at e1
      obtain ⟨b1, o1, q1, c1⟩ := own_rd ho _ _ e1
      cases q1
      have f1 := ho.frozenAt (r * 2)
      have hs1 := ho.stored (r * 2) (.int .i64 (kOf k0 gs r))
      have e3 : (L.set (r * 2) (.int .i64 (kOf k0 gs r)))[r * 2 + 1]? = some (.slice (vs[r]'hrv).1 (gs[r]'hlt).length (vs[r]'hrv).2) := by rw [List.getElem?_set_ne (by omega)]; exact e2
      obtain ⟨b2, o2, q2, c2⟩ := own_rd hs1.1 _ _ e3
      cases q2
      have hgl := hl2 _ (List.getElem_mem hlt)
      have hb := kOf_le (k0 := k0) hl2 r (by omega)
      have HS := Lib.hid (kOf_succ (k0 := k0) hlt)
      obtain ⟨K, hK⟩ : ∃ K, K = kOf k0 gs r := ⟨_, rfl⟩
      rw [← hK] at hb HS m1 m2 c2 ⊢
      have C1 := markEdgeS_any B (vs[r]'hrv).1 d (vs[r]'hrv).2 (gs[r]'hlt).length (en2 (gs[r]'hlt)) (K + 1) _ m1 (by omega) (by omega) (by omega)
      have HM := Lib.hid m2
      obtain ⟨ak, hak⟩ : ∃ z, z = (vs[r]'hrv).1 := ⟨_, rfl⟩
      obtain ⟨kv, hkv⟩ : ∃ z, z = (vs[r]'hrv).2 := ⟨_, rfl⟩
      obtain ⟨len, hlen⟩ : ∃ z, z = (gs[r]'hlt).length := ⟨_, rfl⟩
      rw [← hak, ← hkv, ← hlen] at c2 C1
      rw [← hak, ← hlen] at HM
      rw [← hlen] at HS hgl
      simp only [Nat.zero_add] at c1 c2
      clear hak hkv hlen hK m1 m2 hs1 ho hL hin hF e1 e2 e3 hd
      go_wp2_with fail
      refine C1.mono ?_
      rintro e w2 ⟨rfl, hmk, hg⟩
      have HR := Lib.hid (HM.out w2 hmk hg)
      clear C1 HM hmk hg c1 c2 f1
      go_wp2
      go_roundw
      case rel => exact ⟨r + 1, by omega, by go_num, by rw [HS.out], HR.out.1, HR.out.2⟩
      case measure => simp [intOf]; omega
    · obtain rfl : r = gs.length := by omega
      have HM := Lib.hid hm
      have HF := Lib.hid hF
      clear hm hF
      go_wp2
      go_ret
      exact ⟨rfl, HM.out, HF.out⟩

theorem MidG.held {w : World} {B c N : Nat} {a : Option Addr} {k0 : Int} {vs : List AtG} {gs : List (List N2)} (hv : vs.length = gs.length) (h : MidG w B a c N k0 vs gs gs.length) : HeldG w a k0 gs := by
  obtain ⟨⟨L, ho, hL⟩, hin⟩ := h
  intro r hr
  have hrv : r < vs.length := by omega
  obtain ⟨e1, e2⟩ := hL r hrv hr
  rw [if_pos hr] at e1
  obtain ⟨d, hd⟩ := hin r hrv hr
  rw [if_pos hr] at hd
  obtain ⟨b1, o1, rfl, c1⟩ := own_rd ho _ _ e1
  obtain ⟨b2, o2, q2, c2⟩ := own_rd ho _ _ e2
  cases q2
  exact ⟨b1, o1, _, _, rfl, c1, c2, own_rd hd⟩
theorem MidG.below {w w' : World} {B c N r : Nat} {a : Option Addr} {k0 : Int} {vs : List AtG} {gs : List (List N2)} (h : MidG w B a c N k0 vs gs r) (hb : Below w.heap.size w w') : MidG w' B a c N k0 vs gs r := by
  obtain ⟨⟨L, ho, hL⟩, hin⟩ := h
  exact ⟨⟨L, own_below ho hb, hL⟩, fun j h1 h2 => by obtain ⟨d, hd⟩ := hin j h1 h2; exact ⟨d, own_below hd hb⟩⟩

/-- The same cells in a world where some blocks are as they were. -/
theorem Rd.stays {w w' : World} {a : Option Addr} {cs : List Value} {lo hi : Nat} (h : Rd w a cs) (hs : Stays lo hi w w') (hi' : ∀ x, a = some x → cs ≠ [] → lo ≤ x.block ∧ x.block < hi) : Rd w' a cs := by
  intro j u hu
  obtain ⟨b, off, rfl, hc⟩ := h j u hu
  have hb := hi' _ rfl (by rintro rfl; simp at hu)
  exact ⟨b, off, rfl, (World.cell?_of_block (w := w) (a := ⟨b, off + j, none⟩) (hs b hb.1 hb.2)).trans hc⟩
theorem RdG.stays {w w' : World} {a : Option Addr} {N : Nat} {gs : List (List N2)} (h : RdG w a N gs) (hs : Stays 0 w.heap.size w w') : RdG w' a N gs := by
  intro r hr
  obtain ⟨b, off, a', c', rfl, h1, h2, h3, h4, h5, h6, h7, h8⟩ := h r hr
  refine ⟨b, off, a', c', rfl, (World.cell?_of_block (w := w) (a := ⟨b, off + r * 2, none⟩) (hs b (Nat.zero_le _) (Rd.lt h1))).trans h1, (World.cell?_of_block (w := w) (a := ⟨b, off + r * 2 + 1, none⟩) (hs b (Nat.zero_le _) (Rd.lt h2))).trans h2, ?_, h4, h5, h6, h7, ?_⟩
  · refine h3.stays hs fun x hx hne => ⟨Nat.zero_le _, ?_⟩
    obtain ⟨ds, f, hq⟩ := h8 x hx
    exact blk_lt hq
  · intro x hx
    obtain ⟨ds, f, hq⟩ := h8 x hx
    exact ⟨ds, f, (hs x.block (Nat.zero_le _) (blk_lt hq)).trans hq⟩
theorem heldG_stays {w w' : World} {a : Option Addr} {k0 : Int} {gs : List (List N2)} {lo hi : Nat} {B c N : Nat} {vs : List AtG} (h : MidG w B a c N k0 vs gs gs.length) (hr : ∀ i ∈ blks a ++ innB vs, lo ≤ i ∧ i < hi) (hs : Stays lo hi w w') : MidG w' B a c N k0 vs gs gs.length := by
  obtain ⟨⟨L, ho, hL⟩, hin⟩ := h
  refine ⟨⟨L, own_same2 ho fun x hx => ?_, hL⟩, fun j h1 h2 => ?_⟩
  · have := hr x.block (List.mem_append_left _ (blks_mem.2 ⟨x, hx, rfl⟩))
    exact hs _ this.1 this.2
  · obtain ⟨d, hd⟩ := hin j h1 h2
    refine ⟨d, own_same2 hd fun x hx => ?_⟩
    have := hr x.block (List.mem_append_right _ (innB_mem h1 _ (blks_mem.2 ⟨x, hx, rfl⟩)))
    exact hs _ this.1 this.2

/-- A row of graphs for reading, in the blocks below hi. -/
def HoldsR (hi : Nat) (a : Option Addr) (N : Nat) (gs : List (List N2)) (w : World) : Prop := hi ≤ w.heap.size ∧ ∃ W, W.heap.size ≤ hi ∧ RdG W a N gs ∧ Stays 0 W.heap.size W w
theorem HoldsR.of {w : World} {a : Option Addr} {N : Nat} {gs : List (List N2)} (h : RdG w a N gs) : HoldsR w.heap.size a N gs w := ⟨Nat.le_refl _, w, Nat.le_refl _, h, fun _ _ _ => rfl⟩
theorem HoldsR.below {w w' : World} {hi : Nat} {a : Option Addr} {N : Nat} {gs : List (List N2)} (h : HoldsR hi a N gs w) (hb : Below w.heap.size w w') : HoldsR hi a N gs w' := by
  obtain ⟨h1, W, h2, h3, h4⟩ := h
  exact ⟨Nat.le_trans h1 hb.size, W, h2, h3, fun i hi1 hi2 => (hb.block i (by omega)).trans (h4 i hi1 hi2)⟩
theorem HoldsR.fr {w w' : World} {hi lo2 hi2 : Nat} {a : Option Addr} {N : Nat} {gs : List (List N2)} (h : HoldsR hi a N gs w) (hf : MarkFr lo2 hi2 w w') (hd : hi ≤ lo2) : HoldsR hi a N gs w' := by
  obtain ⟨h1, W, h2, h3, h4⟩ := h
  exact ⟨Nat.le_trans h1 hf.1.size, W, h2, h3, fun i hi1 hi2 => (hf.2 i (by omega) (.inl (by omega))).trans (h4 i hi1 hi2)⟩
theorem HoldsR.rdG {w : World} {hi : Nat} {a : Option Addr} {N : Nat} {gs : List (List N2)} (h : HoldsR hi a N gs w) : RdG w a N gs := by
  obtain ⟨h1, W, h2, h3, h4⟩ := h
  exact h3.stays h4
/-- A row of graphs whose blocks lie from lo to hi. -/
def HoldsG (lo hi : Nat) (a : Option Addr) (N : Nat) (gs : List (List N2)) (w : World) : Prop := ∃ co vs, OwnG w lo a co N vs gs ∧ ∀ i ∈ blks a ++ innB vs, lo ≤ i ∧ i < hi
theorem HoldsG.of {w : World} {lo co N : Nat} {a : Option Addr} {vs : List AtG} {gs : List (List N2)} (h : OwnG w lo a co N vs gs) : HoldsG lo w.heap.size a N gs w := ⟨co, vs, h, h.lt⟩
theorem HoldsG.below {w w' : World} {lo hi N : Nat} {a : Option Addr} {gs : List (List N2)} (h : HoldsG lo hi a N gs w) (hb : Below w.heap.size w w') : HoldsG lo hi a N gs w' := by
  obtain ⟨co, vs, h1, h2⟩ := h
  exact ⟨co, vs, h1.below hb, h2⟩
theorem HoldsG.fr {w w' : World} {lo hi lo2 hi2 N : Nat} {a : Option Addr} {gs : List (List N2)} (h : HoldsG lo hi a N gs w) (hf : MarkFr lo2 hi2 w w') (hd : hi ≤ lo2 ∨ hi2 ≤ lo) : HoldsG lo hi a N gs w' := by
  obtain ⟨co, vs, h1, h2⟩ := h
  exact ⟨co, vs, h1.same fun i hi => by have := h2 i hi; have := (h1.lt i hi).2; exact hf.2 i this (by omega), h2⟩
theorem HoldsG.rdG {w : World} {lo hi N : Nat} {a : Option Addr} {gs : List (List N2)} (h : HoldsG lo hi a N gs w) : RdG w a N gs := by
  obtain ⟨co, vs, h1, h2⟩ := h
  exact h1.listG.rdG
/-- A marked row of graphs whose blocks lie from lo to hi. -/
def HoldsK (lo hi : Nat) (a : Option Addr) (k0 : Int) (gs : List (List N2)) (w : World) : Prop := ∃ B c N vs, vs.length = gs.length ∧ MidG w B a c N k0 vs gs gs.length ∧ ∀ i ∈ blks a ++ innB vs, lo ≤ i ∧ i < hi
theorem HoldsK.below {w w' : World} {lo hi : Nat} {a : Option Addr} {k0 : Int} {gs : List (List N2)} (h : HoldsK lo hi a k0 gs w) (hb : Below w.heap.size w w') : HoldsK lo hi a k0 gs w' := by
  obtain ⟨B, c, N, vs, h1, h2, h3⟩ := h
  exact ⟨B, c, N, vs, h1, h2.below hb, h3⟩
theorem HoldsK.held {w : World} {lo hi : Nat} {a : Option Addr} {k0 : Int} {gs : List (List N2)} (h : HoldsK lo hi a k0 gs w) : HeldG w a k0 gs := by
  obtain ⟨B, c, N, vs, h1, h2, h3⟩ := h
  exact h2.held h1
theorem markHG_any {w : World} {lo hi N n : Nat} {a : Option Addr} {gs : List (List N2)} (k0 : Int) (ca : Nat) (h : HoldsG lo hi a N gs w) (hn : gs.length = n) (hl : n ≤ 2097152) (hl2 : ∀ g ∈ gs, g.length ≤ 1000) (hk0 : 0 ≤ k0) (hk1 : k0 ≤ 1048576) (hlo : lo ≤ w.heap.size) :
    Calls Try.prog 67 #[.slice a n ca, .int .i64 k0] w fun e w' => e = .returned (.int .i64 (kOf k0 gs n)) ∧ HoldsK lo hi a k0 gs w' ∧ MarkFr lo hi w w' := by
  obtain ⟨co, vs, h1, h2⟩ := h
  refine (markGraphS_any lo a co ca n N vs gs k0 w hn h1 hl hl2 hk0 hk1).mono ?_
  rintro e w' ⟨rfl, g1, g2⟩
  subst hn
  refine ⟨rfl, ⟨lo, co, N, vs, h1.1, g1, h2⟩, g2.below hlo fun i hi => (h2 i hi).1, fun i hi1 hi2 => g2.block i hi1 fun hm => by have := h2 i hm; omega⟩
theorem implAllX_any (a : Option Addr) (c n : Nat) (xs : List Int) (w : World) (hn : xs.length = n) (hx : Rd w a (ints xs)) (hl : n ≤ 1048576) (hnil : a = none → n = 0 ∧ c = 0) :
    Calls Try.prog 65 #[.slice a n c] w fun e w' => ∃ a', e = .returned (.slice a' (allV xs).length (allV xs).length) ∧ HoldsG w.heap.size w'.heap.size a' n (allV xs) w' ∧ Below w.heap.size w w' := by
  refine (implAllReals_any a c n xs w hn hx (by omega) hnil).mono ?_
  rintro e w' ⟨a', d, vs, rfl, hO, hb⟩
  exact ⟨a', rfl, HoldsG.of hO, hb⟩
theorem specAllX_any (a : Option Addr) (c n : Nat) (xs : List Int) (w : World) (hn : xs.length = n) (hx : Rd w a (ints xs)) (hl : n ≤ 1048576) (hnil : a = none → n = 0 ∧ c = 0) :
    Calls Try.prog 64 #[.slice a n c] w fun e w' => ∃ a' d, e = .returned (.slice a' (allV xs).length d) ∧ HoldsR w'.heap.size a' n (allV xs) w' ∧ Below w.heap.size w w' := by
  refine (specAllReals_any a c n xs w hn hx hl hnil).mono ?_
  rintro e w' ⟨a', d, rfl, hO, hb⟩
  exact ⟨a', d, rfl, HoldsR.of hO, hb⟩
theorem solsIn2 : ∀ {t : List N2} {L : List Nat} {es x : List N2}, x ∈ solsN t L es → (∀ e ∈ x, e ∈ es ∨ e ∈ t) ∧ x.length ≤ es.length + t.length := by
  intro t
  induction t with
  | nil =>
    intro L es x h
    rw [solsN] at h
    split at h
    · rw [List.mem_singleton.1 h]
      exact ⟨fun e he => .inl he, by omega⟩
    · simp at h
  | cons f t ih =>
    intro L es x h
    rw [solsN] at h
    rw [List.length_cons]
    rcases List.mem_append.1 h with h1 | h1
    · split at h1
      · obtain ⟨g1, g2⟩ := ih h1
        refine ⟨fun e he => ?_, by rw [List.length_append] at g2; simp at g2; omega⟩
        rcases g1 e he with g3 | g3
        · rcases List.mem_append.1 g3 with g4 | g4
          · exact .inl g4
          · rw [List.mem_singleton.1 g4]; exact .inr (List.mem_cons_self ..)
        · exact .inr (List.mem_cons_of_mem _ g3)
      · simp at h1
    · obtain ⟨g1, g2⟩ := ih h1
      exact ⟨fun e he => (g1 e he).imp id (List.mem_cons_of_mem _), by omega⟩
theorem reals_in2 {xs : List Int} (h : xs.length ≤ 7) : ∀ x ∈ realsN xs, (∀ e ∈ x, e.1 < e.2) ∧ x.length ≤ 1000 := by
  intro x hx
  obtain ⟨g1, g2⟩ := solsIn2 hx
  obtain ⟨_, _, _, p4, p5⟩ := pairsN_facts xs.length (by omega)
  refine ⟨fun e he => ?_, by simp at g2; omega⟩
  rcases g1 e he with h1 | h1
  · simp at h1
  · exact (p4 e h1).2.2
theorem allV_len (xs : List Int) : (allV xs).length ≤ 2097152 ∧ ∀ g ∈ allV xs, g.length ≤ 1000 := by
  by_cases h : validD xs = true ∧ xs.length ≤ 5
  · rw [allV, if_pos h]
    exact ⟨reals_len (by omega), fun g hg => (reals_in2 (by omega) g hg).2⟩
  · rw [allV, if_neg h]
    exact ⟨by simp, by simp⟩

end Go.Proofs.Ytjghcegacgpehaa
