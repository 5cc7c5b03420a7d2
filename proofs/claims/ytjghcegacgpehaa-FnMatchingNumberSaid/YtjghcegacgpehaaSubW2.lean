
/- The program's subgraphs: the walk itself. -/
import Derived.Test.YtjghcegacgpehaaSubW
namespace Go.Proofs.Ytjghcegacgpehaa
open Go.RowKit

theorem enters_walk : Enters Try.prog 186 := enters Try.func186 (by kernel_rfl) rfl
theorem allR_zero (L : List Nat) : allR (intsN L) 0 0 = zeroN L := by
  unfold intsN allR zeroN
  rw [List.all_map]
  congr 1
  funext x
  cases x with
  | zero => rfl
  | succ n => simp [inR]
theorem own_nilc2 {w : World} {B T s n c : Nat} {a : Option Addr} {cs : List Value} (h : w.ownsRow B T s (.slice a n c) n cs) : a = none → n = 0 ∧ c = 0 := by
  rintro rfl
  rcases own_cases h with ⟨_, h2, h3⟩ | ⟨g, h2, _⟩
  · exact ⟨h2, h3⟩
  · cases h2
theorem foldGo_size {σ : Type} {go : σ → List N2 → σ × Bool} {sz : σ → Nat} (hgo : ∀ s x, sz (go s x).1 ≤ sz s + 1) (s : σ) (l : List (List N2)) : sz (foldGo go s l).1 ≤ sz s + l.length := by
  induction l generalizing s with
  | nil => simp [foldGo]
  | cons x r ih =>
    unfold foldGo
    have h1 := hgo s x
    split
    · have := ih (go s x).1
      rw [List.length_cons]; omega
    · rw [List.length_cons]
      show sz (go s x).1 ≤ _
      omega
theorem walkN_size {σ : Type} {go : σ → List N2 → σ × Bool} {sz : σ → Nat} (hgo : ∀ s x, sz (go s x).1 ≤ sz s + 1) (t : List N2) (L : List Nat) (es : List N2) (s : σ) : sz (walkN go t L es s).1 ≤ sz s + (solsN t L es).length := by
  rw [walkN_fold]; exact foldGo_size hgo s _
theorem sub_get {L : List Nat} {x y : Nat} (hxy : x ≠ y) (v : Nat) : (L.set x v).getD y 0 = L.getD y 0 := by
  rw [List.getD_eq_getElem?_getD, List.getElem?_set_ne hxy, ← List.getD_eq_getElem?_getD]
theorem sub_self {L : List Nat} {x : Nat} (hx : x < L.length) (v : Nat) : (L.set x v).getD x 0 = v := by
  rw [List.getD_eq_getElem?_getD, List.getElem?_set_self hx]; rfl
theorem sub_back {L : List Nat} {x y : Nat} (hx : x < L.length) (hy : y < L.length) : (((L.set x (L.getD x 0 - 1)).set y (L.getD y 0 - 1)).set x (L.getD x 0)).set y (L.getD y 0) = L := by
  apply List.ext_getElem
  · simp
  · intro i h1 h2
    have h2' : i < L.length := h2
    simp only [List.getElem_set]
    have gx : L.getD x 0 = L[x]'hx := by rw [List.getD_eq_getElem?_getD, List.getElem?_eq_getElem hx]; rfl
    have gy : L.getD y 0 = L[y]'hy := by rw [List.getD_eq_getElem?_getD, List.getElem?_eq_getElem hy]; rfl
    by_cases e : y = i
    · subst e; rw [if_pos rfl]; exact gy
    · by_cases e2 : x = i
      · subst e2; rw [if_neg e, if_pos rfl]; exact gx
      · simp [e, e2]

/-- What a call of the walk does. -/
def WalkDoes {σ : Type} (St : σ → List Nat → World → Prop) (go : σ → List N2 → σ × Bool) (P : WalkP) (t : List N2) (L : List Nat) (es : List N2) (s : σ) (l : List Nat) (ac : Option Addr) (w : World) (e : Ending) (w' : World) : Prop :=
  e = .returned (.bool (walkN go t L es s).2) ∧ ∃ ac' cc' l', WalkSt P L es ac' cc' w' ∧ St (walkN go t L es s).1 l' w' ∧ SepW P ac' l' ∧ (∀ j ∈ l', j ∈ l ∨ w.heap.size ≤ j) ∧ (∀ j ∈ blks ac', j ∈ blks ac ∨ w.heap.size ≤ j) ∧ FrL (l ++ P.bc :: (blks P.al ++ blks ac)) w w'

section
variable {σ : Type} {St : σ → List Nat → World → Prop} {go : σ → List N2 → σ × Bool} {sz : σ → Nat} {M : Nat} {P : WalkP}
set_option maxHeartbeats 8000000 in
theorem walk_nil (hK : Keeps St) (hT : Takes P.K P.cap P.N M sz St go) (hP : WalkOK P) (L : List Nat) (es : List N2) (s : σ) (l : List Nat) (ac : Option Addr) (cc : Nat) (w : World) (hes : es.length ≤ 900) (hL : L.length = P.N)
    (hM : sz s + (solsN [] L es).length ≤ M) (hW : WalkSt P L es ac cc w) (hS : St s l w) (hsep : SepW P ac l) :
    Calls Try.prog 186 (#[.int .i64 (P.nf : Int)] ++ #[.pointer (some ⟨P.bf, 0, none⟩), .pointer (some ⟨P.bl, 0, none⟩), .pointer (some ⟨P.bk, 0, none⟩), .pointer (some ⟨P.bn, 0, none⟩), .pointer (some ⟨P.bc, 0, none⟩), .pointer (some ⟨P.bw, 0, none⟩)]) w
      fun e w' => WalkDoes St go P [] L es s l ac w e w' := by
  obtain ⟨B, bn, bf, bk, bl, bc, bw, N, nf, cf, af, K, cap, al, cl, cv, fs⟩ := P
  have k0 := blk_cell hW.hf 0 (.slice af nf cf) rfl
  have HA := Lib.hid (fun u : Later w => allIn_any al cv N (intsN L) 0 0 u.val (by rw [intsN_length]; exact hL) ((own_rd hW.ol).below u.ok) (by have := hP.N7; simp only at this; omega))
  have d1 := later_cell (blk_cell hW.hl 0 (.slice al N cv) rfl)
  have hz := allR_zero L
  have hN7 := hP.N7
  have hnfb := hP.nfb
  simp only at hN7 hnfb hL
  cases hzz : zeroN L
  · rw [hz, hzz] at HA
    have HW := Lib.hid hW
    have HS := Lib.hid hS
    have HR := Lib.hid (show walkN go [] L es s = (s, true) by rw [walkN, if_neg (by rw [hzz]; decide)])
    clear hz hzz hW hS
    go_enter Try.func186, Try.ntmps186
    go_wp2
    refine wp_region_later (by kernel_rfl) (by kernel_rfl) ?_
    repeat (go_big_quiet_step ((go_at_call 91; exact calls_later _ (HA.out _))))
    refine wpQuiet_nil ?_
    intro w1 hw'
    have hb := later_below hw'
    have HW1 := Lib.hid (HW.out.below hb)
    have HS1 := Lib.hid (hK.stay _ _ _ _ HS.out (fun i hi => hb.block i (hK.lt _ _ _ HS.out i hi)))
    clear hw' d1 k0
    go_wp2
    go_ret
    exact ⟨ret_bool (by rw [HR.out]), ac, cc, l, HW1.out, by rw [HR.out]; exact HS1.out, hsep, fun j hj => .inl hj, fun j hj => .inl hj, FrL.of_below hb _⟩
  · rw [hz, hzz] at HA
    have hlw := hK.lt _ _ _ hS
    obtain ⟨hK0, hT1⟩ := hT
    have hK1 : ∀ args w, (callFunc K args).run Try.prog w = .ok (.enter K args) w := hK0
    obtain ⟨m1, m2, m3, m4, m5, m6⟩ := mem_vars ⟨B, bn, bf, bk, bl, bc, bw, N, nf, cf, af, K, cap, al, cl, cv, fs⟩
    have nv : ∀ b ∈ (WalkP.mk B bn bf bk bl bc bw N nf cf af K cap al cl cv fs).vars, b ∉ l := fun b hb h' => (hsep b h').1 hb
    have dk := growl_cell (l := l) (blk_cell hW.hk 0 (.func (.func K) #[] cap) rfl) (nv _ m3)
    have dn := growl_cell (l := l) (blk_cell hW.hn 0 (.int .i64 N) rfl) (nv _ m1)
    have dc := growl_cell (l := l) (blk_cell hW.hc 0 (.slice ac es.length cc) rfl) (nv _ m5)
    have dl := growl_cell (l := l) (blk_cell hW.hl 0 (.slice al N cv) rfl) (nv _ m4)
    have hMs : sz s < M := by
      have e : solsN [] L es = [es] := by rw [solsN, if_pos hzz]
      rw [e] at hM
      simp at hM; omega
    have HR := Lib.hid (show walkN go [] L es s = go s es by rw [walkN, if_pos hzz])
    have HW := Lib.hid hW
    have HS := Lib.hid hS
    have HT := Lib.hid hT1
    have HNV := Lib.hid nv
    have HDK := Lib.hid dk
    have HDN := Lib.hid dn
    have HDC := Lib.hid dc
    have hI0 : InL w l w.drew := ⟨Nat.le_refl _, fun _ _ _ => rfl⟩
    clear hz hzz hW hS hT1 d1 nv dk dn dc
    go_enter Try.func186, Try.ntmps186
    go_wp2
    refine wp_region_heads [true, false, false, false, false, false, false, false, false, false, false, false] 11 11 (C := fun w' => ∃ u : GrowL w l, w' = u.val) (by kernel_rfl) (by kernel_rfl) ⟨⟨_, hI0⟩, rfl⟩ ?_
    simp only [pickT]
    repeat (go_big_quiet_step (fail))
    refine wpQuiet_nil ?_
    clear dl k0
    refine any_one (i := 1) (by kernel_rfl) rfl ?_
    intro Q1 hQ1
    have CA := HA.out ⟨_, bel_drew (Below.refl w.heap.size w)⟩
    go_wp2_with fail
    refine CA.mono ?_
    rintro e w1 ⟨rfl, hb1⟩
    have hb1 : Below w.heap.size w w1 := (bel_drew (Below.refl w.heap.size w)).trans hb1
    have hI1 : InL w l w1 := ⟨hb1.size, fun i hi _ => hb1.block i hi⟩
    go_wp2
    refine hQ1 _ _ (fun _ => ⟨⟨_, hI1⟩, rfl⟩) ?_
    clear hQ1 CA
    have dk := HDK.out
    have dn := HDN.out
    have dc := HDC.out
    refine any_heads (id := 5) (n := 5) [false, false, true, true, true, true, true, false, false, false, false, false] #[true, true, true, true, true, true, true, false, false, false, false, false] (by kernel_rfl) ⟨⟨_, hI1⟩, rfl⟩ ?_
    simp only [pickT]
    repeat (go_big_quiet_step (fail))
    refine wpQuiet_nil ?_
    clear dk dn dc
    have hWS1 := HW.out.below hb1
    have hnil := own_nilc2 hWS1.oc
    have CC := cloneE_any ac cc es.length (en2 es) w1 (en2_length es) (own_rd hWS1.oc) (by omega) hnil
    refine any_one (i := 7) (by kernel_rfl) rfl ?_
    intro Q1 hQ1
    go_wp2_with fail
    refine CC.mono ?_
    rintro e w2 ⟨a2, c2, rfl, ho2, hb2⟩
    have hb3 : Below w.heap.size w w2 := below_tr' hb1 hb2
    have hI2 : InL w l w2 := ⟨hb3.size, fun i hi _ => hb3.block i hi⟩
    go_wp2
    refine hQ1 _ _ (fun _ => ⟨⟨_, hI2⟩, rfl⟩) ?_
    clear hQ1 CC hnil
    refine any_heads (id := 1) (n := 3) [false, false, false, false, false, false, false, false, true, false, false, false] #[true, true, true, true, true, true, true, true, true, false, false, false] (by kernel_rfl) ⟨⟨_, hI2⟩, rfl⟩ ?_
    simp only [pickT]
    repeat (go_big_quiet_step (fail))
    refine wpQuiet_nil ?_
    have hWS2 := HW.out.below hb3
    have hS2 := hK.stay _ _ _ _ HS.out (fun i hi => hb3.block i (hlw i hi))
    have ha2 : ∀ x, a2 = some x → x.block ∉ l := fun x hx h' => by
      have h1 := (own_lt ho2 x hx).1
      have h2 := hlw _ h'
      have h3 := hb1.size
      omega
    have CT := HT.out s l w2 a2 c2 es hMs (by omega) hS2 (own_mono ho2 (Nat.zero_le _)) ha2
    have HB1 := Lib.hid (own_blks ho2)
    have hs1 := hb1.size
    have HWS2 := Lib.hid hWS2
    clear ho2 hWS1 hWS2 hS2 hb1 hb2
    refine any_one (i := 9) (by kernel_rfl) rfl ?_
    intro Q1 hQ1
    go_wp2_with fail
    refine CT.mono ?_
    rintro e w3 ⟨rfl, l', hS3, hl', hF3⟩
    have hF : FrL l w w3 := (FrL.of_below hb3 l).trans hF3
    have HWS3 := Lib.hid (HWS2.out.frl hF3 hsep)
    have HS3 := Lib.hid hS3
    generalize hV : (go s es).2 = V at *
    have HV := Lib.hid hV
    clear hV hS3
    go_wp2
    refine hQ1 _ _ (fun _ => ⟨⟨_, hF.inL⟩, rfl⟩) ?_
    clear hQ1 CT
    refine any_heads (id := 1) (n := 1) [false, false, false, false, false, false, false, false, false, false, true, false] #[true, true, true, true, true, true, true, true, true, true, true, false] (by kernel_rfl) ⟨⟨_, hF.inL⟩, rfl⟩ ?_
    simp only [pickT]
    repeat (go_big_quiet_step (fail))
    refine wpQuiet_nil ?_
    refine any_one (i := 11) (by kernel_rfl) rfl ?_
    intro Q1 hQ1
    go_wp2
    refine hQ1 _ _ (fun h => absurd rfl h) ?_
    clear hQ1
    refine any_end (by kernel_rfl) ?_
    have hnew : ∀ j ∈ l', j ∈ l ∨ w.heap.size ≤ j := by
      intro j hj
      rcases hl' j hj with h1 | h1 | ⟨x, h1, h2⟩
      · exact .inl h1
      · right; have := hb3.size; omega
      · right; have := (HB1.out j (blks_mem.2 ⟨x, h1, h2⟩)).1; omega
    have hsep3 : SepW ⟨B, bn, bf, bk, bl, bc, bw, N, nf, cf, af, K, cap, al, cl, cv, fs⟩ ac l' := by
      intro j hj
      rcases hnew j hj with h1 | h1
      · exact hsep j h1
      · refine ⟨fun h' => ?_, fun h' => ?_, fun h' => ?_, fun h' => ?_⟩
        · have := HW.out.vlt j h'; omega
        · have := (own_blks HW.out.ol j h').2; omega
        · have := (own_blks HW.out.oc j h').2; omega
        · have h2 := hP.afB j h'
          have h3 := hP.varsB _ m1
          have h4 := HW.out.vlt _ m1
          simp only at h2 h3 h4
          omega
    go_wp2
    go_ret
    exact ⟨ret_bool (by rw [HR.out, HV.out]), ac, cc, l', HWS3.out, by rw [HR.out]; exact HS3.out, hsep3, hnew, fun j hj => .inl hj, hF.mono (fun i hi => List.mem_append_left _ hi)⟩
end

end Go.Proofs.Ytjghcegacgpehaa
