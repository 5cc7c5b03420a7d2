
/- The reference's factorOf and FactorOf; the values. -/
import Derived.Test.YtjmiafkkbganlaaFact
import Derived.Test.YtjmiafkkbganlaaReal
import Derived.Test.YtjmiafkkbganlaaSorted
namespace Go.Proofs.Ytjmiafkkbganlaa
open Go.RowKit

noncomputable def factV (N : Int) (g : List E2) (xs : List Int) : Option (List N2) := if validG N g = true ∧ validD xs = true ∧ (xs.length : Int) = N then factN (ne2 g) (toN xs) [] else none
noncomputable def fctL (N : Int) (g : List E2) (xs : List Int) : List E2 := match factV N g xs with | some es => en2 es | none => []
noncomputable def fctOK (N : Int) (g : List E2) (xs : List Int) : Bool := (factV N g xs).isSome
noncomputable def fctN (N : Int) (g : List E2) (xs : List Int) : Int := if fctOK N g xs = true then N else 0
theorem valid_hF {N : Nat} {es : List E2} (h : validG N es = true) : ∀ k (hk : k < es.length), 0 ≤ (es[k]'hk).1 ∧ (es[k]'hk).1 < (es[k]'hk).2 ∧ (es[k]'hk).2 < N := fun k hk => by
  have := (validG_true.1 h).1 k hk
  exact ⟨this.1, this.2.1, this.2.2.1⟩
theorem en2_ne2 {g : List E2} {N : Nat} (h : validG N g = true) : en2 (ne2 g) = g := by
  simp only [en2, ne2, List.map_map]
  conv => rhs; rw [← List.map_id g]
  refine List.map_congr_left fun e he => ?_
  obtain ⟨k, hk, rfl⟩ := List.getElem_of_mem he
  have := valid_hF h k hk
  refine Prod.ext ?_ ?_
  · show (((g[k]'hk).1.toNat : Nat) : Int) = (g[k]'hk).1
    omega
  · show (((g[k]'hk).2.toNat : Nat) : Int) = (g[k]'hk).2
    omega
theorem ne2_in {g : List E2} {N : Nat} (h : validG N g = true) : ∀ e ∈ ne2 g, e.1 < N ∧ e.2 < N ∧ e.1 < e.2 := by
  intro e he
  simp only [ne2, List.mem_map] at he
  obtain ⟨f, hf, rfl⟩ := he
  obtain ⟨k, hk, rfl⟩ := List.getElem_of_mem hf
  have := valid_hF h k hk
  refine ⟨?_, ?_, ?_⟩ <;> simp only <;> omega
theorem ne2_asc {g : List E2} {N : Nat} (h : validG N g = true) : (ne2 g).Pairwise BelN := by
  rw [ne2, List.pairwise_map]
  refine List.Pairwise.imp_of_mem ?_ (valid_asc h)
  intro a b ha hb hab
  obtain ⟨k, hk, rfl⟩ := List.getElem_of_mem ha
  obtain ⟨j, hj, rfl⟩ := List.getElem_of_mem hb
  have h1 := valid_hF h k hk
  have h2 := valid_hF h j hj
  simp only [belowE, Bool.or_eq_true, Bool.and_eq_true, decide_eq_true_eq] at hab
  unfold BelN
  simp only
  omega
theorem rises_of {t : List N2} (h1 : t.Pairwise BelN) (h2 : ∀ e ∈ t, e.1 < e.2) : RisesN t := by
  induction t with
  | nil => trivial
  | cons e t ih =>
    rw [List.pairwise_cons] at h1
    refine ⟨⟨h2 e (List.mem_cons_self ..), fun f hf => ⟨?_, h2 f (List.mem_cons_of_mem _ hf)⟩⟩, ih h1.2 fun f hf => h2 f (List.mem_cons_of_mem _ hf)⟩
    have := h1.1 f hf
    unfold BelN at this
    omega
theorem factN_len : ∀ {t : List N2} {L : List Nat} {es x : List N2}, factN t L es = some x → x.length ≤ es.length + t.length := by
  intro t
  induction t with
  | nil =>
    intro L es x h
    rw [factN] at h
    split at h
    · cases h; simp
    · cases h
  | cons e t ih =>
    intro L es x h
    rw [factN] at h
    rw [List.length_cons]
    split at h
    · cases h; omega
    split at h
    · cases h
    split at h
    · split at h
      · rename_i y hy
        cases h
        have := ih hy
        rw [List.length_append] at this
        simp at this
        omega
      · have := ih h; omega
    · have := ih h; omega
theorem pairs21 : ∀ n, n < 8 → (pairsL n).length ≤ 21 := by decide
theorem valid21 {g : List E2} {N : Nat} (h : validG N g = true) : g.length ≤ 21 := by
  have hN := (validG_true.1 h).2.2
  have h1 := congrArg List.length (valid_filter h)
  have h2 := List.length_filter_le (fun e => decide (e ∈ g)) (pairsL N)
  have h3 := pairs21 N (by omega)
  omega
/-- The result in the form of the law. -/
def FactOut (w w' : World) (N : Int) (g : List E2) (xs : List Int) (e : Ending) : Prop :=
  ∃ a c d, e = .returned (.tuple #[graphV (fctN N g xs) a (fctL N g xs).length c, .bool (fctOK N g xs)]) ∧ w'.ownsRow w.heap.size 71 2 (.slice a (fctL N g xs).length d) (fctL N g xs).length (edges (fctL N g xs)) ∧ Below w.heap.size w w'
theorem factOut_none {w w' : World} {N : Int} {g : List E2} {xs : List Int} (h : factV N g xs = none) (hB : Below w.heap.size w w') : FactOut w w' N g xs (.returned (.tuple #[graphV 0 none 0 0, .bool false])) := by
  have h1 : fctOK N g xs = false := by simp [fctOK, h]
  have h2 : fctL N g xs = [] := by simp [fctL, h]
  have h3 : fctN N g xs = 0 := by simp [fctN, h1]
  exact ⟨none, 0, 0, by rw [h1, h2, h3]; rfl, by rw [h2]; exact World.ownsRow_nil _ _ _ _, hB⟩
theorem factOut_some {w w' : World} {N : Int} {g : List E2} {xs : List Int} {es : List N2} (h : factV N g xs = some es) (hB : Below w.heap.size w w') {a : Option Addr} {c d : Nat} (ho : w'.ownsRow w.heap.size 71 2 (.slice a es.length d) es.length (edges (en2 es))) : FactOut w w' N g xs (.returned (.tuple #[graphV N a es.length c, .bool true])) := by
  have h1 : fctOK N g xs = true := by simp [fctOK, h]
  have h2 : fctL N g xs = en2 es := by simp [fctL, h]
  have h3 : fctN N g xs = N := by simp [fctN, h1]
  exact ⟨a, c, d, by rw [h1, h2, h3, en2_length], by rw [h2, en2_length]; exact ho, hB⟩
theorem fctL_len (N : Int) (g : List E2) (xs : List Int) : (fctL N g xs).length ≤ 1000 := by
  unfold fctL factV
  split
  · rename_i es h
    split at h
    · rename_i hc
      obtain ⟨M, rfl, hM⟩ : ∃ M : Nat, N = M ∧ M ≤ 7 := ⟨N.toNat, by have := (validG_true.1 hc.1).2; omega, by have := (validG_true.1 hc.1).2; omega⟩
      rw [en2_length]
      have h1 := factN_len h
      have h2 := valid21 hc.1
      rw [ne2_length] at h1
      simp at h1
      omega
    · cases h
  · simp

set_option maxHeartbeats 2000000 in
theorem specfactorOf_any (N : Nat) (ag ad : Option Addr) (cg ng c n : Nat) (g : List E2) (xs : List Int) (w : World) (hv : validG N g = true) (hd : validD xs = true) (hnN : n = N) (hng : g.length = ng) (hn : xs.length = n) (hg : Rd w ag (edges g)) (hx : Rd w ad (ints xs)) (hnil : ad = none → n = 0 ∧ c = 0) (hcap : n ≤ c ∧ c ≤ maxLen) :
    Calls Try.prog 47 #[graphV N ag ng cg, .slice ad n c] w fun e w' => FactRes w.heap.size N w' (factN (ne2 g) (toN xs) []) e ∧ Below w.heap.size w w' := by
  obtain ⟨v1, v2, v3⟩ := validD_toN hd
  have hTL := toN_length xs
  have hel := en2_ne2 hv
  have hin := ne2_in hv
  have hasc := ne2_asc hv
  have hlen := valid21 hv
  have hnl := ne2_length g
  have hN7 := (validG_true.1 hv).2.2
  subst hnN
  have hB2 := below_alloc2 w (.cells #[.int .i64 (n : Int), .slice ag ng cg] 29) (.cells #[.int .i64 0, .slice none 0 0] 29)
  have hB := below_tr' hB2 (below_alloc _ (.cells #[] 71))
  have ql := blk_below (heap_alloc_new w (.cells #[.int .i64 (n : Int), .slice ag ng cg] 29)) (below_alloc _ (.cells #[.int .i64 0, .slice none 0 0] 29))
  have q := blk_below ql (below_alloc _ (.cells #[] 71))
  have qr := blk_below (heap_alloc_new (w.alloc (.cells #[.int .i64 (n : Int), .slice ag ng cg] 29)) (.cells #[.int .i64 0, .slice none 0 0] 29)) (below_alloc _ (.cells #[] 71))
  have k0 := blk_cell q 0 (.int .i64 (n : Int)) rfl
  have k1 := blk_cell q 1 (.slice ag ng cg) rfl
  have l0 := blk_cell ql 0 (.int .i64 (n : Int)) rfl
  have l1 := blk_cell ql 1 (.slice ag ng cg) rfl
  have ho : (((w.alloc (.cells #[.int .i64 (n : Int), .slice ag ng cg] 29)).alloc (.cells #[.int .i64 0, .slice none 0 0] 29)).alloc (.cells #[] 71)).ownsRow w.heap.size 71 2 (.slice (some ⟨((w.alloc (.cells #[.int .i64 (n : Int), .slice ag ng cg] 29)).alloc (.cells #[.int .i64 0, .slice none 0 0] 29)).heap.size, 0, none⟩) ([] : List N2).length 0) ([] : List N2).length (edges (en2 [])) :=
    own_mono (World.ownsRow_made _ #[] 0 (Nat.le_refl _) (by decide) rfl) hB2.size
  have C1 := fact_any (B := w.heap.size) (N := n) (nf := ng) (cf := cg) (af := ag) (fs := ne2 g) (by omega) (by omega) (by omega) hin (ne2 g) [] (toN xs) [] _ 0 ad c _ rfl (fun f hf => by simp at hf) hasc hB.size ho (by rw [v1]; exact hx.below hB) hnil hcap (by omega) v3 (by simp; omega) (by rw [hel]; exact hg.below hB)
  have HB := Lib.hid hB
  have QR := Lib.hid qr
  have hs : ((w.alloc (.cells #[.int .i64 (n : Int), .slice ag ng cg] 29)).alloc (.cells #[.int .i64 0, .slice none 0 0] 29)).heap.size = w.heap.size + 1 + 1 := by simp
  have hs1 : (w.alloc (.cells #[.int .i64 (n : Int), .slice ag ng cg] 29)).heap.size = w.heap.size + 1 := by simp
  rw [hs] at C1
  rw [hs1] at QR
  clear ho hel hin hasc hg hx q ql qr hB hB2 hnl hs hs1 hng hTL v1 v3
  obtain ⟨r, hrr⟩ : ∃ r, r = factN (ne2 g) (toN xs) [] := ⟨_, rfl⟩
  rw [← hrr] at C1 ⊢
  clear hrr
  go_enter Try.func47, Try.ntmps47
  go_wp2_with fail
  refine C1.mono ?_
  rintro e w4 ⟨hr, hb⟩
  have HB := below_tr' HB.out hb
  have qr := blk_below QR.out hb
  clear C1 k0 k1 l0 l1 QR hb
  cases r with
  | none =>
    simp only [FactRes] at hr
    subst hr
    have z0 := blk_cell qr 0 (.int .i64 0) rfl
    have z1 := blk_cell qr 1 (.slice none 0 0) rfl
    have f0 := blk_free qr 0
    have f1 := blk_free qr 1
    have ST := Lib.hid (fact_set (B := w.heap.size) HB qr 0 (.slice none 0 0))
    clear qr HB
    go_wp2
    refine bodyPost_ret (v := .tuple #[graphV 0 none 0 0, .bool false]) (by simp [results, Try.results47, go_sem, z0, z1]) rfl ⟨rfl, ST.out.1⟩
  | some es =>
    simp only [FactRes] at hr
    obtain ⟨a5, c5, rfl, ho⟩ := hr
    have ho := own_mono ho (Nat.le_refl _)
    have z0 := blk_cell qr 0 (.int .i64 0) rfl
    have z1 := blk_cell qr 1 (.slice none 0 0) rfl
    have f0 := blk_free qr 0
    have f1 := blk_free qr 1
    have ST := Lib.hid (fact_set (B := w.heap.size) HB qr n (.slice a5 es.length c5))
    have HO := Lib.hid (ST.out.2 ho)
    clear qr HB ho
    go_wp2
    refine bodyPost_ret (v := .tuple #[graphV n a5 es.length c5, .bool true]) (by simp [results, Try.results47, go_sem, z0, z1]) rfl ⟨⟨a5, c5, rfl, HO.out⟩, ST.out.1⟩

set_option maxHeartbeats 2000000 in
theorem specFactorOf_any (N : Int) (ag ad : Option Addr) (cg ng c n : Nat) (g : List E2) (xs : List Int) (w : World) (hng : g.length = ng) (hn : xs.length = n) (hg : Rd w ag (edges g)) (hx : Rd w ad (ints xs)) (hl : ng ≤ 1048576) (hl2 : n ≤ 1048576) (hnil : ad = none → n = 0 ∧ c = 0) (hcap : n ≤ c ∧ c ≤ maxLen) :
    Calls Try.prog 12 #[graphV N ag ng cg, .slice ad n c] w fun e w' => FactOut w w' N g xs e := by
  have HX := Lib.hid (fun (v : World) (hb : Below w.heap.size w v) => hx.below hb)
  have HG := Lib.hid (fun (v : World) (hb : Below w.heap.size w v) => hg.below hb)
  clear hx hg
  have hB := below_alloc2 w (.cells #[.int .i64 N, .slice ag ng cg] 29) (.cells #[.int .i64 0, .slice none 0 0] 29)
  have qb := blk_below (heap_alloc_new w (.cells #[.int .i64 N, .slice ag ng cg] 29)) (below_alloc _ (.cells #[.int .i64 0, .slice none 0 0] 29))
  have qr := heap_alloc_new (w.alloc (.cells #[.int .i64 N, .slice ag ng cg] 29)) (.cells #[.int .i64 0, .slice none 0 0] 29)
  rw [show (w.alloc (.cells #[.int .i64 N, .slice ag ng cg] 29)).heap.size = w.heap.size + 1 from by simp] at qr
  have l0 := blk_cell qb 0 (.int .i64 N) rfl
  have l1 := blk_cell qb 1 (.slice ag ng cg) rfl
  have C1 := specValidGraph_any N ag cg ng g _ hng (HG.out _ hB) (by omega)
  generalize hW : (w.alloc (.cells #[.int .i64 N, .slice ag ng cg] 29)).alloc (.cells #[.int .i64 0, .slice none 0 0] 29) = W at *
  have HW := Lib.hid hW
  clear hW
  cases hv : validG N g
  · have HR := Lib.hid (show factV N g xs = none by rw [factV, if_neg]; rintro ⟨h1, _⟩; rw [hv] at h1; cases h1)
    rw [hv] at C1
    clear hv
    go_enter Try.func12, Try.ntmps12
    go_wp2_with (simp only [HW.out])
    refine C1.mono ?_
    rintro e w1 ⟨rfl, hb⟩
    have HB := below_tr' hB hb
    have qr := blk_below qr hb
    clear C1 l0 l1 qb hB hb
    have z0 := blk_cell qr 0 (.int .i64 0) rfl
    have z1 := blk_cell qr 1 (.slice none 0 0) rfl
    have f0 := blk_free qr 0
    have f1 := blk_free qr 1
    have ST := Lib.hid (fact_set (B := w.heap.size) HB qr 0 (.slice none 0 0))
    clear qr HB
    go_wp2
    refine bodyPost_ret (v := .tuple #[graphV 0 none 0 0, .bool false]) (by simp [results, Try.results12, go_sem, z0, z1]) rfl (factOut_none HR.out ST.out.1)
  rw [hv] at C1
  have C2 := fun (v : World) (hb : Below w.heap.size w v) => specValidDegrees_any ad c n xs v hn (HX.out _ hb) (by omega)
  cases hd : validD xs
  · have HR := Lib.hid (show factV N g xs = none by rw [factV, if_neg]; rintro ⟨_, h1, _⟩; rw [hd] at h1; cases h1)
    rw [hd] at C2
    clear hv hd
    go_enter Try.func12, Try.ntmps12
    go_wp2_with (simp only [HW.out])
    refine C1.mono ?_
    rintro e w1 ⟨rfl, hb⟩
    have HB := below_tr' hB hb
    have qr := blk_below qr hb
    have C3 := C2 w1 HB
    clear C1 C2 l0 l1 qb hB hb
    go_wp2_with fail
    refine C3.mono ?_
    rintro e w2 ⟨rfl, rfl⟩
    clear C3
    have z0 := blk_cell qr 0 (.int .i64 0) rfl
    have z1 := blk_cell qr 1 (.slice none 0 0) rfl
    have f0 := blk_free qr 0
    have f1 := blk_free qr 1
    have ST := Lib.hid (fact_set (B := w.heap.size) HB qr 0 (.slice none 0 0))
    clear qr HB
    go_wp2
    refine bodyPost_ret (v := .tuple #[graphV 0 none 0 0, .bool false]) (by simp [results, Try.results12, go_sem, z0, z1]) rfl (factOut_none HR.out ST.out.1)
  rw [hd] at C2
  by_cases hnN : (n : Int) = N
  · have HR := Lib.hid (show factV N g xs = factN (ne2 g) (toN xs) [] by rw [factV, if_pos ⟨hv, hd, by rw [hn]; exact hnN⟩])
    subst hnN
    have C4 := fun (v : World) (hb : Below w.heap.size w v) => specfactorOf_any n ag ad cg ng c n g xs v hv hd rfl hng hn (HG.out _ hb) (HX.out _ hb) hnil hcap
    clear hv hd
    have hne : ((n : Int) != (n : Int)) = false := by simp
    go_enter Try.func12, Try.ntmps12
    go_wp2_with (simp only [HW.out])
    refine C1.mono ?_
    rintro e w1 ⟨rfl, hb⟩
    have HB := below_tr' hB hb
    have qr := blk_below qr hb
    have qb := blk_below qb hb
    have C3 := C2 w1 HB
    clear C1 C2 l0 l1 hB hb
    have l0 := blk_cell qb 0 (.int .i64 (n : Int)) rfl
    have l1 := blk_cell qb 1 (.slice ag ng cg) rfl
    go_wp2_with fail
    refine C3.mono ?_
    rintro e w2 ⟨rfl, rfl⟩
    clear C3
    have C5 := C4 w2 HB
    clear C4
    go_wp2_with fail
    refine C5.mono ?_
    rintro e w5 ⟨hr, hb⟩
    have hBS := HB.size
    have HB := below_tr' HB hb
    have qr := blk_below qr hb
    clear C5 l0 l1 qb hb
    cases hrr : factN (ne2 g) (toN xs) [] with
    | none =>
      rw [hrr] at hr HR
      simp only [FactRes] at hr
      subst hr
      clear hrr
      have z0 := blk_cell qr 0 (.int .i64 0) rfl
      have z1 := blk_cell qr 1 (.slice none 0 0) rfl
      have f0 := blk_free qr 0
      have f1 := blk_free qr 1
      have ST := Lib.hid (fact_set (B := w.heap.size) HB qr 0 (.slice none 0 0))
      clear qr HB
      go_wp2
      refine bodyPost_ret (v := .tuple #[graphV 0 none 0 0, .bool false]) (by simp [results, Try.results12, go_sem, z0, z1]) rfl (factOut_none HR.out ST.out.1)
    | some es =>
      rw [hrr] at hr HR
      simp only [FactRes] at hr
      obtain ⟨a5, c5, rfl, ho⟩ := hr
      have ho := own_mono (B' := w.heap.size) ho hBS
      clear hrr hBS
      have z0 := blk_cell qr 0 (.int .i64 0) rfl
      have z1 := blk_cell qr 1 (.slice none 0 0) rfl
      have f0 := blk_free qr 0
      have f1 := blk_free qr 1
      have ST := Lib.hid (fact_set (B := w.heap.size) HB qr n (.slice a5 es.length c5))
      have HO := Lib.hid (ST.out.2 ho)
      clear qr HB ho
      go_wp2
      refine bodyPost_ret (v := .tuple #[graphV n a5 es.length c5, .bool true]) (by simp [results, Try.results12, go_sem, z0, z1]) rfl (factOut_some HR.out ST.out.1 HO.out)
  · have HR := Lib.hid (show factV N g xs = none by rw [factV, if_neg]; rintro ⟨_, _, h1⟩; rw [hn] at h1; exact hnN h1)
    have hne : ((n : Int) != N) = true := by simp [hnN]
    clear hv hd
    go_enter Try.func12, Try.ntmps12
    go_wp2_with (simp only [HW.out])
    refine C1.mono ?_
    rintro e w1 ⟨rfl, hb⟩
    have HB := below_tr' hB hb
    have qr := blk_below qr hb
    have qb := blk_below qb hb
    have C3 := C2 w1 HB
    clear C1 C2 l0 l1 hB hb
    have l0 := blk_cell qb 0 (.int .i64 N) rfl
    have l1 := blk_cell qb 1 (.slice ag ng cg) rfl
    go_wp2_with fail
    refine C3.mono ?_
    rintro e w2 ⟨rfl, rfl⟩
    clear C3 qb
    have z0 := blk_cell qr 0 (.int .i64 0) rfl
    have z1 := blk_cell qr 1 (.slice none 0 0) rfl
    have f0 := blk_free qr 0
    have f1 := blk_free qr 1
    have ST := Lib.hid (fact_set (B := w.heap.size) HB qr 0 (.slice none 0 0))
    clear qr HB
    go_wp2
    refine bodyPost_ret (v := .tuple #[graphV 0 none 0 0, .bool false]) (by simp [results, Try.results12, go_sem, z0, z1]) rfl (factOut_none HR.out ST.out.1)

end Go.Proofs.Ytjmiafkkbganlaa
