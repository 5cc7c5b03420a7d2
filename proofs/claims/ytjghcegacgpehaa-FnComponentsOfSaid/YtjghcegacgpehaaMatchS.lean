
/- spec.hasInt, spec.most. (Printed by gen_match.py.) -/
import Derived.Test.YtjghcegacgpehaaPlainM
import Derived.Test.YtjghcegacgpehaaClone
import Derived.Test.YtjghcegacgpehaaAppG
import Derived.Test.YtjghcegacgpehaaRng
import Derived.Test.YtjghcegacgpehaaValidG
namespace Go.Proofs.Ytjghcegacgpehaa
open Go.RowKit

def hasI (xs : List Int) (x : Int) : Bool := xs.contains x
theorem hasInt_any (a : Option Addr) (c n : Nat) (xs : List Int) (x : Int) (w : World) (hn : xs.length = n) (hx : Rd w a (ints xs)) (hl : n ≤ 17592186044416) :
    Calls Try.prog 179 #[.slice a n c, .int .i64 x] w fun e w' => e = .returned (.bool (hasI xs x)) ∧ w' = w := by
  go_enter Try.func179, Try.ntmps179
  go_wp2
  go_loop [5] (fun i => ∃ k : Nat, k ≤ n ∧ i = .int .i64 k ∧ ∀ j (_ : j < k) (hj : j < xs.length), xs[j]'hj ≠ x) (fun i => n - (intOf i).toNat)
  case atStart => exact ⟨0, by omega, rfl, by intro j hj; omega⟩
  case round =>
    obtain ⟨k, hk, rfl, hno⟩ := hrel
    by_cases hlt : k < n
    · have hkl : k < xs.length := by omega
      obtain ⟨b1, o1, rfl, c1⟩ := hx.int hkl
      by_cases he : xs[k]'hkl = x
      · have HY := Lib.hid (show hasI xs x = true by rw [hasI]; rw [List.contains_iff_mem]; rw [← he]; exact List.getElem_mem _)
        have hb : ((xs[k]'hkl) == x) = true := by simp [he]
        clear he hno
        generalize xs[k]'hkl = y at *
        go_wp2
        go_ret
        exact ⟨ret_bool HY.out.symm, rfl⟩
      · have hb : ((xs[k]'hkl) == x) = false := by simp [he]
        have HN := Lib.hid (show ∀ j (_ : j < k + 1) (hj : j < xs.length), xs[j]'hj ≠ x from fun j h1 h2 => by
          by_cases e : j = k
          · subst e; exact he
          · exact hno j (by omega) h2)
        clear he hno
        generalize xs[k]'hkl = y at *
        go_wp2
        go_round
        case rel => exact ⟨k + 1, by omega, by go_num, HN.out⟩
        case measure => simp [intOf]; omega
    · have HN := Lib.hid (show hasI xs x = false by
        unfold hasI
        rw [← Bool.not_eq_true, List.contains_iff_mem]
        intro h
        obtain ⟨j, hj, e⟩ := List.getElem_of_mem h
        exact hno j (by omega) hj e)
      clear hno
      go_wp2
      go_ret
      exact ⟨ret_bool HN.out.symm, rfl⟩

theorem rd_blk2 {w : World} {b : Nat} {arr : Array Value} {T : TypeId} {f : Nat × Nat} {cs : List Value} (h : w.heap[b]? = some (.cells arr T f)) (hc : arr.toList = cs) : Rd w (some ⟨b, 0, none⟩) cs := by
  intro j u hu
  refine ⟨b, 0, rfl, ?_⟩
  rw [Nat.zero_add]
  refine blk_cell h j u ?_
  rw [← hc] at hu
  simpa using hu
theorem mostL_le (l : List E2) (u : List Int) : mostL l u ≤ l.length := by
  rw [most_match]
  exact Nat.le_trans (matchN_le _) (List.length_filter_le _ _)
theorem own_nilc {w : World} {B T s n c m : Nat} {a : Option Addr} {cs : List Value} (h : w.ownsRow B T s (.slice a m c) n cs) : a = none → m = 0 ∧ c = 0 := by
  rcases h.2 with ⟨h1, _⟩ | ⟨g, cap, cur, h1, _⟩
  · cases h1; exact fun _ => ⟨rfl, rfl⟩
  · cases h1; intro h; cases h
theorem most_yes {es : List E2} {u : List Int} {k : Nat} {X Y : Int} (hk : k < es.length) (he : es[k]'hk = (X, Y)) (h1 : hasI u X = false) (h2 : hasI u Y = false) :
    mostL (es.drop k) u = max (mostL (es.drop (k + 1)) u) (1 + mostL (es.drop (k + 1)) (u ++ [X, Y])) := by
  rw [List.drop_eq_getElem_cons hk, he, mostL, usedE]; unfold hasI at h1 h2; rw [h1, h2]; rfl
theorem most_no {es : List E2} {u : List Int} {k : Nat} {X Y : Int} (hk : k < es.length) (he : es[k]'hk = (X, Y)) (h : (hasI u X || hasI u Y) = true) :
    mostL (es.drop k) u = mostL (es.drop (k + 1)) u := by
  rw [List.drop_eq_getElem_cons hk, he, mostL, usedE, if_pos (by simpa [hasI] using h)]

set_option maxHeartbeats 4000000 in
theorem most_any (a : Option Addr) (c n : Nat) (es : List E2) (hn : es.length = n) (hl : n ≤ 1048576) : ∀ (d k : Nat) (u : List Int) (au : Option Addr) (cu nu : Nat) (w : World), k + d = n → u.length = nu → nu ≤ 2 * k → Rd w au (ints u) → (au = none → nu = 0 ∧ cu = 0) → Rd w a (edges es) →
    Calls Try.prog 131 #[.slice a n c, .int .i64 k, .slice au nu cu] w fun e w' => e = .returned (.int .i64 (mostL (es.drop k) u : Nat)) ∧ Below w.heap.size w w' := by
  intro d
  induction d with
  | zero =>
    intro k u au cu nu w hk hu hnu hxu hnil hx
    have hkn : k = n := by omega
    subst hkn
    have HM := Lib.hid (show mostL (es.drop k) u = 0 by rw [List.drop_of_length_le (by omega)]; rfl)
    clear hx hxu hnil hu hn
    have hb : ((k : Int) == (k : Int)) = true := by simp
    go_enter Try.func131, Try.ntmps131
    go_wp2
    go_ret
    exact ⟨ret_int (by rw [HM.out]; rfl), Below.refl _ _⟩
  | succ d ih =>
    intro k u au cu nu w hk hu hnu hxu hnil hx
    have IH := Lib.hid ih
    clear ih
    have hkl : k < es.length := by omega
    obtain ⟨b1, o1, ea, c1, c2⟩ := hx.edge hkl
    subst ea
    obtain ⟨X, hX⟩ : ∃ X, X = (es[k]'hkl).1 := ⟨_, rfl⟩
    obtain ⟨Y, hY⟩ : ∃ Y, Y = (es[k]'hkl).2 := ⟨_, rfl⟩
    have he : es[k]'hkl = (X, Y) := by rw [hX, hY]
    rw [← hX] at c1
    rw [← hY] at c2
    clear hX hY
    have hbk : ((k : Int) == (n : Int)) = false := beq_eq_false_iff_ne.2 (by omega)
    have C1 := IH.out (k + 1) u au cu nu w (by omega) hu (by omega) hxu hnil hx
    have hm1 := mostL_le (es.drop (k + 1)) u
    have hm2 := mostL_le (es.drop (k + 1)) (u ++ [X, Y])
    rw [List.length_drop] at hm1 hm2
    have HY := Lib.hid (most_yes (u := u) hkl he)
    have HNo := Lib.hid (most_no (u := u) hkl he)
    clear he hkl
    obtain ⟨M1, hM1⟩ : ∃ M, M = mostL (es.drop (k + 1)) u := ⟨_, rfl⟩
    rw [← hM1] at C1 hm1 HY HNo
    clear hM1
    simp only [Int.natCast_add, Int.cast_ofNat_Int] at C1
    have HX := Lib.hid hx
    have HXU := Lib.hid hxu
    clear hx hxu
    go_enter Try.func131, Try.ntmps131
    go_wp2_with fail
    refine C1.mono ?_
    rintro e w1 ⟨rfl, hb1⟩
    have c1 := (hb1.cell (p := ⟨b1, _, none⟩) (Rd.lt c1)).trans c1
    have c2 := (hb1.cell (p := ⟨b1, _, none⟩) (Rd.lt c2)).trans c2
    have hBA := below_tr' hb1 (below_alloc w1 (.cells #[.int .i64 X, .int .i64 Y] 48))
    have q := heap_alloc_new w1 (.cells #[.int .i64 X, .int .i64 Y] 48)
    have C2 := hasInt_any au cu nu u X _ hu (HXU.out.below hBA) (by omega)
    clear C1 hb1
    go_wp2_with fail
    generalize hV : w1.alloc (.cells #[.int .i64 X, .int .i64 Y] 48) = w2 at *
    obtain ⟨B, hBB⟩ : ∃ B, B = w1.heap.size := ⟨_, rfl⟩
    simp only [← hBB] at *
    clear hV hBB c1 c2
    have g0 := blk_cell q 0 (.int .i64 X) rfl
    have g1 := blk_cell q 1 (.int .i64 Y) rfl
    cases h1 : hasI u X
    case true =>
      rw [h1] at C2
      have HR := Lib.hid (HNo.out (by rw [h1]; rfl))
      clear HY HNo h1
      refine C2.mono ?_
      rintro e w3 ⟨rfl, rfl⟩
      clear C2
      go_wp2
      go_ret
      exact ⟨ret_int (by rw [HR.out]), hBA⟩
    rw [h1] at C2
    have C3 := hasInt_any au cu nu u Y w2 hu (HXU.out.below hBA) (by omega)
    refine C2.mono ?_
    rintro e w3 ⟨rfl, rfl⟩
    clear C2
    cases h2 : hasI u Y
    case true =>
      rw [h2] at C3
      have HR := Lib.hid (HNo.out (by rw [h2, Bool.or_true]))
      clear HY HNo h1 h2
      go_wp2_with fail
      refine C3.mono ?_
      rintro e w3 ⟨rfl, rfl⟩
      clear C3
      go_wp2
      go_ret
      exact ⟨ret_int (by rw [HR.out]), hBA⟩
    rw [h2] at C3
    have HR := Lib.hid (HY.out h1 h2)
    clear HY HNo h1 h2
    obtain ⟨M2, hM2⟩ : ∃ M, M = mostL (es.drop (k + 1)) (u ++ [X, Y]) := ⟨_, rfl⟩
    rw [← hM2] at hm2 HR
    have HM2 := Lib.hid hM2
    clear hM2
    go_wp2_with fail
    refine C3.mono ?_
    rintro e w3 ⟨rfl, rfl⟩
    clear C3
    have d0 := later_cell g0
    have d1 := later_cell g1
    have bd := bel_drew (Below.refl w3.heap.size w3)
    have XU := Lib.hid (fun (v : World) (hb : Below w3.heap.size w3 v) => HXU.out.below (below_tr' hBA hb))
    have XE := Lib.hid (fun (v : World) (hb : Below w3.heap.size w3 v) => HX.out.below (below_tr' hBA hb))
    clear HXU HX
    go_wp2
    refine wp_region_heads [true, true, true, true, true, false, true, true, true, true, false, false, false, false, false, false] 15 7 (C := fun w' => ∃ u : Later w3, w' = u.val) (by kernel_rfl) (by kernel_rfl) ⟨⟨_, bd⟩, rfl⟩ ?_
    simp only [pickT]
    repeat (go_big_quiet_step (fail))
    refine wpQuiet_nil ?_
    clear d0 d1 g0 g1 q
    generalize hD : w3.drew = D at *
    clear hD
    refine any_two (i := 5) (j := 10) (by kernel_rfl) rfl rfl ?_ ?_
    · intro K hK
      have CC := copyInts_any au cu nu u D hu (XU.out _ bd) (by omega) hnil
      go_wp2_with fail
      refine CC.mono ?_
      rintro e v1 ⟨a1, k1, rfl, ho, hbx⟩
      clear CC
      have hb1 := bd.trans (hbx.mono bd.size)
      have ho := own_mono ho bd.size
      go_wp2
      refine hK _ _ (fun _ => ⟨⟨_, hb1⟩, rfl⟩) ?_
      clear hK hbx
      refine any_one (i := 10) (by kernel_rfl) rfl ?_
      intro K hK
      go_wp2
      have ql := heap_alloc_new v1 (.cells #[.int .i64 X, .int .i64 Y] 3)
      have hb2 := hb1.trans ((below_alloc v1 (.cells #[.int .i64 X, .int .i64 Y] 3)).mono hb1.size)
      refine hK _ _ (fun _ => ⟨⟨_, hb2⟩, rfl⟩) ?_
      clear hK
      have ho := own_below ho (below_alloc v1 (.cells #[.int .i64 X, .int .i64 Y] 3))
      generalize hV : v1.alloc (.cells #[.int .i64 X, .int .i64 Y] 3) = v2 at *
      obtain ⟨S, hS⟩ : ∃ S, S = v1.heap.size := ⟨_, rfl⟩
      simp only [← hS] at *
      clear hV hS
      refine any_one (i := 11) (by kernel_rfl) rfl ?_
      intro K hK
      have hrl : Rd v2 (some ⟨S, 0, none⟩) (ints [X, Y]) := rd_blk2 ql rfl
      refine appendAllg Try.infoI _ _ rfl rfl (m := 2) ho hrl rfl (ints_one _) (by intro h; cases h) (World.grownBy.refl v2 _) hb2.size rfl rfl (by omega) ?_
      intro a3 k3 v3 ho3 hg3
      have hb3 := below_row hb2 (Nat.le_refl _) ho hg3
      rw [← ints_append] at ho3
      refine wpList_nil ⟨rfl, hK _ _ (fun _ => ⟨⟨_, hb3⟩, rfl⟩) ?_⟩
      clear hK ho hg3 hrl ql
      have CM := IH.out (k + 1) (u ++ [X, Y]) a3 k3 (nu + 2) v3 (by omega) (by simp [hu]) (by omega) (own_rd ho3) (own_nilc ho3) (XE.out _ hb3)
      rw [← HM2.out] at CM
      simp only [Int.natCast_add, Int.cast_ofNat_Int] at CM
      refine any_one (i := 12) (by kernel_rfl) rfl ?_
      intro K hK
      go_wp2_with fail
      refine CM.mono ?_
      rintro e v4 ⟨rfl, hb4⟩
      have hb4 := hb3.trans (hb4.mono hb3.size)
      go_wp2
      refine hK _ _ (fun _ => ⟨⟨_, hb4⟩, rfl⟩) ?_
      clear hK CM
      refine any_one (i := 13) (by kernel_rfl) rfl ?_
      intro K hK
      go_wp2
      refine hK _ _ (fun _ => ⟨⟨_, hb4⟩, rfl⟩) ?_
      clear hK
      have HB := below_tr' hBA hb4
      refine any_one (i := 14) (by kernel_rfl) rfl ?_
      intro K hK
      go_wp2
      all_goals
        refine hK _ _ (fun _ => ⟨⟨_, hb4⟩, rfl⟩) ?_
        clear hK
        refine any_one (i := 15) (by kernel_rfl) rfl ?_
        intro K hK
        go_wp2
        refine hK _ _ (fun h => absurd rfl h) ?_
        clear hK
        refine any_end (by kernel_rfl) ?_
        go_wp2
        go_ret
        exact ⟨ret_int (by rw [HR.out]; omega), HB⟩
    · intro K hK
      go_wp2
      have ql := heap_alloc_new D (.cells #[.int .i64 X, .int .i64 Y] 3)
      have hb1 := bd.trans ((below_alloc D (.cells #[.int .i64 X, .int .i64 Y] 3)).mono bd.size)
      refine hK _ _ (fun _ => ⟨⟨_, hb1⟩, rfl⟩) ?_
      clear hK
      generalize hV : D.alloc (.cells #[.int .i64 X, .int .i64 Y] 3) = v1 at *
      obtain ⟨S, hS⟩ : ∃ S, S = D.heap.size := ⟨_, rfl⟩
      simp only [← hS] at *
      clear hV hS
      refine any_one (i := 5) (by kernel_rfl) rfl ?_
      intro K hK
      have CC := copyInts_any au cu nu u v1 hu (XU.out _ hb1) (by omega) hnil
      go_wp2_with fail
      refine CC.mono ?_
      rintro e v2 ⟨a1, k1, rfl, ho, hbx⟩
      clear CC
      have hb2 := hb1.trans (hbx.mono hb1.size)
      have ho := own_mono ho hb1.size
      have ql := blk_below ql hbx
      go_wp2
      refine hK _ _ (fun _ => ⟨⟨_, hb2⟩, rfl⟩) ?_
      clear hK hbx
      refine any_one (i := 11) (by kernel_rfl) rfl ?_
      intro K hK
      have hrl : Rd v2 (some ⟨S, 0, none⟩) (ints [X, Y]) := rd_blk2 ql rfl
      refine appendAllg Try.infoI _ _ rfl rfl (m := 2) ho hrl rfl (ints_one _) (by intro h; cases h) (World.grownBy.refl v2 _) hb2.size rfl rfl (by omega) ?_
      intro a3 k3 v3 ho3 hg3
      have hb3 := below_row hb2 (Nat.le_refl _) ho hg3
      rw [← ints_append] at ho3
      refine wpList_nil ⟨rfl, hK _ _ (fun _ => ⟨⟨_, hb3⟩, rfl⟩) ?_⟩
      clear hK ho hg3 hrl ql
      have CM := IH.out (k + 1) (u ++ [X, Y]) a3 k3 (nu + 2) v3 (by omega) (by simp [hu]) (by omega) (own_rd ho3) (own_nilc ho3) (XE.out _ hb3)
      rw [← HM2.out] at CM
      simp only [Int.natCast_add, Int.cast_ofNat_Int] at CM
      refine any_one (i := 12) (by kernel_rfl) rfl ?_
      intro K hK
      go_wp2_with fail
      refine CM.mono ?_
      rintro e v4 ⟨rfl, hb4⟩
      have hb4 := hb3.trans (hb4.mono hb3.size)
      go_wp2
      refine hK _ _ (fun _ => ⟨⟨_, hb4⟩, rfl⟩) ?_
      clear hK CM
      refine any_one (i := 13) (by kernel_rfl) rfl ?_
      intro K hK
      go_wp2
      refine hK _ _ (fun _ => ⟨⟨_, hb4⟩, rfl⟩) ?_
      clear hK
      have HB := below_tr' hBA hb4
      refine any_one (i := 14) (by kernel_rfl) rfl ?_
      intro K hK
      go_wp2
      all_goals
        refine hK _ _ (fun _ => ⟨⟨_, hb4⟩, rfl⟩) ?_
        clear hK
        refine any_one (i := 15) (by kernel_rfl) rfl ?_
        intro K hK
        go_wp2
        refine hK _ _ (fun h => absurd rfl h) ?_
        clear hK
        refine any_end (by kernel_rfl) ?_
        go_wp2
        go_ret
        exact ⟨ret_int (by rw [HR.out]; omega), HB⟩

noncomputable def matchV (N : Int) (es : List E2) : Int := if validG N es then (matchN es : Int) else -1
noncomputable def defV (N : Int) (es : List E2) : Int := if validG N es then N - 2 * (matchN es : Int) else -1

theorem specMatchingNumber_any (N : Int) (a : Option Addr) (c n : Nat) (es : List E2) (w : World) (hn : es.length = n) (hx : Rd w a (edges es)) (hl : n ≤ 1048576) :
    Calls Try.prog 57 #[graphV N a n c] w fun e w' => e = .returned (.int .i64 (matchV N es)) ∧ Below w.heap.size w w' := by
  have hB := below_alloc w (.cells #[.int .i64 N, .slice a n c] 25)
  have q := heap_alloc_new w (.cells #[.int .i64 N, .slice a n c] 25)
  have C1 := specValidGraph_any N a c n es _ hn (hx.below hB) (by omega)
  have HX := Lib.hid (fun (v : World) (hb : Below w.heap.size w v) => hx.below hb)
  clear hx
  have g0 := blk_cell q 0 (.int .i64 N) rfl
  have g1 := blk_cell q 1 (.slice a n c) rfl
  generalize hW : w.alloc (.cells #[.int .i64 N, .slice a n c] 25) = W at *
  have HW := Lib.hid hW
  clear hW
  cases hv : validG N es
  · rw [hv] at C1
    have HR := Lib.hid (show (matchV N es) = -1 by simp [matchV, hv])
    clear hv
    go_enter Try.func57, Try.ntmps57
    go_wp2_with (simp only [HW.out])
    refine C1.mono ?_
    rintro e w1 ⟨rfl, hb⟩
    have hBB := below_tr' hB hb
    clear C1
    go_wp2
    go_ret
    exact ⟨ret_int HR.out.symm, hBB⟩
  · rw [hv] at C1
    have hm := matchN_le es
    have HR := Lib.hid (show (matchV N es) = (matchN es : Int) by simp [matchV, hv])
    have hma := most_all es
    have HMA := Lib.hid hma
    clear hv hma
    go_enter Try.func57, Try.ntmps57
    go_wp2_with (simp only [HW.out])
    refine C1.mono ?_
    rintro e w1 ⟨rfl, hb⟩
    have hBB := below_tr' hB hb
    have q1 := blk_below q hb
    have k1 := blk_cell q1 1 (.slice a n c) rfl
    have hbA := below_tr' hBB (below_alloc w1 (.cells #[] 3))
    have C2 := most_any a c n es hn hl n 0 [] (some ⟨w1.heap.size, 0, none⟩) 0 0 (w1.alloc (.cells #[] 3)) (by omega) rfl (by omega) (Rd.nil _ _) (by intro h; cases h) (HX.out _ hbA)
    rw [List.drop_zero, HMA.out] at C2
    simp only [Int.cast_ofNat_Int] at C2
    clear C1 g0 g1
    go_wp2_with fail
    refine C2.mono ?_
    rintro e w2 ⟨rfl, hb2⟩
    have hBC := below_tr' hbA hb2
    clear C2 k1
    go_wp2
    go_ret
    exact ⟨ret_int HR.out.symm, hBC⟩

end Go.Proofs.Ytjghcegacgpehaa
