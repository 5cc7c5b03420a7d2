
/- The program's pairs and which: the graph of the pairs for which a function value answers true. -/
import Derived.Test.YtjghcegacgpehaaPairs
import Derived.Test.YtjghcegacgpehaaCompG
namespace Go.Proofs.Ytjghcegacgpehaa
open Go.RowKit

set_option maxHeartbeats 1000000 in
theorem implPairs_any (n : Nat) (w : World) (hn : n ≤ 1000) :
    Calls Try.prog 73 #[.int .i64 n] w fun e w' => ∃ a c, e = .returned (.slice a (pairsL n).length c) ∧
      w'.ownsRow w.heap.size 48 2 (.slice a (pairsL n).length c) (pairsL n).length (edges (pairsL n)) ∧ Below w.heap.size w w' := by
  go_enter Try.func73, Try.ntmps73
  go_wp2
  go_loopw [3, 4, 5, 7] (fun v _ _ i wr => ∃ (k : Nat) (a : Option Addr) (c : Nat), k ≤ n ∧ i = .int .i64 k ∧ v = .slice a (pairsUpto n k).length c ∧ wr.ownsRow w.heap.size 48 2 (.slice a (pairsUpto n k).length c) (pairsUpto n k).length (edges (pairsUpto n k)) ∧ Below w.heap.size w wr) (fun _ _ _ i _ => n - (intOf i).toNat)
  case atStart => exact ⟨0, none, 0, by omega, rfl, rfl, World.ownsRow_nil _ _ _ _, Below.refl _ _⟩
  case round =>
    obtain ⟨k, a, c, hk, rfl, rfl, hown, hb⟩ := hrel
    by_cases hlt : k < n
    · have hpl : (pairsUpto n k).length ≤ 1000000 := by
        have h1 := pairsUpto_length n k
        have h2 : k * n ≤ 1000 * 1000 := Nat.mul_le_mul (by omega) hn
        omega
      have HS := Lib.hid (pairsUpto_succ n k)
      generalize hP : pairsUpto n k = P at *
      have HP := Lib.hid hP
      clear hP
      obtain ⟨wo, hwo⟩ : ∃ wo : World, wo = wr := ⟨_, rfl⟩
      go_wp2
      go_loopw [3, 5] (fun v i wr => ∃ (m : Nat) (a : Option Addr) (c : Nat), m ≤ n - 1 - k ∧ i = .int .i64 ((k : Int) + 1 + (m : Int)) ∧ v = .slice a (P.length + m) c ∧ wr.ownsRow w.heap.size 48 2 (.slice a (P.length + m) c) (P.length + m) (edges (P ++ rowP k m)) ∧ Below w.heap.size w wr) (fun _ i _ => n - (intOf i).toNat)
      case atStart => exact ⟨0, a, c, by omega, by simp, by simp, by simpa [rowP] using hown, hb⟩
      case round =>
        obtain ⟨m, a2, c2, hm, rfl, rfl, hown2, hb2⟩ := hrel
        by_cases hlt2 : m < n - 1 - k
        · have hsz := hb2.size
          have hR := Lib.hid (rowP_succ k m)
          go_wp2_with (at_builtin; refine appendE _ _ rfl rfl hown2 hb2 (Nat.le_refl _) hsz rfl rfl (by omega) ?_; intro a' c' w1 hown1 hb1)
          go_roundw
          case rel => exact ⟨m + 1, a', c', by omega, by go_num, rfl, by rw [hR.out, ← List.append_assoc]; exact hown1, hb1⟩
          case measure => simp [intOf]; omega
        · have e : m = n - 1 - k := by omega
          go_wp2
          go_roundw
          case rel =>
            have hl : (pairsUpto n (k + 1)).length = P.length + m := by rw [HS.out, List.length_append, rowP_length, e]
            exact ⟨k + 1, a2, c2, by omega, by go_num, by rw [hl], by rw [hl, HS.out, ← e]; exact hown2, hb2⟩
          case measure => simp [intOf]; omega
    · have e : k = n := by omega
      subst e
      go_wp2
      go_ret
      exact ⟨a, c, rfl, hown, hb⟩

theorem ClipE_any (a : Option Addr) (c n : Nat) (w : World) (_h : n ≤ c) (_hl : n ≤ 8796093022208) :
    Calls Try.prog 153 #[.slice a n c] w fun e w' => e = .returned (.slice a n n) ∧ w' = w := by
  go_enter Try.func153, Try.ntmps153
  go_wp2
  go_ret
  exact ⟨rfl, rfl⟩

theorem own_capE {w : World} {B T s n c : Nat} {a : Option Addr} {cs : List Value} (h : w.ownsRow B T s (.slice a n c) n cs) : n ≤ c := by
  rcases h.2 with ⟨h1, h2⟩ | ⟨g, cap, cur, h1, hB, hg, hn, _⟩
  · omega
  · cases h1
    exact hn

/-- 'append(s, Edge{x, y})' onto an owned row of edges: what else is told of memory. -/
theorem appendEg {w : World} {B : Nat} {x y : Int}
    {ops : Array Oper} {rest : List Oper} {o : Oper} {a : Act} {Q : Exit → Act → World → Prop} (s t : Operand) (hgd : o.guard = none)
    (ho : o.op = .call { callee := .builtin .append, args := #[s, t], argTypes := #[23, 23] })
    {a0 : Option Addr} {n c cx : Nat} {es : List E2} (hown : w.ownsRow B 48 2 (.slice a0 n c) n (edges es)) (hBw : B ≤ w.heap.size)
    (hs : a.eval s = .slice a0 n c) (hx : a.eval t = .slice (some ⟨w.heap.size, 0, none⟩) 1 cx) (hN : n + 1 ≤ 8796093022208)
    (h : ∀ a' c' w', w'.ownsRow B 48 2 (.slice a' (n + 1) c') (n + 1) (edges (es ++ [(x, y)])) → w.grownBy w' (Value.slice a0 n c).ownBlock → (∀ x, a' = some x → (Value.slice a0 n c).ownBlock = some x.block ∨ w.heap.size ≤ x.block) → wpList Try.prog ops Q rest (a.put o.dst (.slice a' (n + 1) c')) w') :
    wpList Try.prog ops Q (o :: rest) a (w.alloc (.cells #[.int .i64 x, .int .i64 y] 48)) :=
  append1g Try.infoE s t hgd ho hown (World.grownBy.refl _ _) hBw hs hx rfl (by intro u hu; simp at hu; rcases hu with rfl | rfl <;> rfl) (by omega) (fun a' c' w' h1 h2 h3 => h a' c' w' (by rw [edges_append]; exact h1) h2 h3)

/-- A function value of two numbers that answers 'p' on the pairs, over memory that lies as it did at 'w'. -/
def AnswersE (w : World) (K : Nat) (cap : Array Value) (L : List E2) (p : E2 → Bool) : Prop :=
  Enters Try.prog K ∧ ∀ w' e, Below w.heap.size w w' → e ∈ L → Calls Try.prog K (#[.int .i64 e.1, .int .i64 e.2] ++ cap) w' fun r w'' => r = .returned (.bool (p e)) ∧ Below w'.heap.size w' w''

set_option maxHeartbeats 4000000 in
theorem which_any (N : Nat) (K : Nat) (cap : Array Value) (p : E2 → Bool) (w : World) (hN : N ≤ 1000) (hf : AnswersE w K cap (pairsL N) p) :
    Calls Try.prog 79 #[.int .i64 N, .func (.func K) #[] cap] w fun e w' => ∃ a' c', e = .returned (graphV N a' ((pairsL N).filter p).length ((pairsL N).filter p).length) ∧
      w'.ownsRow w.heap.size 48 2 (.slice a' ((pairsL N).filter p).length c') ((pairsL N).filter p).length (edges ((pairsL N).filter p)) ∧ Below w.heap.size w w' := by
  obtain ⟨hK0, hf⟩ := hf
  have hK : ∀ args w, (callFunc K args).run Try.prog w = .ok (.enter K args) w := hK0
  have hB := below_alloc w (.cells #[.int .i64 0, .slice none 0 0] 25)
  have q0 := heap_alloc_new w (.cells #[.int .i64 0, .slice none 0 0] 25)
  generalize hW : w.alloc (.cells #[.int .i64 0, .slice none 0 0] 25) = W at *
  have HW := Lib.hid hW
  have hWs : w.heap.size < W.heap.size := by rw [← hW]; simp
  clear hW
  have HP := implPairs_any N W hN
  have hpl := pairsL_len hN
  go_enter Try.func79, Try.ntmps79
  go_wp2_with (simp only [HW.out])
  refine HP.mono ?_
  rintro e w5 ⟨aL, cL, rfl, hoL, hb5⟩
  have q0 := blk_below q0 hb5
  have hoL := own_mono hoL hB.size
  have hB5 := below_tr' hB hb5
  have hnil : w5.ownsRow w.heap.size 48 2 (.slice none 0 0) 0 (edges []) := World.ownsRow_nil _ _ _ _
  clear hb5 HP
  obtain ⟨L, hL⟩ : ∃ L, L = pairsL N := ⟨_, rfl⟩
  have HL := Lib.hid hL
  rw [← hL] at hoL hpl hf
  obtain ⟨m, hm⟩ : ∃ m, m = L.length := ⟨_, rfl⟩
  rw [← hm] at hoL hpl
  go_wp2_with fail
  rw [← HL.out, ← hm]
  have HM := Lib.hid hm
  clear hm hL
  go_loopw [5, 7, 11] (fun v _ i wr => ∃ (k : Nat) (av : Option Addr) (kv cv : Nat), k ≤ m ∧ i = .int .i64 k ∧ v = .slice av kv cv ∧ kv = (filtUpto L p k).length ∧
      wr.ownsRow w.heap.size 48 2 (.slice av kv cv) kv (edges (filtUpto L p k)) ∧
      wr.heap[w.heap.size]? = some (.cells #[.int .i64 0, .slice none 0 0] 25 (0, 0)) ∧
      wr.ownsRow w.heap.size 48 2 (.slice aL m cL) m (edges L) ∧ Apart aL av ∧ Below w.heap.size w wr) (fun _ _ i _ => m - (intOf i).toNat)
  case atStart => exact ⟨0, none, 0, 0, by omega, rfl, rfl, by simp [filtUpto], hnil, q0, hoL, (fun x y _ h => by cases h), hB5⟩
  case round =>
    obtain ⟨k, av, kv, cv, hk, rfl, rfl, hkv, ho, r0, hLo, hapr, hb⟩ := hrel
    by_cases hlt : k < m
    · have hLk : k < L.length := by rw [← HM.out]; exact hlt
      obtain ⟨b1, o1, rfl, c1, c2⟩ := (own_rd hLo).edge (k := k) hLk
      have HY := Lib.hid (filt_yes (p := p) hLk)
      have HNo := Lib.hid (filt_no (p := p) hLk)
      have hkl := filt_len L p k
      rw [← hkv] at hkl
      have HF1 := Lib.hid (fun w' hb' => hf w' (L[k]'hLk) hb' (List.getElem_mem hLk))
      generalize hF : filtUpto L p k = F at *
      have HF := Lib.hid hF
      generalize hXY : (L[k]'hLk) = XY at *
      obtain ⟨X, Y⟩ := XY
      have HAL := below_alloc wr (.cells #[.int .i64 X, .int .i64 Y] 48)
      have qe := heap_alloc_new wr (.cells #[.int .i64 X, .int .i64 Y] 48)
      have r0 := blk_below r0 HAL
      have ho := own_below ho HAL
      have hLo := own_below hLo HAL
      have hb2 := below_tr' hb HAL
      generalize hV : wr.alloc (.cells #[.int .i64 X, .int .i64 Y] 48) = V at *
      have HV := Lib.hid hV
      have g0 := blk_cell qe 0 (.int .i64 X) rfl
      have g1 := blk_cell qe 1 (.int .i64 Y) rfl
      have HC := HF1.out V hb2
      simp only at c1 c2 HC
      have HKV := Lib.hid hkv
      have QE := Lib.hid qe
      have R0 := Lib.hid r0
      clear hF hXY hkv HF1 hV HAL qe r0
      cases hV : p (X, Y)
      · rw [hV] at HC
        have HNo := Lib.hid (HNo.out hV)
        clear HY
        go_wp2_with (simp only [HV.out])
        refine HC.mono ?_
        rintro e w1 ⟨rfl, hb1⟩
        have r0 := blk_below R0.out hb1
        have ho := own_below ho hb1
        have hLo := own_below hLo hb1
        have hb3 := below_tr' hb2 hb1
        clear HC g0 g1
        go_wp2
        go_roundw
        case rel => exact ⟨k + 1, av, kv, cv, by omega, by go_num, rfl, by rw [HNo.out]; exact HKV.out, by rw [HNo.out]; exact ho, r0, hLo, hapr, hb3⟩
        case measure => simp [intOf]; omega
      · rw [hV] at HC
        have HY := Lib.hid (HY.out hV)
        clear HNo
        go_wp2_with (simp only [HV.out])
        refine HC.mono ?_
        rintro e w1 ⟨rfl, hb1⟩
        have r0 := blk_below R0.out hb1
        have qe := blk_below QE.out hb1
        have ho := own_below ho hb1
        have hLo := own_below hLo hb1
        have hb3 := below_tr' hb2 hb1
        have hsz := hb3.size
        clear HC g0 g1
        have g0 := blk_cell qe 0 (.int .i64 X) rfl
        have g1 := blk_cell qe 1 (.int .i64 Y) rfl
        clear qe
        go_wp2_with (at_builtin; refine appendEg _ _ rfl rfl ho hsz rfl rfl (by omega) ?_; intro a' c' w2 ho2 hg2 hf2)
        have r2 := blk_grown r0 hg2 (own_ne ho r0 (by decide))
        have hL2 := own_kept hLo hg2 hapr
        have hb4 := below_row hb3 (Nat.le_refl _) ho hg2
        have hap2 := apart_append hapr (fun x hx => by cases hx; exact (own_lt hLo _ rfl).2) hf2
        go_roundw
        case rel => exact ⟨k + 1, a', kv + 1, c', by omega, by go_num, rfl, by rw [HY.out, List.length_append, ← HKV.out]; rfl, by rw [HY.out]; exact ho2, r2, hL2, hap2, hb4⟩
        case measure => simp [intOf]; omega
    · have e : k = m := by omega
      subst e
      have hE : filtUpto L p k = (pairsL N).filter p := by rw [HM.out, HL.out]; exact filt_all _ _
      rw [hE] at ho hkv
      have HO := Lib.hid ho
      have HKV := Lib.hid hkv
      have hkl := filt_len (pairsL N) p (pairsL N).length
      rw [filt_all, ← hkv, ← HL.out, ← HM.out] at hkl
      have HCL := ClipE_any av cv kv wr (own_capE ho) (by omega)
      have R0 := Lib.hid r0
      have z0 := blk_cell r0 0 (.int .i64 0) rfl
      have z1 := blk_cell r0 1 (.slice none 0 0) rfl
      have f0 := blk_free r0 0
      have f1 := blk_free r0 1
      clear ho hkv hLo hE r0
      have sO := own_setOther (own_setOther HO.out w.heap.size 0 (.int .i64 (N : Int)) (own_ne HO.out R0.out (by decide))) w.heap.size 1 (.slice av kv kv) (own_ne HO.out R0.out (by decide))
      have sB := (hb.setCell (p := ⟨w.heap.size, 0, none⟩) (by simp) (.int .i64 (N : Int))).setCell (p := ⟨w.heap.size, 1, none⟩) (by simp) (.slice av kv kv)
      have SO := Lib.hid sO
      have SB := Lib.hid sB
      clear sO sB
      go_wp2_with fail
      refine HCL.mono ?_
      rintro e w1 ⟨rfl, rfl⟩
      clear HCL
      go_wp2
      refine bodyPost_ret (v := graphV N av kv kv) (by simp [results, Try.results79, go_sem, z0, z1]) rfl ⟨av, cv, ?_, ?_, SB.out⟩
      · rw [HKV.out]
      · rw [← HKV.out]; exact SO.out

end Go.Proofs.Ytjghcegacgpehaa
