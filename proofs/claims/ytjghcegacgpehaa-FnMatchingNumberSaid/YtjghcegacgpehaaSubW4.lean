
/- The program's subgraphs as a whole. -/
import Derived.Test.YtjghcegacgpehaaSubW3
namespace Go.Proofs.Ytjghcegacgpehaa
open Go.RowKit

section
variable {σ : Type} {St : σ → List Nat → World → Prop} {go : σ → List N2 → σ × Bool} {sz : σ → Nat} {M : Nat}
set_option maxHeartbeats 4000000 in
theorem subgraphs_any (N : Nat) (af ad : Option Addr) (nf cf cd K : Nat) (cap : Array Value) (fs : List N2) (L : List Nat) (s : σ) (l : List Nat) (w : World) (hK : Keeps St) (hT : Takes K cap N M sz St go) (hgo : ∀ s x, sz (go s x).1 ≤ sz s + 1)
    (hN : N ≤ 7) (hnf : fs.length = nf) (hnf2 : nf ≤ 900) (hfs : ∀ e ∈ fs, e.1 < N ∧ e.2 < N ∧ e.1 ≠ e.2) (hL : L.length = N) (hLb : ∀ v, L.getD v 0 ≤ 900) (hM : sz s + (solsN fs L []).length ≤ M)
    (hxf : Rd w af (edges (en2 fs))) (hfb : ∀ i ∈ blks af, i < w.heap.size ∧ i ∉ l) (hxd : Rd w ad (ints (intsN L))) (hnil : ad = none → N = 0 ∧ cd = 0) (hS : St s l w) :
    Calls Try.prog 140 #[.int .i64 N, .slice af nf cf, .slice ad N cd, .func (.func K) #[] cap] w fun e w' => (∃ v, e = .returned v) ∧ ∃ l', St (foldGo go s (solsN fs L [])).1 l' w' ∧ (∀ j ∈ l', j ∈ l ∨ w.heap.size ≤ j) ∧ FrL l w w' := by
  have hlt := hK.lt _ _ _ hS
  obtain ⟨W3, hW3⟩ : ∃ W, W = ((w.alloc (.cells #[.int .i64 N] 3)).alloc (.cells #[.slice af nf cf] 23)).alloc (.cells #[.func (.func K) #[] cap] 46) := ⟨_, rfl⟩
  have hB3 : Below w.heap.size w W3 := by rw [hW3]; exact below_tr' (below_alloc2 w _ _) (below_alloc _ _)
  have hs3 : W3.heap.size = w.heap.size + 1 + 1 + 1 := by rw [hW3]; simp
  have q1 : W3.heap[w.heap.size]? = some (.cells #[.int .i64 N] 3 (0, 0)) := by
    rw [hW3, heap_alloc_old _ _ (by simp; omega), heap_alloc_old _ _ (by simp), heap_alloc_new]
  have q2 : W3.heap[w.heap.size + 1]? = some (.cells #[.slice af nf cf] 23 (0, 0)) := by
    rw [hW3, heap_alloc_old _ _ (by simp), show w.heap.size + 1 = (w.alloc (.cells #[.int .i64 N] 3)).heap.size from by simp, heap_alloc_new]
  have q3 : W3.heap[w.heap.size + 1 + 1]? = some (.cells #[.func (.func K) #[] cap] 46 (0, 0)) := by
    rw [hW3, show w.heap.size + 1 + 1 = ((w.alloc (.cells #[.int .i64 N] 3)).alloc (.cells #[.slice af nf cf] 23)).heap.size from by simp, heap_alloc_new]
  have C1 := clone_any ad cd N (intsN L) W3 (by rw [intsN_length]; exact hL) (hxd.below hB3) (by omega) hnil
  have HW3 := Lib.hid hW3
  clear hW3
  go_enter Try.func140, Try.ntmps140
  go_wp2_with fail
  rw [← HW3.out]
  refine C1.mono ?_
  rintro e w1 ⟨al, cl, rfl, ho, hb⟩
  have hB1 := below_tr' hB3 hb
  have q1 := blk_below q1 hb
  have q2 := blk_below q2 hb
  have q3 := blk_below q3 hb
  have ho0 := ho
  have ho := own_mono ho hB3.size
  have hgs1 := hb.size
  have HO1 := Lib.hid (fun i hi => (own_blks ho i hi).2)
  have hor : ∀ i ∈ blks al, w.heap.size + 1 + 1 + 1 ≤ i := fun i hi => by have := (own_blks ho0 i hi).1; omega
  clear C1 hb ho0
  have hB6 : Below w1.heap.size w1 (((w1.alloc (.cells #[.slice al N N] 38)).alloc (.cells #[.slice none 0 0] 23)).alloc (.cells #[.nilFunc] 106)) := below_tr' (below_alloc2 w1 _ _) (below_alloc _ _)
  have hs6 : (((w1.alloc (.cells #[.slice al N N] 38)).alloc (.cells #[.slice none 0 0] 23)).alloc (.cells #[.nilFunc] 106)).heap.size = w1.heap.size + 1 + 1 + 1 := by simp
  have q4 : (((w1.alloc (.cells #[.slice al N N] 38)).alloc (.cells #[.slice none 0 0] 23)).alloc (.cells #[.nilFunc] 106)).heap[w1.heap.size]? = some (.cells #[.slice al N N] 38 (0, 0)) := by
    rw [heap_alloc_old _ _ (by simp; omega), heap_alloc_old _ _ (by simp), heap_alloc_new]
  have q5 : (((w1.alloc (.cells #[.slice al N N] 38)).alloc (.cells #[.slice none 0 0] 23)).alloc (.cells #[.nilFunc] 106)).heap[w1.heap.size + 1]? = some (.cells #[.slice none 0 0] 23 (0, 0)) := by
    rw [heap_alloc_old _ _ (by simp), show w1.heap.size + 1 = (w1.alloc (.cells #[.slice al N N] 38)).heap.size from by simp, heap_alloc_new]
  have q6 : (((w1.alloc (.cells #[.slice al N N] 38)).alloc (.cells #[.slice none 0 0] 23)).alloc (.cells #[.nilFunc] 106)).heap[w1.heap.size + 1 + 1]? = some (.cells #[.nilFunc] 106 (0, 0)) := by
    rw [show w1.heap.size + 1 + 1 = ((w1.alloc (.cells #[.slice al N N] 38)).alloc (.cells #[.slice none 0 0] 23)).heap.size from by simp, heap_alloc_new]
  have q1 := blk_below q1 hB6
  have q2 := blk_below q2 hB6
  have q3 := blk_below q3 hB6
  have ho := own_below ho hB6
  have hB7 := below_tr' hB1 hB6
  generalize hW6 : ((w1.alloc (.cells #[.slice al N N] 38)).alloc (.cells #[.slice none 0 0] 23)).alloc (.cells #[.nilFunc] 106) = W6 at *
  have HW6 := Lib.hid hW6
  have z6 := blk_cell q6 0 .nilFunc rfl
  have f6 := blk_free q6 0
  clear hW6 hB6
  go_upto_region 5 with (simp only [HW6.out])
  have hP : WalkOK ⟨w.heap.size, w.heap.size, w.heap.size + 1, w.heap.size + 1 + 1, w1.heap.size, w1.heap.size + 1, w1.heap.size + 1 + 1, N, nf, cf, af, K, cap, al, cl, N, fs⟩ := by
    refine ⟨hN, hnf, hnf2, hfs, fun i hi => (hfb i hi).1, ?_, ?_⟩
    · intro i hi
      simp only [WalkP.vars, List.mem_cons, List.not_mem_nil, or_false] at hi
      show w.heap.size ≤ i
      omega
    · simp only [WalkP.vars, List.nodup_cons, List.mem_cons, List.not_mem_nil, or_false, not_or, List.nodup_nil, and_true, not_false_eq_true]
      refine ⟨⟨by omega, by omega, by omega, by omega, by omega⟩, ⟨by omega, by omega, by omega, by omega⟩, ⟨by omega, by omega, by omega⟩, ⟨by omega, by omega⟩, by omega⟩
  have hoB := own_blks ho
  have hob1 : ∀ i ∈ blks al, i < w1.heap.size := HO1.out
  have hb8 : Below w.heap.size w (W6.setCell ⟨w1.heap.size + 1 + 1, 0, none⟩ (.func (.func 186) #[] #[.pointer (some ⟨w.heap.size + 1, 0, none⟩), .pointer (some ⟨w1.heap.size, 0, none⟩), .pointer (some ⟨w.heap.size + 1 + 1, 0, none⟩), .pointer (some ⟨w.heap.size, 0, none⟩), .pointer (some ⟨w1.heap.size + 1, 0, none⟩), .pointer (some ⟨w1.heap.size + 1 + 1, 0, none⟩)])) := hB7.setCell (p := ⟨w1.heap.size + 1 + 1, 0, none⟩) (by simp; omega) _
  have hW7 : WalkSt ⟨w.heap.size, w.heap.size, w.heap.size + 1, w.heap.size + 1 + 1, w1.heap.size, w1.heap.size + 1, w1.heap.size + 1 + 1, N, nf, cf, af, K, cap, al, cl, N, fs⟩ L [] none 0 (W6.setCell ⟨w1.heap.size + 1 + 1, 0, none⟩ (.func (.func 186) #[] #[.pointer (some ⟨w.heap.size + 1, 0, none⟩), .pointer (some ⟨w1.heap.size, 0, none⟩), .pointer (some ⟨w.heap.size + 1 + 1, 0, none⟩), .pointer (some ⟨w.heap.size, 0, none⟩), .pointer (some ⟨w1.heap.size + 1, 0, none⟩), .pointer (some ⟨w1.heap.size + 1 + 1, 0, none⟩)])) := by
    refine ⟨blk_set_other q1 0 _ (by omega), blk_set_other q2 0 _ (by omega), blk_set_other q3 0 _ (by omega), blk_set_other q4 0 _ (by omega), blk_set_other q5 0 _ (by omega), blk_set q6 0 _, own_setOther ho _ 0 _ (own_ne ho q6 (by decide)), World.ownsRow_nil _ _ _ _, hxf.below hb8, ?_, ?_⟩
    · intro i hi
      refine ⟨fun h' => ?_, by simp [blks]⟩
      have h1 := hob1 i h'
      have h2 := hor i h'
      simp only [WalkP.vars, List.mem_cons, List.not_mem_nil, or_false] at hi
      omega
    · intro i _; simp [blks]
  have hS7 := hK.stay _ _ _ _ hS (fun j hj => hb8.block j (hlt j hj))
  have hsep : SepW ⟨w.heap.size, w.heap.size, w.heap.size + 1, w.heap.size + 1 + 1, w1.heap.size, w1.heap.size + 1, w1.heap.size + 1 + 1, N, nf, cf, af, K, cap, al, cl, N, fs⟩ none l := by
    intro j hj
    have h1 := hlt j hj
    refine ⟨fun h' => ?_, fun h' => ?_, by simp [blks], fun h' => (hfb j h').2 hj⟩
    · simp only [WalkP.vars, List.mem_cons, List.not_mem_nil, or_false] at h'
      omega
    · have := (hoB j h').1; omega
  have C2 := walk_any (P := ⟨w.heap.size, w.heap.size, w.heap.size + 1, w.heap.size + 1 + 1, w1.heap.size, w1.heap.size + 1, w1.heap.size + 1 + 1, N, nf, cf, af, K, cap, al, cl, N, fs⟩) hK hT hgo hP fs [] L [] s l none 0 _ rfl (by simp; omega) hL hLb hM hW7 hS7 hsep
  rw [show ((([] : List N2).length : Nat) : Int) = 0 from rfl] at C2
  have k6 := blk_cell hW7.hw 0 (WalkP.fn ⟨w.heap.size, w.heap.size, w.heap.size + 1, w.heap.size + 1 + 1, w1.heap.size, w1.heap.size + 1, w1.heap.size + 1 + 1, N, nf, cf, af, K, cap, al, cl, N, fs⟩) rfl
  simp only [WalkP.fn] at k6
  have F7 := Lib.hid (FrL.of_below hb8 l)
  have hgs7 := hb8.size
  have HOB := Lib.hid (fun j h' => (hoB j h').1)
  have hEW : ∀ args w, (callFunc 186 args).run Try.prog w = .ok (.enter 186 args) w := enters_walk
  generalize hV7 : W6.setCell ⟨w1.heap.size + 1 + 1, 0, none⟩ (.func (.func 186) #[] #[.pointer (some ⟨w.heap.size + 1, 0, none⟩), .pointer (some ⟨w1.heap.size, 0, none⟩), .pointer (some ⟨w.heap.size + 1 + 1, 0, none⟩), .pointer (some ⟨w.heap.size, 0, none⟩), .pointer (some ⟨w1.heap.size + 1, 0, none⟩), .pointer (some ⟨w1.heap.size + 1 + 1, 0, none⟩)]) = W7 at *
  clear hV7 hW7 hS7 hsep hP hb8 hB7 ho q1 q2 q3 q4 q5 q6 z6 f6 hxf hxd
  go_wp2_with fail
  refine C2.mono ?_
  rintro e' w8 ⟨rfl, ac', cc', l', r1, r2, r3, r4, r5, r6⟩
  rw [walkN_fold] at r2
  have HH := Lib.hid (And.intro r2 (And.intro r4 r6))
  generalize (walkN go fs L [] s).2 = V at *
  clear r1 r2 r3 r4 r5 r6 C2 k6
  go_wp2
  refine bodyPost_end (v := .tuple #[]) (by simp [results, Try.results140, go_sem]) rfl ?_
  refine ⟨⟨_, rfl⟩, l', HH.out.1, fun j hj => ?_, F7.out.then HH.out.2.2 (fun j hj => ?_)⟩
  · rcases HH.out.2.1 j hj with h1 | h1
    · exact .inl h1
    · right; omega
  · simp only [List.mem_append, List.mem_cons] at hj
    rcases hj with h1 | h1 | h1 | h1
    · exact .inl h1
    · right; omega
    · right; exact HOB.out j h1
    · simp [blks] at h1
end

end Go.Proofs.Ytjghcegacgpehaa
