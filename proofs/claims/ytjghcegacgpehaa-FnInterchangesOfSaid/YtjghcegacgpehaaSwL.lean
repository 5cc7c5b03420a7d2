
/- Rows of switches (four cells each); the laws' helpers on them. -/
import Derived.Test.YtjghcegacgpehaaBlk
import Derived.Test.YtjghcegacgpehaaBase
import Derived.Test.YtjghcegacgpehaaChecked
namespace Go.Proofs.Ytjghcegacgpehaa
open Go.RowKit

abbrev S4 := Int × Int × Int × Int
def sws (l : List S4) : List Value := l.flatMap fun s => [.int .i64 s.1, .int .i64 s.2.1, .int .i64 s.2.2.1, .int .i64 s.2.2.2]

theorem sws_cons (s : S4) (l : List S4) : sws (s :: l) = .int .i64 s.1 :: .int .i64 s.2.1 :: .int .i64 s.2.2.1 :: .int .i64 s.2.2.2 :: sws l := by simp [sws]
theorem sws_append (xs ys : List S4) : sws (xs ++ ys) = sws xs ++ sws ys := by simp [sws]
theorem sws_length (l : List S4) : (sws l).length = l.length * 4 := by
  induction l with
  | nil => rfl
  | cons e l ih => rw [sws_cons]; simp only [List.length_cons, ih]; omega
theorem sws_get (l : List S4) (k : Nat) (h : k < l.length) : (sws l)[k * 4]? = some (.int .i64 (l[k]'h).1) ∧ (sws l)[k * 4 + 1]? = some (.int .i64 (l[k]'h).2.1) ∧ (sws l)[k * 4 + 2]? = some (.int .i64 (l[k]'h).2.2.1) ∧ (sws l)[k * 4 + 3]? = some (.int .i64 (l[k]'h).2.2.2) := by
  induction l generalizing k with
  | nil => simp at h
  | cons e l ih =>
    rw [sws_cons]
    cases k with
    | zero => simp
    | succ k =>
      have h' : k < l.length := by simpa using h
      obtain ⟨h1, h2, h3, h4⟩ := ih k h'
      rw [show (k + 1) * 4 = k * 4 + 4 by omega, show k * 4 + 4 + 1 = k * 4 + 1 + 4 by omega, show k * 4 + 4 + 2 = k * 4 + 2 + 4 by omega, show k * 4 + 4 + 3 = k * 4 + 3 + 4 by omega]
      simp only [List.getElem?_cons_succ, List.getElem_cons_succ]
      exact ⟨h1, h2, h3, h4⟩

theorem Rd.sw {w : World} {a : Option Addr} {l : List S4} (h : Rd w a (sws l)) {k : Nat} (hk : k < l.length) :
    ∃ b off, a = some ⟨b, off, none⟩ ∧ w.cell? ⟨b, off + k * 4, none⟩ = some (.int .i64 (l[k]'hk).1) ∧ w.cell? ⟨b, off + k * 4 + 1, none⟩ = some (.int .i64 (l[k]'hk).2.1) ∧ w.cell? ⟨b, off + k * 4 + 2, none⟩ = some (.int .i64 (l[k]'hk).2.2.1) ∧ w.cell? ⟨b, off + k * 4 + 3, none⟩ = some (.int .i64 (l[k]'hk).2.2.2) := by
  obtain ⟨h1, h2, h3, h4⟩ := sws_get l k hk
  obtain ⟨b, off, rfl, c1⟩ := h _ _ h1
  obtain ⟨b', off', e, c2⟩ := h _ _ h2
  cases e
  obtain ⟨b', off', e, c3⟩ := h _ _ h3
  cases e
  obtain ⟨b', off', e, c4⟩ := h _ _ h4
  cases e
  exact ⟨b, off, rfl, c1, c2, c3, c4⟩

theorem Try.infoSw : (Try.prog.info? 60).map (fun i => (i.zero, i.size, i.bytes)) = some (some (.agg #[.int .i64 0, .int .i64 0, .int .i64 0, .int .i64 0]), 4, 32) := by kernel_rfl
theorem Try.infoS : Info Try.prog 54 60 (.agg #[.int .i64 0, .int .i64 0, .int .i64 0, .int .i64 0]) 4 32 := ⟨Try.underlying54, Try.infoSw, rfl, by decide, by decide⟩

/-- 'append(s, Switch{..})' onto an owned row of switches. -/
theorem appendS {w0 w : World} {B0 B : Nat} {p q r s4 : Int}
    {ops : Array Oper} {rest : List Oper} {o : Oper} {a : Act} {Q : Exit → Act → World → Prop} (s t : Operand) (hgd : o.guard = none)
    (ho : o.op = .call { callee := .builtin .append, args := #[s, t], argTypes := #[54, 54] })
    {a0 : Option Addr} {n c cx : Nat} {l : List S4} (hown : w.ownsRow B 60 4 (.slice a0 n c) n (sws l)) (hb : Below B0 w0 w) (hB : B0 ≤ B) (hBw : B ≤ w.heap.size)
    (hs : a.eval s = .slice a0 n c) (hx : a.eval t = .slice (some ⟨w.heap.size, 0, none⟩) 1 cx) (hN : n + 1 ≤ 4398046511104)
    (h : ∀ a' c' w', w'.ownsRow B 60 4 (.slice a' (n + 1) c') (n + 1) (sws (l ++ [(p, q, r, s4)])) → Below B0 w0 w' → wpList Try.prog ops Q rest (a.put o.dst (.slice a' (n + 1) c')) w') :
    wpList Try.prog ops Q (o :: rest) a (w.alloc (.cells #[.int .i64 p, .int .i64 q, .int .i64 r, .int .i64 s4] 60)) :=
  append1 Try.infoS s t hgd ho hown hb hB hBw hs hx rfl (by intro u hu; simp at hu; rcases hu with rfl | rfl | rfl | rfl <;> rfl) (by omega) (fun a' c' w' h1 h2 => h a' c' w' (by rw [sws_append]; exact h1) h2)

theorem sws_set (es : List S4) (k : Nat) (h : k < es.length) (x : S4) : ((((sws es).set (k * 4) (.int .i64 x.1)).set (k * 4 + 1) (.int .i64 x.2.1)).set (k * 4 + 2) (.int .i64 x.2.2.1)).set (k * 4 + 3) (.int .i64 x.2.2.2) = sws (es.set k x) := by
  induction es generalizing k with
  | nil => simp at h
  | cons e l ih =>
    rw [sws_cons]
    cases k with
    | zero => simp [sws_cons]
    | succ k =>
      have h' : k < l.length := by simpa using h
      rw [show (k + 1) * 4 = k * 4 + 4 by omega, show k * 4 + 4 + 1 = k * 4 + 1 + 4 by omega, show k * 4 + 4 + 2 = k * 4 + 2 + 4 by omega, show k * 4 + 4 + 3 = k * 4 + 3 + 4 by omega]
      simp only [List.set_cons_succ]
      rw [ih k h', sws_cons]

def marksS (k : Int) (n : Nat) : List S4 := (List.range n).map fun i : Nat => (k + 4 * (i : Int), k + 4 * (i : Int) + 1, k + 4 * (i : Int) + 1 + 1, k + 4 * (i : Int) + 1 + 1 + 1)
theorem marksS_length (k : Int) (n : Nat) : (marksS k n).length = n := by simp [marksS]
theorem marksS_succ (k : Int) (n : Nat) : marksS k (n + 1) = marksS k n ++ [(k + 4 * (n : Int), k + 4 * (n : Int) + 1, k + 4 * (n : Int) + 1 + 1, k + 4 * (n : Int) + 1 + 1 + 1)] := by simp [marksS, List.range_succ]
theorem marksS_get (k : Int) (n i : Nat) (h : i < n) : (marksS k n)[i]'(by rw [marksS_length]; exact h) = (k + 4 * (i : Int), k + 4 * (i : Int) + 1, k + 4 * (i : Int) + 1 + 1, k + 4 * (i : Int) + 1 + 1 + 1) := by simp [marksS]
theorem marksS_set (k : Int) (es : List S4) (n j : Nat) (hn : es.length = n) (hj : j < n) : (marksS k j ++ es.drop j).set j (k + 4 * (j : Int), k + 4 * (j : Int) + 1, k + 4 * (j : Int) + 1 + 1, k + 4 * (j : Int) + 1 + 1 + 1) = marksS k (j + 1) ++ es.drop (j + 1) := by
  rw [List.drop_eq_getElem_cons (by omega), List.set_append_right _ _ (by rw [marksS_length]; omega), marksS_length, Nat.sub_self, List.set_cons_zero, marksS_succ]
  simp

theorem own_swLen {w : World} {B T n c : Nat} {a : Option Addr} {es : List S4} (ho : w.ownsRow B T 4 (.slice a n c) n (sws es)) : es.length = n := by
  have := ho.1; rw [sws_length] at this; omega

end Go.Proofs.Ytjghcegacgpehaa
