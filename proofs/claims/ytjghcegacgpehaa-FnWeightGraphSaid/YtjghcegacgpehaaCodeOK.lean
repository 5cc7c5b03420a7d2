
/- The bytes of a drawn input. -/
import Derived.Test.YtjghcegacgpehaaRead
namespace Go.Proofs.Ytjghcegacgpehaa
open Go.RowKit

/-- The bytes of a drawn input, for reading. -/
def CodeOK (w : World) (a : Option Addr) (c n : Nat) (bs : List Int) : Prop := n ≤ bs.length ∧ n ≤ c ∧ Rd w a (bytesV bs) ∧ (∀ x ∈ bs, 0 ≤ x ∧ x < 256) ∧ ∀ x, a = some x → bs ≠ [] → x.block < w.heap.size
theorem CodeOK.below {w w' : World} {a : Option Addr} {c n : Nat} {bs : List Int} (h : CodeOK w a c n bs) (hb : Below w.heap.size w w') : CodeOK w' a c n bs :=
  ⟨h.1, h.2.1, h.2.2.1.below hb, h.2.2.2.1, fun x hx h0 => Nat.lt_of_lt_of_le (h.2.2.2.2 x hx h0) hb.size⟩
theorem codeOK_nil (w : World) : CodeOK w none 0 0 [] := ⟨by simp, Nat.le_refl _, Rd.nil _ _, by simp, by simp⟩
theorem codeOK_some {w : World} {x : Addr} {len cap : Nat} {zs : List Int} (hl : len ≤ cap) (hz : zs.length = cap) (hc : ∀ i, i < zs.length → w.cell? (x.add i) = some (.int .u8 (zs.getD i 0))) (hw : ∀ n ∈ zs, (Lit.int .u8 n).wf = true) :
    ∃ zs', CodeOK w (some x) cap len zs' := by
  have hby : ∀ n ∈ zs, 0 ≤ n ∧ n < 256 := by
    intro n hn
    have h := hw n hn
    have e1 : IntKind.u8.min = 0 := rfl
    have e2 : IntKind.u8.max = 255 := rfl
    simp only [Lit.wf, Bool.and_eq_true, decide_eq_true_eq] at h
    omega
  by_cases h0 : cap = 0
  · have : zs = [] := List.eq_nil_of_length_eq_zero (by omega)
    subst this
    exact ⟨[], by simp; omega, hl, Rd.nil _ _, by simp, fun _ _ h => absurd rfl h⟩
  · obtain ⟨b, off, spot⟩ := x
    have hspot : spot = none := by simpa [Addr.add] using World.cell?_spot (hc 0 (by omega))
    subst hspot
    have hadd : ∀ n, (⟨b, off, none⟩ : Addr).add n = ⟨b, off + n, none⟩ := by intro n; unfold Addr.add; split <;> simp_all
    refine ⟨zs, by omega, hl, ?_, hby, fun y hy _ => by cases hy; have h1 := hc 0 (by omega); rw [hadd] at h1; exact Rd.lt h1⟩
    intro j u hu
    refine ⟨b, off, rfl, ?_⟩
    have hj : j < zs.length := by have := (List.getElem?_eq_some_iff.1 hu).1; simpa [bytesV] using this
    have h1 := hc j hj
    rw [hadd] at h1
    rw [h1]
    simp [bytesV, hj, List.getD_eq_getElem?_getD] at hu ⊢
    exact hu

end Go.Proofs.Ytjghcegacgpehaa
