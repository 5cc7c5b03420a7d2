
/- slices.ContainsFunc on edges, and IsPart on both sides. (Printed by gen_ispart2.py.) -/
import Derived.Test.YtjmiafkkbganlaaIsPart
namespace Go.Proofs.Ytjmiafkkbganlaa
open Go.RowKit

/-- A function value of an edge that answers 'p', over memory that lies as it did at 'w'. -/
def AnswersF (w : World) (K : Nat) (cap : Array Value) (es : List E2) (p : E2 → Bool) : Prop :=
  Enters Try.prog K ∧ ∀ w' e, Below w.heap.size w w' → e ∈ es → Calls Try.prog K (#[.agg #[.int .i64 e.1, .int .i64 e.2]] ++ cap) w' fun r w'' => r = .returned (.bool (p e)) ∧ Below w'.heap.size w' w''

def idxP (p : E2 → Bool) (es : List E2) : Int := match es.findIdx? p with | some i => (i : Int) | none => -1
theorem idxP_none {p : E2 → Bool} {es : List E2} (h : ∀ j (hj : j < es.length), p (es[j]'hj) = false) : idxP p es = -1 := by
  have : es.findIdx? p = none := by
    rw [List.findIdx?_eq_none_iff]
    intro e he
    obtain ⟨i, hi, rfl⟩ := List.getElem_of_mem he
    exact h i hi
  simp [idxP, this]
theorem idxP_some {p : E2 → Bool} {es : List E2} {k : Nat} (hk : k < es.length) (h : ∀ j (_ : j < k) (hj : j < es.length), p (es[j]'hj) = false) (hp : p (es[k]'hk) = true) : idxP p es = k := by
  have : es.findIdx? p = some k := by
    rw [List.findIdx?_eq_some_iff_getElem]
    exact ⟨hk, hp, fun j hj => by simp [h j hj (by omega)]⟩
  simp [idxP, this]
theorem idxP_any (p : E2 → Bool) (es : List E2) : decide (0 ≤ idxP p es) = es.any p := by
  unfold idxP
  cases h : es.findIdx? p with
  | none =>
    rw [List.findIdx?_eq_none_iff] at h
    have : es.any p = false := by rw [List.any_eq_false]; intro x hx; simp [h x hx]
    simp [this]
  | some i =>
    obtain ⟨hi, hp, _⟩ := List.findIdx?_eq_some_iff_getElem.1 h
    have : es.any p = true := List.any_eq_true.2 ⟨_, List.getElem_mem hi, hp⟩
    simp [this]

set_option maxHeartbeats 1000000 in
theorem IndexFuncE_any (a : Option Addr) (c n : Nat) (es : List E2) (K : Nat) (cap : Array Value) (p : E2 → Bool) (w : World) (hn : es.length = n) (hx : Rd w a (edges es)) (hl : n ≤ 8796093022208) (hf : AnswersF w K cap es p) :
    Calls Try.prog 104 #[.slice a n c, .func (.func K) #[] cap] w fun e w' => e = .returned (.int .i64 (idxP p es)) ∧ Below w.heap.size w w' := by
  obtain ⟨hK0, hf⟩ := hf
  have hK : ∀ args w, (callFunc K args).run Try.prog w = .ok (.enter K args) w := hK0
  go_enter Try.func104, Try.ntmps104
  go_wp2
  go_loopw [5, 8] (fun _ i wr => ∃ k : Nat, k ≤ n ∧ i = .int .i64 k ∧ (∀ j (_ : j < k) (h : j < es.length), p (es[j]'h) = false) ∧ Below w.heap.size w wr) (fun _ i _ => n - (intOf i).toNat)
  case atStart => exact ⟨0, by omega, rfl, by intro j hj; omega, Below.refl _ _⟩
  case round =>
    obtain ⟨k, hk, rfl, hno, hb⟩ := hrel
    by_cases hlt : k < n
    · have hkl : k < es.length := by omega
      obtain ⟨b1, o1, rfl, c1, c2⟩ := (hx.below hb).edge (k := k) hkl
      have HC := hf wr (es[k]'hkl) hb (List.getElem_mem _)
      have hno' : p (es[k]'hkl) = false → (∀ j (_ : j < k + 1) (h : j < es.length), p (es[j]'h) = false) := by
        intro h0 j hj h
        by_cases e : j = k
        · subst e; exact h0
        · exact hno j (by omega) h
      have HY := Lib.hid (idxP_some (p := p) hkl hno)
      have HN := Lib.hid hno'
      clear hno hno'
      generalize (es[k]'hkl) = X at *
      obtain ⟨X, Y⟩ := X
      simp only at c1 c2 HC
      cases hp : p (X, Y)
      · have HN := Lib.hid (HN.out hp)
        rw [hp] at HC
        clear HY
        go_wp2_with fail
        refine HC.mono ?_
        rintro e w1 ⟨rfl, hb1⟩
        have HB := below_tr' hb hb1
        clear HC hb1
        go_wp2
        go_roundw
        case rel => exact ⟨k + 1, by omega, by go_num, HN.out, HB⟩
        case measure => simp [intOf]; omega
      · have HY := Lib.hid (HY.out hp)
        rw [hp] at HC
        clear HN
        go_wp2_with fail
        refine HC.mono ?_
        rintro e w1 ⟨rfl, hb1⟩
        have HB := below_tr' hb hb1
        clear HC hb1
        go_wp2
        go_ret
        exact ⟨ret_int HY.out.symm, HB⟩
    · have HE := Lib.hid (idxP_none (p := p) (es := es) fun j hj => hno j (by omega) hj)
      clear hno
      go_wp2
      go_ret
      exact ⟨ret_int HE.out.symm, hb⟩

theorem partB_mem {Ng Nh : Int} {gs hs : List E2} (hg : validG Ng gs = true) (hh : validG Nh hs = true) : (!(gs.any fun e => !decide (e ∈ hs))) = partB gs hs := by
  have h1 : (gs.any fun e => !decide (e ∈ hs)) = !(gs.all fun e => decide (e ∈ hs)) := by rw [List.all_eq_not_any_not]; simp
  rw [h1, Bool.not_not, partB, Bool.eq_iff_iff, List.all_eq_true, List.all_eq_true]
  refine forall_congr' fun e => forall_congr' fun he => ?_
  rw [hasB_hasM (valid_lt hh)]
  have hl := valid_lt hg e he
  have : ordE e.1 e.2 = e := by refine Prod.ext ?_ ?_ <;> simp only [ordE] <;> omega
  rw [hasM, this]

noncomputable def isPartV (Ng : Int) (gs : List E2) (Nh : Int) (hs : List E2) : Bool := bothV Nh hs Ng gs && partB gs hs

end Go.Proofs.Ytjmiafkkbganlaa
