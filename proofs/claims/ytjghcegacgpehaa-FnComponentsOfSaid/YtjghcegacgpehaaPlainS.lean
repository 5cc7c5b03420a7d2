
/- Several texts in one: PlainC, PlainS. -/
import Derived.Test.YtjghcegacgpehaaPairs
namespace Go.Proofs.Ytjghcegacgpehaa
open Go.RowKit

/-- An edge of plain numbers. -/
abbrev N2 := Nat × Nat
def stepS (s : List Bool) (e : N2) : List Bool := if s.getD e.1 false || s.getD e.2 false then (s.set e.1 true).set e.2 true else s
def sweepS (es : List N2) (s : List Bool) : List Bool := es.foldl stepS s
def roundsS (es : List N2) (k : Nat) (s : List Bool) : List Bool := Nat.repeat (sweepS es) k s
def startS (N v : Nat) : List Bool := (List.replicate N false).set v true
def compS (es : List N2) (N v : Nat) : List Bool := roundsS es N (startS N v)
def stepL (s : List Nat) (e : N2) : List Nat := (s.set e.1 (min (s.getD e.1 0) (s.getD e.2 0))).set e.2 (min (s.getD e.1 0) (s.getD e.2 0))
def sweepL (es : List N2) (s : List Nat) : List Nat := es.foldl stepL s
def roundsL (es : List N2) (k : Nat) (s : List Nat) : List Nat := Nat.repeat (sweepL es) k s
def labels (es : List N2) (N : Nat) : List Nat := roundsL es N (List.range N)

def onS (s : List Bool) (v : Nat) : Prop := s.getD v false = true
def Okay (es : List N2) (N : Nat) : Prop := ∀ e ∈ es, e.1 < N ∧ e.2 < N
/-- A set closed under the edges. -/
def ClosedS (es : List N2) (s : Nat → Prop) : Prop := ∀ e ∈ es, (s e.1 ↔ s e.2)

theorem getD_set {α : Type} (l : List α) (i j : Nat) (x d : α) (h : i < l.length) : (l.set i x).getD j d = if j = i then x else l.getD j d := by
  rw [List.getD_eq_getElem?_getD, List.getD_eq_getElem?_getD, List.getElem?_set]
  by_cases e : j = i
  · subst e; simp [h]
  · rw [if_neg e, if_neg (fun h' => e h'.symm)]
theorem stepS_length (s : List Bool) (e : N2) : (stepS s e).length = s.length := by unfold stepS; split <;> simp
theorem sweepS_length (es : List N2) (s : List Bool) : (sweepS es s).length = s.length := by
  induction es generalizing s with
  | nil => rfl
  | cons e t ih => rw [sweepS, List.foldl_cons]; exact (ih _).trans (stepS_length s e)
theorem roundsS_succ (es : List N2) (k : Nat) (s : List Bool) : roundsS es (k + 1) s = sweepS es (roundsS es k s) := rfl
theorem roundsS_length (es : List N2) (k : Nat) (s : List Bool) : (roundsS es k s).length = s.length := by
  induction k with
  | zero => rfl
  | succ k ih => rw [roundsS_succ, sweepS_length, ih]
theorem stepL_length (s : List Nat) (e : N2) : (stepL s e).length = s.length := by simp [stepL]
theorem sweepL_length (es : List N2) (s : List Nat) : (sweepL es s).length = s.length := by
  induction es generalizing s with
  | nil => rfl
  | cons e t ih => rw [sweepL, List.foldl_cons]; exact (ih _).trans (stepL_length s e)
theorem roundsL_succ (es : List N2) (k : Nat) (s : List Nat) : roundsL es (k + 1) s = sweepL es (roundsL es k s) := rfl
theorem roundsL_length (es : List N2) (k : Nat) (s : List Nat) : (roundsL es k s).length = s.length := by
  induction k with
  | zero => rfl
  | succ k ih => rw [roundsL_succ, sweepL_length, ih]

/-- A step only adds. -/
theorem stepS_mono {s : List Bool} {e : N2} {v : Nat} (h1 : e.1 < s.length) (h2 : e.2 < s.length) (h : onS s v) : onS (stepS s e) v := by
  unfold stepS onS at *
  split
  · rw [getD_set _ _ _ _ _ (by simpa using h2), getD_set _ _ _ _ _ h1]
    split
    · rfl
    · split
      · rfl
      · exact h
  · exact h
theorem stepS_on {s : List Bool} {e : N2} (h1 : e.1 < s.length) (h2 : e.2 < s.length) (h : onS s e.1 ∨ onS s e.2) : onS (stepS s e) e.1 ∧ onS (stepS s e) e.2 := by
  unfold stepS onS at *
  have hc : (s.getD e.1 false || s.getD e.2 false) = true := by simpa using h
  rw [if_pos hc]
  constructor
  · rw [getD_set _ _ _ _ _ (by simpa using h2), getD_set _ _ _ _ _ h1]
    split
    · rfl
    · rw [if_pos rfl]
  · rw [getD_set _ _ _ _ _ (by simpa using h2), if_pos rfl]
theorem stepS_in {s : List Bool} {e : N2} (h1 : e.1 < s.length) (h2 : e.2 < s.length) {T : Nat → Prop} (hT : T e.1 ↔ T e.2) (h : ∀ v, onS s v → T v) : ∀ v, onS (stepS s e) v → T v := by
  intro v hv
  unfold stepS onS at hv
  split at hv
  · rename_i hc
    have hc' : T e.1 ∧ T e.2 := by
      rcases (by simpa using hc : s.getD e.1 false = true ∨ s.getD e.2 false = true) with h3 | h3
      · exact ⟨h _ h3, hT.1 (h _ h3)⟩
      · exact ⟨hT.2 (h _ h3), h _ h3⟩
    rw [getD_set _ _ _ _ _ (by simpa using h2), getD_set _ _ _ _ _ h1] at hv
    split at hv
    · rename_i e1; subst e1; exact hc'.2
    · split at hv
      · rename_i e1; subst e1; exact hc'.1
      · exact h v hv
  · exact h v hv
theorem sweepS_mono {es : List N2} {s : List Bool} {v : Nat} (hok : Okay es s.length) (h : onS s v) : onS (sweepS es s) v := by
  induction es generalizing s with
  | nil => exact h
  | cons e t ih =>
    have he := hok e (List.mem_cons_self ..)
    refine ih (s := stepS s e) ?_ (stepS_mono he.1 he.2 h)
    intro f hf
    rw [stepS_length]
    exact hok f (List.mem_cons_of_mem _ hf)
/-- A sweep: where one end was in, both are in. -/
theorem sweepS_on {es : List N2} {s : List Bool} (hok : Okay es s.length) {e : N2} (he : e ∈ es) (h : onS s e.1 ∨ onS s e.2) : onS (sweepS es s) e.1 ∧ onS (sweepS es s) e.2 := by
  induction es generalizing s with
  | nil => simp at he
  | cons f t ih =>
    have hf := hok f (List.mem_cons_self ..)
    have hok' : Okay t (stepS s f).length := by
      intro g hg
      rw [stepS_length]
      exact hok g (List.mem_cons_of_mem _ hg)
    rw [sweepS, List.foldl_cons]
    rcases List.mem_cons.1 he with rfl | he
    · have := stepS_on hf.1 hf.2 h
      exact ⟨sweepS_mono hok' this.1, sweepS_mono hok' this.2⟩
    · exact ih hok' he (h.imp (stepS_mono hf.1 hf.2) (stepS_mono hf.1 hf.2))
theorem sweepS_in {es : List N2} {s : List Bool} (hok : Okay es s.length) {T : Nat → Prop} (hT : ClosedS es T) (h : ∀ v, onS s v → T v) : ∀ v, onS (sweepS es s) v → T v := by
  induction es generalizing s with
  | nil => exact h
  | cons e t ih =>
    have he := hok e (List.mem_cons_self ..)
    refine ih (s := stepS s e) ?_ (fun f hf => hT f (List.mem_cons_of_mem _ hf)) (stepS_in he.1 he.2 (hT e (List.mem_cons_self ..)) h)
    intro f hf
    rw [stepS_length]
    exact hok f (List.mem_cons_of_mem _ hf)
theorem roundsS_in {es : List N2} {s : List Bool} (hok : Okay es s.length) {T : Nat → Prop} (hT : ClosedS es T) (h : ∀ v, onS s v → T v) (k : Nat) : ∀ v, onS (roundsS es k s) v → T v := by
  induction k with
  | zero => exact h
  | succ k ih => rw [roundsS_succ]; exact sweepS_in (by rw [roundsS_length]; exact hok) hT ih
theorem roundsS_mono {es : List N2} {s : List Bool} (hok : Okay es s.length) {v : Nat} (h : onS s v) (k : Nat) : onS (roundsS es k s) v := by
  induction k with
  | zero => exact h
  | succ k ih => rw [roundsS_succ]; exact sweepS_mono (by rw [roundsS_length]; exact hok) ih

def cntS (s : List Bool) : Nat := (s.filter id).length
theorem cnt_le (s : List Bool) : cntS s ≤ s.length := List.length_filter_le _ _
/-- Two lists of one length, the first within the second: as many, then equal. -/
theorem cnt_mono : ∀ (s t : List Bool), s.length = t.length → (∀ v, onS s v → onS t v) → cntS s ≤ cntS t ∧ (cntS s = cntS t → s = t)
  | [], [], _, _ => ⟨Nat.le_refl _, fun _ => rfl⟩
  | [], _ :: _, h, _ => by simp at h
  | _ :: _, [], h, _ => by simp at h
  | a :: s, b :: t, hl, h => by
    have h0 := h 0
    have hr : ∀ v, onS s v → onS t v := fun v hv => by simpa [onS] using h (v + 1) (by simpa [onS] using hv)
    obtain ⟨h1, h2⟩ := cnt_mono s t (by simpa using hl) hr
    have h0' : a = true → b = true := by simpa [onS] using h0
    cases a <;> cases b <;> simp [cntS] at h0' h1 h2 ⊢
    · exact ⟨h1, h2⟩
    · exact ⟨by omega, by intro h; omega⟩
    · exact ⟨h1, h2⟩
theorem rounds_fixed {es : List N2} {s : List Bool} (h : sweepS es s = s) (k : Nat) : roundsS es k s = s := by
  induction k with
  | zero => rfl
  | succ k ih => rw [roundsS_succ, ih, h]
theorem rounds_add (es : List N2) (s : List Bool) (j k : Nat) : roundsS es (j + k) s = roundsS es k (roundsS es j s) := by
  induction k with
  | zero => rfl
  | succ k ih => rw [← Nat.add_assoc, roundsS_succ, roundsS_succ, ih]
/-- Either fixed, or grown by one a round. -/
theorem rounds_grow {es : List N2} {s : List Bool} (hok : Okay es s.length) (k : Nat) : sweepS es (roundsS es k s) = roundsS es k s ∨ cntS s + k + 1 ≤ cntS (roundsS es (k + 1) s) := by
  induction k with
  | zero =>
    obtain ⟨h1, h2⟩ := cnt_mono s (sweepS es s) (sweepS_length es s).symm (fun v hv => sweepS_mono hok hv)
    by_cases e : cntS s = cntS (sweepS es s)
    · exact .inl (h2 e).symm
    · exact .inr (by show cntS s + 0 + 1 ≤ cntS (sweepS es s); omega)
  | succ k ih =>
    have hl : (roundsS es (k + 1) s).length = s.length := roundsS_length ..
    obtain ⟨h1, h2⟩ := cnt_mono (roundsS es (k + 1) s) (sweepS es (roundsS es (k + 1) s)) (by rw [sweepS_length]) (fun v hv => sweepS_mono (by rw [hl]; exact hok) hv)
    rcases ih with ih | ih
    · left
      rw [roundsS_succ, ih, ih]
    · by_cases e : cntS (roundsS es (k + 1) s) = cntS (sweepS es (roundsS es (k + 1) s))
      · exact .inl (h2 e).symm
      · refine .inr ?_
        rw [roundsS_succ es (k + 1)]
        omega
theorem fixed_closed {es : List N2} {s : List Bool} (hok : Okay es s.length) (h : sweepS es s = s) : ClosedS es (onS s) := by
  intro e he
  constructor
  · intro h1
    have := (sweepS_on hok he (.inl h1)).2
    rw [h] at this; exact this
  · intro h1
    have := (sweepS_on hok he (.inr h1)).1
    rw [h] at this; exact this

theorem startS_length (N v : Nat) : (startS N v).length = N := by simp [startS]
theorem start_on {N v : Nat} (h : v < N) (u : Nat) : onS (startS N v) u ↔ u = v := by
  unfold onS startS
  rw [getD_set _ _ _ _ _ (by simpa using h)]
  by_cases e : u = v
  · simp [e]
  · rw [if_neg e]
    simp only [e, iff_false, Bool.not_eq_true]
    rw [List.getD_eq_getElem?_getD, List.getElem?_replicate]
    split <;> rfl
theorem start_cnt {N v : Nat} (h : v < N) : 1 ≤ cntS (startS N v) := by
  have : (true : Bool) ∈ (startS N v).filter id := by
    rw [List.mem_filter]
    refine ⟨?_, rfl⟩
    exact List.mem_iff_getElem.2 ⟨v, by simpa [startS] using h, by simp [startS]⟩
  exact List.length_pos_of_mem this
theorem compS_length (es : List N2) (N v : Nat) : (compS es N v).length = N := by rw [compS, roundsS_length, startS_length]
/-- The set that belongs to a vertex is closed, holds the vertex, and lies in each such set. -/
theorem compS_closed {es : List N2} {N v : Nat} (hok : Okay es N) (hv : v < N) : ClosedS es (onS (compS es N v)) := by
  have hok' : Okay es (startS N v).length := by rw [startS_length]; exact hok
  refine fixed_closed (by rw [compS_length]; exact hok) ?_
  rcases rounds_grow hok' N with h | h
  · exact h
  · have h1 := start_cnt hv
    have h2 := cnt_le (roundsS es (N + 1) (startS N v))
    rw [roundsS_length, startS_length] at h2
    omega
theorem compS_self {es : List N2} {N v : Nat} (hok : Okay es N) (hv : v < N) : onS (compS es N v) v :=
  roundsS_mono (by rw [startS_length]; exact hok) ((start_on hv v).2 rfl) N
theorem compS_least {es : List N2} {N v : Nat} (hok : Okay es N) (hv : v < N) {T : Nat → Prop} (hT : ClosedS es T) (h : T v) : ∀ u, onS (compS es N v) u → T u :=
  roundsS_in (by rw [startS_length]; exact hok) hT (fun u hu => by rw [(start_on hv u).1 hu]; exact h) N
theorem on_lt {s : List Bool} {u : Nat} (h : onS s u) : u < s.length := by
  unfold onS at h
  rw [List.getD_eq_getElem?_getD] at h
  by_cases hu : u < s.length
  · exact hu
  · rw [List.getElem?_eq_none (by omega)] at h; simp at h
theorem compS_lt {es : List N2} {N v u : Nat} (h : onS (compS es N v) u) : u < N := by have := on_lt h; rw [compS_length] at this; exact this
theorem on_ext {s t : List Bool} (hl : s.length = t.length) (h : ∀ u, onS s u ↔ onS t u) : s = t := by
  apply List.ext_getElem hl
  intro i h1 h2
  have := h i
  unfold onS at this
  rw [List.getD_eq_getElem?_getD, List.getD_eq_getElem?_getD, List.getElem?_eq_getElem h1, List.getElem?_eq_getElem h2] at this
  simp only [Option.getD_some] at this
  cases h3 : s[i] <;> cases h4 : t[i] <;> simp_all
theorem compS_eq {es : List N2} {N v u : Nat} (hok : Okay es N) (hv : v < N) (h : onS (compS es N v) u) : compS es N u = compS es N v := by
  have hu := compS_lt h
  refine on_ext (by rw [compS_length, compS_length]) fun x => ⟨compS_least hok hu (compS_closed hok hv) h x, ?_⟩
  have hvu : onS (compS es N u) v := by
    refine Classical.byContradiction fun hn => ?_
    have hc : ClosedS es (fun x => ¬ onS (compS es N u) x) := fun e he => not_congr (compS_closed hok hu e he)
    exact compS_least hok hv hc hn u h (compS_self hok hu)
  exact compS_least hok hv (compS_closed hok hu) hvu x

/-- The labels: each lies in the set of its vertex; at the least one of a set, the whole set bears it. -/
theorem stepL_get {s : List Nat} {e : N2} (h1 : e.1 < s.length) (h2 : e.2 < s.length) (v : Nat) : (stepL s e).getD v 0 = if v = e.1 ∨ v = e.2 then min (s.getD e.1 0) (s.getD e.2 0) else s.getD v 0 := by
  unfold stepL
  rw [getD_set _ _ _ _ _ (by simpa using h2), getD_set _ _ _ _ _ h1]
  by_cases e2 : v = e.2
  · rw [if_pos e2, if_pos (.inr e2)]
  · rw [if_neg e2]
    by_cases e1 : v = e.1
    · rw [if_pos e1, if_pos (.inl e1)]
    · rw [if_neg e1, if_neg (by rintro (h | h); exact e1 h; exact e2 h)]
def LabOK (es : List N2) (N : Nat) (s : List Nat) : Prop := s.length = N ∧ ∀ v, v < N → onS (compS es N v) (s.getD v 0)
theorem stepL_ok {es : List N2} {N : Nat} (hok : Okay es N) {s : List Nat} (h : LabOK es N s) {e : N2} (he : e ∈ es) : LabOK es N (stepL s e) := by
  obtain ⟨hl, h⟩ := h
  have h12 := hok e he
  refine ⟨by rw [stepL_length]; exact hl, fun v hv => ?_⟩
  rw [stepL_get (by omega) (by omega)]
  have heq : compS es N e.2 = compS es N e.1 := compS_eq hok h12.1 ((compS_closed hok h12.1 e he).1 (compS_self hok h12.1))
  have hm : onS (compS es N e.1) (min (s.getD e.1 0) (s.getD e.2 0)) := by
    rcases Nat.le_total (s.getD e.1 0) (s.getD e.2 0) with h3 | h3
    · rw [Nat.min_eq_left h3]; exact h _ h12.1
    · rw [Nat.min_eq_right h3, ← heq]; exact h _ h12.2
  split
  · rename_i hv'
    rcases hv' with rfl | rfl
    · exact hm
    · rw [heq]; exact hm
  · exact h v hv
theorem sweepL_ok {es fs : List N2} {N : Nat} (hok : Okay es N) {s : List Nat} (h : LabOK es N s) (hf : ∀ f ∈ fs, f ∈ es) : LabOK es N (sweepL fs s) := by
  induction fs generalizing s with
  | nil => exact h
  | cons e t ih => exact ih (stepL_ok hok h (hf e (List.mem_cons_self ..))) (fun f hf' => hf f (List.mem_cons_of_mem _ hf'))
theorem roundsL_ok {es : List N2} {N : Nat} (hok : Okay es N) {s : List Nat} (h : LabOK es N s) (k : Nat) : LabOK es N (roundsL es k s) := by
  induction k with
  | zero => exact h
  | succ k ih => rw [roundsL_succ]; exact sweepL_ok hok ih (fun _ h => h)
theorem range_getD {N v : Nat} (h : v < N) : (List.range N).getD v 0 = v := by
  rw [List.getD_eq_getElem?_getD, List.getElem?_range h]; rfl
theorem labels_ok {es : List N2} {N : Nat} (hok : Okay es N) : LabOK es N (labels es N) :=
  roundsL_ok hok ⟨by simp, fun v hv => by rw [range_getD hv]; exact compS_self hok hv⟩ N
def MinS (s : List Bool) (r : Nat) : Prop := onS s r ∧ ∀ u, onS s u → r ≤ u
/-- In step: what the set of r holds bears the label r. -/
def Bears (t : List Bool) (s : List Nat) (r : Nat) : Prop := ∀ v, onS t v → s.getD v 0 = r
theorem stepB {es : List N2} {N r : Nat} (hok : Okay es N) (hr : r < N) (hm : MinS (compS es N r) r) {s : List Nat} (hs : LabOK es N s) {t : List Bool} (hl : t.length = N) (ht : ∀ v, onS t v → onS (compS es N r) v) (h : Bears t s r) {e : N2} (he : e ∈ es) : Bears (stepS t e) (stepL s e) r := by
  intro v hv
  have h12 := hok e he
  rw [stepL_get (by rw [hs.1]; exact h12.1) (by rw [hs.1]; exact h12.2)]
  have key : onS t e.1 ∨ onS t e.2 → min (s.getD e.1 0) (s.getD e.2 0) = r := by
    intro ho
    have hc : onS (compS es N r) e.1 ∧ onS (compS es N r) e.2 := by
      rcases ho with h3 | h3
      · exact ⟨ht _ h3, (compS_closed hok hr e he).1 (ht _ h3)⟩
      · exact ⟨(compS_closed hok hr e he).2 (ht _ h3), ht _ h3⟩
    have g1 := hm.2 _ (compS_eq hok hr hc.1 ▸ hs.2 _ h12.1)
    have g2 := hm.2 _ (compS_eq hok hr hc.2 ▸ hs.2 _ h12.2)
    rcases ho with h3 | h3
    · have := h _ h3; omega
    · have := h _ h3; omega
  by_cases ho : onS t e.1 ∨ onS t e.2
  · split
    · exact key ho
    · rename_i hne
      refine h v ?_
      unfold stepS onS at hv
      have hcond : (t.getD e.1 false || t.getD e.2 false) = true := by simpa [onS] using ho
      rw [if_pos hcond, getD_set _ _ _ _ _ (by simp; omega), getD_set _ _ _ _ _ (by omega), if_neg (fun h => hne (.inr h)), if_neg (fun h => hne (.inl h))] at hv
      exact hv
  · have hcond : ¬ (t.getD e.1 false || t.getD e.2 false) = true := by simpa [onS] using ho
    unfold stepS at hv
    rw [if_neg hcond] at hv
    rw [if_neg (by rintro (rfl | rfl); exact ho (.inl hv); exact ho (.inr hv))]
    exact h v hv
theorem sweepB {es fs : List N2} {N r : Nat} (hok : Okay es N) (hr : r < N) (hm : MinS (compS es N r) r) {s : List Nat} (hs : LabOK es N s) {t : List Bool} (hl : t.length = N) (ht : ∀ v, onS t v → onS (compS es N r) v) (h : Bears t s r) (hf : ∀ f ∈ fs, f ∈ es) :
    Bears (sweepS fs t) (sweepL fs s) r := by
  induction fs generalizing s t with
  | nil => exact h
  | cons e u ih =>
    have he := hf e (List.mem_cons_self ..)
    have h12 := hok e he
    exact ih (stepL_ok hok hs he) (by rw [stepS_length]; exact hl) (stepS_in (by omega) (by omega) (compS_closed hok hr e he) ht) (stepB hok hr hm hs hl ht h he) (fun f hf' => hf f (List.mem_cons_of_mem _ hf'))
theorem roundsB {es : List N2} {N r : Nat} (hok : Okay es N) (hr : r < N) (hm : MinS (compS es N r) r) (k : Nat) : Bears (roundsS es k (startS N r)) (roundsL es k (List.range N)) r := by
  induction k with
  | zero => intro v hv; rw [(start_on hr v).1 hv]; exact range_getD hr
  | succ k ih =>
    rw [roundsS_succ, roundsL_succ]
    refine sweepB hok hr hm (roundsL_ok hok ⟨by simp, fun v hv => by rw [range_getD hv]; exact compS_self hok hv⟩ k) (by rw [roundsS_length, startS_length]) ?_ ih (fun _ h => h)
    exact roundsS_in (by rw [startS_length]; exact hok) (compS_closed hok hr) (fun u hu => by rw [(start_on hr u).1 hu]; exact compS_self hok hr) k
theorem minS_exists {s : List Bool} {v : Nat} (h : onS s v) : ∃ r, MinS s r := by
  induction v using Nat.strongRecOn with
  | ind v ih =>
    by_cases hb : ∃ u, u < v ∧ onS s u
    · obtain ⟨u, hu, ho⟩ := hb; exact ih u hu ho
    · exact ⟨v, h, fun u hu => Classical.byContradiction fun hn => hb ⟨u, by omega, hu⟩⟩
/-- The label of a vertex is the least one of its set. -/
theorem labels_min {es : List N2} {N v : Nat} (hok : Okay es N) (hv : v < N) : MinS (compS es N v) ((labels es N).getD v 0) := by
  obtain ⟨r, hr⟩ := minS_exists (compS_self hok hv)
  have hrN := compS_lt hr.1
  have he := compS_eq hok hv hr.1
  have hm : MinS (compS es N r) r := by rw [he]; exact hr
  have := roundsB hok hrN hm N v (by show onS (compS es N r) v; rw [he]; exact compS_self hok hv)
  rw [labels, this]
  exact hr
theorem minS_unique {s : List Bool} {a b : Nat} (ha : MinS s a) (hb : MinS s b) : a = b := Nat.le_antisymm (ha.2 b hb.1) (hb.2 a ha.1)
/-- The members, ascending. -/
def memS (s : List Bool) : List Nat := (List.range s.length).filter fun i => s.getD i false
theorem memS_mem {s : List Bool} {i : Nat} : i ∈ memS s ↔ onS s i := by
  rw [memS, List.mem_filter, List.mem_range]
  exact ⟨fun h => h.2, fun h => ⟨on_lt h, h⟩⟩
theorem memS_sorted (s : List Bool) : (memS s).Pairwise (· < ·) := (List.pairwise_lt_range).filter _
theorem memS_head {s : List Bool} {r : Nat} (h : MinS s r) : (memS s).head? = some r := by
  have hr := memS_mem.2 h.1
  cases hl : memS s with
  | nil => rw [hl] at hr; simp at hr
  | cons a t =>
    have hp := memS_sorted s
    rw [hl, List.pairwise_cons] at hp
    have h1 := h.2 a (memS_mem.1 (by rw [hl]; exact List.mem_cons_self ..))
    rw [hl] at hr
    rcases List.mem_cons.1 hr with rfl | hr
    · rfl
    · have := hp.1 r hr; omega
/-- The part that a label tells is the set of its vertex. -/
theorem part_eq {es : List N2} {N r : Nat} (hok : Okay es N) (hr : r < N) (h : (labels es N).getD r 0 = r) : (List.range N).filter (fun v => (labels es N).getD v 0 == r) = memS (compS es N r) := by
  rw [memS, compS_length]
  apply List.filter_congr
  intro v hv
  have hv := List.mem_range.1 hv
  have h1 := labels_min hok hv
  have h2 := labels_min hok hr
  rw [h] at h2
  have key : ((labels es N).getD v 0 = r) ↔ onS (compS es N r) v := by
    constructor
    · intro e
      rw [e] at h1
      rw [compS_eq hok hv h1.1]
      exact compS_self hok hv
    · intro ho
      have he := compS_eq hok hr ho
      rw [he] at h1
      exact minS_unique h1 h2
  cases hb : (compS es N r).getD v false
  · have : ¬ (labels es N).getD v 0 = r := fun e => by have := key.1 e; rw [onS, hb] at this; cases this
    simpa using this
  · simpa using key.2 hb
/-- The components, the reference's way. -/
def compsS (es : List N2) (N : Nat) : List (List Nat) := ((List.range N).map fun v => (v, memS (compS es N v))).filterMap fun p => if p.2.head? = some p.1 then some p.2 else none
/-- The components, the program's way. -/
def compsL (es : List N2) (N : Nat) : List (List Nat) := ((List.range N).filter fun r => (labels es N).getD r 0 == r).map fun r => (List.range N).filter fun v => (labels es N).getD v 0 == r
theorem comps_eq {es : List N2} {N : Nat} (hok : Okay es N) : compsS es N = compsL es N := by
  have h : ∀ l : List Nat, (∀ v ∈ l, v < N) → (l.map fun v => (v, memS (compS es N v))).filterMap (fun p => if p.2.head? = some p.1 then some p.2 else none) = (l.filter fun r => (labels es N).getD r 0 == r).map fun r => (List.range N).filter fun v => (labels es N).getD v 0 == r := by
    intro l
    induction l with
    | nil => intro _; rfl
    | cons v t ih =>
      intro hl
      have hv := hl v (List.mem_cons_self ..)
      have hm := labels_min hok hv
      have hh := memS_head hm
      rw [List.map_cons, List.filterMap_cons, hh]
      have ih := ih (fun u hu => hl u (List.mem_cons_of_mem _ hu))
      by_cases e : (labels es N).getD v 0 = v
      · rw [if_pos (by rw [e]), List.filter_cons_of_pos (by simpa using e), List.map_cons, part_eq hok hv e, ih]
      · rw [if_neg (by simpa using e), List.filter_cons_of_neg (by simpa using e), ih]
  exact h _ (fun v hv => List.mem_range.1 hv)

def stepN (L : List Nat) (e : N2) : List Nat := (L.set e.1 (L.getD e.1 0 - 1)).set e.2 (L.getD e.2 0 - 1)
def mayN (L : List Nat) (e : N2) : Bool := decide (0 < L.getD e.1 0) && decide (0 < L.getD e.2 0)
def zeroN (L : List Nat) : Bool := L.all (· == 0)
theorem stepN_length (L : List Nat) (e : N2) : (stepN L e).length = L.length := by simp [stepN]

/-- The search with a function of the graphs that are found, until it says no. -/
def walkN {σ : Type} (go : σ → List N2 → σ × Bool) : List N2 → List Nat → List N2 → σ → σ × Bool
  | [], L, es, s => if zeroN L = true then go s es else (s, true)
  | e :: t, L, es, s => if mayN L e = true then (if (walkN go t (stepN L e) (es ++ [e]) s).2 = true then walkN go t L es (walkN go t (stepN L e) (es ++ [e]) s).1 else ((walkN go t (stepN L e) (es ++ [e]) s).1, false)) else walkN go t L es s
/-- All graphs that the search finds. -/
def solsN : List N2 → List Nat → List N2 → List (List N2)
  | [], L, es => if zeroN L = true then [es] else []
  | e :: t, L, es => (if mayN L e = true then solsN t (stepN L e) (es ++ [e]) else []) ++ solsN t L es
def foldGo {σ : Type} (go : σ → List N2 → σ × Bool) : σ → List (List N2) → σ × Bool
  | s, [] => (s, true)
  | s, x :: r => if (go s x).2 = true then foldGo go (go s x).1 r else ((go s x).1, false)
theorem foldGo_append {σ : Type} (go : σ → List N2 → σ × Bool) (s : σ) (a b : List (List N2)) : foldGo go s (a ++ b) = if (foldGo go s a).2 = true then foldGo go (foldGo go s a).1 b else ((foldGo go s a).1, false) := by
  induction a generalizing s with
  | nil => rfl
  | cons x r ih =>
    simp only [List.cons_append, foldGo]
    by_cases h : (go s x).2 = true
    · simp only [h, if_true, ih]
    · simp only [h, if_false, Bool.false_eq_true]
theorem walkN_fold {σ : Type} (go : σ → List N2 → σ × Bool) (t : List N2) (L : List Nat) (es : List N2) (s : σ) : walkN go t L es s = foldGo go s (solsN t L es) := by
  induction t generalizing L es s with
  | nil =>
    unfold walkN solsN
    by_cases h : zeroN L = true
    · simp only [h, if_true, foldGo]
      cases h2 : (go s es).2
      · simp only [Bool.false_eq_true, if_false]; exact Prod.ext rfl h2
      · simp only [if_true]; exact Prod.ext rfl h2
    · simp only [h, if_false, foldGo, Bool.false_eq_true]
  | cons e t ih =>
    simp only [walkN, solsN]
    by_cases h : mayN L e = true
    · simp only [h, if_true, foldGo_append, ← ih]
    · simp only [h, if_false, ih, List.nil_append, Bool.false_eq_true]
theorem fold_count (s : Nat) (l : List (List N2)) : foldGo (fun (s : Nat) _ => (s + 1, true)) s l = (s + l.length, true) := by
  induction l generalizing s with
  | nil => rfl
  | cons x r ih => simp only [foldGo, if_true, ih, List.length_cons]; congr 1; omega
theorem fold_all (s l : List (List N2)) : foldGo (fun s x => (s ++ [x], true)) s l = (s ++ l, true) := by
  induction l generalizing s with
  | nil => simp [foldGo]
  | cons x r ih => simp only [foldGo, if_true, ih, List.append_assoc]; rfl
theorem fold_first (s : Option (List N2)) (l : List (List N2)) : foldGo (fun (_ : Option (List N2)) x => (some x, false)) s l = match l with | [] => (s, true) | x :: _ => (some x, false) := by
  cases l <;> rfl

/-- The reference's search. -/
def searchN (N : Nat) : List N2 → List Nat → List N2 → List (List N2)
  | [], L, es => if L.sum = 0 then [es] else []
  | e :: t, L, es => (if mayN L e = true then searchN N t (stepN L e) (es ++ [e]) else []) ++ (if e.2 + 1 < N ∨ L.getD e.1 0 = 0 then searchN N t L es else [])
theorem zero_sum (L : List Nat) : zeroN L = true ↔ L.sum = 0 := by
  induction L with
  | nil => simp [zeroN]
  | cons a t ih =>
    simp only [zeroN, List.all_cons, Bool.and_eq_true, beq_iff_eq, List.sum_cons] at ih ⊢
    rw [ih]; omega
theorem zero_get {L : List Nat} (h : zeroN L = true) (v : Nat) : L.getD v 0 = 0 := by
  rw [List.getD_eq_getElem?_getD]
  cases hv : L[v]? with
  | none => rfl
  | some x =>
    have := List.all_eq_true.1 h x (List.mem_of_getElem? hv)
    simpa using this
theorem stepN_other {L : List Nat} {e : N2} {v : Nat} (h1 : v ≠ e.1) (h2 : v ≠ e.2) : (stepN L e).getD v 0 = L.getD v 0 := by
  rw [stepN, List.getD_eq_getElem?_getD, List.getElem?_set_ne (Ne.symm h2), List.getElem?_set_ne (Ne.symm h1), ← List.getD_eq_getElem?_getD]
/-- What no edge is left for stays. -/
theorem sols_dead {t : List N2} {L : List Nat} {es : List N2} {v : Nat} (h : ∀ f ∈ t, v ≠ f.1 ∧ v ≠ f.2) (hv : 0 < L.getD v 0) : solsN t L es = [] := by
  induction t generalizing L es with
  | nil =>
    rw [solsN, if_neg]
    intro hz
    rw [zero_get hz v] at hv
    omega
  | cons e t ih =>
    have he := h e (List.mem_cons_self ..)
    have ht := fun f hf => h f (List.mem_cons_of_mem _ hf)
    rw [solsN, ih ht hv, List.append_nil]
    split
    · exact ih ht (by rw [stepN_other he.1 he.2]; exact hv)
    · rfl
def RowsN (N : Nat) : List N2 → Prop
  | [] => True
  | e :: t => (N ≤ e.2 + 1 → ∀ f ∈ t, e.1 ≠ f.1 ∧ e.1 ≠ f.2) ∧ RowsN N t
theorem search_sols {N : Nat} {t : List N2} (h : RowsN N t) (L : List Nat) (es : List N2) : searchN N t L es = solsN t L es := by
  induction t generalizing L es with
  | nil =>
    rw [searchN, solsN]
    by_cases hz : L.sum = 0
    · rw [if_pos hz, if_pos ((zero_sum L).2 hz)]
    · rw [if_neg hz, if_neg (fun h => hz ((zero_sum L).1 h))]
  | cons e t ih =>
    rw [searchN, solsN, ih h.2, ih h.2]
    congr 1
    split
    · rfl
    · rename_i hc
      exact (sols_dead (v := e.1) (h.1 (by omega)) (by omega)).symm
/-- The reference's search for one. -/
def factN : List N2 → List Nat → List N2 → Option (List N2)
  | [], L, es => if L.sum = 0 then some es else none
  | e :: t, L, es => if L.sum = 0 then some es else if 0 < (L.take e.1).sum then none else
      if mayN L e = true then (match factN t (stepN L e) (es ++ [e]) with | some x => some x | none => factN t L es) else factN t L es
def RisesN : List N2 → Prop
  | [] => True
  | e :: t => (e.1 < e.2 ∧ ∀ f ∈ t, e.1 ≤ f.1 ∧ f.1 < f.2) ∧ RisesN t
theorem may_zero {L : List Nat} (h : zeroN L = true) (e : N2) : mayN L e = false := by rw [mayN, zero_get h, zero_get h]; rfl
theorem sols_zero {t : List N2} {L : List Nat} {es : List N2} (h : zeroN L = true) : solsN t L es = [es] := by
  induction t with
  | nil => rw [solsN, if_pos h]
  | cons e t ih => rw [solsN, may_zero h, ih]; rfl
theorem sum_take {L : List Nat} {k : Nat} (h : 0 < (L.take k).sum) : ∃ v, v < k ∧ 0 < L.getD v 0 := by
  refine Classical.byContradiction fun hn => ?_
  have h0 : ∀ x ∈ L.take k, x = 0 := by
    intro x hx
    obtain ⟨i, hi, rfl⟩ := List.getElem_of_mem hx
    rw [List.length_take] at hi
    have : ¬ 0 < L.getD i 0 := fun hp => hn ⟨i, by omega, hp⟩
    rw [List.getD_eq_getElem?_getD, List.getElem?_eq_getElem (by omega)] at this
    simp only [Option.getD_some] at this
    rw [List.getElem_take]; omega
  have : zeroN (L.take k) = true := List.all_eq_true.2 fun x hx => by simp [h0 x hx]
  rw [(zero_sum _).1 this] at h
  omega
theorem fact_sols {t : List N2} (h : RisesN t) (L : List Nat) (es : List N2) : factN t L es = (solsN t L es).head? := by
  induction t generalizing L es with
  | nil =>
    rw [factN, solsN]
    by_cases hz : L.sum = 0
    · rw [if_pos hz, if_pos ((zero_sum L).2 hz)]; rfl
    · rw [if_neg hz, if_neg (fun h => hz ((zero_sum L).1 h))]; rfl
  | cons e t ih =>
    rw [factN]
    by_cases hz : L.sum = 0
    · rw [if_pos hz, sols_zero ((zero_sum L).2 hz)]; rfl
    · rw [if_neg hz]
      by_cases hp : 0 < (L.take e.1).sum
      · obtain ⟨v, hv, hg⟩ := sum_take hp
        rw [if_pos hp, sols_dead (v := v) ?_ hg]
        · rfl
        · intro f hf
          rcases List.mem_cons.1 hf with rfl | hf
          · have := h.1.1; omega
          · have := h.1.2 f hf; omega
      · rw [if_neg hp, solsN]
        split
        · rw [ih h.2, ih h.2]
          cases hs : solsN t (stepN L e) (es ++ [e]) <;> rfl
        · rw [ih h.2]; rfl

end Go.Proofs.Ytjghcegacgpehaa
