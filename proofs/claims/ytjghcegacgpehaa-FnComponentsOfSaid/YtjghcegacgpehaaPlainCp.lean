
/- Plain laws of components: a partition, edges inside, as many as there must be. No program is named here. -/
import Derived.Test.YtjghcegacgpehaaCompW
namespace Go.Proofs.Ytjghcegacgpehaa
open Go.RowKit

/-- The label of a vertex. -/
def labN (es : List N2) (N v : Nat) : Nat := (labels es N).getD v 0
theorem lab_min {es : List N2} {N v : Nat} (hok : Okay es N) (hv : v < N) : MinS (compS es N v) (labN es N v) := labels_min hok hv
theorem lab_lt {es : List N2} {N v : Nat} (hok : Okay es N) (hv : v < N) : labN es N v < N := compS_lt (lab_min hok hv).1
theorem lab_of {es : List N2} {N v u : Nat} (hok : Okay es N) (hv : v < N) (h : onS (compS es N v) u) : labN es N u = labN es N v := by
  have hu := compS_lt h
  have h1 := lab_min hok hu
  rw [compS_eq hok hv h] at h1
  exact minS_unique h1 (lab_min hok hv)
theorem lab_lab {es : List N2} {N v : Nat} (hok : Okay es N) (hv : v < N) : labN es N (labN es N v) = labN es N v := lab_of hok hv (lab_min hok hv).1
theorem lab_edge {es : List N2} {N : Nat} (hok : Okay es N) {e : N2} (he : e ∈ es) : labN es N e.1 = labN es N e.2 := by
  have h1 := (hok e he).1
  exact (lab_of hok h1 ((compS_closed hok h1 e he).1 (compS_self hok h1))).symm
/-- The vertices that are their own labels. -/
def rootsN (es : List N2) (N : Nat) : List Nat := (List.range N).filter fun r => labN es N r == r
theorem compsL_eq (es : List N2) (N : Nat) : compsL es N = (rootsN es N).map fun r => (List.range N).filter fun v => labN es N v == r := rfl

theorem count_one {l : List Nat} (hn : l.Nodup) {a : Nat} (ha : a ∈ l) : (l.filter (a == ·)).length = 1 := by
  induction l with
  | nil => simp at ha
  | cons b t ih =>
    rw [List.nodup_cons] at hn
    by_cases e : a = b
    · subst e
      rw [List.filter_cons_of_pos (by simp), List.length_cons]
      have : t.filter (a == ·) = [] := by
        rw [List.filter_eq_nil_iff]
        intro x hx h
        have : a = x := by simpa using h
        exact hn.1 (this ▸ hx)
      rw [this]; rfl
    · rw [List.filter_cons_of_neg (by simpa using e)]
      rcases List.mem_cons.1 ha with h | h
      · exact absurd h e
      · exact ih hn.2 h
theorem sum_filter (p : Nat → Bool) (R : List Nat) : (R.map fun r => if p r = true then 1 else 0).sum = (R.filter p).length := by
  induction R with
  | nil => rfl
  | cons a t ih =>
    rw [List.map_cons, List.sum_cons, ih]
    by_cases h : p a = true
    · rw [if_pos h, List.filter_cons_of_pos h, List.length_cons]; omega
    · rw [if_neg h, List.filter_cons_of_neg h]; omega
theorem sum_add (f g : Nat → Nat) (R : List Nat) : (R.map fun r => f r + g r).sum = (R.map f).sum + (R.map g).sum := by
  induction R with
  | nil => rfl
  | cons a t ih => simp only [List.map_cons, List.sum_cons, ih]; omega
/-- Classes add up. -/
theorem sum_classes (f : Nat → Nat) (L R : List Nat) (h : ∀ v ∈ L, (R.filter (f v == ·)).length = 1) : (R.map fun r => (L.filter fun v => f v == r).length).sum = L.length := by
  induction L with
  | nil =>
    have : ∀ R : List Nat, (R.map fun _ => 0).sum = 0 := by intro R; induction R with | nil => rfl | cons a t ih => simpa using ih
    simpa using this R
  | cons v t ih =>
    have h1 := h v (List.mem_cons_self ..)
    have h2 := ih fun u hu => h u (List.mem_cons_of_mem _ hu)
    have e : (fun r => ((v :: t).filter fun u => f u == r).length) = fun r => (if (f v == r) = true then 1 else 0) + (t.filter fun u => f u == r).length := by
      funext r
      by_cases h3 : (f v == r) = true
      · rw [List.filter_cons, if_pos (show (fun u => f u == r) v = true from h3), if_pos h3, List.length_cons]; omega
      · rw [List.filter_cons, if_neg (show ¬ (fun u => f u == r) v = true from h3), if_neg h3]; omega
    rw [e, sum_add, sum_filter, h1, h2, List.length_cons]; omega
theorem roots_nodup (es : List N2) (N : Nat) : (rootsN es N).Nodup := List.Nodup.sublist List.filter_sublist List.nodup_range
theorem roots_mem {es : List N2} {N v : Nat} (hok : Okay es N) (hv : v < N) : labN es N v ∈ rootsN es N := by
  rw [rootsN, List.mem_filter, List.mem_range]
  exact ⟨lab_lt hok hv, by rw [lab_lab hok hv]; simp⟩
theorem comps_sum {es : List N2} {N : Nat} (hok : Okay es N) : ((compsL es N).map List.length).sum = N := by
  rw [compsL_eq, List.map_map]
  have := sum_classes (labN es N) (List.range N) (rootsN es N) fun v hv => count_one (roots_nodup es N) (roots_mem hok (List.mem_range.1 hv))
  rw [List.length_range] at this
  exact this
theorem filter_lost {p q : Nat → Bool} {x : Nat} {l : List Nat} (hn : l.Nodup) (h : ∀ v ∈ l, p v = true → q v = true ∨ v = x) : (l.filter p).length ≤ (l.filter q).length + 1 := by
  induction l with
  | nil => simp
  | cons a t ih =>
    rw [List.nodup_cons] at hn
    have h1 := ih hn.2 fun v hv => h v (List.mem_cons_of_mem _ hv)
    by_cases hp : p a = true
    · rw [List.filter_cons_of_pos hp, List.length_cons]
      by_cases hq : q a = true
      · rw [List.filter_cons_of_pos hq, List.length_cons]; omega
      · rw [List.filter_cons_of_neg hq]
        have ea : a = x := (h a (List.mem_cons_self ..) hp).resolve_left hq
        have h2 : (t.filter p).length ≤ (t.filter q).length := by
          have e : t.filter p = t.filter fun v => p v && q v := List.filter_congr fun v hv => by
            cases hpv : p v
            · rfl
            · rcases h v (List.mem_cons_of_mem _ hv) hpv with h3 | h3
              · simp [h3]
              · exact absurd (by rw [ea, ← h3]; exact hv) hn.1
          rw [e, ← List.filter_filter]
          exact (List.filter_sublist).length_le
        omega
    · rw [List.filter_cons_of_neg hp]
      have : (t.filter q).length ≤ ((a :: t).filter q).length := by
        rw [List.filter_cons]; split
        · simp
        · exact Nat.le_refl _
      omega
/-- One edge more joins two components at most. -/
theorem roots_step {es : List N2} {N : Nat} {e : N2} (hok : Okay (e :: es) N) : (rootsN es N).length ≤ (rootsN (e :: es) N).length + 1 := by
  have hok0 : Okay es N := fun f hf => hok f (List.mem_cons_of_mem _ hf)
  have ha := (hok e (List.mem_cons_self ..)).1
  have hb := (hok e (List.mem_cons_self ..)).2
  refine filter_lost (x := max (labN es N e.1) (labN es N e.2)) List.nodup_range fun r hr hp => ?_
  have hr := List.mem_range.1 hr
  have hp : labN es N r = r := by simpa using hp
  by_cases hq : labN (e :: es) N r = r
  · left; simpa using hq
  right
  have hT : ClosedS (e :: es) (fun v => onS (compS es N e.1) v ∨ onS (compS es N e.2) v) := by
    intro f hf
    rcases List.mem_cons.1 hf with rfl | h
    · exact ⟨fun _ => .inr (compS_self hok0 hb), fun _ => .inl (compS_self hok0 ha)⟩
    · have h1 := compS_closed hok0 ha f h
      have h2 := compS_closed hok0 hb f h
      exact ⟨fun h3 => h3.imp h1.1 h2.1, fun h3 => h3.imp h1.2 h2.2⟩
  have hm := lab_min hok hr
  have hlt : labN (e :: es) N r < r := by
    have := hm.2 r (compS_self hok hr)
    omega
  have hTr : onS (compS es N e.1) r ∨ onS (compS es N e.2) r := by
    refine Classical.byContradiction fun hn => ?_
    have n1 : ¬ onS (compS es N r) e.1 := fun h => hn (.inl (by rw [compS_eq hok0 hr h]; exact compS_self hok0 hr))
    have n2 : ¬ onS (compS es N r) e.2 := fun h => hn (.inr (by rw [compS_eq hok0 hr h]; exact compS_self hok0 hr))
    have hC : ClosedS (e :: es) (fun v => onS (compS es N r) v) := by
      intro f hf
      rcases List.mem_cons.1 hf with rfl | h
      · exact ⟨fun h => absurd h n1, fun h => absurd h n2⟩
      · exact compS_closed hok0 hr f h
    have h1 := compS_least hok hr hC (compS_self hok0 hr) _ hm.1
    have h2 := (lab_min hok0 hr).2 _ h1
    omega
  have hu := compS_least hok hr hT hTr _ hm.1
  have ra : ∀ u, onS (compS es N e.1) u → labN es N e.1 ≤ u := (lab_min hok0 ha).2
  have rb : ∀ u, onS (compS es N e.2) u → labN es N e.2 ≤ u := (lab_min hok0 hb).2
  have e1 : r = labN es N e.1 ∨ r = labN es N e.2 := hTr.imp (fun h => by rw [← hp]; exact lab_of hok0 ha h) (fun h => by rw [← hp]; exact lab_of hok0 hb h)
  rcases hu with h | h
  · have := ra _ h; omega
  · have := rb _ h; omega
theorem okay_nil (N : Nat) : Okay [] N := fun e he => by simp at he
theorem roots_nil (N : Nat) : (rootsN [] N).length = N := by
  rw [rootsN, List.filter_eq_self.2, List.length_range]
  intro r hr
  have hr := List.mem_range.1 hr
  have h1 := (lab_min (okay_nil N) hr).1
  have h2 := compS_least (okay_nil N) hr (T := fun v => v = r) (fun e he => by simp at he) rfl _ h1
  simpa using h2
theorem roots_count {N : Nat} : ∀ (es : List N2), Okay es N → N ≤ (rootsN es N).length + es.length := by
  intro es
  induction es with
  | nil => intro _; rw [roots_nil]; exact Nat.le_refl _
  | cons e t ih =>
    intro hok
    have h1 := ih fun f hf => hok f (List.mem_cons_of_mem _ hf)
    have h2 := roots_step hok
    rw [List.length_cons]; omega
theorem comps_count {es : List N2} {N : Nat} (hok : Okay es N) : N ≤ (compsL es N).length + es.length := by
  rw [compsL_eq, List.length_map]; exact roots_count es hok
theorem comps_part {es : List N2} {N : Nat} (hok : Okay es N) {p : List Nat} (hp : p ∈ compsL es N) : p.Pairwise (· < ·) ∧ p ≠ [] ∧ (∀ v ∈ p, v < N) ∧ ∀ e ∈ es, (e.1 ∈ p ↔ e.2 ∈ p) := by
  rw [compsL_eq, List.mem_map] at hp
  obtain ⟨r, hr, rfl⟩ := hp
  rw [rootsN, List.mem_filter, List.mem_range] at hr
  refine ⟨(List.pairwise_lt_range).filter _, ?_, fun v hv => List.mem_range.1 (List.mem_filter.1 hv).1, fun e he => ?_⟩
  · intro h0
    have : r ∈ (List.range N).filter fun v => labN es N v == r := by rw [List.mem_filter, List.mem_range]; exact hr
    rw [h0] at this
    simp at this
  · have h1 := hok e he
    rw [List.mem_filter, List.mem_filter, List.mem_range, List.mem_range, lab_edge hok he]
    simp [h1.1, h1.2]

/-- What the law's loops write: the index of the part for each vertex. -/
def setPart (o : List Int) (p : List Int) (k : Int) : List Int := p.foldl (fun o v => o.set v.toNat k) o
def ofK (P : List (List Int)) (N : Nat) : Nat → List Int
  | 0 => List.replicate N 0
  | k + 1 => setPart (ofK P N k) (P.getD k []) k
theorem setPart_length (o p : List Int) (k : Int) : (setPart o p k).length = o.length := by
  induction p generalizing o with
  | nil => rfl
  | cons v t ih => rw [setPart, List.foldl_cons]; exact (ih _).trans (List.length_set ..)
theorem ofK_length (P : List (List Int)) (N k : Nat) : (ofK P N k).length = N := by
  induction k with
  | zero => simp [ofK]
  | succ k ih => rw [ofK, setPart_length, ih]
theorem setPart_snoc (o p : List Int) (v k : Int) : setPart o (p ++ [v]) k = (setPart o p k).set v.toNat k := by rw [setPart, List.foldl_append]; rfl
theorem setPart_at {o p : List Int} {k : Int} (hp : ∀ v ∈ p, 0 ≤ v ∧ v < o.length) {u : Nat} : (setPart o p k).getD u 0 = if (u : Int) ∈ p then k else o.getD u 0 := by
  induction p generalizing o with
  | nil => simp [setPart]
  | cons v t ih =>
    have hv := hp v (List.mem_cons_self ..)
    rw [setPart, List.foldl_cons]
    refine (ih (o := o.set v.toNat k) fun x hx => by rw [List.length_set]; exact hp x (List.mem_cons_of_mem _ hx)).trans ?_
    rw [getD_set _ _ _ _ _ (by omega)]
    by_cases h1 : (u : Int) ∈ t
    · rw [if_pos h1, if_pos (List.mem_cons_of_mem _ h1)]
    · rw [if_neg h1]
      by_cases h2 : u = v.toNat
      · rw [if_pos h2, if_pos (by rw [h2, Int.toNat_of_nonneg hv.1]; exact List.mem_cons_self ..)]
      · rw [if_neg h2, if_neg]
        intro h3
        rcases List.mem_cons.1 h3 with h4 | h4
        · exact h2 (by omega)
        · exact h1 h4
theorem ofK_eq {P : List (List Int)} {N a b : Nat} (hP : ∀ p ∈ P, (∀ v ∈ p, 0 ≤ v ∧ v < (N : Int)) ∧ ((a : Int) ∈ p ↔ (b : Int) ∈ p)) (ha : a < N) (hb : b < N) : ∀ k, (ofK P N k).getD a 0 = (ofK P N k).getD b 0 := by
  intro k
  induction k with
  | zero => simp [ofK, List.getD_eq_getElem?_getD, ha, hb]
  | succ k ih =>
    rw [ofK]
    by_cases hk : k < P.length
    · have e : P.getD k [] = P[k]'hk := by rw [List.getD, List.getElem?_eq_getElem hk]; rfl
      have h1 := hP _ (List.getElem_mem hk)
      rw [e, setPart_at (by rw [ofK_length]; exact h1.1), setPart_at (by rw [ofK_length]; exact h1.1), ih]
      by_cases h2 : (a : Int) ∈ P[k]'hk
      · rw [if_pos h2, if_pos (h1.2.1 h2)]
      · rw [if_neg h2, if_neg fun h3 => h2 (h1.2.2 h3)]
    · have e : P.getD k [] = [] := by rw [List.getD, List.getElem?_eq_none (by omega)]; rfl
      rw [e]; exact ih
theorem ofK_bound (P : List (List Int)) (N k : Nat) : ∀ x ∈ ofK P N k, 0 ≤ x ∧ x ≤ k := by
  induction k with
  | zero => intro x hx; rw [List.eq_of_mem_replicate hx]; omega
  | succ k ih =>
    rw [ofK]
    generalize P.getD k [] = p
    have : ∀ (p o : List Int), (∀ x ∈ o, 0 ≤ x ∧ x ≤ (k : Int) + 1) → ∀ x ∈ setPart o p k, 0 ≤ x ∧ x ≤ (k : Int) + 1 := by
      intro p
      induction p with
      | nil => intro o h; exact h
      | cons v t ih2 =>
        intro o h
        rw [setPart, List.foldl_cons]
        refine ih2 _ fun x hx => ?_
        rcases List.mem_or_eq_of_mem_set hx with h1 | h1
        · exact h x h1
        · omega
    intro x hx
    have := this p _ (fun x hx => by have := ih x hx; omega) x hx
    omega
/-- What the law asks of the components. -/
theorem compsV_law {N : Nat} {g : List E2} (hv : validG N g = true) :
    (∀ p ∈ compsV N g, (∀ j (h : j + 1 < p.length), p[j]'(by omega) < p[j + 1]'h) ∧ 0 < p.length ∧ (∀ v ∈ p, 0 ≤ v ∧ v < (N : Int)) ∧ ∀ j (h : j < g.length), ((g[j]'h).1 ∈ p ↔ (g[j]'h).2 ∈ p)) ∧
    sumLen (compsV N g) = N ∧ (N : Int) - g.length ≤ (compsV N g).length ∧ ∀ j (h : j < g.length), 0 ≤ (g[j]'h).1 ∧ (g[j]'h).1 < N ∧ 0 ≤ (g[j]'h).2 ∧ (g[j]'h).2 < N := by
  have hE := valid_hE hv
  have hok := ne2_okay hE
  have hin : ∀ j (h : j < g.length), 0 ≤ (g[j]'h).1 ∧ (g[j]'h).1 < N ∧ 0 ≤ (g[j]'h).2 ∧ (g[j]'h).2 < N := fun j h => by have := hE j h; omega
  have e : compsV N g = (compsL (ne2 g) N).map intsN := by
    rw [compsV, if_pos hv, Int.toNat_natCast, cpK, show compsK (ne2 g) N N = compsS (ne2 g) N from rfl, comps_eq hok]
  rw [e]
  refine ⟨?_, ?_, ?_, hin⟩
  · intro q hq
    obtain ⟨p, hp, rfl⟩ := List.mem_map.1 hq
    obtain ⟨p1, p2, p3, p4⟩ := comps_part hok hp
    refine ⟨fun j h => ?_, ?_, ?_, fun j h => ?_⟩
    · rw [intsN_length] at h
      have := List.pairwise_iff_getElem.1 p1 j (j + 1) (by omega) h (by omega)
      simp only [intsN, List.getElem_map]
      omega
    · rw [intsN_length]; exact List.length_pos_iff.2 p2
    · intro v hv2
      simp only [intsN, List.mem_map] at hv2
      obtain ⟨u, hu, rfl⟩ := hv2
      have := p3 u hu
      omega
    · have hj := hin j h
      have hm := p4 (((g[j]'h).1.toNat), ((g[j]'h).2.toNat)) (List.mem_map.2 ⟨_, List.getElem_mem h, rfl⟩)
      have key : ∀ x : Int, 0 ≤ x → (x ∈ intsN p ↔ x.toNat ∈ p) := by
        intro x hx
        simp only [intsN, List.mem_map]
        constructor
        · rintro ⟨u, hu, rfl⟩; simpa using hu
        · intro hu; exact ⟨_, hu, by omega⟩
      rw [key _ hj.1, key _ hj.2.2.1]
      exact hm
  · have := comps_sum hok
    rw [sumLen, List.map_map]
    have e2 : (List.length ∘ intsN) = List.length := by funext l; exact intsN_length l
    rw [e2]; exact this
  · have := comps_count hok
    rw [ne2_length] at this
    rw [List.length_map]; omega

end Go.Proofs.Ytjghcegacgpehaa
