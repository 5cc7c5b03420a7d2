
/- Several texts in one: Mix, Blk. -/
import Derived.Test.YtjghcegacgpehaaBase
import Derived.StillTail
namespace Go.Proofs.Ytjghcegacgpehaa
open Go.RowKit

/-- Kinds of operation that hand back a value and call nothing. -/
def plainOp : Op → Bool
  | .move _ | .assign _ | .load _ _ | .fieldAddr _ _ _ | .field _ _ _ | .indexAddr _ _ _ | .index _ _ _ | .binOp _ _ _ _ _ | .unOp _ _ _ | .convert _ _ _ | .extract _ _ | .pick _ _ _ | .build _ _ | .slice _ _ _ _ _ => true
  | .call c => match c.callee with | .builtin .len => true | _ => false
  | _ => false

theorem value_only {s : Sem Value} {P : Program} {w w' : World} {n : Next} (h : (do pure (Next.value (← s)) : Sem Next).run P w = .ok n w') : ∃ x, n = .value x := by
  rw [Sem.run_bind] at h
  cases hs : s.run P w with
  | ok a w1 =>
    rw [hs] at h
    simp only [Result.andThen] at h
    cases h
    exact ⟨a, rfl⟩
  | halt x w1 => rw [hs] at h; simp [Result.andThen] at h

theorem plain_value {P : Program} {ρ : Operand → Value} {o : Oper} {w w' : World} {n : Next} (hp : plainOp o.op = true) (h : (execOp ρ o).run P w = .ok n w') : ∃ x, n = .value x := by
  unfold execOp at h
  cases ho : o.op <;> rw [ho] at hp h <;> first | (simp [plainOp] at hp; done) | (exact value_only h) | skip
  case move => simp at h; exact ⟨_, h.1.symm⟩
  case assign => simp at h; exact ⟨_, h.1.symm⟩
  case pick c x y =>
    rw [Sem.run_bind] at h
    cases hs : (asBool (ρ c)).run P w with
    | ok a w1 =>
      rw [hs] at h
      simp [Result.andThen] at h
      exact ⟨_, h.1.symm⟩
    | halt x w1 => rw [hs] at h; simp [Result.andThen] at h
  case call c =>
    obtain ⟨callee, args, types⟩ := c
    cases callee with
    | builtin b =>
      cases b <;> first | (simp [plainOp] at hp; done) | skip
      rw [Sem.run_bind] at h
      simp only [resolve, Sem.run_pure, Result.andThen, invoke, builtin] at h
      exact value_only h
    | _ => simp [plainOp] at hp

section
variable {P : Program} {ops : Array Oper} {md : Region.Mode} {C : World → Prop} {Q : Exit → Act → World → Prop}

/-- In every world of the class operation 'o' yields 'v' and leaves the world as it is. -/
def Still1 (P : Program) (ops : Array Oper) (C : World → Prop) (o : Oper) (v : Value) (a : Act) : Prop :=
  (Region.wanted o (yielded ops a.tmps) = true ∧ ∀ w, C w → (execOp a.eval o).run P w = .ok (.value v) w) ∨
  (Region.wanted o (yielded ops a.tmps) = false ∧ v = undef)

theorem Still1.of_same {o : Oper} {v : Value} {a a' : Act} (hy : Still1 P ops C o v a) (he : execOp a'.eval o = execOp a.eval o)
    (hw : Region.wanted o (yielded ops a'.tmps) = Region.wanted o (yielded ops a.tmps)) : Still1 P ops C o v a' := by
  unfold Still1 at *
  rw [he, hw]
  exact hy

theorem Still1.wpOp {i : Nat} {o : Oper} {v : Value} {a : Act} (hi : ops[i]? = some o) (hy : Still1 P ops C o v a) {K : Act → World → Prop} {w : World} (hw : C w) (h : K (a.put o.dst v) w) : wpOp P ops Q i K a w := by
  unfold Go.wpOp
  simp only [hi]
  rcases hy with ⟨hx, hv⟩ | ⟨hx, rfl⟩
  · simp only [hx, if_true, Oper.wp, hv w hw, Oper.upon]; exact .inl h
  · simp only [hx, Bool.false_eq_true, if_false]; exact h

/-- No way out of the region but the normal one. -/
def Only (Q : Exit → Act → World → Prop) : Exit → Act → World → Prop := fun e a w => e = .normal ∧ Q .normal a w

theorem wpOp_put1 {j : Nat} {oi oj : Oper} {v : Value} (hj : ops[j]? = some oj) (hap : oi.apart ops oj = true)
    (hsi : ∀ cs b, oi.op ≠ .select cs b) (hsj : ∀ cs b, oj.op ≠ .select cs b) {K : Act → World → Prop} {a : Act} {w : World}
    (hy : Still1 P ops C oi v a) (h : wpOp P ops (Only Q) j K (a.put oi.dst v) w) :
    wpOp P ops (Only Q) j (fun a' w' => Still1 P ops C oi v a' ∧ K (a'.put oi.dst v) w') a w := by
  obtain ⟨h1, h2, h3⟩ := Oper.apart_spec hap
  have keep : ∀ (a : Act), Still1 P ops C oi v a → ∀ u, Still1 P ops C oi v (a.put oj.dst u) := fun a hy u =>
    hy.of_same (execOp_put oi hsi a oj.dst u h3) (wanted_put oi a oj.dst u h3)
  have keepD : ∀ d, Still1 P ops C oi v { a with defers := d :: a.defers } := fun d => hy.of_same rfl rfl
  unfold wpOp at *
  simp only [hj] at *
  rw [wanted_put oj a oi.dst v h1] at h
  split
  · rename_i hw
    simp only [hw, if_true] at h
    rcases h with h | ⟨hasks, hlets⟩
    case inr => exact .inr ⟨by unfold Oper.asks at *; rw [execOp_put oj hsj a oi.dst v h1] at hasks; exact hasks, hlets⟩
    refine .inl ?_
    unfold Oper.wp at *
    rw [execOp_put oj hsj a oi.dst v h1] at h
    generalize (execOp a.eval oj).run P w = r at *
    cases r with
    | ok n w' =>
      cases n <;> simp only [Oper.upon] at h ⊢
      case value u => exact ⟨keep a hy u, by rw [← Act.put_comm a v u h2]; exact h⟩
      case skip => exact ⟨keep a hy _, by rw [← Act.put_comm a v undef h2]; exact h⟩
      case defer d =>
        refine ⟨keep _ (keepD d) _, ?_⟩
        rw [← Act.put_comm _ v undef h2, ← Act.put_defers]
        exact h
      case enter f args =>
        refine Calls.mono h fun e w'' he => ?_
        cases e with
        | returned u => exact ⟨keep a hy u, by rw [← Act.put_comm a v u h2]; exact he⟩
        | panicked c => exact absurd he.1 (by simp)
        | outgrown => exact he
      case row row args => exact Rows.mono h fun u w'' he => ⟨keep a hy u, by rw [← Act.put_comm a v u h2]; exact he⟩
    | halt x w' =>
      cases x <;> simp only [Oper.upon] at h ⊢
      case panic u => exact absurd h.1 (by simp)
  · rename_i hw
    simp only [hw] at h
    exact ⟨keep a hy _, by rw [← Act.put_comm a v undef h2]; exact h⟩

/-- Operation 'i' waits for 'j', through at most so many others. -/
def anc (md : Region.Mode) (ops : Array Oper) : Nat → Nat → Nat → Bool
  | 0, _, _ => false
  | f + 1, j, i => match ops[i]? with
    | none => false
    | some o => o.after.any fun e => Region.binds md e && (e.on == j || anc md ops f j e.on)

def Closed (md : Region.Mode) (ops : Array Oper) (listed : Array Bool) : Prop :=
  ∀ j oj, ops[j]? = some oj → listed.getD j false = true → ∀ e ∈ oj.after, Region.binds md e = true → listed.getD e.on false = true

theorem anc_listed {listed : Array Bool} (hc : Closed md ops listed) : ∀ (f j i : Nat), anc md ops f j i = true → (∀ o, ops[i]? = some o → ∀ e ∈ o.after, Region.binds md e = true → listed.getD e.on false = true) → listed.getD j false = true := by
  intro f
  induction f with
  | zero => intro j i h; simp [anc] at h
  | succ f ih =>
    intro j i h hd
    unfold anc at h
    cases ho : ops[i]? with
    | none => rw [ho] at h; simp at h
    | some o =>
      rw [ho] at h
      obtain ⟨e, he, hb⟩ := Array.any_eq_true'.1 h
      simp only [Bool.and_eq_true, Bool.or_eq_true, beq_iff_eq] at hb
      have hl := hd o ho e he hb.1
      rcases hb.2 with rfl | h2
      · exact hl
      · exact ih j e.on h2 fun o' ho' e' he' hb' => hc e.on o' ho' hl e' he' hb'

theorem Closed.set {listed : Array Bool} (hc : Closed md ops listed) {i : Nat} (hi : i ∈ Region.ready md ops listed) : Closed md ops (listed.setIfInBounds i true) := by
  obtain ⟨_, oi, hoi, hall⟩ := mem_ready.1 hi
  intro j oj hj hl e he hb
  by_cases hij : i = j
  · subst hij
    rw [hoi] at hj
    cases hj
    exact getD_set_true (hall e he hb)
  · rw [getD_set_ne false hij] at hl
    exact getD_set_true (hc j oj hj hl e he hb)

/-- Whatever order is picked from here on; behind each operation but the last one, 'z', the world is of the class. -/
def wpAnyC (P : Program) (md : Region.Mode) (ops : Array Oper) (C : World → Prop) (Q : Exit → Act → World → Prop) (z : Nat) : Nat → Array Bool → Act → World → Prop
  | 0, listed, a, w => Region.ready md ops listed = [] ∧ Q .normal a w
  | fuel + 1, listed, a, w =>
    (Region.ready md ops listed = [] → Q .normal a w) ∧
    ∀ i ∈ Region.ready md ops listed, wpOp P ops Q i (fun a' w' => (i ≠ z → C w') ∧ wpAnyC P md ops C Q z fuel (listed.setIfInBounds i true) a' w') a w

theorem wpAny_of_C {z : Nat} : ∀ (fuel : Nat) (listed : Array Bool) (a : Act) (w : World), wpAnyC P md ops C Q z fuel listed a w → wpAny P md ops Q fuel listed a w
  | 0, _, _, _, h => h
  | fuel + 1, _, _, _, h => ⟨h.1, fun i hi => wpOp_mono (fun _ _ h' => wpAny_of_C fuel _ _ _ h'.2) (h.2 i hi)⟩

/-- An operation that is still in the class may be taken first. -/
theorem mix_first {i z : Nat} {oi : Oper} {v : Value} (hi : ops[i]? = some oi) (hsel : ∀ (j : Nat) (o : Oper) cs b, ops[j]? = some o → o.op ≠ .select cs b) (hz : ∃ f, anc md ops f i z = true) :
    ∀ (fuel : Nat) (listed : Array Bool) (a : Act) (w : World), C w → Closed md ops listed →
      (∀ j oj, ops[j]? = some oj → j ≠ i → listed.getD j true = false → (∀ e ∈ oj.after, Region.binds md e = true → e.on ≠ i) → oi.apart ops oj = true) →
      i ∈ Region.ready md ops listed → Still1 P ops C oi v a →
      wpAnyC P md ops C (Only Q) z fuel (listed.setIfInBounds i true) (a.put oi.dst v) w → wpAnyC P md ops C (Only Q) z (fuel + 1) listed a w := by
  intro fuel
  induction fuel with
  | zero =>
    intro listed a w hw _ _ hr hy H
    refine ⟨fun h => (by rw [h] at hr; cases hr), fun j hj => ?_⟩
    by_cases hji : j = i
    · subst hji; exact hy.wpOp hi hw ⟨fun _ => hw, H⟩
    · have := ready_mono hj hji
      rw [H.1] at this
      cases this
  | succ fuel ih =>
    intro listed a w hw hc hfree hr hy H
    refine ⟨fun h => (by rw [h] at hr; cases hr), fun j hj => ?_⟩
    by_cases hji : j = i
    · subst hji; exact hy.wpOp hi hw ⟨fun _ => hw, H⟩
    · have h1 := H.2 j (ready_mono hj hji)
      obtain ⟨hjun, oj, hoj, hall⟩ := mem_ready.1 hj
      have hiun := (mem_ready.1 hr).1
      have hif : listed.getD i false = false := by
        rcases Nat.lt_or_ge i listed.size with h' | h'
        · simp [h'] at hiun ⊢; exact hiun
        · simp [Array.getElem?_eq_none h'] at hiun
      have hnot : ∀ e ∈ oj.after, Region.binds md e = true → e.on ≠ i := fun e he hb heq => by
        have h1 := hall e he hb
        rw [heq, hif] at h1
        cases h1
      have hjz : j ≠ z := by
        rintro rfl
        obtain ⟨f, hf⟩ := hz
        have := anc_listed hc f i j hf fun o ho e he hb => by rw [hoj] at ho; cases ho; exact hall e he hb
        rw [hif] at this
        cases this
      have h2 := wpOp_put1 hoj (hfree j oj hoj hji hjun hnot) (fun cs b => hsel i oi cs b hi) (fun cs b => hsel j oj cs b hoj) hy h1
      have hfree' : ∀ k ok, ops[k]? = some ok → k ≠ i → (listed.setIfInBounds j true).getD k true = false →
          (∀ e ∈ ok.after, Region.binds md e = true → e.on ≠ i) → oi.apart ops ok = true := fun k ok hk hki hun hno => by
        refine hfree k ok hk hki ?_ hno
        by_cases hjk : j = k
        · subst hjk; exact hjun
        · rw [getD_set_ne true hjk] at hun; exact hun
      refine wpOp_mono (fun a' w' h3 => ⟨h3.2.1, ih (listed.setIfInBounds j true) a' w' (h3.2.1 hjz) (hc.set hj) hfree' (ready_mono hr (Ne.symm hji)) h3.1 ?_⟩) h2
      rw [Array.setIfInBounds_comm _ _ hji]
      exact h3.2.2

/-- The walk: first the readers, then the chain. -/
def wpMix (P : Program) (ops : Array Oper) (C : World → Prop) (Q : Exit → Act → World → Prop) (z : Nat) : List Nat → Act → World → Prop
  | [], a, w => Q .normal a w
  | i :: r, a, w => wpOp P ops Q i (fun a' w' => (i ≠ z → C w') ∧ wpMix P ops C Q z r a' w') a w

def mixTail (md : Region.Mode) (ops : Array Oper) : List Nat → Array Bool → Bool
  | [], listed => (Region.ready md ops listed).isEmpty
  | i :: r, listed => (Region.ready md ops listed == [i]) && mixTail md ops r (listed.setIfInBounds i true)

theorem wpAnyC_tail {z : Nat} : ∀ (l : List Nat) (listed : Array Bool) (a : Act) (w : World), mixTail md ops l listed = true → wpMix P ops C Q z l a w → wpAnyC P md ops C Q z l.length listed a w
  | [], listed, a, w, hB, h => ⟨by simpa [mixTail] using hB, h⟩
  | i :: r, listed, a, w, hB, h => by
    simp only [mixTail, Bool.and_eq_true, beq_iff_eq] at hB
    refine ⟨fun h0 => (by rw [hB.1] at h0; cases h0), fun j hj => ?_⟩
    rw [hB.1] at hj
    simp only [List.mem_cons, List.not_mem_nil, or_false] at hj
    subst hj
    exact wpOp_mono (fun a' w' h' => ⟨h'.1, wpAnyC_tail r _ a' w' hB.2 h'.2⟩) h

def mixHead (md : Region.Mode) (ops : Array Oper) (z : Nat) (tail : List Nat) : List Nat → Array Bool → Bool
  | [], listed => mixTail md ops tail listed
  | i :: r, listed => (Region.ready md ops listed).contains i && (Region.free md ops listed i && (anc md ops ops.size i z && mixHead md ops z tail r (listed.setIfInBounds i true)))

/-- The readers, one after the other. -/
def wpHead (P : Program) (ops : Array Oper) (C : World → Prop) (K : Act → Prop) : List Nat → Act → Prop
  | [], a => K a
  | i :: r, a => match ops[i]? with
    | none => False
    | some o => plainOp o.op = true ∧ ((if Region.wanted o (yielded ops a.tmps) then o.quiet P a C (wpHead P ops C K r) else wpHead P ops C K r (a.put o.dst undef)))

theorem still_of_quiet {o : Oper} {a : Act} {K : Act → Prop} (hp : plainOp o.op = true) (h : if Region.wanted o (yielded ops a.tmps) then o.quiet P a C K else K (a.put o.dst undef)) :
    ∃ v, Still1 P ops C o v a ∧ K (a.put o.dst v) := by
  by_cases hw : Region.wanted o (yielded ops a.tmps) = true
  · rw [if_pos hw] at h
    obtain ⟨v, h1, h2⟩ := h
    refine ⟨v, .inl ⟨hw, fun w hC => ?_⟩, h2⟩
    have h3 := h1 w hC
    unfold Oper.quietAt at h3
    cases hr : (execOp a.eval o).run P w with
    | ok n w' =>
      obtain ⟨x, rfl⟩ := plain_value hp hr
      rw [hr] at h3
      obtain ⟨rfl, rfl⟩ := h3
      rfl
    | halt x w' => rw [hr] at h3; exact h3.elim
  · rw [if_neg hw] at h
    exact ⟨undef, .inr ⟨by simpa using hw, rfl⟩, h⟩

theorem wpAnyC_head {z : Nat} (hsel : ∀ (j : Nat) (o : Oper) cs b, ops[j]? = some o → o.op ≠ .select cs b) {tail : List Nat} {w : World} (hC : C w) :
    ∀ (l : List Nat) (listed : Array Bool) (a : Act), Closed md ops listed → mixHead md ops z tail l listed = true → wpHead P ops C (fun a' => wpMix P ops C (Only Q) z tail a' w) l a → wpAnyC P md ops C (Only Q) z (l.length + tail.length) listed a w
  | [], listed, a, _, hB, h => by
    simp only [List.length_nil, Nat.zero_add]
    exact wpAnyC_tail tail listed a w hB h
  | i :: r, listed, a, hc, hB, h => by
    simp only [mixHead, Bool.and_eq_true] at hB
    obtain ⟨hr, hf, ha, hB'⟩ := hB
    have hr' : i ∈ Region.ready md ops listed := by simpa using hr
    unfold wpHead at h
    cases ho : ops[i]? with
    | none => rw [ho] at h; exact h.elim
    | some o =>
      rw [ho] at h
      obtain ⟨v, hs, hK⟩ := still_of_quiet h.1 h.2
      rw [show (i :: r).length + tail.length = (r.length + tail.length) + 1 from by simp; omega]
      exact mix_first ho hsel ⟨_, ha⟩ _ listed a w hC hc (Region.free_spec ho hf) hr' hs
        (wpAnyC_head hsel hC r _ _ (hc.set hr') hB' hK)

theorem wp_region_mix {id : Nat} {a : Act} {w : World} (head tail : List Nat) (z : Nat) (hm : P.follows .mixedOrders = true) (hs : Region.noSelect ops = true)
    (hB : mixHead .any ops z tail head (Array.replicate ops.size false) = true) (hlen : head.length + tail.length = ops.size) (hC : C { w with drawn := w.drawn + 1 })
    (h : wpHead P ops C (fun a' => wpMix P ops C (Only Q) z tail a' { w with drawn := w.drawn + 1 }) head a) : (Code.region id ops true).wp P Q a w := by
  have hcl : Closed .any ops (Array.replicate ops.size false) := by
    intro j oj hj hl
    rw [getD_replicate_false] at hl
    cases hl
  have h1 := wpAnyC_head (md := .any) (z := z) (Region.noSelect_spec hs) hC head _ a hcl hB h
  rw [hlen] at h1
  exact wp_mono (wp_region_any (Q := Only Q) hm (wpAny_of_C _ _ _ _ h1)) fun e a w ⟨he, hq⟩ => he ▸ hq


/-! The same with the readers marked by flags, the rest being the chain. -/
def pickT : List Bool → List Oper → List Oper
  | true :: fs, x :: xs => x :: pickT fs xs
  | false :: fs, _ :: xs => pickT fs xs
  | _, _ => []
def pickF : List Bool → List Oper → List Oper
  | true :: fs, _ :: xs => pickF fs xs
  | false :: fs, x :: xs => x :: pickF fs xs
  | _, _ => []
def idxT : Nat → List Bool → List Nat
  | k, true :: fs => k :: idxT (k + 1) fs
  | k, false :: fs => idxT (k + 1) fs
  | _, [] => []
def idxF : Nat → List Bool → List Nat
  | k, true :: fs => idxF (k + 1) fs
  | k, false :: fs => k :: idxF (k + 1) fs
  | _, [] => []

theorem head_of_flags {K : Act → Prop} : ∀ (fs : List Bool) (l : List Oper) (k : Nat) (a : Act), fs.length = l.length → (∀ j, l[j]? = ops[k + j]?) → (pickT fs l).all (fun o => plainOp o.op) = true → wpQuiet P ops C K (pickT fs l) a → wpHead P ops C K (idxT k fs) a
  | [], [], _, _, _, _, _, h => h
  | [], _ :: _, _, _, hl, _, _, _ => by simp at hl
  | _ :: _, [], _, _, hl, _, _, _ => by simp at hl
  | true :: fs, o :: l, k, a, hl, hj, hp, h => by
    have h0 : ops[k]? = some o := by simpa using (hj 0).symm
    have hj' : ∀ j, l[j]? = ops[k + 1 + j]? := fun j => by have := hj (j + 1); simpa [Nat.add_assoc, Nat.add_comm 1 j] using this
    simp only [pickT, List.all_cons, Bool.and_eq_true] at hp
    simp only [idxT, wpHead, h0]
    refine ⟨hp.1, ?_⟩
    have h' : if Region.wanted o (yielded ops a.tmps) then o.quiet P a C (wpQuiet P ops C K (pickT fs l)) else wpQuiet P ops C K (pickT fs l) (a.put o.dst undef) := h
    have hm : ∀ a', wpQuiet P ops C K (pickT fs l) a' → wpHead P ops C K (idxT (k + 1) fs) a' := fun a' => head_of_flags fs l (k + 1) a' (by simpa using hl) hj' hp.2
    split
    · rename_i hw
      rw [if_pos hw] at h'
      exact Oper.quiet_mono hm h'
    · rename_i hw
      rw [if_neg hw] at h'
      exact hm _ h'
  | false :: fs, o :: l, k, a, hl, hj, hp, h => by
    have hj' : ∀ j, l[j]? = ops[k + 1 + j]? := fun j => by have := hj (j + 1); simpa [Nat.add_assoc, Nat.add_comm 1 j] using this
    simp only [pickT] at hp h
    simp only [idxT]
    exact head_of_flags fs l (k + 1) a (by simpa using hl) hj' hp h

/-- The chain, an operation at a time; between two of them the world is of the class. -/
def wpTail (P : Program) (ops : Array Oper) (C : World → Prop) (Q : Exit → Act → World → Prop) : List Oper → Act → World → Prop
  | [], a, w => Q .normal a w
  | [o], a, w => wpList P ops (fun e a' w' => e = .normal ∧ Q .normal a' w') [o] a w
  | o :: o' :: r, a, w => wpList P ops (fun e a' w' => e = .normal ∧ (C w' ∧ wpTail P ops C Q (o' :: r) a' w')) [o] a w

theorem wpOp_of_single {i : Nat} {o : Oper} {K : Act → World → Prop} {a : Act} {w : World} (hi : ops[i]? = some o) (h : wpList P ops (fun e a' w' => e = .normal ∧ K a' w') [o] a w) : wpOp P ops (Only Q) i K a w := by
  unfold wpOp
  simp only [hi]
  unfold wpList at h
  split
  · rename_i hw
    rw [if_pos hw] at h
    refine .inl ?_
    rcases h with h | ⟨_, hl⟩
    · unfold Oper.wp at *
      generalize (execOp a.eval o).run P w = r at *
      cases r with
      | ok n w' =>
        cases n <;> simp only [Oper.upon] at h ⊢
        case value u => exact h.2
        case skip => exact h.2
        case defer d => exact h.2
        case enter f args =>
          refine Calls.mono h fun e w'' he => ?_
          cases e with
          | returned u => exact he.2
          | panicked c => exact absurd he.1 (by simp)
          | outgrown => obtain ⟨a', w', he, _⟩ := he; exact absurd he (by simp)
        case row row args => exact Rows.mono h fun u w'' he => he.2
      | halt x w' =>
        cases x <;> simp only [Oper.upon] at h ⊢
        case panic u => exact absurd h.1 (by simp)
    · obtain ⟨a', w', he, _⟩ := hl; exact absurd he (by simp)
  · rename_i hw
    rw [if_neg hw] at h
    exact h.2

theorem tail_of_flags {z : Nat} : ∀ (fs : List Bool) (l : List Oper) (k : Nat) (a : Act) (w : World), fs.length = l.length → (∀ j, l[j]? = ops[k + j]?) → (idxF k fs).getLast? = some z ∨ idxF k fs = [] →
    wpTail P ops C Q (pickF fs l) a w → wpMix P ops C (Only Q) z (idxF k fs) a w
  | [], [], _, _, _, _, _, _, h => ⟨rfl, h⟩
  | [], _ :: _, _, _, _, hl, _, _, _ => by simp at hl
  | _ :: _, [], _, _, _, hl, _, _, _ => by simp at hl
  | true :: fs, o :: l, k, a, w, hl, hj, hz, h => by
    have hj' : ∀ j, l[j]? = ops[k + 1 + j]? := fun j => by have := hj (j + 1); simpa [Nat.add_assoc, Nat.add_comm 1 j] using this
    simp only [pickF, idxF] at h hz ⊢
    exact tail_of_flags fs l (k + 1) a w (by simpa using hl) hj' hz h
  | false :: fs, o :: l, k, a, w, hl, hj, hz, h => by
    have h0 : ops[k]? = some o := by simpa using (hj 0).symm
    have hj' : ∀ j, l[j]? = ops[k + 1 + j]? := fun j => by have := hj (j + 1); simpa [Nat.add_assoc, Nat.add_comm 1 j] using this
    have hl' : fs.length = l.length := by simpa using hl
    simp only [pickF, idxF] at h hz ⊢
    have hlen : ∀ (fs : List Bool) (l : List Oper) (k : Nat), fs.length = l.length → (pickF fs l).length = (idxF k fs).length := by
      intro fs
      induction fs with
      | nil => intro l k h; cases l <;> simp [pickF, idxF] at h ⊢
      | cons f fs ih =>
        intro l k h
        cases l with
        | nil => simp at h
        | cons x xs =>
          have := ih xs (k + 1) (by simpa using h)
          cases f <;> simp [pickF, idxF, this]
    have hL := hlen fs l (k + 1) hl'
    unfold wpMix
    cases hT : pickF fs l with
    | nil =>
      rw [hT] at h hL
      have hI : idxF (k + 1) fs = [] := List.eq_nil_of_length_eq_zero (by rw [← hL]; rfl)
      rw [hI] at hz ⊢
      have hkz : k = z := by simpa using hz
      refine wpOp_of_single h0 ?_
      simp only [wpTail] at h
      simpa [wpMix, Only, hkz] using h
    | cons o' r =>
      rw [hT] at h hL
      have hI : idxF (k + 1) fs ≠ [] := by intro e; rw [e] at hL; simp at hL
      have hz' : (idxF (k + 1) fs).getLast? = some z ∨ idxF (k + 1) fs = [] := by
        left
        rcases hz with hz | hz
        · cases hq : idxF (k + 1) fs with
          | nil => exact absurd hq hI
          | cons y ys => rw [hq] at hz; simpa [List.getLast?_cons_cons] using hz
        · simp at hz
      refine wpOp_mono (fun a' w' h' => ?_) (wpOp_of_single (Q := Q) h0 h)
      refine ⟨fun _ => h'.1, tail_of_flags fs l (k + 1) a' w' hl' hj' hz' ?_⟩
      rw [hT]
      exact h'.2

/-- The readers (marked true) in the text's order, then the others, which are a chain. -/
theorem wp_region_flags {id : Nat} {a : Act} {w : World} {l : List Oper} (fs : List Bool) (z : Nat) (hm : P.follows .mixedOrders = true)
    (hB : (Region.noSelect l.toArray && (fs.length == l.length && ((idxT 0 fs).length + (idxF 0 fs).length == l.toArray.size && ((idxF 0 fs).getLast? == some z && ((pickT fs l).all (fun o => plainOp o.op) &&
      mixHead .any l.toArray z (idxF 0 fs) (idxT 0 fs) (Array.replicate l.toArray.size false)))))) = true)
    (hC : C w.drew) (h : wpQuiet P l.toArray C (fun a' => wpTail P l.toArray C Q (pickF fs l) a' w.drew) (pickT fs l) a) : (Code.region id l.toArray true).wp P Q a w := by
  simp only [Bool.and_eq_true, beq_iff_eq] at hB
  obtain ⟨b1, b2, b3, b4, b5, b6⟩ := hB
  refine wp_region_mix (C := C) (idxT 0 fs) (idxF 0 fs) z hm b1 b6 b3 hC ?_
  refine head_of_flags fs l 0 a b2 (by simp) b5 ?_
  have hmono : ∀ (l' : List Oper) (a : Act), wpQuiet P l.toArray C (fun a' => wpTail P l.toArray C Q (pickF fs l) a' w.drew) l' a → wpQuiet P l.toArray C (fun a' => wpMix P l.toArray C (Only Q) z (idxF 0 fs) a' w.drew) l' a := by
    intro l'
    induction l' with
    | nil => intro a h; exact tail_of_flags fs l 0 a _ b2 (by simp) (.inl b4) h
    | cons o r ih =>
      intro a h
      unfold wpQuiet at h ⊢
      split
      · rename_i hw
        rw [if_pos hw] at h
        exact Oper.quiet_mono ih h
      · rename_i hw
        rw [if_neg hw] at h
        exact ih _ h
  exact hmono _ a h

end

/-- A world that has grown, one row of it perhaps written. -/
structure Grow (w : World) (row : Option Nat) where
  val : World
  ok : w.grownBy val row
instance growNonempty (w : World) (row : Option Nat) : Nonempty (Grow w row) := ⟨⟨w, World.grownBy.refl _ _⟩⟩
theorem grow_cell {w : World} {row : Option Nat} {b o : Nat} {v : Value} (h : w.cell? ⟨b, o, none⟩ = some v) (hr : some b ≠ row) : ∀ u : Grow w row, u.val.cell? ⟨b, o, none⟩ = some v :=
  fun u => u.ok.cell h hr

theorem grown_drew {w w' : World} {row : Option Nat} (h : w.grownBy w' row) : w.grownBy w'.drew row := ⟨h.os, h.tape, h.output, h.size, h.block⟩
theorem grown_trans {w w1 w2 : World} {row : Option Nat} (h : w.grownBy w1 row) (k : w1.grownBy w2 row) : w.grownBy w2 row :=
  ⟨k.os.trans h.os, k.tape.trans h.tape, k.output.trans h.output, Nat.le_trans h.size k.size, fun i hi hr => (k.block i (Nat.lt_of_lt_of_le hi h.size) hr).trans (h.block i hi hr)⟩
theorem grown_alloc {w w1 : World} {row : Option Nat} (h : w.grownBy w1 row) (o : Obj) : w.grownBy (w1.alloc o) row := grown_trans h (World.grownBy_alloc w1 o row)

/-- 'append(s, x)': one element, laid in a new block just before; what may have been written is the row's own block. -/
theorem append1g {P : Program} {t e : TypeId} {z : Value} {size bytes : Nat} (I : Info P t e z size bytes) {w0 w : World} {B : Nat} {arr : Array Value}
    {ops : Array Oper} {rest : List Oper} {o : Oper} {a : Act} {Q : Exit → Act → World → Prop} (s x : Operand) (hgd : o.guard = none)
    (ho : o.op = .call { callee := .builtin .append, args := #[s, x], argTypes := #[t, t] })
    {a0 : Option Addr} {n c cx : Nat} {xs : List Value} (hown : w.ownsRow B e size (.slice a0 n c) n xs) (hg : w0.grownBy w (Value.slice a0 n c).ownBlock) (hBw : B ≤ w.heap.size)
    (hs : a.eval s = .slice a0 n c) (hx : a.eval x = .slice (some ⟨w.heap.size, 0, none⟩) 1 cx) (harr : arr.size = size) (h1 : ∀ u ∈ arr.toList, u.oneCell' = true)
    (hN : (n + 1) * bytes ≤ 140737488355328)
    (h : ∀ a' c' w', w'.ownsRow B e size (.slice a' (n + 1) c') (n + 1) (xs ++ arr.toList) → w0.grownBy w' (Value.slice a0 n c).ownBlock → (∀ x, a' = some x → (Value.slice a0 n c).ownBlock = some x.block ∨ w.heap.size ≤ x.block) →
      wpList P ops Q rest (a.put o.dst (.slice a' (n + 1) c')) w') :
    wpList P ops Q (o :: rest) a (w.alloc (.cells arr e)) := by
  obtain ⟨i, hi, hz0, hz1, hz2⟩ := info_parts I.row
  have hm : n + 1 ≤ maxLen := by
    have : n + 1 ≤ (n + 1) * bytes := Nat.le_mul_of_pos_right _ I.bpos
    unfold maxLen; omega
  have hgA := grown_alloc hg (.cells arr e)
  by_cases hroom : n + 1 ≤ c
  · rcases own_cases hown with ⟨rfl, rfl, rfl⟩ | ⟨g, rfl, hgB, hgw⟩
    · omega
    · refine wpList_append_fits _ hgd s x t ho B e i size I.und hi hz1 g n c xs hs (hown.alloc _) ⟨w.heap.size, 0, none⟩ 1 cx arr.toList hx (by simp [harr]) (cells_new w arr e) h1 hroom ?_
      intro w' hown' hg'
      exact h _ _ w' hown' (grown_trans hgA (by simpa [Value.ownBlock] using hg')) fun y hy => by cases hy; exact .inl rfl
  · have hnone : a0 = none → n = 0 ∧ c = 0 := by
      rintro rfl
      rcases own_cases hown with ⟨_, h2, h3⟩ | ⟨g, h2, _⟩
      · exact ⟨h2, h3⟩
      · cases h2
    refine wpList_append_grows _ hgd s x t ho e i z size bytes I.und hi hz0 hz1 hz2 I.zs I.pos a0 n c xs hs hnone hown.1 ?_ ⟨w.heap.size, 0, none⟩ 1 cx arr.toList hx (by simp [harr]) (cells_new w arr e) h1 (by omega) hm hN ?_
    · intro b hb j u hu
      subst hb
      obtain ⟨b', off, e1, hc⟩ := own_rd (hown.alloc (.cells arr e)) j u hu
      cases e1
      rw [Addr.add_lit]; exact hc
    · intro v' w' hown' hg'
      obtain ⟨a', c', rfl⟩ := own_slice hown'
      have hsz : w.heap.size < (w.alloc (.cells arr e)).heap.size := by simp
      refine h a' c' w' (own_mono hown' (by omega)) (grown_trans hgA ⟨hg'.os, hg'.tape, hg'.output, hg'.size, fun k hk _ => hg'.block k hk (by simp)⟩) fun y hy => .inr ?_
      have := (own_lt hown' y hy).1
      omega

theorem tail_step {P : Program} {ops : Array Oper} {C : World → Prop} {Q : Exit → Act → World → Prop} {o o' : Oper} {r : List Oper} {a : Act} {w : World}
    (h : ∀ K : Act → World → Prop, (∀ a' w', C w' → wpTail P ops C Q (o' :: r) a' w' → K a' w') → wpList P ops (fun e a' w' => e = .normal ∧ K a' w') [o] a w) : wpTail P ops C Q (o :: o' :: r) a w :=
  h (fun a' w' => C w' ∧ wpTail P ops C Q (o' :: r) a' w') (fun _ _ h1 h2 => ⟨h1, h2⟩)
theorem tail_last {P : Program} {ops : Array Oper} {C : World → Prop} {Q : Exit → Act → World → Prop} {o : Oper} {a : Act} {w : World}
    (h : ∀ K : Act → World → Prop, (∀ a' w', Q .normal a' w' → K a' w') → wpList P ops (fun e a' w' => e = .normal ∧ K a' w') [o] a w) : wpTail P ops C Q [o] a w :=
  h (fun a' w' => Q .normal a' w') (fun _ _ h1 => h1)

theorem blk_lt {w : World} {b : Nat} {o : Obj} (h : w.heap[b]? = some o) : b < w.heap.size := (Array.getElem?_eq_some_iff.1 h).1
theorem blk_below {w w' : World} {b : Nat} {o : Obj} (h : w.heap[b]? = some o) (hb : Below w.heap.size w w') : w'.heap[b]? = some o := (hb.block b (blk_lt h)).trans h
theorem blk_grown {w w' : World} {b : Nat} {o : Obj} {row : Option Nat} (h : w.heap[b]? = some o) (hg : w.grownBy w' row) (hr : some b ≠ row) : w'.heap[b]? = some o := (hg.block b (blk_lt h) hr).trans h
theorem blk_cell {w : World} {b : Nat} {cs : Array Value} {T : TypeId} {f : Nat × Nat} (h : w.heap[b]? = some (.cells cs T f)) (j : Nat) (v : Value) (hv : cs[j]? = some v) : w.cell? ⟨b, j, none⟩ = some v := by
  rw [cell_of_row w b j cs T f h]; exact hv
theorem blk_free {w : World} {b : Nat} {cs : Array Value} {T : TypeId} (h : w.heap[b]? = some (.cells cs T (0, 0))) (j : Nat) : w.frozen? ⟨b, j, none⟩ = false := frozen_of_row w b j cs T h
theorem blk_set {w : World} {b : Nat} {cs : Array Value} {T : TypeId} (h : w.heap[b]? = some (.cells cs T (0, 0))) (j : Nat) (v : Value) : (w.setCell ⟨b, j, none⟩ v).heap[b]? = some (.cells (cs.setIfInBounds j v) T (0, 0)) :=
  heap_setCell_same w b j cs T v h
theorem blk_set_other {w : World} {b g : Nat} {o : Obj} (h : w.heap[b]? = some o) (j : Nat) (v : Value) (hne : b ≠ g) : (w.setCell ⟨g, j, none⟩ v).heap[b]? = some o :=
  (heap_setCell_other w ⟨g, j, none⟩ b v hne).trans h

/-- An owned row and a block of another element type lie apart. -/
theorem own_ne {w : World} {B T s n c m : Nat} {a : Option Addr} {cs : List Value} (h : w.ownsRow B T s (.slice a m c) n cs) {b : Nat} {ds : Array Value} {T2 : TypeId} {f : Nat × Nat} (hb : w.heap[b]? = some (.cells ds T2 f)) (hT : T ≠ T2) :
    some b ≠ (Value.slice a m c).ownBlock := by
  rcases h.2 with ⟨h1, h2⟩ | ⟨g, cap, cur, h1, hB, hg, _⟩
  · cases h1; simp [Value.ownBlock]
  · cases h1
    simp only [Value.ownBlock, ne_eq, Option.some.injEq]
    rintro rfl
    rw [hg] at hb
    simp at hb
    exact hT hb.2.1

theorem own_setOther {w : World} {B T s n c m : Nat} {a : Option Addr} {cs : List Value} (h : w.ownsRow B T s (.slice a m c) n cs) (b j : Nat) (v : Value) (hne : some b ≠ (Value.slice a m c).ownBlock) : (w.setCell ⟨b, j, none⟩ v).ownsRow B T s (.slice a m c) n cs := by
  refine ⟨h.1, ?_⟩
  rcases h.2 with h0 | ⟨g, cap, cur, h1, hB, hg, r⟩
  · exact .inl h0
  · refine .inr ⟨g, cap, cur, h1, hB, ?_, r⟩
    have hgb : g ≠ b := by
      rintro rfl
      cases h1
      simp [Value.ownBlock] at hne
    exact blk_set_other hg j v hgb

theorem rd_setOther {w : World} {a : Option Addr} {cs : List Value} (h : Rd w a cs) (b j : Nat) (v : Value) (hne : ∀ x, a = some x → x.block ≠ b) : Rd (w.setCell ⟨b, j, none⟩ v) a cs := by
  intro i u hu
  obtain ⟨g, off, rfl, hc⟩ := h i u hu
  refine ⟨g, off, rfl, ?_⟩
  rw [World.cell?_of_block (w := w) (a := ⟨g, off + i, none⟩) (heap_setCell_other w ⟨b, j, none⟩ g v (hne _ rfl))]
  exact hc

/-- Apart from a row before an append, apart from it behind the append. -/
theorem apart_append {w : World} {aL av a' : Option Addr} {kv cv : Nat} (h : Apart aL av) (hL : ∀ x, aL = some x → x.block < w.heap.size)
    (hf : ∀ x, a' = some x → (Value.slice av kv cv).ownBlock = some x.block ∨ w.heap.size ≤ x.block) : Apart aL a' := by
  intro x y hx hy
  rcases hf y hy with h1 | h1
  · cases av with
    | none => simp [Value.ownBlock] at h1
    | some z =>
      simp only [Value.ownBlock, Option.some.injEq] at h1
      rw [← h1]
      exact h x z hx rfl
  · have := hL x hx
    omega

theorem below_row {w w1 w2 : World} {B T s n c m : Nat} {a : Option Addr} {cs : List Value} (hb : Below B w w1) (hB : B ≤ w.heap.size) (ho : w1.ownsRow B T s (.slice a m c) n cs) (hg : w1.grownBy w2 (Value.slice a m c).ownBlock) : Below B w w2 := by
  refine hb.grown hg (Nat.le_trans hB hb.size) ?_
  intro k hk
  exact (ho.lt k hk).1

end Go.Proofs.Ytjghcegacgpehaa
