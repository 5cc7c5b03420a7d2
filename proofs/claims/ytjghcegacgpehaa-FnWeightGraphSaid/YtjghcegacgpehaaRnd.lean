
/- A region that draws its order, within a round of a range over a function: walked as elsewhere. No program is named here. -/
import Derived.Test.YtjghcegacgpehaaBlk
import Derived.RangeFuncNested
import Derived.RangeFuncBound
import Derived.RangeFuncCalls
import Derived.RangeFuncLeaves
namespace Go.Proofs.Ytjghcegacgpehaa
open Go.RowKit

theorem rows_inRound {P : Program} {row : String} {args : Array Value} {w : World} {R : Value → World → Prop} {l n : Nat} (h : Rows P row args w R) : RowsIn (Fence.wide.inRound l) n P row args w R :=
  fun c cs _ => let ⟨v, w', r, s⟩ := h c cs; ⟨v, w', r, stepsIn_wide.2 s⟩
theorem calls_inRound {P : Program} {f : FuncId} {args : Array Value} {w : World} {R : Ending → World → Prop} {l n : Nat} (h : Calls P f args w R) : CallsIn (Fence.wide.inRound l) n P f args w R := CallsIn.inRound l (callsIn_wide.2 h)
theorem oper_inRound {P : Program} {o : Oper} {a : Act} {w : World} {l n : Nat} {next next' : Act → World → Prop} {Q : Exit → Act → World → Prop} (hd : ∀ c, o.op ≠ .defer c) (hn : ∀ a w, next a w → next' a w) (h : o.wp P a w next (Only Q) ∨ (o.asks P a w ∧ LetsOut (Only Q))) : o.wpIn (Fence.wide.inRound l) n P a w next' (Only Q) := by
  refine ⟨fun _ _ => trivial, ?_⟩
  rw [Fence.inRound_round, Oper.semAt_some l a.eval o hd]
  rcases h with h | ⟨_, hl⟩
  · unfold Oper.wp at h
    generalize (execOp a.eval o).run P w = r at *
    cases r with
    | ok n w' =>
      cases n <;> simp only [Oper.upon, Oper.uponIn] at h ⊢
      case value u => exact hn _ _ h
      case skip => exact hn _ _ h
      case defer d => exact hn _ _ h
      case enter f args =>
        refine ⟨fun h => by simp [Fence.wide] at h, calls_inRound (Calls.mono h fun e w'' he => ?_)⟩
        cases e with
        | returned u => exact hn _ _ he
        | panicked c => exact he
        | outgrown => exact he
      case row row args => exact ⟨fun h => by simp [Fence.wide] at h, rows_inRound (Rows.mono h fun u w'' he => hn _ _ he)⟩
    | halt x w' =>
      cases x <;> simp only [Oper.upon, Oper.uponIn] at h ⊢
      case panic u => exact h
  · obtain ⟨a', w', he, _⟩ := hl; exact absurd he (by simp)
theorem wpOps_inRound {P : Program} {ops : Array Oper} {Q : Exit → Act → World → Prop} {l0 n : Nat} (hd : ∀ (i : Nat) (o : Oper), ops[i]? = some o → ∀ c, o.op ≠ .defer c) : ∀ (l : List Nat) (a : Act) (w : World), wpOps P ops (Only Q) l a w → wpOpsIn (Fence.wide.inRound l0) n P ops (Only Q) l a w := by
  intro l
  induction l with
  | nil => exact fun a w h => h
  | cons i rest ih =>
    intro a w h
    unfold wpOps at h
    unfold wpOpsIn
    cases ho : ops[i]? with
    | none => rw [ho] at h; exact ih _ _ h
    | some o =>
      rw [ho] at h
      simp only at h ⊢
      split
      · rename_i hw
        rw [if_pos hw] at h
        exact oper_inRound (hd i o ho) ih h
      · rename_i hw
        rw [if_neg hw] at h
        exact ⟨fun _ _ => trivial, ih _ _ h⟩
def noDefer (l : List Oper) : Bool := l.all fun o => match o.op with | .defer _ => false | _ => true
theorem noDefer_spec {l : List Oper} (h : noDefer l = true) : ∀ (i : Nat) (o : Oper), l.toArray[i]? = some o → ∀ c, o.op ≠ .defer c := by
  intro i o hi c hc
  have hm : o ∈ l := by
    have : l[i]? = some o := by simpa using hi
    exact List.mem_of_getElem? this
  have := List.all_eq_true.1 h o hm
  rw [hc] at this
  simp at this
/-- As wp_region_flags, within a round. -/
theorem wpIn_region_flags {P : Program} {C : World → Prop} {Q : Exit → Act → World → Prop} {id l0 n : Nat} {a : Act} {w : World} {l : List Oper} (fs : List Bool) (z : Nat) (hm : P.follows .mixedOrders = true) (hnd : noDefer l = true)
    (hB : (Region.noSelect l.toArray && (fs.length == l.length && ((idxT 0 fs).length + (idxF 0 fs).length == l.toArray.size && ((idxF 0 fs).getLast? == some z && ((pickT fs l).all (fun o => plainOp o.op) &&
      mixHead .any l.toArray z (idxF 0 fs) (idxT 0 fs) (Array.replicate l.toArray.size false)))))) = true)
    (hC : C w.drew) (h : wpQuiet P l.toArray C (fun a' => wpTail P l.toArray C Q (pickF fs l) a' w.drew) (pickT fs l) a) : (Code.region id l.toArray true).wpIn (Fence.wide.inRound l0) n P Q a w := by
  simp only [Bool.and_eq_true, beq_iff_eq] at hB
  obtain ⟨b1, b2, b3, b4, b5, b6⟩ := hB
  have hmono : ∀ (l' : List Oper) (a : Act), wpQuiet P l.toArray C (fun a' => wpTail P l.toArray C Q (pickF fs l) a' w.drew) l' a → wpQuiet P l.toArray C (fun a' => wpMix P l.toArray C (Only Q) z (idxF 0 fs) a' w.drew) l' a := by
    intro l'
    induction l' with
    | nil => intro a h; exact tail_of_flags fs l 0 a _ b2 (by simp) (.inl b4) h
    | cons o r ih =>
      intro a h
      unfold wpQuiet at h ⊢
      split
      · rename_i hw
        rw [if_pos hw] at h
        exact Oper.quiet_mono ih h
      · rename_i hw
        rw [if_neg hw] at h
        exact ih _ h
  have h0 := head_of_flags (K := fun a' => wpMix P l.toArray C (Only Q) z (idxF 0 fs) a' w.drew) fs l 0 a b2 (by simp) b5 (hmono _ _ h)
  have hcl : Closed .any l.toArray (Array.replicate l.toArray.size false) := by
    intro j oj hj hl
    rw [getD_replicate_false] at hl
    cases hl
  have h1 := wpAnyC_head (md := .any) (z := z) (Region.noSelect_spec b1) hC (idxT 0 fs) _ a hcl b6 h0
  rw [b3] at h1
  have h2 := wpAny_of_C _ _ _ _ h1
  refine Code.wpIn_mono (Q := Only Q) (fun e a w he => he.1 ▸ he.2) ?_
  refine wpIn_region_draw fun t => ?_
  simp only [Region.schedule, hm, Bool.true_or, if_true]
  exact wpOps_inRound (noDefer_spec hnd) _ _ _ (wpAny_sound l.toArray.size t _ a _ h2)

end Go.Proofs.Ytjghcegacgpehaa
