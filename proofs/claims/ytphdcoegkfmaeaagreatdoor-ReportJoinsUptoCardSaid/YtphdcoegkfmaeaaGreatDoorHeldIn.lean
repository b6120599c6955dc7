/- A region that draws its order, in a round of a range over a function: what is proved of it outside holds there. -/
import Derived.OrdersIn
import Derived.OrdersHeld
import Derived.Deep.RegionHeld3
import Derived.Test.YtphdcoegkfmaeaaGreatDoorFence
set_option linter.unusedVariables false
set_option linter.unusedSimpArgs false
namespace Go.Proofs.YtphdcoegkfmaeaaGreatDoor
open Go.RowKit

section
variable {l n : Nat} {P : Program} {ops : Array Oper} {Q : Exit → Act → World → Prop}
theorem oper_in {o : Oper} {a : Act} {w : World} {K : Act → World → Prop} (hd : ∀ c, o.op ≠ .defer c) (h : o.wp P a w K Q) : o.wpIn (Fence.wide.inRound l) n P a w K Q := by
  refine ⟨fun _ _ => trivial, ?_⟩
  rw [Oper.semAt_eq _ _ _ hd]
  unfold Oper.wp at h
  generalize (execOp a.eval o).run P w = r at *
  cases r with
  | ok x w' =>
    cases x
    case value v => exact h
    case skip => exact h
    case defer d => exact h
    case enter f args =>
      refine ⟨fun e => ?_, (callsIn_wide.2 (show Calls P f args w' _ from h)).inRound l⟩
      cases e
    case row row args =>
      refine ⟨fun e => ?_, fun c cs _ => ?_⟩
      · cases e
      · obtain ⟨v, w2, hr, hs⟩ := (show Rows P row args w' _ from h) c cs
        exact ⟨v, w2, hr, stepsIn_wide.2 hs⟩
    all_goals exact (show False from h).elim
  | halt x w' =>
    cases x <;> first | exact h | exact (show False from h).elim
theorem op_in {i : Nat} {a : Act} {w : World} {K : Act → World → Prop} (hd : ∀ (o : Oper) c, ops[i]? = some o → o.op ≠ .defer c) (hQ : ¬ LetsOut Q) (h : wpOp P ops Q i K a w) : wpOpIn (Fence.wide.inRound l) n P ops Q i K a w := by
  unfold wpOp at h
  unfold wpOpIn
  cases ho : ops[i]? with
  | none => rw [ho] at h; exact h
  | some o =>
    rw [ho] at h
    simp only at h ⊢
    split
    · rename_i hw
      rw [if_pos hw] at h
      rcases h with h | h
      · exact oper_in (fun c => hd o c ho) h
      · exact absurd h.2 hQ
    · rename_i hw
      rw [if_neg hw] at h
      exact ⟨fun _ _ => trivial, h⟩
theorem any_in {md : Region.Mode} (hd : ∀ (i : Nat) (o : Oper) c, ops[i]? = some o → o.op ≠ .defer c) (hQ : ¬ LetsOut Q) : ∀ (fuel : Nat) (listed : Array Bool) (a : Act) (w : World), wpAny P md ops Q fuel listed a w → wpAnyIn (Fence.wide.inRound l) n P md ops Q fuel listed a w
  | 0, _, _, _, h => h
  | fuel + 1, listed, a, w, h => ⟨h.1, fun i hi => op_in (hd i) hQ (wpOp_mono (fun a' w' h' => any_in hd hQ fuel _ a' w' h') (h.2 i hi))⟩
def noDefer (ops : Array Oper) : Bool := ops.all fun o => match o.op with | .defer _ => false | _ => true
theorem noDefer_spec (h : noDefer ops = true) (i : Nat) (o : Oper) (c) (ho : ops[i]? = some o) : o.op ≠ .defer c := fun e => by
  unfold noDefer at h
  rw [Array.all_eq_true] at h
  obtain ⟨hi, hx⟩ := Array.getElem?_eq_some_iff.1 ho
  have := h i hi
  rw [hx, e] at this
  cases this
theorem held_in {id : Nat} {a : Act} {w : World} {S : World → Prop} (hm : P.follows .mixedOrders = true) (hd : noDefer ops = true) (hQ : ¬ LetsOut Q) (hS : S w.drew)
    (h : S w.drew → wpAnyH P .any ops Q S ops.size (Array.replicate ops.size false) a w.drew) : (Code.region id ops true).wpIn (Fence.wide.inRound l) n P Q a w :=
  wpIn_region_any hm (any_in (noDefer_spec hd) hQ _ _ _ _ (wpAny_of_held _ _ _ _ (h hS)))
end
end Go.Proofs.YtphdcoegkfmaeaaGreatDoor
