/- Whole rows read and written within a range over a function: the plain laws' twins. -/
import Derived.Test.YtphdcoegkfmaeaaGreatDoorMem
import Derived.RangeFuncNested
import Derived.RangeFuncBound
import Derived.RangeFuncBox
import Derived.RangeFuncCalls
import Derived.RangeFuncLeaves
import Derived.Shelf.Abstract
import Derived.OwnWalkIn
import Derived.TacticsInMore
import Derived.LoopNIn
import Derived.LoopIn
import Derived.Deep.MidRow
set_option linter.unusedVariables false
set_option linter.unusedSimpArgs false
namespace Go.Proofs.YtphdcoegkfmaeaaGreatDoor
open Go.RowKit Go.Shelf

theorem wideIn {F : Fence} (hF : F = Fence.wide) {n : Nat} {P : Program} {f : FuncId} {args : Array Value} {w : World} {R : Ending → World → Prop} (h : Calls P f args w R) : CallsIn F n P f args w R := by
  subst hF
  exact callsIn_wide.2 h
theorem boxed_own {β : Type} (B : Nat) (t : TypeId) (v : Value) : Own (fun (_ : β) W => Boxed W B t v) := fun _ A C row hs hg hr => hs.kept hg (fun e => by
  obtain ⟨o, ho, hc⟩ := hr B e.symm
  rw [show A.heap[B]? = _ from hs] at ho
  cases ho
  cases hc)
theorem Own.and {β : Type} {I I' : β → World → Prop} (h : Own I) (h' : Own I') : Own (fun s W => I s W ∧ I' s W) := fun s W W' row hs hg hr => ⟨h s W W' row hs.1 hg hr, h' s W W' row hs.2 hg hr⟩
theorem Kept.grownBy {a w : World} (h : Kept a w) (row : Option Nat) : a.grownBy w row := ⟨h.os, h.tape, h.output, h.size, fun k hk _ => h.block k hk⟩

section
variable {F : Fence} {n : Nat} {P : Program} {ops : Array Oper} {rest : List Oper} {o : Oper} {a : Act} {w : World} {Q : Exit → Act → World → Prop}
theorem wpListIn_load_mid (hgd : o.guard = none) (ty : TypeId) (x : Operand) (ho : o.op = .load ty x)
    (b off : Nat) (hx : a.eval x = .pointer (some ⟨b, off, none⟩)) (cs : List Value) (d : TypeDesc) (hc : w.rangeAt b off cs)
    (hu : P.underlying ty = some d) (hd : d.isRow = true) (hi : (P.info? ty).map (·.size) = some cs.length)
    (h : wpListIn F n P ops Q rest (a.put o.dst (.agg cs.toArray)) w) : wpListIn F n P ops Q (o :: rest) a w := by
  refine wpListIn_plain hgd fun K hK' => ?_
  unfold Oper.wpIn
  refine ⟨?_, ?_⟩
  · simp [Oper.about, ho]
  · rw [Oper.semAt_plain F _ _ (by rw [ho]; intro c hc'; cases hc')]
    simp only [execOp, ho, hx, run_loadAt_mid w b off ty cs d hc hu hd hi, Sem.run_bind, Sem.run_pure, Result.andThen_ok]
    exact hK' _ _ h
theorem wpListIn_load_row (hgd : o.guard = none) (ty : TypeId) (x : Operand) (ho : o.op = .load ty x)
    (g : Nat) (hx : a.eval x = .pointer (some ⟨g, 0, none⟩)) (t : TypeId) (cs : Array Value) (fr : Nat × Nat) (d : TypeDesc) (hg : w.heap[g]? = some (.cells cs t fr))
    (hu : P.underlying ty = some d) (hd : d.isRow = true) (hi : (P.info? ty).map (·.size) = some cs.size)
    (h : wpListIn F n P ops Q rest (a.put o.dst (.agg cs)) w) : wpListIn F n P ops Q (o :: rest) a w := by
  have hc : w.rangeAt g 0 cs.toList := fun j v hv => by rw [Nat.zero_add, cell_of_row w g j cs t fr hg]; simpa using hv
  refine wpListIn_load_mid hgd ty x ho g 0 hx cs.toList d hc hu hd (by simpa using hi) ?_
  simpa using h
end
end Go.Proofs.YtphdcoegkfmaeaaGreatDoor
