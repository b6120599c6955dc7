/- Sets by plain numbers as the row hands them over; the tables. -/
import Derived.Test.YtphdcoegkfmaeaaGreatDoorRowKit
import Derived.Test.YtphdcoegkfmaeaaGreatDoorSetSpec
import Derived.Test.YtphdcoegkfmaeaaGreatDoorOne
import Derived.Test.YtphdcoegkfmaeaaGreatDoorNext
import Derived.Deep.DeepHandedRow
import Derived.Deep.DeepWitnessRowRef
import Derived.Lib.LaidTab
import Derived.Stop.LaidErr
import Derived.LaidMore
import Derived.WideKeyArr2
set_option linter.unusedVariables false
set_option linter.unusedSimpArgs false
namespace Go.Proofs.YtphdcoegkfmaeaaGreatDoor
open Go.ChangeShapes Go.WideShapes Go.ChangeAt Go.RowKit Go.Deep

theorem gDeb : Tryz.prog.globalNamed "math/bits.deBruijn64tab" = some 5 := by kernel_rfl
theorem tab64_of {W : World} {rest : List (String × DataW Unit)} (h : laidMet Tryz.prog (("math/bits.deBruijn64tab", Rows.laid_math_bits_deBruijn64tab) :: rest) W) : Tab64 W := by
  have ht : Lib.TabIs Tryz.prog W "math/bits.deBruijn64tab" .u8 (Lib.deBruijn64tab.map fun n : Nat => (n : Int)) := Lib.tabIs_of_head (rest := rest) gDeb (by kernel_rfl) Tryz.underlying187 Tryz.underlying5 (by kernel_rfl) (by kernel_rfl) h
  intro j hj
  unfold Lib.TabIs World.var? at ht
  rw [gDeb] at ht
  simp only [Option.bind_some] at ht
  split at ht
  · rename_i cs t fr hh
    simp only [Option.some.injEq] at ht
    unfold World.cell?
    rw [hh]
    have hl : j < Lib.deBruijn64tab.length := by have : Lib.deBruijn64tab.length = 64 := by decide
                                                 omega
    simp [ht, List.getElem?_eq_getElem hl]
  · cases ht

section
variable {H : Type} {enc : TypeId × Value → H} {w : World} {base : Nat} {spare : Nat → Bool} {held : Bool}
set_option maxRecDepth 100000 in
theorem open_specs {fuel : Nat} {A : Option Addr} {len cap : Nat} {x : DataW H × List MemPlace} (h : DataW.trod enc Tryz.prog w base spare held fuel 22 [.slice A len cap] = some x) :
    ∃ l : List Spec, len = l.length ∧ len ≤ cap ∧ specsRow w A l ∧ (∀ y ∈ l, y.fits) ∧ (l.map fun _ => 1).sum ≤ Rows.uptoBulk x.1 := by
  rcases open_slice Tryz.underlying22 h with ⟨hcs, hx⟩ | ⟨a, len', cap', m, n, D, Pl, hcs, hb, hl, hm, hmm, hx, hi⟩
  · simp only [List.cons.injEq, Value.slice.injEq] at hcs
    obtain ⟨⟨rfl, rfl, rfl⟩, _⟩ := hcs
    exact ⟨[], rfl, Nat.le_refl _, Row.nil, by simp, by simp⟩
  · simp only [List.cons.injEq, Value.slice.injEq] at hcs
    obtain ⟨⟨rfl, rfl, rfl⟩, _⟩ := hcs
    have hlm : len ≤ m := by rw [hmm]; split <;> omega
    have key : ∀ i, ∃ y : Spec, i < len → (∀ j u, y.cells[j]? = some u → w.cell? (a.add (i * 5 + j)) = some u) ∧ y.fits ∧ 1 ≤ Rows.uptoBulk (D i) := by
      intro i
      by_cases hil : i < len
      · obtain ⟨cs', hc, ht'⟩ := hi i (by omega)
        rw [show Tryz.prog.cellsOf 57 = 5 by kernel_rfl] at hc
        obtain ⟨ys, n', hn', hy, hlen, hyl, hf⟩ := DataW.trod_struct Tryz.underlying57 ht'
        obtain ⟨_, hcl, hat⟩ := World.cells?_some hc
        match cs', hcl, hat with
        | [c0, c1, c2, c3, c4], _, hat =>
          match ys, hyl with
          | [y0, y1, y2, y3, y4], _ =>
            have e0 : DataW.trod enc Tryz.prog w base spare held n' 3 (List.take (Tryz.prog.cellsOf 3) (List.drop 0 [c0, c1, c2, c3, c4])) = some y0 := hf 0 _ rfl
            have e1 : DataW.trod enc Tryz.prog w base spare held n' 3 (List.take (Tryz.prog.cellsOf 3) (List.drop 1 [c0, c1, c2, c3, c4])) = some y1 := hf 1 _ rfl
            have e2 : DataW.trod enc Tryz.prog w base spare held n' 3 (List.take (Tryz.prog.cellsOf 3) (List.drop 2 [c0, c1, c2, c3, c4])) = some y2 := hf 2 _ rfl
            have e3 : DataW.trod enc Tryz.prog w base spare held n' 3 (List.take (Tryz.prog.cellsOf 3) (List.drop 3 [c0, c1, c2, c3, c4])) = some y3 := hf 3 _ rfl
            have e4 : DataW.trod enc Tryz.prog w base spare held n' 3 (List.take (Tryz.prog.cellsOf 3) (List.drop 4 [c0, c1, c2, c3, c4])) = some y4 := hf 4 _ rfl
            rw [show Tryz.prog.cellsOf 3 = 1 by kernel_rfl] at e0 e1 e2 e3 e4
            obtain ⟨r0, g0, g0', h0⟩ := DataW.trod_int Tryz.underlying3 (show DataW.trod enc Tryz.prog w base spare held n' 3 [c0] = some y0 from e0)
            obtain ⟨r1, g1, g1', h1⟩ := DataW.trod_int Tryz.underlying3 (show DataW.trod enc Tryz.prog w base spare held n' 3 [c1] = some y1 from e1)
            obtain ⟨r2, g2, g2', h2⟩ := DataW.trod_int Tryz.underlying3 (show DataW.trod enc Tryz.prog w base spare held n' 3 [c2] = some y2 from e2)
            obtain ⟨r3, g3, g3', h3⟩ := DataW.trod_int Tryz.underlying3 (show DataW.trod enc Tryz.prog w base spare held n' 3 [c3] = some y3 from e3)
            obtain ⟨r4, g4, g4', h4⟩ := DataW.trod_int Tryz.underlying3 (show DataW.trod enc Tryz.prog w base spare held n' 3 [c4] = some y4 from e4)
            simp only [List.cons.injEq, and_true] at g0 g1 g2 g3 g4
            subst g0 g1 g2 g3 g4 g0' g1' g2' g3' g4'
            simp only [Prod.mk.injEq] at hy
            refine ⟨⟨r0, r1, r2, r3, r4⟩, fun _ => ⟨fun j u hu => ?_, ⟨?_, ?_, ?_, ?_, ?_⟩, ?_⟩⟩
            · have hj : j < 5 := (List.getElem?_eq_some_iff.1 hu).1
              have h1 := hat j hj
              rw [← Go.Deep.add_add, h1]
              exact hu
            · simpa [I64, Lit.wf, IntKind.min, IntKind.signed, IntKind.bits] using h0
            · simpa [I64, Lit.wf, IntKind.min, IntKind.signed, IntKind.bits] using h1
            · simpa [I64, Lit.wf, IntKind.min, IntKind.signed, IntKind.bits] using h2
            · simpa [I64, Lit.wf, IntKind.min, IntKind.signed, IntKind.bits] using h3
            · simpa [I64, Lit.wf, IntKind.min, IntKind.signed, IntKind.bits] using h4
            · rw [hy.1]
              simp [Rows.uptoBulk, Rows.uptoBulkAll]
      · exact ⟨⟨0, 0, 0, 0, 0⟩, fun h => absurd h hil⟩
    obtain ⟨g, hg⟩ := Classical.axiomOfChoice key
    refine ⟨(List.range len).map g, by simp, hl, row_of (f := Spec.cells) (size := 5) (fun _ => rfl) (by decide) (fun i hi => (hg i hi).1), ?_, ?_⟩
    · intro y hy
      obtain ⟨i, hi, rfl⟩ := List.mem_map.1 hy
      exact (hg i (List.mem_range.1 hi)).2.1
    · have h1 := bulk_sum D g (fun _ : Spec => 1) (List.range len) (fun i hi => (hg i (List.mem_range.1 hi)).2.2)
      rw [hx]
      simp only [Rows.uptoBulk]
      omega
theorem ones_sum (l : List Spec) : (l.map fun _ => 1).sum = l.length := by
  induction l with
  | nil => rfl
  | cons x l ih => rw [List.map_cons, List.sum_cons, ih, List.length_cons]; omega
end
end Go.Proofs.YtphdcoegkfmaeaaGreatDoor
