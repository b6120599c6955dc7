/- Arguments as the row hands them over. -/
import Derived.Test.YtphdcoegkfmaeaaGreatDoorRows
import Derived.Test.YtphdcoegkfmaeaaGreatDoorRender
import Derived.WalkKit
import Derived.ProofKit
import Derived.OpenShut
import Derived.ShutString
import Derived.ChangeOld
import Derived.Below
import Derived.SizedLaws
import Derived.Deep.Slices
import Derived.Deep.Fields
import Derived.ChangeSame
import Derived.Laws.IdiomArrays
set_option linter.unusedVariables false
set_option linter.unusedSimpArgs false
namespace Go.Proofs.YtphdcoegkfmaeaaGreatDoor
open Go.ChangeShapes Go.WideShapes Go.ChangeAt Go.RowKit Go.Deep

theorem addr_add (b off k : Nat) : (⟨b, off, none⟩ : Addr).add k = ⟨b, off + k, none⟩ := by
  unfold Addr.add; split <;> simp_all

/-- A row of things of so many cells each, from what is known of each. -/
theorem row_of {α : Type} {f : α → List Value} {size : Nat} (hf : ∀ x, (f x).length = size) {w : World} {a : Addr} {len : Nat} {g : Nat → α} (hsz : 0 < size)
    (hc : ∀ i, i < len → ∀ j u, (f (g i))[j]? = some u → w.cell? (a.add (i * size + j)) = some u) : Row w (some a) (((List.range len).map g).flatMap f) := fun hn => by
  have hl := flat_length hf ((List.range len).map g)
  simp only [List.length_map, List.length_range] at hl
  have hlen : 0 < len := by
    rcases Nat.eq_zero_or_pos len with h | h
    · subst h; simp at hn
    · exact h
  have h0 : (f (g 0))[0]? = some ((f (g 0))[0]'(by rw [hf]; omega)) := List.getElem?_eq_getElem _
  have hs := World.cell?_spot (hc 0 hlen 0 _ h0)
  obtain ⟨b, off, spot⟩ := a
  have hs : spot = none := by simpa [Addr.add] using hs
  subst hs
  have hb := World.block_lt_of_cell? w _ (hc 0 hlen 0 _ h0)
  refine ⟨b, off, rfl, by simpa [addr_add] using hb, fun j u hu => ?_⟩
  have hj : j < len * size := by rw [← hl]; exact (List.getElem?_eq_some_iff.1 hu).1
  have hk : j / size < len := (Nat.div_lt_iff_lt_mul hsz).2 hj
  have hm : j % size < size := Nat.mod_lt _ hsz
  have he : j / size * size + j % size = j := by rw [Nat.mul_comm]; exact Nat.div_add_mod j size
  have h1 := flat_at hf ((List.range len).map g) (j / size) (j % size) (g (j / size)) (by simp [hk]) hm
  rw [he, hu] at h1
  have h2 := hc (j / size) hk (j % size) u h1.symm
  rw [addr_add, he] at h2
  exact h2

/-- All values of a list, and what they hold. -/
theorem bulk_sum {α H : Type} (D : Nat → DataW H) (g : Nat → α) (size : α → Nat) : ∀ (is : List Nat), (∀ i ∈ is, size (g i) ≤ Rows.uptoBulk (D i)) → ((is.map g).map size).sum ≤ Rows.uptoBulkAll (is.map D)
  | [], _ => by simp [Rows.uptoBulkAll]
  | i :: is, h => by
    have h1 := h i (by simp)
    have h2 := bulk_sum D g size is (fun k hk => h k (by simp [hk]))
    simp only [List.map_cons, List.sum_cons, Rows.uptoBulkAll]
    omega
theorem bulk_part {H : Type} {d : DataW H} {l : List (DataW H)} (h : d ∈ l) : Rows.uptoBulk d ≤ Rows.uptoBulkAll l := by
  induction l with
  | nil => cases h
  | cons x r ih =>
    simp only [Rows.uptoBulkAll]
    cases List.mem_cons.1 h with
    | inl e => subst e; omega
    | inr e => have := ih e; omega
theorem bulk_bound {H : Type} {l : List (DataW H)} (hk : Rows.uptoSmall H l = true) : Rows.uptoBulkAll l ≤ 1048576 := by
  have := hk
  unfold Rows.uptoSmall at this
  exact of_decide_eq_true this

section
variable {H : Type} {enc : TypeId × Value → H} {w : World} {base : Nat} {spare : Nat → Bool} {held : Bool}
set_option maxRecDepth 100000 in
theorem open_lines {fuel : Nat} {A : Option Addr} {len cap : Nat} {x : DataW H × List MemPlace} (h : DataW.trod enc Tryz.prog w base spare held fuel 38 [.slice A len cap] = some x) :
    ∃ l : List Line, len = l.length ∧ len ≤ cap ∧ linesRow w A l ∧ (∀ y ∈ l, -9223372036854775808 ≤ y.r ∧ y.r ≤ 9223372036854775807) ∧ (l.map fun y => y.name.size + 4).sum ≤ Rows.uptoBulk x.1 := by
  rcases open_slice Tryz.underlying38 h with ⟨hcs, hx⟩ | ⟨a, len', cap', m, n, D, Pl, hcs, hb, hl, hm, hmm, hx, hi⟩
  · simp only [List.cons.injEq, Value.slice.injEq] at hcs
    obtain ⟨⟨rfl, rfl, rfl⟩, _⟩ := hcs
    exact ⟨[], rfl, Nat.le_refl _, Row.nil, by simp, by simp⟩
  · simp only [List.cons.injEq, Value.slice.injEq] at hcs
    obtain ⟨⟨rfl, rfl, rfl⟩, _⟩ := hcs
    have hlm : len ≤ m := by rw [hmm]; split <;> omega
    have key : ∀ i, ∃ y : Line, i < len → (∀ j u, y.cells[j]? = some u → w.cell? (a.add (i * 3 + j)) = some u) ∧ (-9223372036854775808 ≤ y.r ∧ y.r ≤ 9223372036854775807) ∧ y.name.size + 4 ≤ Rows.uptoBulk (D i) := by
      intro i
      by_cases hil : i < len
      · obtain ⟨cs', hc, ht'⟩ := hi i (by omega)
        rw [show Tryz.prog.cellsOf 75 = 3 by kernel_rfl] at hc
        obtain ⟨ys, n', hn', hy, hlen, hyl, hf⟩ := DataW.trod_struct Tryz.underlying75 ht'
        obtain ⟨_, hcl, hat⟩ := World.cells?_some hc
        match cs', hcl, hat with
        | [c0, c1, c2], _, hat =>
          match ys, hyl with
          | [y0, y1, y2], _ =>
            have e0 : DataW.trod enc Tryz.prog w base spare held n' 9 (List.take (Tryz.prog.cellsOf 9) (List.drop 0 [c0, c1, c2])) = some y0 := hf 0 _ rfl
            have e1 : DataW.trod enc Tryz.prog w base spare held n' 2 (List.take (Tryz.prog.cellsOf 2) (List.drop 1 [c0, c1, c2])) = some y1 := hf 1 _ rfl
            have e2 : DataW.trod enc Tryz.prog w base spare held n' 4 (List.take (Tryz.prog.cellsOf 4) (List.drop 2 [c0, c1, c2])) = some y2 := hf 2 _ rfl
            rw [show Tryz.prog.cellsOf 9 = 1 by kernel_rfl] at e0
            rw [show Tryz.prog.cellsOf 2 = 1 by kernel_rfl] at e1
            rw [show Tryz.prog.cellsOf 4 = 1 by kernel_rfl] at e2
            obtain ⟨s, g0, g0', hs⟩ := DataW.trod_string Tryz.underlying9 (show DataW.trod enc Tryz.prog w base spare held n' 9 [c0] = some y0 from e0)
            obtain ⟨r, g1, g1', hr⟩ := DataW.trod_int Tryz.underlying2 (show DataW.trod enc Tryz.prog w base spare held n' 2 [c1] = some y1 from e1)
            obtain ⟨b, g2, g2'⟩ := DataW.trod_bool Tryz.underlying4 (show DataW.trod enc Tryz.prog w base spare held n' 4 [c2] = some y2 from e2)
            simp only [List.cons.injEq, and_true] at g0 g1 g2
            subst g0 g1 g2 g0' g1' g2'
            simp only [Prod.mk.injEq] at hy
            refine ⟨⟨s, r, b⟩, fun _ => ⟨fun j u hu => ?_, ?_, ?_⟩⟩
            · have hj : j < 3 := (List.getElem?_eq_some_iff.1 hu).1
              have h1 := hat j hj
              rw [← Go.Deep.add_add, h1]
              exact hu
            · simpa [Lit.wf, IntKind.min, IntKind.signed, IntKind.bits] using hr
            · rw [hy.1]
              simp [Rows.uptoBulk, Rows.uptoBulkAll]
      · exact ⟨⟨⟨#[]⟩, 0, false⟩, fun h => absurd h hil⟩
    obtain ⟨g, hg⟩ := Classical.axiomOfChoice key
    refine ⟨(List.range len).map g, by simp, hl, row_of (f := Line.cells) (size := 3) (fun _ => rfl) (by decide) (fun i hi => (hg i hi).1), ?_, ?_⟩
    · intro y hy
      obtain ⟨i, hi, rfl⟩ := List.mem_map.1 hy
      exact (hg i (List.mem_range.1 hi)).2.1
    · have h1 := bulk_sum D g (fun y : Line => y.name.size + 4) (List.range len) (fun i hi => (hg i (List.mem_range.1 hi)).2.2)
      rw [hx]
      simp only [Rows.uptoBulk]
      omega
end
end Go.Proofs.YtphdcoegkfmaeaaGreatDoor
