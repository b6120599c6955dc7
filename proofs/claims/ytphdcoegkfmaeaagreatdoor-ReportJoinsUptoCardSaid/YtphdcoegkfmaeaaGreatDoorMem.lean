/- Words on memory: what a slice reads as; what a call leaves. -/
import Derived.WalkKit
import Derived.Deep.Draws
import Derived.Laws.Tables
import Derived.Laws.Rows
set_option linter.unusedVariables false
set_option linter.unusedSimpArgs false
namespace Go.Proofs.YtphdcoegkfmaeaaGreatDoor
open Go.RowKit

/-- A call leaves all that was there. -/
def Kept (w w' : World) : Prop := Below w.heap.size w w'
theorem Kept.refl (w : World) : Kept w w := Below.refl _ w
theorem Kept.trans {a b c : World} (h : Kept a b) (k : Kept b c) : Kept a c := Below.trans h (k.mono h.size)
theorem Kept.alloc {a w : World} (h : Kept a w) (o : Obj) : Kept a (w.alloc o) := Below.alloc h h.size o
theorem Kept.drew {a w : World} (h : Kept a w) : Kept a w.drew := Below.drew h
theorem Kept.drewN {a w : World} (h : Kept a w) (n : Nat) : Kept a (w.drewN n) := ⟨h.os, h.tape, h.output, h.size, h.block⟩
theorem Kept.setCell {a w : World} (h : Kept a w) {p : Addr} (hp : a.heap.size ≤ p.block) (u : Value) : Kept a (w.setCell p u) := Below.setCell h hp u
theorem Kept.setRow {a w : World} (h : Kept a w) {g : Nat} (hp : a.heap.size ≤ g) (cs : Array Value) : Kept a (w.setRow g cs) :=
  Below.trans h ⟨rfl, rfl, rfl, by simp, fun k hk => setRow_other w g k cs (by omega)⟩
theorem Kept.cell {w w' : World} (h : Kept w w') {p : Addr} {u : Value} (hc : w.cell? p = some u) : w'.cell? p = some u := (Below.cell h (World.block_lt_of_cell? w p hc)).trans hc
theorem Kept.heap {w w' : World} (h : Kept w w') {k : Nat} {o : Obj} (hk : w.heap[k]? = some o) : w'.heap[k]? = some o := (h.block k (Array.getElem?_eq_some_iff.1 hk).1).trans hk
theorem Kept.grown {a w w' : World} {row : Option Nat} (h : Kept a w) (hg : w.grownBy w' row) (hr : ∀ k, row = some k → a.heap.size ≤ k) : Kept a w' := Below.grown h hg h.size hr
theorem Kept.size {w w' : World} (h : Kept w w') : w.heap.size ≤ w'.heap.size := Below.size h

/-- n elements of so many cells lie at a slice's address. -/
def Row (w : World) (A : Option Addr) (xs : List Value) : Prop :=
  0 < xs.length → ∃ b off, A = some ⟨b, off, none⟩ ∧ b < w.heap.size ∧ ∀ j u, xs[j]? = some u → w.cell? ⟨b, off + j, none⟩ = some u
theorem Row.kept {w w' : World} {A : Option Addr} {xs : List Value} (h : Row w A xs) (hk : Kept w w') : Row w' A xs := fun hn => by
  obtain ⟨b, off, e, hb, hc⟩ := h hn
  exact ⟨b, off, e, Nat.lt_of_lt_of_le hb hk.size, fun j u hu => hk.cell (hc j u hu)⟩
theorem Row.nil {w : World} {A : Option Addr} : Row w A [] := fun h => by simp at h
theorem Row.own {w : World} {base n c : Nat} {e : TypeId} {size : Nat} {A : Option Addr} {xs : List Value} (h : w.ownsRow base e size (.slice A n c) n xs) : Row w A xs := fun hn => by
  have hl := h.1
  rcases h.2 with ⟨hv, he⟩ | ⟨g, cap, cur, hv, hb, hh, h1, h2, h3⟩
  · subst he
    simp at hl
    simp [hl] at hn
  · have hA : A = some ⟨g, 0, none⟩ := by injection hv
    subst hA
    refine ⟨g, 0, rfl, (Array.getElem?_eq_some_iff.1 hh).1, fun j u hu => ?_⟩
    have := h.cells (g := g) rfl j u hu
    rw [show (⟨g, 0, none⟩ : Addr).add j = ⟨g, 0 + j, none⟩ by unfold Addr.add; split <;> simp_all] at this
    exact this

/-- The cells of a row of things of so many cells each. -/
theorem flat_at {α : Type} {f : α → List Value} {size : Nat} (hf : ∀ x, (f x).length = size) : ∀ (xs : List α) (k j : Nat) (x : α), xs[k]? = some x → j < size → (xs.flatMap f)[k * size + j]? = (f x)[j]?
  | [], k, j, x, h, _ => by simp at h
  | y :: ys, 0, j, x, h, hj => by
    simp at h
    subst h
    rw [List.flatMap_cons, Nat.zero_mul, Nat.zero_add, List.getElem?_append_left (by rw [hf]; exact hj)]
  | y :: ys, k + 1, j, x, h, hj => by
    rw [List.flatMap_cons, List.getElem?_append_right (by rw [hf, Nat.add_mul]; omega), hf, show (k + 1) * size + j - size = k * size + j by rw [Nat.add_mul]; omega]
    exact flat_at hf ys k j x (by simpa using h) hj
theorem flat_length {α : Type} {f : α → List Value} {size : Nat} (hf : ∀ x, (f x).length = size) (xs : List α) : (xs.flatMap f).length = xs.length * size := by
  induction xs with
  | nil => simp
  | cons y ys ih => rw [List.flatMap_cons, List.length_append, ih, hf, List.length_cons, Nat.add_mul]; omega
end Go.Proofs.YtphdcoegkfmaeaaGreatDoor
