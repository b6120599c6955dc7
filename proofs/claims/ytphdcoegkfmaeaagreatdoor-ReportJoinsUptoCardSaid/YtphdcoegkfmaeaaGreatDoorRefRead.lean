/- The document's Read: the lines of a text. -/
import Derived.Test.YtphdcoegkfmaeaaGreatDoorRefOne
import Derived.Laws.AppendOwn
set_option linter.unusedVariables false
set_option linter.unusedSimpArgs false
namespace Go.Proofs.YtphdcoegkfmaeaaGreatDoor
open Go.RowKit Go.Shelf

def notFeed (c : Nat) : Bool := decide (c ≠ 10)
/-- One row more: its line, and where the next one begins. -/
noncomputable def stepAt (s : ByteArray) (a : Nat) : Option (Line × Nat) :=
  if a + lngAt notFeed s a = s.size then none
  else if (lineOf (s.extract a (a + lngAt notFeed s a) ++ feed)).name.size = 0 then none
  else some (lineOf (s.extract a (a + lngAt notFeed s a) ++ feed), a + lngAt notFeed s a + 1)
/-- What is read from a place on, with so many lines read before. -/
inductive Run (s : ByteArray) : Nat → List Line → List Line × Nat × Bool → Prop
  | done {a : Nat} {l : List Line} (h : s.size ≤ a) : Run s a l (l, s.size, true)
  | fail {a : Nat} {l : List Line} (h : a < s.size) (hs : stepAt s a = none) : Run s a l ([], a, false)
  | step {a b : Nat} {l : List Line} {x : Line} {r : List Line × Nat × Bool} (h : a < s.size) (hs : stepAt s a = some (x, b)) (hr : Run s b (l ++ [x]) r) : Run s a l r
theorem Run.one {s : ByteArray} {a : Nat} {l : List Line} {r r' : List Line × Nat × Bool} (h : Run s a l r) (h' : Run s a l r') : r = r' := by
  induction h with
  | done h =>
    cases h' with
    | done h2 => rfl
    | fail h2 => omega
    | step h2 => omega
  | fail h hs =>
    cases h' with
    | done h2 => omega
    | fail h2 => rfl
    | step h2 hs2 => rw [hs] at hs2; cases hs2
  | step h hs _ ih =>
    cases h' with
    | done h2 => omega
    | fail h2 hs2 => rw [hs] at hs2; cases hs2
    | step h2 hs2 hr2 =>
      rw [hs] at hs2
      cases hs2
      exact ih hr2

def atOf : Option Obj → Nat
  | some (.cells cs _ _) => (intOf (cs.getD 1 undef)).toNat
  | _ => 0
/-- What a reading hands back. -/
def GotIs (s : ByteArray) (w w' : World) (e : Ending) : Prop := ∃ (l : List Line) (a : Nat) (ok : Bool) (A : Option Addr) (cap : Nat), Run s 0 [] (l, a, ok) ∧ e = .returned (.agg #[.slice A l.length cap, .int .i64 a, .int .i64 (if ok then 0 else 10)]) ∧ linesRow w' A l ∧ Kept w w'
theorem own_slice {w : World} {B n : Nat} {e : TypeId} {size : Nat} {v : Value} {xs : List Value} (h : w.ownsRow B e size v n xs) : ∃ A cap, v = .slice A n cap := by
  rcases h.2 with ⟨rfl, rfl⟩ | ⟨g, cap, cur, rfl, _⟩
  · exact ⟨none, 0, rfl⟩
  · exact ⟨_, _, rfl⟩
theorem got_one (A : Option Addr) (n c : Nat) (x y : Int) : (#[Value.slice A n c, Value.int .i64 x, Value.int .i64 y]).all (·.oneCell') = true := by simp [Value.oneCell']
theorem name_empty {x : ByteArray} (h : x.size = 0) : x.toList = [] := by
  rw [bytes_toList]
  have : x.data = #[] := Array.eq_empty_of_size_eq_zero h
  rw [this]
theorem line_oneCell (x : Line) : ∀ u ∈ x.cells, u.oneCell' = true := by
  intro u hu
  simp [Line.cells] at hu
  rcases hu with rfl | rfl | rfl <;> simp [Value.oneCell']
theorem cells_two (w : World) (o : Obj) (x : Line) (T : TypeId) : ∀ (j : Nat) (u : Value), x.cells[j]? = some u → ((w.alloc o).alloc (.cells #[.string x.name, .int .i64 x.r, .bool x.ok] T)).cell? ((⟨w.heap.size + 1, 0, none⟩ : Addr).add j) = some u := by
  intro j u hu
  have e : (⟨w.heap.size + 1, 0, none⟩ : Addr).add j = ⟨(w.alloc o).heap.size, j, none⟩ := by
    rw [show (w.alloc o).heap.size = w.heap.size + 1 by simp]
    unfold Addr.add; split <;> simp_all
  rw [e, World.cell?_alloc_mark]
  have : (#[Value.string x.name, .int .i64 x.r, .bool x.ok] : Array Value)[j]? = x.cells[j]? := by simp [Line.cells]
  rw [this]; exact hu
/-- A row that another block than these two holds stays, whatever is stored into those. -/
theorem own_apart {w w' : World} {B : Nat} {e : TypeId} {size n : Nat} {v : Value} {xs : List Value} (h : w.ownsRow B e size v n xs) (hk : ∀ g, B ≤ g → w'.heap[g]? = w.heap[g]?) : w'.ownsRow B e size v n xs := by
  refine ⟨h.1, ?_⟩
  rcases h.2 with h2 | ⟨g, cap, cur, hv, hb, hh, h3⟩
  · exact .inl h2
  · exact .inr ⟨g, cap, cur, hv, hb, by rw [hk g hb]; exact hh, h3⟩

end Go.Proofs.YtphdcoegkfmaeaaGreatDoor
