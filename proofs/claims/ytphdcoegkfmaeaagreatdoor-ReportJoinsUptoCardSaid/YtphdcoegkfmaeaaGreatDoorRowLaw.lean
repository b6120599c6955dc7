/- The rows of a text, and what is read of them: plain. -/
import Derived.Test.YtphdcoegkfmaeaaGreatDoorLineRows
set_option linter.unusedVariables false
set_option linter.unusedSimpArgs false
namespace Go.Proofs.YtphdcoegkfmaeaaGreatDoor
open Go.RowKit Go.Shelf

theorem ext_list {s t : ByteArray} (h : s.data.toList = t.data.toList) : s = t := by
  cases s; cases t; simp at h; simp [h]
theorem extract_take (s : ByteArray) (a n : Nat) : (s.extract a (a + n)).data.toList = (s.data.toList.drop a).take n := by
  simp [ByteArray.data_extract, List.take_drop]
theorem takeWhile_split {α : Type} (p : α → Bool) (l : List α) (h : (l.takeWhile p).length ≠ l.length) : ∃ c r, l = l.takeWhile p ++ c :: r ∧ p c = false := by
  induction l with
  | nil => simp at h
  | cons x l ih =>
    by_cases hx : p x = true
    · rw [List.takeWhile_cons, if_pos hx] at h ⊢
      obtain ⟨c, r, h1, h2⟩ := ih (by simpa using h)
      exact ⟨c, r, by rw [List.cons_append, ← h1], h2⟩
    · exact ⟨x, l, by rw [List.takeWhile_cons, if_neg hx]; rfl, by simpa using hx⟩
theorem row_feed (s : ByteArray) (a : Nat) (h : a < s.size) (hL : a + lngAt notFeed s a ≠ s.size) : s.extract a (a + lngAt notFeed s a + 1) = s.extract a (a + lngAt notFeed s a) ++ feed := by
  have h2 : (s.data.toList.drop a).length = s.size - a := by simp
  obtain ⟨c, r, h3, h4⟩ := takeWhile_split (fun b : UInt8 => notFeed b.toNat) (s.data.toList.drop a) (by unfold lngAt at hL; omega)
  have hc : c = 10 := by
    unfold notFeed at h4
    simp at h4
    exact UInt8.toNat_inj.1 h4
  subst hc
  refine ext_list ?_
  rw [ByteArray.data_append, Array.toList_append, Nat.add_assoc, extract_take, extract_take]
  show List.take (lngAt notFeed s a + 1) _ = List.take (lngAt notFeed s a) _ ++ [10]
  unfold lngAt
  generalize hT : (s.data.toList.drop a).takeWhile (fun b : UInt8 => notFeed b.toNat) = T at *
  rw [h3, List.take_append, List.take_append]
  simp
  exact List.take_of_length_le (by omega)
theorem row_none (s : ByteArray) (a : Nat) (h : a < s.size) (hL : a + lngAt notFeed s a = s.size) : lineOf (s.extract a s.size) = zeroLine := by
  refine lineOf_none fun y hy ht => ?_
  have h2 : (s.data.toList.drop a).length = s.size - a := by simp
  have h3 := takeWhile_full (q := fun b : UInt8 => notFeed b.toNat) (l := s.data.toList.drop a) (by unfold lngAt at hL; omega)
  have h4 : y.text.data.toList = s.data.toList.drop a := by
    rw [ht, show s.size = a + (s.size - a) by omega, extract_take, List.take_of_length_le (by omega)]
  have h5 := h3 10 (by rw [← h4, text_list]; simp)
  simp [notFeed] at h5
theorem step_row (s : ByteArray) (a : Nat) (h : a < s.size) : stepAt s a = if (lineOf (s.extract a (rowEnd s a))).name.size = 0 then none else some (lineOf (s.extract a (rowEnd s a)), rowEnd s a) := by
  unfold stepAt rowEnd
  by_cases hL : a + lngAt notFeed s a = s.size
  · rw [if_pos hL, if_pos hL, row_none s a h hL, if_pos (by rfl)]
  · rw [if_neg hL, if_neg hL, row_feed s a h hL]
theorem rows_le {s : ByteArray} {a : Nat} {ys : List (RowOf s)} (h : RowsTo s a ys) : a ≤ s.size := by
  cases h with
  | nil => omega
  | more h ha _ _ => exact (rowEnd_le s _ ha).2

noncomputable def lineAt {s : ByteArray} (x : RowOf s) : Line := lineOf x.1.2
/-- The rows read so far are lines, all of them. -/
def AllLines {s : ByteArray} (ys : List (RowOf s)) : Prop := ∀ x ∈ ys, (lineAt x).name.size ≠ 0
noncomputable def outOf {s : ByteArray} (ys : List (RowOf s)) : List Line := ys.map lineAt
theorem outOf_snoc {s : ByteArray} (ys : List (RowOf s)) (x : RowOf s) : outOf (ys ++ [x]) = outOf ys ++ [lineAt x] := by simp [outOf]
theorem run_rows {s : ByteArray} {a : Nat} {ys : List (RowOf s)} (h : RowsTo s a ys) (hall : AllLines ys) : ∀ r, Run s a (outOf ys) r → Run s 0 [] r := by
  induction h with
  | nil => exact fun r hr => hr
  | @more a ys x h ha h1 h2 ih =>
    intro r hr
    refine ih (fun z hz => hall z (List.mem_append_left _ hz)) r (.step ha ?_ (by rw [outOf_snoc] at hr; exact hr))
    have hx := hall x (by simp)
    unfold lineAt at hx ⊢
    rw [step_row s a ha, ← h2, if_neg hx]
theorem rows_done {s : ByteArray} {ys : List (RowOf s)} (h : RowsTo s s.size ys) (hall : AllLines ys) : Run s 0 [] (outOf ys, s.size, true) :=
  run_rows h hall _ (.done (Nat.le_refl _))
theorem rows_stop {s : ByteArray} {b : Nat} {ys : List (RowOf s)} {x : RowOf s} (h : RowsTo s b (ys ++ [x])) (hall : AllLines ys) (hx : (lineAt x).name.size = 0) : Run s 0 [] ([], x.1.1, false) := by
  generalize hz : ys ++ [x] = zs at h
  cases h with
  | nil => simp at hz
  | @more a ys' x' h ha h1 h2 =>
    obtain ⟨rfl, h3⟩ := List.append_inj' hz rfl
    obtain rfl : x = x' := by simpa using h3
    rw [h1]
    refine run_rows h hall _ (.fail ha ?_)
    unfold lineAt at hx
    rw [step_row s a ha, ← h2, if_pos hx]
end Go.Proofs.YtphdcoegkfmaeaaGreatDoor
