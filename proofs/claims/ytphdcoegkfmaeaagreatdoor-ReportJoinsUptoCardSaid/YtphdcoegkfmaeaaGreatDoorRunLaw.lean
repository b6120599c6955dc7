/- What a reading tells: the text is its lines' text; a text of lines is read again. Plain. -/
import Derived.Test.YtphdcoegkfmaeaaGreatDoorLines
import Derived.Test.YtphdcoegkfmaeaaGreatDoorRowLaw
set_option linter.unusedVariables false
set_option linter.unusedSimpArgs false
namespace Go.Proofs.YtphdcoegkfmaeaaGreatDoor
open Go.RowKit Cad

theorem lineOf_name {t : ByteArray} (h : (lineOf t).name.size ≠ 0) : Good (lineOf t) ∧ (lineOf t).text = t := by
  by_cases he : ∃ x, Good x ∧ x.text = t
  · obtain ⟨x, hx, ht⟩ := he
    rw [lineOf_good hx ht]
    exact ⟨hx, ht⟩
  · rw [lineOf_none (fun x hx ht => he ⟨x, hx, ht⟩)] at h
    exact absurd rfl h
theorem dropTake_stop {p : UInt8 → Bool} (l : List UInt8) (hlt : (l.takeWhile p).length < l.length) : ∃ c, l[(l.takeWhile p).length]? = some c ∧ p c = false := by
  induction l with
  | nil => simp at hlt
  | cons a l ih =>
    by_cases ha : p a = true
    · rw [List.takeWhile_cons, if_pos ha] at hlt ⊢
      simp only [List.length_cons] at hlt ⊢
      obtain ⟨c, h1, h2⟩ := ih (by omega)
      exact ⟨c, by simpa using h1, h2⟩
    · rw [List.takeWhile_cons, if_neg ha]
      exact ⟨a, by simp, by simpa using ha⟩
theorem bytes_len (s : ByteArray) : s.data.toList.length = s.size := by simp
theorem extL (s : ByteArray) (a b : Nat) : (s.extract a b).data.toList = (s.data.toList.take b).drop a := by
  rw [ByteArray.data_extract, Array.toList_extract, List.extract_eq_drop_take']
theorem rowFeed10 {s : ByteArray} {a : Nat} (ha : a ≤ s.size) (hlt : a + lngAt notFeed s a ≠ s.size) : s.data.toList[a + lngAt notFeed s a]? = some 10 ∧ a + lngAt notFeed s a < s.size := by
  have hle := lngAt_le notFeed s a ha
  have hl : (s.data.toList.drop a).length = s.size - a := by simp
  have h2 : lngAt notFeed s a < (s.data.toList.drop a).length := by omega
  unfold lngAt at h2
  obtain ⟨c, h3, h4⟩ := dropTake_stop _ h2
  rw [List.getElem?_drop] at h3
  have hc : c = 10 := by
    simp only [notFeed, decide_eq_false_iff_not, Decidable.not_not] at h4
    exact UInt8.toNat_inj.1 h4
  subst hc
  exact ⟨h3, by omega⟩
theorem ext_feed {s : ByteArray} {a k : Nat} (hak : a ≤ k) (hk : s.data.toList[k]? = some 10) : s.extract a k ++ feed = s.extract a (k + 1) := by
  apply bytes_ext
  rw [Joins.data_append, extL, extL]
  have hkl : k < s.data.toList.length := (List.getElem?_eq_some_iff.1 hk).1
  rw [List.take_add_one, hk, List.drop_append_of_le_length (by rw [List.length_take]; omega)]
  rfl
/-- One step's line. -/
theorem step_good {s : ByteArray} {a b : Nat} {x : Line} (ha : a ≤ s.size) (h : stepAt s a = some (x, b)) : Good x ∧ a < b ∧ b ≤ s.size ∧ x.text = s.extract a b ∧ s.data.toList[b - 1]? = some 10 := by
  unfold stepAt at h
  split at h
  · cases h
  · rename_i hne
    split at h
    · cases h
    · rename_i hn
      simp only [Option.some.injEq, Prod.mk.injEq] at h
      obtain ⟨rfl, rfl⟩ := h
      obtain ⟨f1, f2⟩ := rowFeed10 ha hne
      obtain ⟨g1, g2⟩ := lineOf_name hn
      refine ⟨g1, by omega, by omega, ?_, by simpa using f1⟩
      rw [g2, ext_feed (by omega) f1]
/-- What is known of a run's end. -/
theorem run_only {s : ByteArray} {a : Nat} {l : List Line} {r : List Line × Nat × Bool} (h : Run s a l r) : a ≤ s.size → (a = 0 ∨ s.data.toList[a - 1]? = some 10) → (∀ x ∈ l, Good x) → rendered l = s.data.toList.take a →
    (r.2.2 = true → r.2.1 = s.size ∧ (∀ x ∈ r.1, Good x) ∧ rendered r.1 = s.data.toList) ∧ (r.2.2 = false → r.1 = [] ∧ r.2.1 < s.size ∧ (r.2.1 = 0 ∨ s.data.toList[r.2.1 - 1]? = some 10)) := by
  induction h with
  | done h =>
    intro h1 h2 h3 h4
    refine ⟨fun _ => ⟨rfl, h3, ?_⟩, fun e => absurd e (by simp)⟩
    rw [h4, List.take_of_length_le (by rw [bytes_len]; exact h)]
  | fail h hs =>
    intro h1 h2 h3 h4
    exact ⟨fun e => absurd e (by simp), fun _ => ⟨rfl, h, h2⟩⟩
  | @step a b l x r h hs hr ih =>
    intro h1 h2 h3 h4
    obtain ⟨g1, g2, g3, g4, g5⟩ := step_good h1 hs
    refine ih g3 (.inr g5) (fun y hy => ?_) ?_
    · rcases List.mem_append.1 hy with hy | hy
      · exact h3 y hy
      · simp at hy; subst hy; exact g1
    · rw [rendered_snoc, h4, g4, extL]
      have e : s.data.toList.take a = (s.data.toList.take b).take a := by rw [List.take_take, Nat.min_eq_left (by omega)]
      rw [e, List.take_append_drop]
theorem takeWhile_to {p : UInt8 → Bool} (l m : List UInt8) (c : UInt8) (hl : ∀ x ∈ l, p x = true) (hc : p c = false) : (l ++ c :: m).takeWhile p = l := by
  induction l with
  | nil => simp [hc]
  | cons a l ih => rw [List.cons_append, List.takeWhile_cons, if_pos (hl a (by simp)), ih (fun x hx => hl x (by simp [hx]))]
theorem text_split (x : Line) (hx : Good x) : ∃ u, x.text.data.toList = u ++ [10] ∧ ∀ c ∈ u, c ≠ 10 := by
  refine ⟨x.name.data.toList ++ 32 :: x.wordL, by rw [text_list]; simp, fun c hc => ?_⟩
  rcases List.mem_append.1 hc with hc | hc
  · exact (word_no hx.1 hc).2
  · rcases List.mem_cons.1 hc with rfl | hc
    · decide
    · exact (wordL_no hx hc).2
/-- A text of good lines is read again. -/
theorem run_lines (L : List Line) (hL : ∀ x ∈ L, Good x) : ∀ (l m : List Line), L = l ++ m → Run ⟨(rendered L).toArray⟩ (rendered l).length l (L, (rendered L).length, true)
  | l, [], e => by
    rw [List.append_nil] at e
    subst e
    exact .done (by simp [ByteArray.size])
  | l, x :: m, e => by
    have hr := run_lines L hL (l ++ [x]) m (by rw [e]; simp)
    have hx : Good x := hL x (by rw [e]; simp)
    obtain ⟨u, hu, hno⟩ := text_split x hx
    have hren : rendered L = rendered l ++ (u ++ 10 :: rendered m) := by
      rw [e]
      show rendered (l ++ x :: m) = _
      unfold rendered
      rw [List.flatMap_append, List.flatMap_cons, hu]
      simp
    have hsz : (⟨(rendered L).toArray⟩ : ByteArray).size = (rendered l).length + (u.length + 1 + (rendered m).length) := by
      show (rendered L).toArray.size = _
      rw [hren]; simp; omega
    have hd : (⟨(rendered L).toArray⟩ : ByteArray).data.toList = rendered L := by simp
    have hln : lngAt notFeed ⟨(rendered L).toArray⟩ (rendered l).length = u.length := by
      unfold lngAt
      rw [hd, hren, List.drop_left, takeWhile_to u _ 10 (fun c hc => by
        have := hno c hc
        simp only [notFeed, decide_eq_true_eq]
        intro h10
        exact this (UInt8.toNat_inj.1 h10)) (by decide)]
    have h10 : (⟨(rendered L).toArray⟩ : ByteArray).data.toList[(rendered l).length + u.length]? = some 10 := by
      rw [hd, hren, List.getElem?_append_right (by omega), Nat.add_sub_cancel_left, List.getElem?_append_right (by omega), Nat.sub_self]; rfl
    have hex : (⟨(rendered L).toArray⟩ : ByteArray).extract (rendered l).length ((rendered l).length + u.length) ++ feed = x.text := by
      rw [ext_feed (by omega) h10]
      apply bytes_ext
      rw [extL, hd, hu, hren]
      rw [List.take_append, List.take_of_length_le (by omega), List.drop_append, List.drop_of_length_le (by omega)]
      simp only [List.nil_append, Nat.sub_self, List.drop_zero]
      rw [show (rendered l).length + u.length + 1 - (rendered l).length = u.length + 1 by omega, List.take_append, List.take_of_length_le (by omega), Nat.add_sub_cancel_left]
      rfl
    have hst : stepAt ⟨(rendered L).toArray⟩ (rendered l).length = some (x, (rendered l).length + u.length + 1) := by
      unfold stepAt
      rw [hln, if_neg (by rw [hsz]; omega), hex, lineOf_good hx rfl, if_neg (word_goes hx.1).1]
    refine .step (by rw [hsz]; omega) hst ?_
    rw [rendered_snoc, List.length_append, hu, List.length_append] at hr
    simpa [Nat.add_assoc] using hr
theorem run_rendered (L : List Line) (hL : ∀ x ∈ L, Good x) : Run ⟨(rendered L).toArray⟩ 0 [] (L, (rendered L).length, true) := run_lines L hL [] L rfl
theorem rendered_append (a b : List Line) : rendered (a ++ b) = rendered a ++ rendered b := by unfold rendered; rw [List.flatMap_append]
end Go.Proofs.YtphdcoegkfmaeaaGreatDoor
