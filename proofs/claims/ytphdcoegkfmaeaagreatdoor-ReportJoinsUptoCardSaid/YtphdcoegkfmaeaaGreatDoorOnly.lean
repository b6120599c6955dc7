/- cadencylaw23.only: the walk. -/
import Derived.Test.YtphdcoegkfmaeaaGreatDoorRunLaw
import Derived.Test.YtphdcoegkfmaeaaGreatDoorReads
set_option linter.unusedVariables false
set_option linter.unusedSimpArgs false
namespace Go.Proofs.YtphdcoegkfmaeaaGreatDoor
open Go.RowKit Go.Shelf

theorem good_fits {x : Line} (h : Good x) (hs : x.name.size ≤ 1125899906842624) : x.fits := by
  refine ⟨hs, ?_, ?_⟩
  · cases ho : x.ok with
    | true => have := h.2.1 ho; omega
    | false => rw [h.2.2 ho]; decide
  · cases ho : x.ok with
    | true => have := h.2.1 ho; omega
    | false => rw [h.2.2 ho]; decide
theorem name_le_rendered {l : List Line} {x : Line} (hx : x ∈ l) : x.name.size ≤ (rendered l).length := by
  obtain ⟨a, b, rfl⟩ := List.append_of_mem hx
  have : (rendered (a ++ x :: b)).length = (rendered a).length + (x.text.data.toList.length + (rendered b).length) := by
    unfold rendered; rw [List.flatMap_append, List.flatMap_cons, List.length_append, List.length_append]
  rw [this, text_list, List.length_append]
  have h : x.name.data.toList.length = x.name.size := by simp
  omega
theorem len_le_rendered (l : List Line) : 2 * l.length ≤ (rendered l).length := by
  induction l with
  | nil => simp
  | cons x l ih =>
    have : (rendered (x :: l)).length = x.text.data.toList.length + (rendered l).length := by
      unfold rendered; rw [List.flatMap_cons, List.length_append]
    rw [this, text_list, List.length_append, List.length_cons, List.length_cons, List.length_append, List.length_cons, List.length_nil]
    omega
set_option maxRecDepth 100000 in
set_option maxHeartbeats 2000000 in
theorem only_any (s : ByteArray) (hs : s.size ≤ 2097152) (hs2 : s.size ≤ 1048576) (w : World) (hL : Laid w) : Calls Tryz.prog 18 #[.string s] w fun e w' => e = .returned (.bool true) ∧ Kept w w' := by
  have hR := callsIn_wide.1 (Read_in Fence.wide rfl 3 (by decide) s hs w hL)
  go_enter Tryz.func18, Tryz.ntmps18
  go_wp2_with fail
  refine hR.mono ?_
  clear hR
  rintro e w1 ⟨⟨l, a, ok, A, cap, hRun, rfl, hrow⟩, hk1⟩
  have hK : Kept w w1 := hk1
  have hro := run_only hRun (Nat.zero_le _) (.inl rfl) (by simp) (by simp [rendered])
  clear hRun
  cases ok with
  | false =>
    obtain ⟨rfl, h2, h3⟩ := hro.2 rfl
    simp only at h2 h3
    clear hro
    have hlt : ((a : Int) < s.size) := by omega
    by_cases h0 : a = 0
    · subst h0
      go_wp2
      go_ret
      exact ⟨rfl, hK⟩
    · obtain ⟨k, rfl⟩ : ∃ k, a = k + 1 := ⟨a - 1, by omega⟩
      have h4 := h3.resolve_left (by omega)
      rw [Nat.add_sub_cancel] at h4
      have hb := byteAt_mem h4
      have hsk := byteAt_elem s (k := k) (by omega)
      rw [hb] at hsk
      have hsk' : (s[k]'(by omega)).toNat = 10 := hsk
      have hk1' : (((k + 1 : Nat) : Int) == 0) = false := by rw [beq_eq_false_iff_ne]; omega
      clear h3 h4 hb hsk
      go_wp2
      go_ret
      exact ⟨rfl, hK⟩
  | true =>
    obtain ⟨rfl, h2, h3⟩ := hro.1 rfl
    simp only at h2 h3
    have hlen : 2 * l.length ≤ s.size := by
      have := len_le_rendered l
      rw [h3] at this
      simpa using this
    have hnm : ∀ x ∈ l, x.name.size ≤ s.size := fun x hx => by
      have := name_le_rendered hx
      rw [h3] at this
      simpa using this
    have ht : (⟨(rendered l).toArray⟩ : ByteArray) = s := by apply bytes_ext; rw [← h3]
    have hrl : (rendered l).length = s.size := by rw [h3]; simp
    have CR : ∀ W, Kept w1 W → Calls Tryz.prog 15 #[.slice A l.length cap] W fun e w' => e = .returned (.string s) ∧ Kept W w' := fun W hk => by
      have := Render_any l A cap W ((hL.kept hK).kept hk).pows (by omega) (fun x hx => good_fits (h2 x hx) (by have := hnm x hx; omega)) (by omega) (hrow.kept hk)
      rw [ht] at this
      exact this
    clear hro ht hrl h3
    go_wp2_with fail
    go_loopw [6] (fun iv wr => ∃ k : Nat, k ≤ l.length ∧ iv = .int .i64 k ∧ Kept w1 wr) (fun iv _ => l.length - (intOf iv).toNat)
    case atStart => exact ⟨0, by omega, rfl, Kept.refl _⟩
    case round =>
      obtain ⟨k, hk, rfl, hKr⟩ := hrel
      by_cases he : k = l.length
      · have hlt : ¬ ((k : Int) < l.length) := by omega
        subst he
        go_wp2_with (go_at_call 15; refine (CR _ hKr).mono ?_; rintro e w2 ⟨rfl, hk2⟩)
        go_ret
        exact ⟨rfl, (hK.trans hKr).trans hk2⟩
      · have hlt : ((k : Int) < l.length) := by omega
        obtain ⟨x, hx⟩ : ∃ x, l[k]? = some x := ⟨_, List.getElem?_eq_getElem (by omega)⟩
        have hg := h2 x (List.mem_of_getElem? hx)
        have hn := hnm x (List.mem_of_getElem? hx)
        obtain ⟨b, off, rfl, c0, c1, c2⟩ := (hrow.kept hKr).range hx
        have hw := rWord_any x.name (by unfold maxLen; omega) wr
        rw [hg.1] at hw
        clear hg h2 hnm
        go_wp2_with (go_at_call 39; refine hw.mono ?_; rintro e w2 ⟨rfl, hk2⟩)
        go_roundw
        case rel => exact ⟨k + 1, by omega, by go_num, hKr.trans hk2⟩
        case measure => simp [intOf]; omega
end Go.Proofs.YtphdcoegkfmaeaaGreatDoor
