/- The document's own scanner: letters, digits, one token, a word. -/
import Derived.Test.YtphdcoegkfmaeaaGreatDoorWord
set_option linter.unusedVariables false
set_option linter.unusedSimpArgs false
namespace Go.Proofs.YtphdcoegkfmaeaaGreatDoor
open Go.RowKit Go.Shelf

theorem rdigit_any (c : Nat) (h : c < 256) (w : World) : Calls Tryz.prog 88 #[.int .u8 c] w fun e w' => e = .returned (.bool (isDigit c)) ∧ w = w' := by
  have hv : isDigit c = (decide ((48 : Int) ≤ c) && decide ((c : Int) ≤ 57)) := by unfold isDigit; rw [Bool.eq_iff_iff]; simp; omega
  have Hv := Lib.hid hv
  clear hv
  go_enter Tryz.func88, Tryz.ntmps88
  go_wp2
  all_goals (go_ret; rw [Hv.out]; simp [*])
  omega
theorem rletter_any (c : Nat) (h : c < 256) (w : World) : Calls Tryz.prog 87 #[.int .u8 c] w fun e w' => e = .returned (.bool (isLetter c)) ∧ w = w' := by
  have hv : isLetter c = (decide ((97 : Int) ≤ c) && decide ((c : Int) ≤ 122) || decide ((65 : Int) ≤ c) && decide ((c : Int) ≤ 90) || ((c : Int) == 95)) := by unfold isLetter; rw [Bool.eq_iff_iff]; simp; omega
  have Hv := Lib.hid hv
  clear hv
  go_enter Tryz.func87, Tryz.ntmps87
  go_wp2
  all_goals (go_ret; rw [Hv.out]; refine ⟨?_, rfl⟩)
  all_goals (show Ending.returned (Value.bool _) = Ending.returned (Value.bool _))
  all_goals (congr 2; rw [Bool.eq_iff_iff]; simp)
  all_goals omega

structure Tok where
  kind : Nat
  pos : Nat
  text : ByteArray
  num : Nat
def Tok.val (t : Tok) : Value := .agg #[.int .i64 t.kind, .int .i64 t.pos, .string t.text, .int .i64 t.num]

/-- How many bytes from a place on are so. -/
def lngAt (p : Nat → Bool) (s : ByteArray) (a : Nat) : Nat := ((s.data.toList.drop a).takeWhile (fun b => p b.toNat)).length
theorem lngAt_zero (p : Nat → Bool) (s : ByteArray) : lngAt p s 0 = lng p s := rfl
theorem lngAt_is {p : Nat → Bool} {s : ByteArray} {a k : Nat} (ha : a ≤ k) (h : ∀ j, a ≤ j → j < k → p (byteAt s j) = true) (hk : k ≤ s.size) (hn : k = s.size ∨ p (byteAt s k) = false) : lngAt p s a = k - a := by
  unfold lngAt
  refine takeWhile_all _ _ _ (fun j hj => ⟨UInt8.ofNat (byteAt s (a + j)), ?_, ?_⟩) ?_
  · rw [List.getElem?_drop]; exact byteAt_get (by omega)
  · simp only [UInt8.toNat_ofNat']; rw [Nat.mod_eq_of_lt (byteAt_lt _ _)]; exact h _ (by omega) (by omega)
  · by_cases e : k = s.size
    · left; simp [e]
    · right
      refine ⟨UInt8.ofNat (byteAt s k), ?_, ?_⟩
      · rw [List.getElem?_drop, show a + (k - a) = k by omega]; exact byteAt_get (by omega)
      simp only [UInt8.toNat_ofNat']; rw [Nat.mod_eq_of_lt (byteAt_lt _ _)]
      rcases hn with hn | hn
      · exact absurd hn e
      · exact hn

theorem goes_l {c : Nat} (h : isLetter c = true) : isGoes c = true := by simp [isGoes, h]
theorem goes_d {c : Nat} (h : isDigit c = true) : isGoes c = true := by simp [isGoes, h]
theorem goes_46 {c : Nat} (h : (c : Int) = 46) : isGoes c = true := by
  have : c = 46 := by omega
  simp [isGoes, this]
theorem goes_4 {c : Nat} (h : ((c : Int) == 46) = true ∨ ((c : Int) == 45) = true) : isGoes c = true := by
  simp only [beq_iff_eq] at h
  have : c = 46 ∨ c = 45 := by omega
  rcases this with h | h <;> simp [isGoes, h]
theorem goes_not {c : Nat} (h : ¬ isLetter c = true) (h' : ¬ isDigit c = true) (h'' : ((c : Int) == 46) = false ∧ ((c : Int) == 45) = false) : isGoes c = false := by
  simp only [beq_eq_false_iff_ne, ne_eq] at h''
  have h1 : c ≠ 46 := by omega
  have h2 : c ≠ 45 := by omega
  simp [isGoes, h, h', h1, h2]

set_option maxHeartbeats 400000 in
theorem rone_letter (s : ByteArray) (a : Nat) (ha : a < s.size) (hs : s.size ≤ maxLen) (w : World) (hl : isLetter (byteAt s a) = true) :
    Calls Tryz.prog 61 #[.string s, .int .i64 a] w fun e w' => e = .returned (Tok.val ⟨1, a, s.extract a (a + lngAt isGoes s a), 0⟩) ∧ Kept w w' := by
  unfold maxLen at hs
  have hb := byteAt_lt s a
  have hsk := byteAt_elem s (k := a) ha
  have Hg : isGoes (byteAt s a) = true := by simp [isGoes, hl]
  have Hd : isDigit (byteAt s a) = false := by
    revert hl; generalize byteAt s a = c; unfold isLetter isDigit; simp; omega
  have Hl := Lib.hid hl
  have Hd := Lib.hid Hd
  have Hg := Lib.hid Hg
  clear hl
  go_enter Tryz.func61, Tryz.ntmps61
  go_wp2_with (first | (go_at_call 87; refine (rletter_any _ hb _).mono ?_; rintro e w' ⟨rfl, rfl⟩; rw [Hl.out]) | (go_at_call 88; refine (rdigit_any _ hb _).mono ?_; rintro e w' ⟨rfl, rfl⟩; rw [Hd.out]))
  go_loop [6] (fun e => ∃ k : Nat, e = .int .i64 k ∧ a + 1 ≤ k ∧ k ≤ s.size ∧ ∀ j, a ≤ j → j < k → isGoes (byteAt s j) = true) (fun n => s.size - (intOf n).toNat)
  case atStart => exact ⟨a + 1, by go_num, by omega, by omega, fun j h1 h2 => by rw [show j = a by omega]; exact Hg.out⟩
  case round =>
    obtain ⟨k, rfl, hak, hk, hall⟩ := hrel
    by_cases he : k = s.size
    · have hv : lngAt isGoes s a = k - a := lngAt_is (by omega) hall (by omega) (.inl he)
      have Hv := Lib.hid hv
      clear hv hall
      have hlt : ¬ ((k : Int) < s.size) := by omega
      go_wp2
      refine bodyPost_ret (results_cell_row rfl _ _ w.heap.size 116 _ (0, 0) _ rfl (heap_alloc2_old _ _ _) Tryz.underlying116 rfl (by kernel_rfl)) rfl ⟨?_, ((Kept.refl w).alloc _).alloc _⟩
      rw [Hv.out, show a + (k - a) = s.size by omega]; rfl
    · have hlt : ((k : Int) < s.size) := by omega
      have hbk := byteAt_lt s k
      have hskk := byteAt_elem s (k := k) (by omega)
      have Hall := Lib.hid hall
      clear hall
      go_wp2_with (first | (go_at_call 87; refine (rletter_any _ hbk _).mono ?_; rintro e w' ⟨rfl, rfl⟩) | (go_at_call 88; refine (rdigit_any _ hbk _).mono ?_; rintro e w' ⟨rfl, rfl⟩))
      all_goals first
        | (go_round
           case rel => exact ⟨k + 1, by go_num, by omega, by omega, fun j h1 h2 => by
             by_cases e : j = k
             · subst e
               first | exact goes_l ‹_› | exact goes_d ‹_› | exact goes_46 ‹_› | exact goes_4 ‹_›
             · exact Hall.out j h1 (by omega)⟩
           case measure => simp [intOf]; omega)
        | (have hv : lngAt isGoes s a = k - a := lngAt_is (by omega) Hall.out (by omega) (.inr (goes_not ‹_› ‹_› ‹_›))
           refine bodyPost_ret (results_cell_row rfl _ _ w.heap.size 116 _ (0, 0) _ rfl (heap_alloc2_old _ _ _) Tryz.underlying116 rfl (by kernel_rfl)) rfl ⟨?_, ((Kept.refl w).alloc _).alloc _⟩
           rw [hv, show a + (k - a) = k by omega]; rfl)
/-- The number that so many digits from a place on tell, as far as it is told. -/
def numUp (s : ByteArray) (a : Nat) : Nat → Nat
  | 0 => 0
  | k + 1 => min (numUp s a k * 10 + (byteAt s (a + k) - 48)) 1099511627776
theorem digit_le {c : Nat} (h : isDigit c = true) : 48 ≤ c ∧ c ≤ 57 := by
  simpa [isDigit] using h
theorem numUp_le (s : ByteArray) (a k : Nat) : numUp s a k ≤ 1099511627776 := by
  cases k with
  | zero => simp [numUp]
  | succ k => unfold numUp; omega

theorem numUp_step {s : ByteArray} {a t : Nat} (h : a ≤ t) (hd : 48 ≤ byteAt s t) :
    (if (1099511627776 : Int) < (numUp s a (t - a) : Int) * 10 + ((byteAt s t : Int) - 48) then (1099511627776 : Int) else (numUp s a (t - a) : Int) * 10 + ((byteAt s t : Int) - 48)) = ((numUp s a (t + 1 - a) : Nat) : Int) := by
  rw [show t + 1 - a = (t - a) + 1 by omega]
  have e : numUp s a (t - a + 1) = min (numUp s a (t - a) * 10 + (byteAt s (a + (t - a)) - 48)) 1099511627776 := rfl
  rw [e, show a + (t - a) = t by omega]
  generalize numUp s a (t - a) = n
  split <;> omega

set_option maxHeartbeats 400000 in
theorem rone_digit (s : ByteArray) (a : Nat) (ha : a < s.size) (hs : s.size ≤ maxLen) (w : World) (hl : isDigit (byteAt s a) = true) :
    Calls Tryz.prog 61 #[.string s, .int .i64 a] w fun e w' => e = .returned (Tok.val ⟨2, a, s.extract a (a + lngAt isDigit s a), numUp s a (lngAt isDigit s a)⟩) ∧ Kept w w' := by
  unfold maxLen at hs
  have hb := byteAt_lt s a
  have hsk := byteAt_elem s (k := a) ha
  have hd : isLetter (byteAt s a) = false := by
    revert hl; generalize byteAt s a = c; unfold isLetter isDigit; simp; omega
  have Hl := Lib.hid hl
  have Hd := Lib.hid hd
  clear hl hd
  go_enter Tryz.func61, Tryz.ntmps61
  go_wp2_with (first | (go_at_call 87; refine (rletter_any _ hb _).mono ?_; rintro e w' ⟨rfl, rfl⟩; rw [Hd.out]) | (go_at_call 88; refine (rdigit_any _ hb _).mono ?_; rintro e w' ⟨rfl, rfl⟩; rw [Hl.out]))
  go_loop [6] (fun e => ∃ k : Nat, e = .int .i64 k ∧ a + 1 ≤ k ∧ k ≤ s.size ∧ ∀ j, a ≤ j → j < k → isDigit (byteAt s j) = true) (fun n => s.size - (intOf n).toNat)
  case atStart => exact ⟨a + 1, by go_num, by omega, by omega, fun j h1 h2 => by rw [show j = a by omega]; exact Hl.out⟩
  case round =>
    obtain ⟨k, rfl, hak, hk, hall⟩ := hrel
    by_cases he : k = s.size
    · have hv : lngAt isDigit s a = k - a := lngAt_is (by omega) hall (by omega) (.inl he)
      have Hv := Lib.hid hv
      have Hall := Lib.hid hall
      clear hv hall
      have hlt : ¬ ((k : Int) < s.size) := by omega
      go_wp2
      go_loopw [10] (fun i wr => ∃ (t : Nat) (u : World), i = .int .i64 t ∧ a ≤ t ∧ t ≤ s.size ∧ Kept w u ∧ u.heap.size = w.heap.size ∧ wr = (u.alloc (.cells #[.int .i64 0, .int .i64 0, .string ⟨#[]⟩, .int .i64 0] 116)).alloc (.cells #[.int .i64 2, .int .i64 a, .string ⟨#[]⟩, .int .i64 (numUp s a (t - a))] 116)) (fun i _ => s.size - (intOf i).toNat)
      case atStart => exact ⟨a, w, rfl, by omega, by omega, Kept.refl w, rfl, by rw [Nat.sub_self]; rfl⟩
      case round =>
        obtain ⟨t, u, rfl, hat, htk, hKu, hu, rfl⟩ := hrel
        rw [← hu]
        by_cases he2 : t = s.size
        · go_wp2
          refine bodyPost_ret (results_cell_row rfl _ _ u.heap.size 116 _ (0, 0) _ rfl (heap_alloc2_old _ _ _) Tryz.underlying116 rfl (by kernel_rfl)) rfl ⟨?_, (hKu.alloc _).alloc _⟩
          rw [Hv.out, show a + (k - a) = s.size by omega, show k - a = t - a by omega, he2]; rfl
        · have hdj := digit_le (Hall.out t (by omega) (by omega))
          have hn := numUp_le s a (t - a)
          have hbj := byteAt_lt s t
          have hsj := byteAt_elem s (k := t) (by omega)
          have hlt3 : (t : Int) < s.size := by omega
          go_wp2
          go_region
          rw [numUp_step hat hdj.1]
          go_wp2
          rw [hu]
          go_roundw
          case rel => exact ⟨t + 1, u.drew, by go_num, by omega, by omega, hKu.drew, hu, rfl⟩
          case measure => simp [intOf]; omega
    · have hlt : ((k : Int) < s.size) := by omega
      have hbk := byteAt_lt s k
      have hskk := byteAt_elem s (k := k) (by omega)
      have Hall := Lib.hid hall
      clear hall
      cases hc : isDigit (byteAt s k) with
      | true =>
        have Hc := Lib.hid hc
        clear hc
        go_wp2_with (go_at_call 88; refine (rdigit_any _ hbk _).mono ?_; rintro e w' ⟨rfl, rfl⟩; rw [Hc.out])
        go_round
        case rel => exact ⟨k + 1, by go_num, by omega, by omega, fun j h1 h2 => by
               by_cases e : j = k
               · subst e
                 exact Hc.out
               · exact Hall.out j h1 (by omega)⟩
        case measure => simp [intOf]; omega
      | false =>
        have hv : lngAt isDigit s a = k - a := lngAt_is (by omega) Hall.out (by omega) (.inr hc)
        have Hc := Lib.hid hc
        have Hv := Lib.hid hv
        clear hc hv
        go_wp2_with (go_at_call 88; refine (rdigit_any _ hbk _).mono ?_; rintro e w' ⟨rfl, rfl⟩; rw [Hc.out])
        go_loopw [10] (fun i wr => ∃ (t : Nat) (u : World), i = .int .i64 t ∧ a ≤ t ∧ t ≤ k ∧ Kept w u ∧ u.heap.size = w.heap.size ∧ wr = (u.alloc (.cells #[.int .i64 0, .int .i64 0, .string ⟨#[]⟩, .int .i64 0] 116)).alloc (.cells #[.int .i64 2, .int .i64 a, .string ⟨#[]⟩, .int .i64 (numUp s a (t - a))] 116)) (fun i _ => k - (intOf i).toNat)
        case atStart => exact ⟨a, w, rfl, by omega, by omega, Kept.refl w, rfl, by rw [Nat.sub_self]; rfl⟩
        case round =>
          obtain ⟨t, u, rfl, hat, htk, hKu, hu, rfl⟩ := hrel
          rw [← hu]
          by_cases he2 : t = k
          · go_wp2
            refine bodyPost_ret (results_cell_row rfl _ _ u.heap.size 116 _ (0, 0) _ rfl (heap_alloc2_old _ _ _) Tryz.underlying116 rfl (by kernel_rfl)) rfl ⟨?_, (hKu.alloc _).alloc _⟩
            rw [Hv.out, show a + (k - a) = k by omega, show k - a = t - a by omega, he2]; rfl
          · have hdj := digit_le (Hall.out t (by omega) (by omega))
            have hn := numUp_le s a (t - a)
            have hbj := byteAt_lt s t
            have hsj := byteAt_elem s (k := t) (by omega)
            have hlt3 : (t : Int) < s.size := by omega
            go_wp2
            go_region
            rw [numUp_step hat hdj.1]
            go_wp2
            rw [hu]
            go_roundw
            case rel => exact ⟨t + 1, u.drew, by go_num, by omega, by omega, hKu.drew, hu, rfl⟩
            case measure => simp [intOf]; omega
/-- The token that begins at a place. -/
def tokAt (s : ByteArray) (a : Nat) : Tok :=
  if isLetter (byteAt s a) then ⟨1, a, s.extract a (a + lngAt isGoes s a), 0⟩
  else if isDigit (byteAt s a) then ⟨2, a, s.extract a (a + lngAt isDigit s a), numUp s a (lngAt isDigit s a)⟩
  else if byteAt s a = 61 then ⟨3, a, s.extract a (a + 1), 0⟩
  else if byteAt s a = 10 then ⟨4, a, s.extract a (a + 1), 0⟩
  else ⟨0, 0, ⟨#[]⟩, 0⟩

set_option maxHeartbeats 400000 in
theorem rone_any (s : ByteArray) (a : Nat) (ha : a < s.size) (hs : s.size ≤ maxLen) (w : World) :
    Calls Tryz.prog 61 #[.string s, .int .i64 a] w fun e w' => e = .returned (tokAt s a).val ∧ Kept w w' := by
  cases hl : isLetter (byteAt s a) with
  | true =>
    refine (rone_letter s a ha hs w hl).mono ?_
    rintro e w' ⟨rfl, hk⟩
    refine ⟨?_, hk⟩
    unfold tokAt; rw [if_pos hl]
  | false =>
    cases hd : isDigit (byteAt s a) with
    | true =>
      refine (rone_digit s a ha hs w hd).mono ?_
      rintro e w' ⟨rfl, hk⟩
      refine ⟨?_, hk⟩
      unfold tokAt; rw [if_neg (by simp [hl]), if_pos hd]
    | false =>
      have ht : tokAt s a = if byteAt s a = 61 then ⟨3, a, s.extract a (a + 1), 0⟩ else if byteAt s a = 10 then ⟨4, a, s.extract a (a + 1), 0⟩ else ⟨0, 0, ⟨#[]⟩, 0⟩ := by
        unfold tokAt; rw [if_neg (by simp [hl]), if_neg (by simp [hd])]
      unfold maxLen at hs
      have hb := byteAt_lt s a
      have hsk := byteAt_elem s (k := a) ha
      have Hl := Lib.hid hl
      have Hd := Lib.hid hd
      have Ht := Lib.hid ht
      clear hl hd ht
      go_enter Tryz.func61, Tryz.ntmps61
      go_wp2_with (first | (go_at_call 87; refine (rletter_any _ hb _).mono ?_; rintro e w' ⟨rfl, rfl⟩; rw [Hl.out]) | (go_at_call 88; refine (rdigit_any _ hb _).mono ?_; rintro e w' ⟨rfl, rfl⟩; rw [Hd.out]))
      · rename_i h61
        have e61 : byteAt s a = 61 := by simp only [beq_iff_eq] at h61; omega
        refine bodyPost_ret (results_cell_row rfl _ _ w.heap.size 116 _ (0, 0) _ rfl (heap_alloc2_old _ _ _) Tryz.underlying116 rfl (by kernel_rfl)) rfl ⟨?_, ((Kept.refl w).alloc _).alloc _⟩
        rw [Ht.out, if_pos e61]; rfl
      · rename_i h61 h10
        have e61 : ¬ byteAt s a = 61 := by simp only [beq_eq_false_iff_ne, ne_eq] at h61; omega
        have e10 : byteAt s a = 10 := by simp only [beq_iff_eq] at h10; omega
        refine bodyPost_ret (results_cell_row rfl _ _ w.heap.size 116 _ (0, 0) _ rfl (heap_alloc2_old _ _ _) Tryz.underlying116 rfl (by kernel_rfl)) rfl ⟨?_, ((Kept.refl w).alloc _).alloc _⟩
        rw [Ht.out, if_neg e61, if_pos e10]; rfl
      · rename_i h61 h10
        have e61 : ¬ byteAt s a = 61 := by simp only [beq_eq_false_iff_ne, ne_eq] at h61; omega
        have e10 : ¬ byteAt s a = 10 := by simp only [beq_eq_false_iff_ne, ne_eq] at h10; omega
        refine bodyPost_ret (results_cell_row rfl _ _ w.heap.size 116 _ (0, 0) _ rfl (heap_alloc2_old _ _ _) Tryz.underlying116 rfl (by kernel_rfl)) rfl ⟨?_, ((Kept.refl w).alloc _).alloc _⟩
        rw [Ht.out, if_neg e61, if_neg e10]; rfl

theorem extract_all {s : ByteArray} {n : Nat} (h : n ≤ s.size) : s.extract 0 n = s ↔ n = s.size := by
  constructor
  · intro e
    have := congrArg ByteArray.size e
    simp at this; omega
  · rintro rfl; exact ByteArray.extract_zero_size
theorem tok_word (s : ByteArray) (h0 : ¬ s.size = 0) (t : Tok) (ht : tokAt s 0 = t) (h1 : t.kind = 1) : isWord s = decide (t.text = s) := by
  unfold tokAt at ht
  split at ht
  · rename_i hl
    subst ht
    have := lng_le isGoes s
    simp only [lngAt_zero, Nat.zero_add]
    unfold isWord
    rw [hl, Bool.eq_iff_iff]
    simp [h0]
    exact (extract_all this).symm
  · split at ht
    · subst ht; simp at h1
    · split at ht
      · subst ht; simp at h1
      · split at ht
        · subst ht; simp at h1
        · subst ht; simp at h1
theorem tok_noword (s : ByteArray) (h0 : ¬ s.size = 0) (t : Tok) (ht : tokAt s 0 = t) (h1 : ¬ t.kind = 1) : isWord s = false := by
  unfold tokAt at ht
  split at ht
  · subst ht; simp at h1
  · rename_i hl
    unfold isWord; simp [hl]

set_option maxHeartbeats 400000 in
theorem rWord_any (s : ByteArray) (hs : s.size ≤ maxLen) (w : World) :
    Calls Tryz.prog 39 #[.string s] w fun e w' => e = .returned (.bool (isWord s)) ∧ Kept w w' := by
  by_cases h0 : s.size = 0
  · have hv : isWord s = false := by simp [isWord, h0]
    have hs0 : s = ByteArray.empty := by
      apply ByteArray.ext; exact Array.eq_empty_of_size_eq_zero h0
    subst hs0
    have Hv := Lib.hid hv
    clear hv
    go_enter Tryz.func39, Tryz.ntmps39
    go_wp2
    go_ret
    exact ⟨by rw [Hv.out]; rfl, Kept.refl w⟩
  · have hne := toList_ne h0
    have hne' : s.toList.isEmpty = false := by simpa using hne
    go_enter Tryz.func39, Tryz.ntmps39
    go_wp2_with (go_at_call 61; refine (rone_any s 0 (by omega) hs _).mono ?_; rintro e w' ⟨rfl, hk⟩; simp only [Tok.val]; generalize ht : tokAt s 0 = t)
    · rename_i h1
      go_ret
      refine ⟨?_, hk.alloc _⟩
      rw [toList_beq, tok_word s h0 t ht (by omega)]; rfl
    · rename_i h1
      go_ret
      refine ⟨?_, hk.alloc _⟩
      rw [tok_noword s h0 t ht (by omega)]; rfl
end Go.Proofs.YtphdcoegkfmaeaaGreatDoor
