/- scan.long, scan.Word: how many bytes of a text are such ones; is a text one word. -/
import Derived.Test.YtphdcoegkfmaeaaGreatDoorScan
import Derived.WalkSpells
import Derived.Shelf.Abstract
set_option linter.unusedVariables false
set_option linter.unusedSimpArgs false
namespace Go.Proofs.YtphdcoegkfmaeaaGreatDoor
open Go.RowKit Go.Shelf

/-- A function value that tells a byte. -/
def Tells (g : Nat) (lb : Array Value) (p : Nat → Bool) : Prop := (∀ args w, (callFunc g args).run Tryz.prog w = .ok (.enter g args) w) ∧ ∀ (c : Nat) (W : World), c < 256 → Calls Tryz.prog g (#[.int .u8 c] ++ lb) W fun e w' => e = .returned (.bool (p c)) ∧ W = w'
theorem tells_goes : Tells 86 #[] isGoes := ⟨enters_of Tryz.func86 (by kernel_rfl) rfl, fun c W h => goes_any c h W⟩
theorem tells_digit : Tells 117 #[] isDigit := ⟨enters_of Tryz.func117 (by kernel_rfl) rfl, fun c W h => digit_any c h W⟩

def byteAt (s : ByteArray) (k : Nat) : Nat := (s.data.toList.getD k 0).toNat
/-- How many bytes from the beginning on are so. -/
def lng (p : Nat → Bool) (s : ByteArray) : Nat := (s.data.toList.takeWhile (fun b => p b.toNat)).length
theorem byteAt_lt (s : ByteArray) (k : Nat) : byteAt s k < 256 := UInt8.toNat_lt _

theorem byteAt_get {s : ByteArray} {k : Nat} (h : k < s.size) : s.data.toList[k]? = some (UInt8.ofNat (byteAt s k)) := by
  have h' : k < s.data.toList.length := by simpa using h
  rw [List.getElem?_eq_getElem h']
  unfold byteAt
  rw [List.getD_eq_getElem?_getD, List.getElem?_eq_getElem h']
  simp
theorem byteAt_elem (s : ByteArray) {k : Nat} (h : k < s.size) : (s[k]'h).toNat = byteAt s k := by
  have h' : k < s.data.toList.length := by simpa using h
  unfold byteAt
  rw [List.getD_eq_getElem?_getD, List.getElem?_eq_getElem h']
  rfl
theorem takeWhile_all {α : Type} (q : α → Bool) (l : List α) (k : Nat) (h : ∀ j, j < k → ∃ x, l[j]? = some x ∧ q x = true) (hn : k = l.length ∨ ∃ x, l[k]? = some x ∧ q x = false) : (l.takeWhile q).length = k := by
  induction l generalizing k with
  | nil =>
    cases k with
    | zero => rfl
    | succ k => obtain ⟨x, hx, _⟩ := h 0 (by omega); simp at hx
  | cons a l ih =>
    cases k with
    | zero =>
      rcases hn with hn | ⟨x, hx, hq⟩
      · simp at hn
      · simp at hx; subst hx; simp [hq]
    | succ k =>
      obtain ⟨x, hx, hq⟩ := h 0 (by omega)
      simp at hx; subst hx
      simp only [List.takeWhile_cons, hq, if_true, List.length_cons]
      rw [ih k (fun j hj => by have := h (j+1) (by omega); simpa using this) (by
        rcases hn with hn | hn
        · exact .inl (by simpa using hn)
        · exact .inr (by simpa using hn))]
/-- So many are so, and the next one is not. -/
theorem lng_is {p : Nat → Bool} {s : ByteArray} {k : Nat} (h : ∀ j, j < k → p (byteAt s j) = true) (hk : k ≤ s.size) (hn : k = s.size ∨ p (byteAt s k) = false) : lng p s = k := by
  unfold lng
  refine takeWhile_all _ _ _ (fun j hj => ⟨_, byteAt_get (by omega), ?_⟩) ?_
  · simp only [UInt8.toNat_ofNat']; rw [Nat.mod_eq_of_lt (byteAt_lt _ _)]; exact h j hj
  · by_cases e : k = s.size
    · left; simpa using e
    · right
      refine ⟨_, byteAt_get (by omega), ?_⟩
      simp only [UInt8.toNat_ofNat']; rw [Nat.mod_eq_of_lt (byteAt_lt _ _)]
      rcases hn with hn | hn
      · exact absurd hn e
      · exact hn

set_option maxHeartbeats 400000 in
theorem long_any (s : ByteArray) (g : Nat) (lb : Array Value) (p : Nat → Bool) (hp : Tells g lb p) (hs : s.size ≤ maxLen) (w : World) :
    Calls Tryz.prog 85 #[.string s, .func (.func g) #[] lb] w fun e w' => e = .returned (.int .i64 (lng p s)) ∧ w = w' := by
  unfold maxLen at hs
  have eg := hp.1
  go_enter Tryz.func85, Tryz.ntmps85
  go_wp2
  go_step3
  go_wp2
  go_step3
  go_wp2
  go_loop [5] (fun n => ∃ k : Nat, n = .int .i64 k ∧ k ≤ s.size ∧ ∀ j, j < k → p (byteAt s j) = true) (fun n => s.size - (intOf n).toNat)
  case atStart => exact ⟨0, rfl, by omega, fun j hj => by omega⟩
  case round =>
    obtain ⟨k, rfl, hk, hall⟩ := hrel
    by_cases he : k = s.size
    · have hv : lng p s = k := lng_is hall hk (.inl he)
      have Hv := Lib.hid hv
      clear hv hall
      have hlt : ¬ ((k : Int) < s.size) := by omega
      go_wp2
      try rw [Exit.noGoto_ret]
      go_ret
      exact ⟨by rw [Hv.out, he]; rfl, rfl⟩
    · have hlt : ((k : Int) < s.size) := by omega
      have hb := byteAt_lt s k
      have hsk := byteAt_elem s (k := k) (by omega)
      cases hpk : p (byteAt s k) with
      | true =>
        have hall' : ∀ j, j < k + 1 → p (byteAt s j) = true := fun j hj => by
          by_cases e : j = k
          · subst e; exact hpk
          · exact hall j (by omega)
        have Hpk := Lib.hid hpk
        have Hall := Lib.hid hall'
        clear hpk hall hall'
        go_wp2_with (refine (hp.2 _ _ hb).mono ?_; rintro e w' ⟨rfl, rfl⟩; rw [Hpk.out])
        go_round
        case rel => exact ⟨k + 1, by go_num, by omega, Hall.out⟩
        case measure => simp [intOf]; omega
      | false =>
        have hv : lng p s = k := lng_is hall hk (.inr hpk)
        have Hpk := Lib.hid hpk
        have Hv := Lib.hid hv
        clear hpk hall hv
        go_wp2_with (refine (hp.2 _ _ hb).mono ?_; rintro e w' ⟨rfl, rfl⟩; rw [Hpk.out])
        try rw [Exit.noGoto_ret]
        go_ret
        exact ⟨by rw [Hv.out]; rfl, rfl⟩

/-- Is a text one word? -/
def isWord (s : ByteArray) : Bool := decide (s.size ≠ 0) && isLetter (byteAt s 0) && decide (lng isGoes s = s.size)
theorem lng_le (p : Nat → Bool) (s : ByteArray) : lng p s ≤ s.size := by
  have : (s.data.toList.takeWhile (fun b => p b.toNat)).length ≤ s.data.toList.length := (List.takeWhile_prefix _).length_le
  have h' : s.data.toList.length = s.size := by simp
  unfold lng
  omega

theorem toList_loop_ne (s : ByteArray) (i : Nat) (r : List UInt8) (h : i < s.size ∨ r ≠ []) : ByteArray.toList.loop s i r ≠ [] := by
  induction i, r using ByteArray.toList.loop.induct s with
  | case1 i r hi ih =>
    unfold ByteArray.toList.loop
    rw [if_pos hi]
    exact ih (.inr (by simp))
  | case2 i r hi =>
    unfold ByteArray.toList.loop
    rw [if_neg hi]
    rcases h with h | h
    · exact absurd h hi
    · simpa using h
theorem bytes_toList (s : ByteArray) : s.toList = s.data.toList := by
  obtain ⟨⟨l⟩⟩ := s
  exact ByteArray.toList_mk l
theorem bytes_ext {a b : ByteArray} (h : a.data.toList = b.data.toList) : a = b := by
  apply ByteArray.ext
  exact Array.ext' h
theorem toList_beq (a b : ByteArray) : (a.toList == b.toList) = decide (a = b) := by
  rw [Bool.eq_iff_iff, bytes_toList, bytes_toList]
  simp
  exact ⟨fun h => bytes_ext (by rw [h]), fun h => by rw [h]⟩
theorem toList_ne {s : ByteArray} (h : ¬ s.size = 0) : s.toList ≠ [] := toList_loop_ne s 0 [] (.inl (by omega))

set_option maxHeartbeats 400000 in
theorem Word_any (s : ByteArray) (hs : s.size ≤ maxLen) (w : World) :
    Calls Tryz.prog 60 #[.string s] w fun e w' => e = .returned (.bool (isWord s)) ∧ w = w' := by
  have hs' := hs
  unfold maxLen at hs
  by_cases h0 : s.size = 0
  · have hv : isWord s = false := by simp [isWord, h0]
    have hs0 : s = ByteArray.empty := by
      apply ByteArray.ext; exact Array.eq_empty_of_size_eq_zero h0
    subst hs0
    have Hv := Lib.hid hv
    clear hv
    go_enter Tryz.func60, Tryz.ntmps60
    go_wp2
    go_ret
    exact ⟨by rw [Hv.out]; rfl, rfl⟩
  · have hb := byteAt_lt s 0
    have hne := toList_ne h0
    have hne' : s.toList.isEmpty = false := by simpa using hne
    have hsk := byteAt_elem s (k := 0) (by omega)
    have hv : isWord s = (isLetter (byteAt s 0) && decide (lng isGoes s = s.size)) := by simp [isWord, h0]
    have hl := lng_le isGoes s
    have Hv := Lib.hid hv
    clear hv
    cases hc : isLetter (byteAt s 0) with
    | true =>
      have Hc := Lib.hid hc
      clear hc
      go_enter Tryz.func60, Tryz.ntmps60
      go_wp2_with (first | (go_at_call 84; refine (letter_any _ hb _).mono ?_; rintro e w' ⟨rfl, rfl⟩; rw [Hc.out]) | (go_at_call 85; refine (long_any s 86 #[] isGoes tells_goes hs' _).mono ?_; rintro e w' ⟨rfl, rfl⟩))
      go_ret
      refine ⟨?_, rfl⟩
      rw [Hv.out, Hc.out]
      simp
      rw [Bool.eq_iff_iff]
      simp
      omega
    | false =>
      have Hc := Lib.hid hc
      clear hc
      go_enter Tryz.func60, Tryz.ntmps60
      go_wp2_with (first | (go_at_call 84; refine (letter_any _ hb _).mono ?_; rintro e w' ⟨rfl, rfl⟩; rw [Hc.out]))
      go_ret
      exact ⟨by rw [Hv.out, Hc.out]; rfl, rfl⟩
end Go.Proofs.YtphdcoegkfmaeaaGreatDoor
