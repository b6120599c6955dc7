/- Which texts are lines, and of which line each is: no program in sight. -/
import Derived.Test.YtphdcoegkfmaeaaGreatDoorRender
import Derived.Lib.ParseIntBCases
import Derived.Lib.IndexMore
set_option linter.unusedVariables false
set_option linter.unusedSimpArgs false
namespace Go.Proofs.YtphdcoegkfmaeaaGreatDoor
open Go.RowKit Go.Shelf

/-- All are digits. -/
def Digs (l : List UInt8) : Prop := ∀ c ∈ l, 48 ≤ c.toNat ∧ c.toNat ≤ 57
def digVal (a : Nat) : List UInt8 → Nat
  | [] => a
  | c :: l => digVal (a * 10 + (c.toNat - 48)) l
theorem digVal_append (a : Nat) (l m : List UInt8) : digVal a (l ++ m) = digVal (digVal a l) m := by
  induction l generalizing a with
  | nil => rfl
  | cons c l ih => exact ih _
theorem ofNat_dig (d : Nat) (h : d < 10) : (UInt8.ofNat (48 + d)).toNat = 48 + d := by
  simp only [UInt8.toNat_ofNat']; exact Nat.mod_eq_of_lt (by omega)
theorem dec_digs (u : Nat) : Digs (Lib.decDigits u) ∧ digVal 0 (Lib.decDigits u) = u ∧ Lib.decDigits u ≠ [] := by
  induction u using Nat.strongRecOn with
  | ind u ih =>
    by_cases h : u < 10
    · rw [Lib.decDigits_one h]
      refine ⟨fun c hc => ?_, ?_, by simp⟩
      · rw [List.mem_singleton.1 hc, ofNat_dig u h]; omega
      · show 0 * 10 + ((UInt8.ofNat (48 + u)).toNat - 48) = u
        rw [ofNat_dig u h]; omega
    · obtain ⟨h1, h2, h3⟩ := ih (u / 10) (by omega)
      have e : Lib.decDigits u = Lib.decDigits (u / 10) ++ [UInt8.ofNat (48 + u % 10)] := by rw [Lib.decDigits, dif_neg h]
      rw [e]
      refine ⟨fun c hc => ?_, ?_, by simp⟩
      · rcases List.mem_append.1 hc with hc | hc
        · exact h1 c hc
        · rw [List.mem_singleton.1 hc, ofNat_dig (u % 10) (by omega)]; omega
      · rw [digVal_append, h2]
        show u / 10 * 10 + ((UInt8.ofNat (48 + u % 10)).toNat - 48) = u
        rw [ofNat_dig (u % 10) (by omega)]; omega
theorem dec_short (n u : Nat) (h : u < 10 ^ (n + 1)) : (Lib.decDigits u).length ≤ n + 1 := by
  induction n generalizing u with
  | zero => rw [Lib.decDigits_one (by omega)]; simp
  | succ n ih =>
    by_cases h10 : u < 10
    · rw [Lib.decDigits_one h10]; simp
    · rw [Lib.decDigits, dif_neg h10]
      have := ih (u / 10) (by rw [Nat.pow_succ] at h; omega)
      simp only [List.length_append, List.length_cons, List.length_nil]
      omega
theorem dec_inj {u v : Nat} (h : Lib.decDigits u = Lib.decDigits v) : u = v := by
  rw [← (dec_digs u).2.1, h, (dec_digs v).2.1]

def missW : List UInt8 := [109, 105, 115, 115]
/-- The word behind a name. -/
def Line.wordL (x : Line) : List UInt8 := if x.ok then Lib.itoa x.r else missW
/-- A line that may be read. -/
def Good (x : Line) : Prop := isWord x.name = true ∧ (x.ok = true → 0 ≤ x.r ∧ x.r < 1099511627776) ∧ (x.ok = false → x.r = 0)
def zeroLine : Line := ⟨⟨#[]⟩, 0, false⟩
theorem text_list (x : Line) : x.text.data.toList = x.name.data.toList ++ 32 :: (x.wordL ++ [10]) := by
  obtain ⟨name, r, ok⟩ := x
  unfold Line.text Line.word Line.wordL
  cases ok <;> simp only [Joins.data_append] <;> simp [missW]
theorem wordL_ok {x : Line} (h : Good x) (ho : x.ok = true) : x.wordL = Lib.decDigits x.r.toNat := by
  unfold Line.wordL; rw [if_pos ho]
  have := (h.2.1 ho).1
  rw [← Lib.itoa_nonneg, Int.toNat_of_nonneg this]
theorem wordL_miss {x : Line} (ho : x.ok = false) : x.wordL = missW := by
  unfold Line.wordL; rw [if_neg (by simp [ho])]
theorem miss_no (u : Nat) : missW ≠ Lib.decDigits u := fun h => by
  have := (dec_digs u).1 109 (by rw [← h]; simp [missW])
  simp at this
theorem takeWhile_full {α : Type} {q : α → Bool} : ∀ {l : List α}, (l.takeWhile q).length = l.length → ∀ x ∈ l, q x = true
  | [], _, x, hx => by simp at hx
  | a :: l, h, x, hx => by
    by_cases ha : q a = true
    · rw [List.takeWhile_cons, if_pos ha] at h
      rcases List.mem_cons.1 hx with rfl | hx
      · exact ha
      · exact takeWhile_full (by simpa using h) x hx
    · rw [List.takeWhile_cons, if_neg ha] at h
      simp at h
theorem word_goes {s : ByteArray} (h : isWord s = true) : s.size ≠ 0 ∧ ∀ c ∈ s.data.toList, isGoes c.toNat = true := by
  unfold isWord at h
  simp only [Bool.and_eq_true, decide_eq_true_eq] at h
  refine ⟨h.1.1, takeWhile_full (q := fun c : UInt8 => isGoes c.toNat) ?_⟩
  have := h.2
  unfold lng at this
  rw [this]; simp
theorem word_no {s : ByteArray} (h : isWord s = true) {c : UInt8} (hc : c ∈ s.data.toList) : c ≠ 32 ∧ c ≠ 10 := by
  have := (word_goes h).2 c hc
  constructor
  · rintro rfl; revert this; decide
  · rintro rfl; revert this; decide
theorem wordL_no {x : Line} (h : Good x) {c : UInt8} (hc : c ∈ x.wordL) : c ≠ 32 ∧ c ≠ 10 := by
  cases ho : x.ok with
  | true =>
    rw [wordL_ok h ho] at hc
    have := (dec_digs _).1 c hc
    constructor
    · rintro rfl; simp at this
    · rintro rfl; simp at this
  | false =>
    rw [wordL_miss ho] at hc
    revert hc; unfold missW; revert c; decide
theorem split_one {α : Type} {m : α} : ∀ {a b c d : List α}, a ++ m :: b = c ++ m :: d → (∀ x ∈ a, x ≠ m) → (∀ x ∈ c, x ≠ m) → a = c ∧ b = d
  | [], b, [], d, h, _, _ => by simpa using h
  | [], b, y :: c, d, h, _, hc => by
    simp at h
    exact absurd h.1.symm (hc y (by simp))
  | x :: a, b, [], d, h, ha, _ => by
    simp at h
    exact absurd h.1 (ha x (by simp))
  | x :: a, b, y :: c, d, h, ha, hc => by
    simp at h
    obtain ⟨rfl, h⟩ := h
    obtain ⟨rfl, rfl⟩ := split_one h (fun z hz => ha z (by simp [hz])) (fun z hz => hc z (by simp [hz]))
    exact ⟨rfl, rfl⟩
theorem good_inj {x y : Line} (hx : Good x) (hy : Good y) (h : x.text = y.text) : x = y := by
  have e := congrArg (fun s : ByteArray => s.data.toList) h
  simp only [text_list] at e
  obtain ⟨e1, e2⟩ := split_one e (fun c hc => (word_no hx.1 hc).1) (fun c hc => (word_no hy.1 hc).1)
  have e2 := List.append_cancel_right e2
  have en : x.name = y.name := bytes_ext e1
  obtain ⟨xn, xr, xo⟩ := x
  obtain ⟨yn, yr, yo⟩ := y
  simp only at en
  subst en
  cases xo <;> cases yo
  · have h1 : xr = 0 := hx.2.2 rfl
    have h2 : yr = 0 := hy.2.2 rfl
    rw [h1, h2]
  · rw [wordL_miss rfl, wordL_ok hy rfl] at e2
    exact absurd e2 (miss_no _)
  · rw [wordL_ok hx rfl, wordL_miss (x := ⟨xn, yr, false⟩) rfl] at e2
    exact absurd e2.symm (miss_no _)
  · rw [wordL_ok hx rfl, wordL_ok hy rfl] at e2
    have h1 := dec_inj e2
    have h2 := (hx.2.1 rfl).1
    have h3 := (hy.2.1 rfl).1
    simp only at h1 h2 h3
    rw [show xr = yr by omega]
open Classical in
/-- The line of a text; the zero one, if it is none. -/
noncomputable def lineOf (s : ByteArray) : Line := if h : ∃ x, Good x ∧ x.text = s then h.choose else zeroLine
theorem lineOf_good {x : Line} (h : Good x) {s : ByteArray} (hs : x.text = s) : lineOf s = x := by
  have he : ∃ x, Good x ∧ x.text = s := ⟨x, h, hs⟩
  unfold lineOf
  rw [dif_pos he]
  exact good_inj he.choose_spec.1 h (he.choose_spec.2.trans hs.symm)
theorem lineOf_none {s : ByteArray} (h : ∀ x, Good x → x.text ≠ s) : lineOf s = zeroLine := by
  unfold lineOf
  rw [dif_neg]
  rintro ⟨x, hx, hs⟩
  exact h x hx hs
theorem lineOf_check (t : ByteArray) (x : Line) (h0 : 0 ≤ x.r) (hm : x.ok = false → x.r = 0) (H : ∀ y, Good y → y.text = t → y = x) :
    lineOf t = if isWord x.name = true ∧ x.r < 1099511627776 ∧ x.text = t then x else zeroLine := by
  split
  · rename_i h
    exact lineOf_good ⟨h.1, fun _ => ⟨h0, h.2.1⟩, hm⟩ h.2.2
  · rename_i h
    refine lineOf_none fun y hy ht => h ?_
    obtain rfl := H y hy ht
    refine ⟨hy.1, ?_, ht⟩
    cases ho : y.ok with
    | true => exact (hy.2.1 ho).2
    | false => rw [hy.2.2 ho]; decide
def feed : ByteArray := ⟨#[10]⟩
theorem byteAt_mem {s : ByteArray} {k : Nat} {c : UInt8} (h : s.data.toList[k]? = some c) : byteAt s k = c.toNat := by
  unfold byteAt; rw [List.getD_eq_getElem?_getD, h]; rfl
theorem parse_at {s : ByteArray} {k : Nat} (hk : k < s.size) (h32 : byteAt s k = 32) (hno : ∀ j, j < k → byteAt s j ≠ 32) {y : Line} (hy : Good y) (ht : y.text = s ++ feed) :
    y.name = s.extract 0 k ∧ y.wordL = (s.extract (k + 1) s.size).data.toList := by
  have e := congrArg (fun s : ByteArray => s.data.toList) ht
  have hlen : s.data.toList.length = s.size := by simp
  have hs : s.data.toList = s.data.toList.take k ++ 32 :: s.data.toList.drop (k + 1) := by
    have h1 : s.data.toList[k]'(by omega) = 32 := by
      have := byteAt_mem (List.getElem?_eq_getElem (l := s.data.toList) (i := k) (by omega))
      rw [h32] at this
      exact UInt8.toNat_inj.1 this.symm
    rw [← h1, List.getElem_cons_drop, List.take_append_drop]
  simp only [text_list, Joins.data_append] at e
  rw [hs, List.append_assoc, List.cons_append] at e
  obtain ⟨e1, e2⟩ := split_one e (fun c hc => (word_no hy.1 hc).1) (fun c hc h => by
    subst h
    obtain ⟨j, hj⟩ := List.getElem?_of_mem hc
    have hjk : j < k := by
      have := (List.getElem?_eq_some_iff.1 hj).1
      simp at this; omega
    rw [List.getElem?_take_of_lt hjk] at hj
    exact hno j hjk (byteAt_mem hj))
  have e3 : (s.extract 0 k).data.toList = s.data.toList.take k := by simp [ByteArray.data_extract]
  have e4 : (s.extract (k + 1) s.size).data.toList = s.data.toList.drop (k + 1) := by
    simp [ByteArray.data_extract]
    exact List.take_of_length_le (by simp)
  refine ⟨bytes_ext (by rw [e1, e3]), ?_⟩
  rw [e4]
  exact List.append_cancel_right e2
theorem parse_none {s : ByteArray} (hno : ∀ j, j < s.size → byteAt s j ≠ 32) : lineOf (s ++ feed) = zeroLine := by
  refine lineOf_none fun y hy ht => ?_
  have e := congrArg (fun s : ByteArray => s.data.toList) ht
  simp only [text_list, Joins.data_append] at e
  have hlen : s.data.toList.length = s.size := by simp
  have h1 : (s.data.toList ++ [10])[y.name.data.toList.length]? = some 32 := by
    show (s.data.toList ++ feed.data.toList)[y.name.data.toList.length]? = some 32
    rw [← e]; simp
  by_cases hl : y.name.data.toList.length < s.size
  · rw [List.getElem?_append_left (by omega)] at h1
    exact hno _ hl (byteAt_mem h1)
  · rw [List.getElem?_append_right (by omega)] at h1
    have : y.name.data.toList.length - s.data.toList.length = 0 := by
      have h2 : y.name.data.toList.length - s.data.toList.length < 1 := (List.getElem?_eq_some_iff.1 h1).1
      omega
    rw [this] at h1
    simp at h1
/-- Whatever good line the text is of bears this name and this word. -/
def Parsed (t nm : ByteArray) (W : List UInt8) : Prop := ∀ y, Good y → y.text = t → y.name = nm ∧ y.wordL = W
theorem parsed_miss {t nm : ByteArray} {W : List UInt8} (h : Parsed t nm W) (hW : W = missW) : ∀ y, Good y → y.text = t → y = ⟨nm, 0, false⟩ := by
  intro y hy ht
  obtain ⟨h1, h2⟩ := h y hy ht
  obtain ⟨yn, yr, yo⟩ := y
  cases yo with
  | true =>
    rw [wordL_ok hy rfl, hW] at h2
    exact absurd h2.symm (miss_no _)
  | false =>
    have h3 : yr = 0 := hy.2.2 rfl
    simp only at h1
    rw [h1, h3]
theorem parsed_digits {t nm : ByteArray} {W : List UInt8} (h : Parsed t nm W) (hW : W ≠ missW) : ∀ y, Good y → y.text = t → y = ⟨nm, (digVal 0 W : Nat), true⟩ ∧ Digs W ∧ W.length ≤ 13 ∧ W ≠ [] := by
  intro y hy ht
  obtain ⟨h1, h2⟩ := h y hy ht
  obtain ⟨yn, yr, yo⟩ := y
  cases yo with
  | true =>
    rw [wordL_ok hy rfl] at h2
    have h3 := (hy.2.1 rfl).1
    have h4 := (hy.2.1 rfl).2
    simp only at h1 h2 h3 h4
    obtain ⟨d1, d2, d3⟩ := dec_digs yr.toNat
    rw [h2] at d1 d2 d3
    refine ⟨?_, d1, ?_, d3⟩
    · rw [h1, d2, Int.toNat_of_nonneg h3]
    · rw [← h2]
      have h5 : yr.toNat < 1099511627776 := by omega
      exact dec_short 12 _ (Nat.lt_of_lt_of_le h5 (by decide))
  | false =>
    rw [wordL_miss rfl] at h2
    exact absurd h2.symm hW
/-- A power of ten. -/
def tens : Nat → Nat
  | 0 => 1
  | n + 1 => 10 * tens n
theorem tens_le (n m : Nat) : tens n ≤ tens (n + m) := by
  induction m with
  | zero => exact Nat.le_refl _
  | succ m ih =>
    have : tens (n + (m + 1)) = 10 * tens (n + m) := rfl
    omega
theorem digVal_lt (l : List UInt8) (h : Digs l) (a : Nat) : digVal a l < (a + 1) * tens l.length := by
  induction l generalizing a with
  | nil => show a < (a + 1) * 1; omega
  | cons c l ih =>
    have hc := (h c (by simp)).2
    have h2 : digVal (a * 10 + (c.toNat - 48)) l < (a * 10 + (c.toNat - 48) + 1) * tens l.length := ih (fun x hx => h x (by simp [hx])) _
    show digVal (a * 10 + (c.toNat - 48)) l < (a + 1) * (10 * tens l.length)
    rw [← Nat.mul_assoc]
    exact Nat.lt_of_lt_of_le h2 (Nat.mul_le_mul_right _ (by omega))
end Go.Proofs.YtphdcoegkfmaeaaGreatDoor
