/- The document's own decimal digits. -/
import Derived.Test.YtphdcoegkfmaeaaGreatDoorWord
import Derived.Lib.ItoaNum
import Derived.Lib.ItoaMem
import Derived.Lib.ItoaLen
import Derived.Lib.SmallJoins
set_option linter.unusedVariables false
set_option linter.unusedSimpArgs false
namespace Go.Proofs.YtphdcoegkfmaeaaGreatDoor
open Go.RowKit Go.Shelf

/-- One, if a text is empty. -/
def none1 : Value → Nat
  | .string s => if s.size = 0 then 1 else 0
  | _ => 0
theorem none1_cons (c : UInt8) (l : List UInt8) : none1 (.string ⟨(c :: l).toArray⟩) = 0 := by
  have h : ¬ (⟨(c :: l).toArray⟩ : ByteArray).size = 0 := by
    show ¬ (c :: l).toArray.size = 0
    simp
  show (if (⟨(c :: l).toArray⟩ : ByteArray).size = 0 then 1 else 0) = 0
  rw [if_neg h]
theorem none1_nil : none1 (.string ⟨([] : List UInt8).toArray⟩) = 1 := by decide
def DigRel (n k : Int) (l : List UInt8) : Prop := (l = [] ∧ k = n) ∨ (l ≠ [] ∧ Lib.decDigits n.natAbs = if k = 0 then l else Lib.decDigits k.natAbs ++ l)

theorem DigRel.len {n k : Int} {l : List UInt8} (h1 : -9223372036854775808 ≤ n) (h2 : n ≤ 9223372036854775807) (h : DigRel n k l) : l.length ≤ 21 := by
  have hn : (Lib.decDigits n.natAbs).length ≤ 21 := by
    have := Lib.itoa_length_le n h1 h2
    unfold Lib.itoa at this
    split at this
    · simp at this; omega
    · rw [show n.natAbs = n.toNat by omega]; exact this
  rcases h with ⟨rfl, _⟩ | ⟨_, h⟩
  · simp
  · rw [h] at hn
    split at hn
    · exact hn
    · simp at hn; omega
theorem digits_more (m : Nat) (h : m ≠ 0) : Lib.decDigits m = if m / 10 = 0 then [UInt8.ofNat (48 + m % 10)] else Lib.decDigits (m / 10) ++ [UInt8.ofNat (48 + m % 10)] := by
  split
  · rw [Lib.decDigits, dif_pos (by omega), Nat.mod_eq_of_lt (by omega)]
  · rw [Lib.decDigits, dif_neg (by omega)]
/-- One digit more. -/
theorem DigRel.more {n k q : Int} {l : List UInt8} {d : Nat} (h : DigRel n k l) (hne : ¬ (k = 0 ∧ l ≠ [])) (hq : q.natAbs = k.natAbs / 10) (hd : d = k.natAbs % 10) : DigRel n q (UInt8.ofNat (48 + d) :: l) := by
  right
  refine ⟨by simp, ?_⟩
  by_cases hk : k = 0
  · subst hk
    have hq0 : q = 0 := by simp at hq; omega
    rcases h with ⟨rfl, rfl⟩ | ⟨h, _⟩
    · subst hq0; simp at hd; subst hd; simp
      rw [Lib.decDigits]; simp
    · exact absurd ⟨rfl, h⟩ hne
  · have hkk : Lib.decDigits n.natAbs = Lib.decDigits k.natAbs ++ l := by
      rcases h with ⟨rfl, rfl⟩ | ⟨_, h⟩
      · simp
      · rw [h, if_neg hk]
    rw [hkk, digits_more _ (by omega), ← hd, ← hq]
    by_cases hq0 : q = 0
    · subst hq0; simp
    · rw [if_neg (by omega), if_neg hq0]; simp
theorem DigRel.done {n : Int} {l : List UInt8} (h : DigRel n 0 l) (hl : l ≠ []) : Lib.decDigits n.natAbs = l := by
  rcases h with ⟨h, _⟩ | ⟨_, h⟩
  · exact absurd h hl
  · simpa using h
theorem DigRel.itoa_neg {n : Int} {l : List UInt8} (h : DigRel n 0 l) (hl : l ≠ []) (hn : n < 0) : Lib.itoa n = 45 :: l := by
  unfold Lib.itoa; rw [if_pos hn, h.done hl]
theorem DigRel.itoa_pos {n : Int} {l : List UInt8} (h : DigRel n 0 l) (hl : l ≠ []) (hn : 0 ≤ n) : Lib.itoa n = l := by
  unfold Lib.itoa; rw [if_neg (by omega), show n.toNat = n.natAbs by omega, h.done hl]
theorem conv_one (w : World) (v : Int) (c : UInt8) (h : v = (c.toNat : Int)) : (convert 59 9 (.slice (some ⟨w.heap.size, 0, none⟩) 1 1)).run Tryz.prog (w.alloc (.cells #[.int .u8 v] 5)) = .ok (.string ⟨#[c]⟩) (w.alloc (.cells #[.int .u8 v] 5)) := by
  subst h
  exact run_convert_bytes_back _ _ _ _ ⟨w.heap.size, 0, none⟩ 1 [c] Tryz.underlying59 Tryz.underlying5 Tryz.underlying9 (fun j hj => by
    have : j = 0 := by simp at hj; omega
    subst this
    rw [show (Addr.add ⟨w.heap.size, 0, none⟩ 0) = ⟨w.heap.size, 0, none⟩ from rfl, World.cell?_alloc_mark]; rfl)
theorem str_cons (c : UInt8) (l : List UInt8) : ((⟨#[c]⟩ : ByteArray) ++ ⟨l.toArray⟩) = ⟨(c :: l).toArray⟩ := by
  apply bytes_ext
  rw [Joins.data_append]; rfl
theorem dg_val (d : Nat) (h : d < 10) : (48 + (d : Int)) = ((UInt8.ofNat (48 + d)).toNat : Int) := by
  simp only [UInt8.toNat_ofNat']; rw [Nat.mod_eq_of_lt (by omega)]; omega

set_option maxRecDepth 100000 in
set_option maxHeartbeats 400000 in
theorem Digits_any (n : Int) (h1 : -9223372036854775808 ≤ n) (h2 : n ≤ 9223372036854775807) (w : World) :
    Calls Tryz.prog 32 #[.int .i64 n] w fun e w' => e = .returned (.string ⟨(Lib.itoa n).toArray⟩) ∧ Kept w w' := by
  go_enter Tryz.func32, Tryz.ntmps32
  go_wp2
  go_loopw [3, 4] (fun sv kv wr => ∃ (k : Int) (l : List UInt8), sv = .string ⟨l.toArray⟩ ∧ kv = .int .i64 k ∧ Kept w wr ∧ -9223372036854775808 ≤ k ∧ k ≤ 9223372036854775807 ∧ DigRel n k l) (fun sv kv _ => (intOf kv).natAbs + none1 sv)
  case atStart => exact ⟨n, [], rfl, rfl, Kept.refl w, h1, h2, .inl ⟨rfl, rfl⟩⟩
  case round =>
    obtain ⟨k, l, rfl, rfl, hK, hk1, hk2, hrel⟩ := hrel
    have hlen : l.length ≤ 21 := hrel.len h1 h2
    have Hrel := Lib.hid hrel
    clear hrel
    have hl0 : ((⟨l.toArray⟩ : ByteArray).toList == []) = l.isEmpty := by rw [bytes_toList]; cases l <;> rfl
    by_cases hend : k = 0 ∧ l ≠ []
    · obtain ⟨rfl, hl⟩ := hend
      by_cases hn : n < 0
      · have hl' : l.isEmpty = false := by simpa using hl
        go_wp2
        go_ret
        refine ⟨?_, hK⟩
        rw [Hrel.out.itoa_neg hl hn, ← str_cons]; rfl
      · have hl' : l.isEmpty = false := by simpa using hl
        go_wp2
        go_ret
        refine ⟨?_, hK⟩
        rw [Hrel.out.itoa_pos hl (by omega)]; rfl
    · obtain ⟨d, hd⟩ : ∃ d, d = k.natAbs % 10 := ⟨_, rfl⟩
      obtain ⟨q, hq⟩ : ∃ q, k.tdiv 10 = q := ⟨_, rfl⟩
      have hqa : q.natAbs = k.natAbs / 10 := by rw [← hq, Int.natAbs_tdiv]; rfl
      have hda : (k.tmod 10).natAbs = d := by rw [hd, Int.natAbs_tmod]; rfl
      have hd10 : d < 10 := by omega
      have hq1 : -9223372036854775808 ≤ q := by omega
      have hq2 : q ≤ 9223372036854775807 := by omega
      obtain ⟨c, hc⟩ : ∃ c, c = UInt8.ofNat (48 + d) := ⟨_, rfl⟩
      have hv := dg_val d hd10
      have hmore := Hrel.out.more hend hqa hd
      rw [← hc] at hv hmore
      have Hmore := Lib.hid hmore
      have Hqa := Lib.hid hqa
      have Hv := Lib.hid hv
      have Hend := Lib.hid hend
      have Hd := Lib.hid hd
      have Hda := Lib.hid hda
      clear hmore hqa hv hend hc hd hda
      by_cases hk : k = 0
      · have hl : l = [] := by
          by_cases hl : l = []
          · exact hl
          · exact absurd ⟨hk, hl⟩ Hend.out
        have hl1 : l.isEmpty = true := by rw [hl]; rfl
        have Hl := Lib.hid hl
        subst hk
        have hd0 : d = 0 := by simpa using Hd.out
        have hq0 : q = 0 := by simpa using Hqa.out
        subst hd0 hq0
        clear hl hq
        go_wp2
        rw [conv_one wr 48 c Hv.out]
        rw [Result.andThen_ok]
        rw [Oper.upon_value]
        go_wp2
        go_roundw
        case rel => exact ⟨0, c :: l, by rw [str_cons], rfl, hK.alloc _, by omega, by omega, Hmore.out⟩
        case measure =>
          rw [str_cons, Hl.out, none1_cons, none1_nil]
          simp only [intOf]
          decide
      · have hk' : (k != 0) = true := by simpa using hk
        by_cases hneg : k.tmod 10 < 0
        · have hm : k.tmod 10 = -(d : Int) := by have := Hda.out; omega
          have hdp : 0 < (d : Int) := by omega
          clear hneg
          go_wp2
          rw [conv_one wr _ _ Hv.out]
          rw [Result.andThen_ok]
          rw [Oper.upon_value]
          go_wp2
          go_roundw
          case rel => exact ⟨q, c :: l, by rw [str_cons], rfl, hK.alloc _, by omega, by omega, Hmore.out⟩
          case measure =>
            rw [str_cons, none1_cons]
            have := Hqa.out
            simp only [intOf]
            omega
        · have hm : k.tmod 10 = (d : Int) := by have := Hda.out; omega
          have hdp : 0 ≤ (d : Int) := by omega
          clear hneg
          go_wp2
          rw [conv_one wr _ _ Hv.out]
          rw [Result.andThen_ok]
          rw [Oper.upon_value]
          go_wp2
          go_roundw
          case rel => exact ⟨q, c :: l, by rw [str_cons], rfl, hK.alloc _, by omega, by omega, Hmore.out⟩
          case measure =>
            rw [str_cons, none1_cons]
            have := Hqa.out
            simp only [intOf]
            omega
end Go.Proofs.YtphdcoegkfmaeaaGreatDoor
