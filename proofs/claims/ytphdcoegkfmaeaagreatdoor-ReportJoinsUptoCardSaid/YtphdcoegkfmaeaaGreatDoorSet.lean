/- Sets of small numbers as one number's bits: sixteen words. -/
import Derived.WalkKit
import Derived.Laws.BitsAllLaws
import Derived.Laws.Bits64b
import Derived.Lib.TrailingZeros
import Derived.Test.YtphdcoegkfmaeaaGreatDoorMem
set_option linter.unusedVariables false
set_option linter.unusedSimpArgs false
namespace Go.Proofs.YtphdcoegkfmaeaaGreatDoor
open Go.RowKit

def wd (m i : Nat) : Int := ((m / 2 ^ (64 * i) % 2 ^ 64 : Nat) : Int)
def setCells (m : Nat) : Array Value := #[.int .u64 (wd m 0), .int .u64 (wd m 1), .int .u64 (wd m 2), .int .u64 (wd m 3), .int .u64 (wd m 4), .int .u64 (wd m 5), .int .u64 (wd m 6), .int .u64 (wd m 7), .int .u64 (wd m 8), .int .u64 (wd m 9), .int .u64 (wd m 10), .int .u64 (wd m 11), .int .u64 (wd m 12), .int .u64 (wd m 13), .int .u64 (wd m 14), .int .u64 (wd m 15)]
theorem setCells_size (m : Nat) : (setCells m).size = 16 := rfl
theorem setCells_one (m : Nat) : (setCells m).all (·.oneCell') = true := by simp [setCells, Value.oneCell']
theorem setCells_at (m i : Nat) (h : i < 16) : (setCells m)[i]? = some (.int .u64 (wd m i)) := by
  obtain rfl | rfl | rfl | rfl | rfl | rfl | rfl | rfl | rfl | rfl | rfl | rfl | rfl | rfl | rfl | rfl : i = 0 ∨ i = 1 ∨ i = 2 ∨ i = 3 ∨ i = 4 ∨ i = 5 ∨ i = 6 ∨ i = 7 ∨ i = 8 ∨ i = 9 ∨ i = 10 ∨ i = 11 ∨ i = 12 ∨ i = 13 ∨ i = 14 ∨ i = 15 := by omega
  all_goals rfl
theorem wd_nonneg (m i : Nat) : 0 ≤ wd m i := by unfold wd; omega
theorem wd_lt (m i : Nat) : wd m i < 18446744073709551616 := by
  unfold wd
  have : m / 2 ^ (64 * i) % 2 ^ 64 < 2 ^ 64 := Nat.mod_lt _ (by decide)
  omega
/-- A row is a set's, if each of its words is. -/
theorem setCells_ext {cs : Array Value} {m : Nat} (hs : cs.size = 16) (h : ∀ i, i < 16 → cs[i]? = some (.int .u64 (wd m i))) : cs = setCells m := by
  apply Array.ext
  · rw [hs]; rfl
  · intro i h1 h2
    have a := h i (by omega)
    have b := setCells_at m i (by omega)
    rw [Array.getElem?_eq_getElem h1] at a
    rw [Array.getElem?_eq_getElem h2] at b
    rw [← b] at a
    injection a

theorem wd_bit (m i j : Nat) : (m / 2 ^ (64 * i) % 2 ^ 64).testBit j = (decide (j < 64) && m.testBit (64 * i + j)) := by
  rw [Nat.testBit_mod_two_pow, Nat.testBit_div_two_pow, Nat.add_comm]

theorem wd_or (m n i : Nat) : (m ||| 2 ^ n) / 2 ^ (64 * i) % 2 ^ 64 = if i = n / 64 then (m / 2 ^ (64 * i) % 2 ^ 64) ||| 2 ^ (n % 64) else m / 2 ^ (64 * i) % 2 ^ 64 := by
  apply Nat.eq_of_testBit_eq
  intro j
  split
  · rename_i h
    rw [wd_bit, Nat.testBit_or, Nat.testBit_or, wd_bit, Nat.testBit_two_pow, Nat.testBit_two_pow]
    by_cases hj : j < 64
    · simp only [hj, decide_true, Bool.true_and]
      congr 1
      simp only [decide_eq_decide]
      omega
    · have : ¬ n % 64 = j := by omega
      simp [hj, this]
  · rename_i h
    rw [wd_bit, wd_bit, Nat.testBit_or, Nat.testBit_two_pow]
    by_cases hj : j < 64
    · have : ¬ n = 64 * i + j := by omega
      simp [hj, this]
    · simp [hj]

/-- s[n>>6] |= 1 << (n & 63) -/
theorem set_with (m n : Nat) (h : n < 1024) : (setCells m).setIfInBounds (n / 64) (.int .u64 (bits .or .u64 (wd m (n / 64)) (IntKind.u64.wrap (2 ^ (n % 64))))) = setCells (m ||| 2 ^ n) := by
  have hp : 2 ^ (n % 64) < 2 ^ 64 := Nat.pow_lt_pow_right (by omega) (Nat.mod_lt _ (by decide))
  have e1 : IntKind.u64.wrap (2 ^ (n % 64)) = ((2 ^ (n % 64) : Nat) : Int) := by
    rw [IntKind.wrap_u64]
    have : (2 : Int) ^ (n % 64) = ((2 ^ (n % 64) : Nat) : Int) := by simp
    rw [this]
    generalize 2 ^ (n % 64) = z at *
    omega
  have e2 : bits .or .u64 (wd m (n / 64)) (IntKind.u64.wrap (2 ^ (n % 64))) = wd (m ||| 2 ^ n) (n / 64) := by
    have hw : m / 2 ^ (64 * (n / 64)) % 2 ^ 64 < 2 ^ 64 := Nat.mod_lt _ (by decide)
    rw [e1]
    unfold wd
    rw [bits_or_u64_nat _ _ (by omega) (by omega), wd_or, if_pos rfl]
  rw [e2]
  refine setCells_ext (by simp [setCells_size]) fun i hi => ?_
  rw [Array.getElem?_setIfInBounds]
  by_cases e : n / 64 = i
  · subst e
    rw [if_pos rfl, if_pos (by rw [setCells_size]; omega)]
  · rw [if_neg e, setCells_at m i hi]
    unfold wd
    rw [wd_or, if_neg (fun h => e h.symm)]

theorem and63 (n : Nat) (h : n < 9223372036854775808) : bits .and .i64 (n : Int) 63 = ((n % 64 : Nat) : Int) := by
  have h1 : (n : Int) = ((n : Nat) : Int) := rfl
  show IntKind.i64.wrap ((BitVec.ofInt 64 (n : Int) &&& BitVec.ofInt 64 63).toNat : Int) = _
  have e1 : (BitVec.ofInt 64 (n : Int)).toNat = n := by
    rw [BitVec.ofInt_natCast, BitVec.toNat_ofNat]; exact Nat.mod_eq_of_lt (by omega)
  have e2 : (BitVec.ofInt 64 63).toNat = 63 := by decide
  have e3 : n &&& 63 = n % 64 := Nat.and_two_pow_sub_one_eq_mod n 6
  rw [BitVec.toNat_and, e1, e2, e3, IntKind.wrap_i64]
  omega

/-- The least number from f on. -/
def nxt (m f : Nat) : Option Nat := (List.range 1024).find? (fun k => decide (f ≤ k) && m.testBit k)
theorem nxt_some {m f k : Nat} (h1 : f ≤ k) (h2 : k < 1024) (h3 : m.testBit k = true) (h4 : ∀ j, f ≤ j → j < k → m.testBit j = false) : nxt m f = some k := by
  unfold nxt
  rw [List.find?_range_eq_some]
  refine ⟨by simp [h1, h3], by simpa using h2, fun j hj => ?_⟩
  by_cases hf : f ≤ j
  · simp [h4 j hf hj]
  · simp [hf]
theorem nxt_none {m f : Nat} (h : ∀ j, f ≤ j → j < 1024 → m.testBit j = false) : nxt m f = none := by
  unfold nxt
  rw [List.find?_eq_none]
  intro k hk
  have hk' : k < 1024 := by simpa using hk
  by_cases hf : f ≤ k
  · simp [h k hf hk']
  · simp [hf]
theorem nxt_is {m f k : Nat} (h : nxt m f = some k) : f ≤ k ∧ k < 1024 ∧ m.testBit k = true ∧ ∀ j, f ≤ j → j < k → m.testBit j = false := by
  unfold nxt at h
  rw [List.find?_range_eq_some] at h
  obtain ⟨h1, h2, h3⟩ := h
  simp only [Bool.and_eq_true, decide_eq_true_eq] at h1
  refine ⟨h1.1, by simpa using h2, h1.2, fun j hj hk => ?_⟩
  have := h3 j hk
  simp only [Bool.not_eq_true, Bool.and_eq_false_iff, decide_eq_false_iff_not, Bool.not_eq_eq_eq_not, Bool.not_true] at this
  rcases this with h | h
  · exact absurd hj h
  · exact h

theorem ctz_bit {x : Nat} (h0 : x ≠ 0) (h : x < 2 ^ 64) : x.testBit (Lib.ctz 64 x) = true ∧ ∀ j, j < Lib.ctz 64 x → x.testBit j = false := by
  obtain ⟨m, hm, hk⟩ := Lib.ctzFrom_spec 64 x (by omega) h
  have e : Lib.ctz 64 x = Lib.ctzFrom 64 x := by unfold Lib.ctz; rw [if_neg h0]
  rw [e]
  generalize Lib.ctzFrom 64 x = k at *
  subst hm
  constructor
  · rw [Nat.mul_comm, Nat.testBit_mul_two_pow]; simp
  · intro j hj
    rw [Nat.mul_comm, Nat.testBit_mul_two_pow]; simp; omega

/-- A word, from one bit on. -/
theorem cut_word (m f : Nat) : ∃ W : Nat, IntKind.u64.wrap (wd m (f / 64) / 2 ^ (f % 64) * 2 ^ (f % 64)) = (W : Int) ∧ W < 2 ^ 64 ∧ ∀ j, j < 64 → W.testBit j = (m.testBit (64 * (f / 64) + j) && decide (f ≤ 64 * (f / 64) + j)) := by
  refine ⟨m / 2 ^ (64 * (f / 64)) % 2 ^ 64 / 2 ^ (f % 64) * 2 ^ (f % 64), ?_, ?_, ?_⟩
  · unfold wd
    have e : (((m / 2 ^ (64 * (f / 64)) % 2 ^ 64 : Nat) : Int)) / 2 ^ (f % 64) * 2 ^ (f % 64) = ((m / 2 ^ (64 * (f / 64)) % 2 ^ 64 / 2 ^ (f % 64) * 2 ^ (f % 64) : Nat) : Int) := by
      rw [Int.natCast_mul, Int.natCast_ediv]; simp
    rw [e, IntKind.wrap_u64]
    have h1 : m / 2 ^ (64 * (f / 64)) % 2 ^ 64 < 2 ^ 64 := Nat.mod_lt _ (by decide)
    have h2 := Nat.div_mul_le_self (m / 2 ^ (64 * (f / 64)) % 2 ^ 64) (2 ^ (f % 64))
    generalize m / 2 ^ (64 * (f / 64)) % 2 ^ 64 / 2 ^ (f % 64) * 2 ^ (f % 64) = z at *
    omega
  · have h1 : m / 2 ^ (64 * (f / 64)) % 2 ^ 64 < 2 ^ 64 := Nat.mod_lt _ (by decide)
    have h2 := Nat.div_mul_le_self (m / 2 ^ (64 * (f / 64)) % 2 ^ 64) (2 ^ (f % 64))
    omega
  · intro j hj
    rw [Nat.testBit_mul_two_pow, Nat.testBit_div_two_pow]
    by_cases h : f % 64 ≤ j
    · rw [show j - f % 64 + f % 64 = j by omega, wd_bit]
      have : f ≤ 64 * (f / 64) + j := by omega
      simp [h, hj, this]
    · have : ¬ f ≤ 64 * (f / 64) + j := by omega
      simp [h, this]
end Go.Proofs.YtphdcoegkfmaeaaGreatDoor
