/- num.Sum: the sum of all, where it fits. -/
import Derived.Test.YtphdcoegkfmaeaaGreatDoorNum
import Derived.Test.YtphdcoegkfmaeaaGreatDoorMem
set_option linter.unusedVariables false
set_option linter.unusedSimpArgs false
namespace Go.Proofs.YtphdcoegkfmaeaaGreatDoor
open Go.RowKit

def sumL : List Int → Int := List.foldl (· + ·) 0
def u64s (xs : List Int) : List Value := xs.map (Value.int .u64)

theorem sum_step (xs : List Int) (a : Int) (k : Nat) (h : k < xs.length) : (xs.take (k + 1)).foldl (· + ·) a = (xs.take k).foldl (· + ·) a + xs[k] := by
  rw [List.take_succ_eq_append_getElem h, List.foldl_append]; rfl
theorem sum_ge : ∀ (xs : List Int) (a : Int), (∀ x ∈ xs, 0 ≤ x) → a ≤ xs.foldl (· + ·) a
  | [], a, _ => Int.le_refl a
  | x :: xs, a, h => by
    have h1 := h x (by simp)
    have := sum_ge xs (a + x) (fun y hy => h y (by simp [hy]))
    simp only [List.foldl_cons]; omega
theorem sum_take (xs : List Int) (a : Int) (k : Nat) (h : ∀ x ∈ xs, 0 ≤ x) : a ≤ (xs.take k).foldl (· + ·) a ∧ (xs.take k).foldl (· + ·) a ≤ xs.foldl (· + ·) a := by
  refine ⟨sum_ge _ _ (fun x hx => h x (List.mem_of_mem_take hx)), ?_⟩
  have := sum_ge (xs.drop k) ((xs.take k).foldl (· + ·) a) (fun x hx => h x (List.mem_of_mem_drop hx))
  rwa [← List.foldl_append, List.take_append_drop] at this

set_option maxHeartbeats 400000 in
theorem Sum_any (a : Int) (A : Option Addr) (c : Nat) (xs : List Int) (ha : 0 ≤ a) (hx : ∀ x ∈ xs, 0 ≤ x) (hs : xs.foldl (· + ·) a < 18446744073709551616) (hl : xs.length < 9223372036854775808) (w : World) (hA : Row w A (u64s xs)) :
    Calls Tryz.prog 106 #[.int .u64 a, .slice A xs.length c] w fun e w' => e = .returned (.int .u64 (xs.foldl (· + ·) a)) ∧ w = w' := by
  go_enter Tryz.func106, Tryz.ntmps106
  go_wp2
  go_loop [0, 11] (fun f i => ∃ k : Nat, k ≤ xs.length ∧ i = .int .i64 k ∧ f = .int .u64 ((xs.take k).foldl (· + ·) a)) (fun _ i => xs.length - (intOf i).toNat)
  case atStart => exact ⟨0, Nat.zero_le _, rfl, rfl⟩
  case round =>
    obtain ⟨k, hk, rfl, rfl⟩ := hrel
    by_cases hlt : k < xs.length
    · obtain ⟨b, off, rfl, hb, hc⟩ := hA (by simp [u64s]; omega)
      have hck := hc k (.int .u64 xs[k]) (by simp [u64s, List.getElem?_eq_getElem hlt])
      have h1 := sum_take xs a k hx
      have h2 := sum_take xs a (k + 1) hx
      rw [sum_step xs a k hlt] at h2
      have h3 := hx xs[k] (List.getElem_mem hlt)
      go_wp2_with (go_at_call 126; refine (Add_any _ _ (by omega) h3 (by omega) _).mono ?_; rintro e w' ⟨rfl, rfl⟩)
      go_round
      case rel => exact ⟨k + 1, by omega, by go_num, by rw [sum_step xs a k hlt]⟩
      case measure => simp [intOf]; omega
    · go_wp2
      go_ret
      have : xs.take k = xs := List.take_of_length_le (by omega)
      exact ⟨by rw [this]; rfl, rfl⟩
end Go.Proofs.YtphdcoegkfmaeaaGreatDoor
