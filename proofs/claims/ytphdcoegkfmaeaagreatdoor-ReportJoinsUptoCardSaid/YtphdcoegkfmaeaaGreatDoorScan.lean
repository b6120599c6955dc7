/- Package scan: which bytes words and numbers have; how many of a text are such ones. -/
import Derived.Test.YtphdcoegkfmaeaaGreatDoorMem
import Derived.Laws.BitsAllLaws
import Derived.Lib.Hide
import Derived.Test.YtphdcoegkfmaeaaGreatDoorProg
set_option linter.unusedVariables false
set_option linter.unusedSimpArgs false
namespace Go.Proofs.YtphdcoegkfmaeaaGreatDoor
open Go.RowKit

def isLetter (c : Nat) : Bool := decide (97 ≤ c) && decide (c ≤ 122) || decide (65 ≤ c) && decide (c ≤ 90) || decide (c = 95)
def isDigit (c : Nat) : Bool := decide (48 ≤ c) && decide (c ≤ 57)
def isGoes (c : Nat) : Bool := isLetter c || isDigit c || decide (c = 46) || decide (c = 45)
theorem letter_val : ∀ c : Fin 256, (decide (97 ≤ bits .or .u8 (c.1 : Int) 32) && decide (bits .or .u8 (c.1 : Int) 32 ≤ 122) || decide (c.1 = 95)) = isLetter c.1 := by decide +kernel

theorem digit_any (c : Nat) (h : c < 256) (w : World) : Calls Tryz.prog 117 #[.int .u8 c] w fun e w' => e = .returned (.bool (isDigit c)) ∧ w = w' := by
  have hv : isDigit c = (decide ((48 : Int) ≤ c) && decide ((c : Int) ≤ 57)) := by unfold isDigit; rw [Bool.eq_iff_iff]; simp; omega
  have Hv := Lib.hid hv
  clear hv
  go_enter Tryz.func117, Tryz.ntmps117
  go_wp2
  all_goals (go_ret; rw [Hv.out]; simp [*])
  omega
theorem letter_any (c : Nat) (h : c < 256) (w : World) : Calls Tryz.prog 84 #[.int .u8 c] w fun e w' => e = .returned (.bool (isLetter c)) ∧ w = w' := by
  have hv := letter_val ⟨c, h⟩
  have h95 : decide (c = 95) = ((c : Int) == 95) := by rw [Bool.eq_iff_iff]; simp; omega
  simp only [h95] at hv
  have Hv := Lib.hid hv
  clear hv h95
  go_enter Tryz.func84, Tryz.ntmps84
  go_wp2
  all_goals (go_ret; rw [← Hv.out]; refine ⟨?_, rfl⟩)
  all_goals (generalize bits BinOp.or IntKind.u8 (c : Int) 32 = x at *)
  all_goals (show Ending.returned (Value.bool _) = Ending.returned (Value.bool _))
  all_goals (congr 2; rw [Bool.eq_iff_iff]; simp)
  all_goals omega

theorem goes_any (c : Nat) (h : c < 256) (w : World) : Calls Tryz.prog 86 #[.int .u8 c] w fun e w' => e = .returned (.bool (isGoes c)) ∧ w = w' := by
  by_cases h46 : c = 46
  · subst h46
    go_enter Tryz.func86, Tryz.ntmps86
    go_wp2
    go_ret
    exact ⟨rfl, rfl⟩
  · by_cases h45 : c = 45
    · subst h45
      go_enter Tryz.func86, Tryz.ntmps86
      go_wp2
      go_ret
      exact ⟨rfl, rfl⟩
    · have e46 : ((c : Int) == 46) = false := by simp; omega
      have e45 : ((c : Int) == 45) = false := by simp; omega
      have hv : isGoes c = (isLetter c || isDigit c) := by unfold isGoes; simp [h46, h45]
      have Hv := Lib.hid hv
      clear hv
      cases hl : isLetter c with
      | true =>
        have Hl := Lib.hid hl
        clear hl
        go_enter Tryz.func86, Tryz.ntmps86
        go_wp2_with (go_at_call 84; refine (letter_any c h _).mono ?_; rintro e w' ⟨rfl, rfl⟩; rw [Hl.out])
        go_ret
        exact ⟨by rw [Hv.out, Hl.out]; rfl, rfl⟩
      | false =>
        have Hl := Lib.hid hl
        clear hl
        go_enter Tryz.func86, Tryz.ntmps86
        go_wp2_with (first | (go_at_call 84; refine (letter_any c h _).mono ?_; rintro e w' ⟨rfl, rfl⟩; rw [Hl.out]) | (go_at_call 117; refine (digit_any c h _).mono ?_; rintro e w' ⟨rfl, rfl⟩))
        go_ret
        exact ⟨by rw [Hv.out, Hl.out]; rfl, rfl⟩
end Go.Proofs.YtphdcoegkfmaeaaGreatDoor
