/- (marks.Set).Next, First, Has: which numbers are in a set. -/
import Derived.Test.YtphdcoegkfmaeaaGreatDoorMarks
import Derived.Lib.TrailingZeros
import Derived.Deep.QuietTactic
import Derived.BigQuiet
import Derived.Lib.Hide
set_option linter.unusedVariables false
set_option linter.unusedSimpArgs false
namespace Go.Proofs.YtphdcoegkfmaeaaGreatDoor
open Go.RowKit

/-- The table by which trailing zeros are told. -/
def Tab64 (w : World) : Prop := ∀ j, j < 64 → w.cell? ⟨5, j, none⟩ = some (.int .u8 (Lib.deBruijn64tab.getD j 0))
theorem Tab64.kept {w w' : World} (h : Tab64 w) (hk : Kept w w') : Tab64 w' := fun j hj => hk.cell (h j hj)

theorem tz64_key (x a : Nat) (hx : x < 18446744073709551616) (hx0 : x ≠ 0) (hlow : x &&& (18446744073709551616 - x) = a) :
    IntKind.u64.wrap (bits BinOp.and IntKind.u64 (x : Int) (IntKind.u64.wrap (-(x : Int))) * 285870213051353865) / 288230376151711744 = ((a * 285870213051353865 % 18446744073709551616 / 288230376151711744 : Nat) : Int) := by
  have e1 : IntKind.u64.wrap (-(x : Int)) = ((18446744073709551616 - x : Nat) : Int) := by rw [IntKind.wrap_u64]; omega
  rw [e1, bits_and_u64_nat x _ hx (by omega), hlow, IntKind.wrap_u64]
  omega
set_option maxHeartbeats 1000000 in
theorem tz64_core (x k idx : Nat) (w : World) (hx0 : ((x : Int) == 0) = false)
    (key : IntKind.u64.wrap (bits BinOp.and IntKind.u64 (x : Int) (IntKind.u64.wrap (-(x : Int))) * 285870213051353865) / 288230376151711744 = (idx : Int))
    (hi : idx < 64) (hk : k < 64) (hcell : w.cell? ⟨5, idx, none⟩ = some (.int .u8 k)) :
    Calls Tryz.prog 125 #[.int .u64 x] w fun e w' => e = .returned (.int .i64 k) ∧ w = w' := by
  go_enter Tryz.func125, Tryz.ntmps125
  go_wp2_with (simp only [key])
  go_ret
  exact ⟨rfl, rfl⟩
theorem tz64_any (x : Nat) (hx : x < 18446744073709551616) (hx0 : x ≠ 0) (w : World) (hT : Tab64 w) :
    Calls Tryz.prog 125 #[.int .u64 x] w fun e w' => e = .returned (.int .i64 (Lib.ctz 64 x)) ∧ w = w' := by
  obtain ⟨hlow, hk⟩ := Lib.lowest_bit 64 x hx0 hx
  obtain ⟨hi, htab⟩ := Lib.deBruijn64_at _ hk
  have hcell := hT _ hi
  rw [htab] at hcell
  exact tz64_core x _ _ w (by simp; omega) (tz64_key x _ hx hx0 hlow) hi hk hcell

set_option maxRecDepth 100000 in
theorem Next_end (m : Nat) (n : Int) (h : 1023 ≤ n) (h' : n < 1000000) (w : World) : Calls Tryz.prog 146 #[.agg (setCells m), .int .i64 n] w fun e w' => e = .returned (.tuple #[.int .i64 0, .bool false]) ∧ Kept w w' := by
  have hin : decide ((0:Int) ≤ n + 1 ∧ n + 1 < 1024) = false := by simp; omega
  go_enter Tryz.func146, Tryz.ntmps146
  go_wp2_with (go_at_call 154; refine (in_any _ _).mono ?_; rintro e w' ⟨rfl, rfl⟩; rw [hin])
  go_ret2
  exact ⟨rfl, (Kept.refl w).alloc _⟩

def nxtV (r : Option Nat) : Value := .tuple #[.int .i64 (r.getD 0 : Nat), .bool r.isSome]

set_option maxRecDepth 100000 in
set_option maxHeartbeats 400000 in
theorem Next_any (m f : Nat) (n : Int) (hf : n + 1 = f) (hf' : f < 1024) (w : World) (hT : Tab64 w) : Calls Tryz.prog 146 #[.agg (setCells m), .int .i64 n] w fun e w' => e = .returned (nxtV (nxt m f)) ∧ Kept w w' := by
  have hand : bits .and .i64 (n + 1) 63 = ((f % 64 : Nat) : Int) := by rw [hf]; exact and63 f (by omega)
  have h1 : (-1:Int) ≤ n := by omega
  have h2 : n < 1023 := by omega
  have h3 : (0:Int) ≤ (n + 1) / 64 := by omega
  have h4 : (n + 1) / 64 < 16 := by omega
  have h5 : (setCells m)[((n + 1)/64).toNat]? = some (.int .u64 (wd m (f / 64))) := by rw [hf, show ((f:Int)/64).toNat = f / 64 by omega]; exact setCells_at m _ (by omega)
  have hin : decide ((0:Int) ≤ n + 1 ∧ n + 1 < 1024) = true := by simp; omega
  obtain ⟨W0, hW0, hW1, hW2⟩ := cut_word m f
  have hT' : Tab64 (w.alloc (.cells (setCells m) 176)) := hT.kept ((Kept.refl w).alloc _)
  have Hf := Lib.hid hf
  clear hf
  go_enter Tryz.func146, Tryz.ntmps146
  go_wp2_with (go_at_call 154; refine (in_any _ _).mono ?_; rintro e w' ⟨rfl, rfl⟩; rw [hin])
  go_loop [7, 8] (fun v i => ∃ W k : Nat, k < 16 ∧ i = .int .i64 k ∧ v = .int .u64 W ∧ W < 2 ^ 64 ∧ f / 64 ≤ k ∧ (∀ j, j < 64 → W.testBit j = (m.testBit (64 * k + j) && decide (f ≤ 64 * k + j))) ∧ ∀ j, f ≤ j → j < 64 * k → m.testBit j = false) (fun _ i => 16 - (intOf i).toNat)
  case atStart => exact ⟨W0, f / 64, by omega, by rw [Hf.out]; rfl, by rw [hW0], hW1, by omega, hW2, fun j h1 h2 => by omega⟩
  case round =>
    obtain ⟨W, k, hk, rfl, rfl, hW, hfk, hbits, hno⟩ := hrel
    by_cases hz : W = 0
    · subst hz
      have hno' : ∀ j, f ≤ j → j < 64 * (k + 1) → m.testBit j = false := by
        intro j hj1 hj2
        by_cases hj3 : j < 64 * k
        · exact hno j hj1 hj3
        · have := hbits (j - 64 * k) (by omega)
          rw [show 64 * k + (j - 64 * k) = j by omega] at this
          simp [hj1] at this
          exact this
      by_cases hk' : k = 15
      · subst hk'
        have hres : nxt m f = none := nxt_none (fun j h1 h2 => hno' j h1 (by omega))
        have Hres := Lib.hid hres
        clear hres
        go_wp2
        go_ret2
        exact ⟨by rw [Hres.out]; rfl, (Kept.refl w).alloc _⟩
      · have h16 : (((k : Int) + 1) == 16) = false := by simp; omega
        have hcell : (setCells m)[k + 1]? = some (.int .u64 (wd m (k + 1))) := setCells_at m _ (by omega)
        go_wp2
        go_round
        case rel => exact ⟨m / 2 ^ (64 * (k + 1)) % 2 ^ 64, k + 1, by omega, by go_num, rfl, Nat.mod_lt _ (by decide), by omega, fun j hj => by
          rw [wd_bit]
          have : f ≤ 64 * (k + 1) + j := by omega
          simp [hj, this], hno'⟩
        case measure => simp [intOf]; omega
    · have hz' : ((W : Int) == 0) = false := by simp; omega
      have hz2 : ((W : Int) != 0) = true := by simp; omega
      obtain ⟨hb1, hb2⟩ := ctz_bit hz hW
      have hc64 := (Lib.lowest_bit 64 W hz hW).2
      have hres : nxt m f = some (64 * k + Lib.ctz 64 W) := by
        rw [hbits _ hc64] at hb1
        simp only [Bool.and_eq_true, decide_eq_true_eq] at hb1
        refine nxt_some hb1.2 (by omega) hb1.1 fun j hj1 hj2 => ?_
        by_cases hj3 : j < 64 * k
        · exact hno j hj1 hj3
        · have h1 := hb2 (j - 64 * k) (by omega)
          rw [hbits _ (by omega), show 64 * k + (j - 64 * k) = j by omega] at h1
          simpa [hj1] using h1
      have Hres := Lib.hid hres
      clear hres hb1 hb2 hbits hno
      go_wp2_with (go_at_call 125; refine (tz64_any W (by omega) hz _ hT').mono ?_; rintro e w' ⟨rfl, rfl⟩)
      go_ret2
      refine ⟨?_, (Kept.refl w).alloc _⟩
      rw [Hres.out]
      unfold nxtV
      simp
      omega

set_option maxRecDepth 100000 in
theorem First_any (m : Nat) (w : World) (hT : Tab64 w) : Calls Tryz.prog 145 #[.agg (setCells m)] w fun e w' => e = .returned (nxtV (nxt m 0)) ∧ Kept w w' := by
  have hT' : Tab64 (w.alloc (.cells (setCells m) 176)) := hT.kept ((Kept.refl w).alloc _)
  go_enter Tryz.func145, Tryz.ntmps145
  go_wp2_with (first
    | (refine wpList_load_row rfl 176 _ rfl _ rfl 176 _ _ _ (heap_alloc_new _ _) Tryz.underlying176 rfl (by kernel_rfl) ?_)
    | (go_at_call 146; refine (Next_any m 0 (-1) rfl (by decide) _ hT').mono ?_; rintro e w' ⟨rfl, hk⟩; unfold nxtV))
  go_ret2
  exact ⟨rfl, ((Kept.refl w).alloc _).trans hk⟩

end Go.Proofs.YtphdcoegkfmaeaaGreatDoor
