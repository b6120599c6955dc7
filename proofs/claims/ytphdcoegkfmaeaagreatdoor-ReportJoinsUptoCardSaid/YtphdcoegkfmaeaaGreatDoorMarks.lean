/- Package marks: sets of small numbers. -/
import Derived.Test.YtphdcoegkfmaeaaGreatDoorSet
import Derived.Laws.Rows
import Derived.RegionTactic
import Derived.ChangeAlike
import Derived.BigRegion
import Derived.Test.YtphdcoegkfmaeaaGreatDoorProg
set_option linter.unusedVariables false
set_option linter.unusedSimpArgs false
namespace Go.Proofs.YtphdcoegkfmaeaaGreatDoor
open Go.RowKit

theorem in_any (n : Int) (w : World) : Calls Tryz.prog 154 #[.int .i64 n] w fun e w' => e = .returned (.bool (decide (0 ≤ n ∧ n < 1024))) ∧ w = w' := by
  by_cases h1 : 0 ≤ n
  · go_enter Tryz.func154, Tryz.ntmps154
    go_wp2
    all_goals go_ret
    all_goals simp [h1]
  · go_enter Tryz.func154, Tryz.ntmps154
    go_wp2
    all_goals go_ret
    all_goals (simp; omega)

set_option maxRecDepth 100000 in
set_option maxHeartbeats 400000 in
theorem With_yes (m n : Nat) (w : World) (h : n < 1024) : Calls Tryz.prog 153 #[.agg (setCells m), .int .i64 n] w fun e w' => e = .returned (.agg (setCells (m ||| 2 ^ n))) ∧ Kept w w' := by
  have hand := and63 n (by omega)
  have h1 : (0:Int) ≤ n := by omega
  have h2 : (n:Int) < 1024 := by omega
  have h3 : (0:Int) ≤ (n:Int) / 64 := by omega
  have h4 : (n:Int) / 64 < 16 := by omega
  have h5 : (setCells m)[n/64]? = some (.int .u64 (wd m (n / 64))) := setCells_at m _ (by omega)
  have hin : decide ((0:Int) ≤ n ∧ (n:Int) < 1024) = true := by simp; omega
  go_enter Tryz.func153, Tryz.ntmps153
  go_wp2_with (go_at_call 154; refine (in_any _ _).mono ?_; rintro e w' ⟨rfl, rfl⟩)
  go_region
  rw [set_with m n h]
  go_wp2_with (first
    | (refine wpList_load_row rfl 176 _ rfl _ rfl 176 _ _ _ (heap_alloc2_old _ _ _) Tryz.underlying176 rfl (by kernel_rfl) ?_)
    | (refine wpList_store_row rfl 176 _ _ rfl _ _ rfl rfl 176 _ (heap_alloc2_new _ _ _) (by kernel_rfl) rfl (setCells_one _) ?_))
  refine bodyPost_ret (results_cell_row rfl _ _ (w.heap.size + 1) 176 (setCells (m ||| 2 ^ n)) (0, 0) _ rfl (setRow_heap _ _ _ _ _ _ (heap_alloc2_new _ _ _)) Tryz.underlying176 rfl (by kernel_rfl)) rfl ⟨rfl, ?_⟩
  exact Kept.setRow (Kept.drew (((Kept.refl w).alloc _).alloc _)) (by omega) _
end Go.Proofs.YtphdcoegkfmaeaaGreatDoor
