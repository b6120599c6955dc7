/- Package demand: often, Higher, Need. -/
import Derived.Test.YtphdcoegkfmaeaaGreatDoorDemand
import Derived.Test.YtphdcoegkfmaeaaGreatDoorLeast
set_option linter.unusedVariables false
set_option linter.unusedSimpArgs false
namespace Go.Proofs.YtphdcoegkfmaeaaGreatDoor
open Go.RowKit Cad Go.Shelf
attribute [local go_sem] Oper.semAt_some

theorem Ceil_c (a b : Int) (ha : 0 ≤ a) (hb : 0 < b) (ha' : a < 9223372036854775808) (w : World) :
    Calls Tryz.prog 149 #[.int .u64 a, .int .u64 b] w fun e w' => e = .returned (.tuple #[.int .u64 (Cad.cdiv a b), .bool true]) ∧ w = w' := Ceil_any a b ha hb ha' w
theorem row_one (w : World) (v : Int) (T : TypeId) : Row (w.alloc (.cells #[.int .u64 v] T)) (some ⟨w.heap.size, 0, none⟩) (u64s [v]) := fun _ =>
  ⟨_, 0, rfl, by simp, fun j u hu => by
    rw [Lib.cell_of_heap (heap_alloc_new w _), Nat.zero_add]
    simpa [u64s] using hu⟩

theorem row_two (w : World) (X : Obj) (v : Int) (T : TypeId) : Row ((w.alloc X).alloc (.cells #[.int .u64 v] T)).drew (some ⟨w.heap.size + 1, 0, none⟩) (u64s [v]) := by
  have := row_one (w.alloc X) v T
  rw [World.size_alloc] at this
  exact this
theorem wrap_in {n : Int} (h0 : 0 ≤ n) (h1 : n < 18446744073709551616) : IntKind.u64.wrap n = n := by rw [IntKind.wrap_u64]; omega
set_option maxRecDepth 100000 in
set_option maxHeartbeats 2000000 in
theorem often_any (t : Task) (h : TaskOk t) (v : Int) (hv : 0 ≤ v) (hv2 : v ≤ 1099511627776) (w : World) :
    Calls Tryz.prog 131 #[t.val, .int .u64 v] w fun e w' => e = .returned (.int .u64 (Cad.cdiv (v + t.j) t.t)) ∧ Kept w w' := by
  have j0 := h.j0
  have j1 : t.j ≤ 2147483647 := by have := h.c1; have := h.cd; have := h.dt; have := h.tm; omega
  have t0 : 0 < t.t := by have := h.c1; have := h.j0; have := h.cd; have := h.dt; omega
  have t1 := h.tm
  have hcs : Calls Tryz.prog 149 #[.int .u64 (v + t.j), .int .u64 t.t] w fun e w' => e = .returned (.tuple #[.int .u64 (Cad.cdiv (v + t.j) t.t), .bool true]) ∧ w = w' := Ceil_c _ _ (by omega) t0 (by omega) w
  have hwj := wrap_in (n := t.j) j0 (by omega)
  have hwt := wrap_in (n := t.t) (by omega) (by omega)
  have cSum : ∀ (W : World) (A : Option Addr), Row W A (u64s [IntKind.u64.wrap t.j]) → Calls Tryz.prog 106 #[.int .u64 v, .slice A 1 1] W fun e w' => e = .returned (.int .u64 (v + t.j)) ∧ W = w' := fun W A hA => by
    rw [hwj] at hA
    have := Sum_any v A 1 [t.j] hv (by intro x hx; simp at hx; omega) (by simp; omega) (by simp) W hA
    simpa using this
  have cCeil : ∀ W, Calls Tryz.prog 149 #[.int .u64 (v + t.j), .int .u64 (IntKind.u64.wrap t.t)] W fun e w' => e = .returned (.tuple #[.int .u64 (Cad.cdiv (v + t.j) t.t), .bool true]) ∧ W = w' := fun W => by
    rw [hwt]; exact Ceil_c _ _ (by omega) t0 (by omega) W
  clear hwj hwt
  unfold Cad.Task.val
  go_enter Tryz.func131, Tryz.ntmps131
  go_wp2_with fail
  go_region_held3 (fun w' => w'.cell? ⟨w.heap.size, 4, none⟩ = some (.int .i64 t.j) ∧ w'.cell? ⟨w.heap.size, 2, none⟩ = some (.int .i64 t.t))
    (first
      | go_keep)
    (first
      | (go_at_call 106; refine (cSum _ _ (row_two _ _ _ _)).mono ?_; rintro e w2 ⟨rfl, rfl⟩)
      | (go_at_call 149; refine (cCeil _).mono ?_; rintro e w3 ⟨rfl, rfl⟩))
  all_goals go_wp2
  all_goals go_ret
  all_goals exact ⟨rfl, (((Kept.refl w).alloc _).alloc _).drew⟩
end Go.Proofs.YtphdcoegkfmaeaaGreatDoor
