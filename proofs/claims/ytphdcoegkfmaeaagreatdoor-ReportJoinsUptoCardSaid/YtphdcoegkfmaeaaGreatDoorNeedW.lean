/- Package demand: Need. -/
import Derived.Test.YtphdcoegkfmaeaaGreatDoorHigherW
set_option linter.unusedVariables false
set_option linter.unusedSimpArgs false
namespace Go.Proofs.YtphdcoegkfmaeaaGreatDoor
open Go.RowKit Cad Go.Shelf

theorem row_pair (w : World) (u v : Int) (T : TypeId) : Row (w.alloc (.cells #[.int .u64 u, .int .u64 v] T)) (some ⟨w.heap.size, 0, none⟩) (u64s [u, v]) := fun _ =>
  ⟨_, 0, rfl, by simp, fun j x hx => by
    rw [Lib.cell_of_heap (heap_alloc_new w _), Nat.zero_add]
    simpa [u64s] using hx⟩
theorem block_le {l : List Task} (hmay : May l) (i : Nat) : 0 ≤ Cad.block l i ∧ Cad.block l i ≤ 2147483646 := by
  rw [← block_is]
  refine ⟨blockTo_ge _ _, blockTo_le l _ (by decide) _ (fun k hk => ?_)⟩
  have hz := (may_valid hmay).ok k (List.mem_range.1 (List.mem_filter.1 hk).1)
  have := hz.qc; have := hz.cd; have := hz.j0; have := hz.dt; have := hz.tm; omega
theorem high_le {l : List Task} (hmay : May l) (i : Nat) {v : Int} (hv : 0 ≤ v) (hv2 : v ≤ 1099511627776) : 0 ≤ highZ l i v ∧ highZ l i v ≤ 1130297953353728 := by
  unfold highZ
  split
  · omega
  · rw [← higher_is]
    have h := workTo_le l v hv (places (hiB l i) l) (fun k hk => (may_valid hmay).ok k (List.mem_range.1 (List.mem_filter.1 hk).1))
    have h2 : (places (hiB l i) l).length ≤ 1024 := by
      have h3 := List.length_filter_le (fun j => hiB l i (tsk l j)) (List.range l.length)
      have h4 := (may_iff.1 hmay).2.1
      unfold places
      rw [List.length_range] at h3
      omega
    have e : ((places (hiB l i) l).length : Int) * (v + 4294967296) ≤ 1024 * (v + 4294967296) := Int.mul_le_mul_of_nonneg_right (by omega) (by omega)
    omega
set_option maxRecDepth 100000 in
set_option maxHeartbeats 4000000 in
theorem Need_any (l : List Task) (hmay : May l) (hfit : ∀ t ∈ l, t.fits) (i : Nat) (hi : i < l.length) (v : Int) (hv : 0 ≤ v) (hv2 : v ≤ 1099511627776) (A : Option Addr) (c : Nat) (w : World) (hrow : tasksRow w A l) (hT : Tab64 w) :
    Calls Tryz.prog 78 #[.slice A l.length c, .int .i64 i, .int .u64 v] w fun e w' => e = .returned (.int .u64 (needZ l i v)) ∧ Kept w w' := by
  have CI := dIs_any l hfit (by have := (may_iff.1 hmay).2.1; omega) i A c w hrow
  rw [isB_may hmay hi] at CI
  obtain ⟨b1, b2⟩ := block_le hmay i
  obtain ⟨g1, g2⟩ := high_le hmay i hv hv2
  have hq := (may_valid hmay).ok i hi
  have q1 := hq.c1
  have q2 := hq.cd
  have q3 := hq.j0
  have q4 := hq.dt
  have q5 := hq.tm
  have hN : needZ l i v = (tsk l i).c + Cad.block l i + highZ l i v := by
    unfold needZ highZ Cad.need
    split <;> simp
  have CB : ∀ W, Kept w W → Calls Tryz.prog 107 #[.slice A l.length c, .int .i64 i] W fun e w' => e = .returned (.int .i64 (Cad.block l i)) ∧ Kept W w' := fun W hk => Block_any l hmay hfit i hi A c W (hrow.kept hk) (hT.kept hk)
  have CH : ∀ W, Kept w W → Calls Tryz.prog 108 #[.slice A l.length c, .int .i64 i, .int .u64 v] W fun e w' => e = .returned (.int .u64 (highZ l i v)) ∧ Kept W w' := fun W hk => HigherZ_any l hmay hfit i hi v hv hv2 A c W (hrow.kept hk) (hT.kept hk)
  obtain ⟨b, off, rfl, -, c1, -, -, -, -, -⟩ := hrow.range (tsk_some hi)
  have hi0 : (0 : Int) ≤ i := by omega
  have hi1 : (i : Int) < l.length := by omega
  generalize hy : (tsk l i).c = y at *
  generalize hB : Cad.block l i = B at *
  generalize hH : highZ l i v = H at *
  have cS : ∀ (W : World) (A : Option Addr), Row W A (u64s [IntKind.u64.wrap B, H]) → Calls Tryz.prog 106 #[.int .u64 (IntKind.u64.wrap y), .slice A 2 2] W fun e w' => e = .returned (.int .u64 (y + B + H)) ∧ W = w' := fun W A hA => by
    rw [wrap_in b1 (by omega)] at hA
    rw [wrap_in (n := y) (by omega) (by omega)]
    have := Sum_any y A 2 [B, H] (by omega) (by intro x hx; simp at hx; omega) (by simp; omega) (by simp) W hA
    simpa using this
  rw [hN]
  clear hN hy hB hH hrow hq hfit
  have Hmay := Lib.hid hmay
  clear hmay
  go_enter Tryz.func78, Tryz.ntmps78
  go_wp2_with (go_at_call 105; refine CI.mono ?_; rintro e w2 ⟨rfl, hk2⟩)
  have k1 := hk2.cell c1
  clear CI
  go_region_held3 (fun w' => Kept w w' ∧ w'.cell? ⟨b, off + i * 7 + 1, none⟩ = some (.int .i64 y))
    (first
      | exact ⟨hk2.drew, k1⟩
      | exact ⟨hkB, hkB.cell c1⟩
      | exact ⟨hkH, hkH.cell c1⟩
      | exact ⟨hkB.alloc _, (hkB.alloc _).cell c1⟩
      | exact ⟨hkH.alloc _, (hkH.alloc _).cell c1⟩
      | exact ⟨hkS, hkS.cell c1⟩)
    (first
      | (go_at_call 107; refine (CB _ (by (first | exact hk2.drew | exact hkH))).mono ?_; rintro e w3 ⟨rfl, hk3⟩; have hkB : Kept w w3 := by (first | exact hk2.drew.trans hk3 | exact hkH.trans hk3))
      | (go_at_call 108; refine (CH _ (by (first | exact hk2.drew | exact hkB))).mono ?_; rintro e w4 ⟨rfl, hk4⟩; have hkH : Kept w w4 := by (first | exact hk2.drew.trans hk4 | exact hkB.trans hk4))
      | (go_at_call 106; refine (cS _ _ (row_pair _ _ _ _)).mono ?_; rintro e w5 ⟨rfl, rfl⟩))
  all_goals go_wp2
  all_goals go_ret
  all_goals exact ⟨rfl, by first | exact hkH.alloc _ | exact hkB.alloc _⟩
end Go.Proofs.YtphdcoegkfmaeaaGreatDoor
