/- Package task: Check. -/
import Derived.Test.YtphdcoegkfmaeaaGreatDoorTask
import Derived.LoopN
set_option linter.unusedVariables false
set_option linter.unusedSimpArgs false
namespace Go.Proofs.YtphdcoegkfmaeaaGreatDoor
open Go.RowKit Cad

set_option maxRecDepth 100000 in
set_option maxHeartbeats 4000000 in
theorem first_any (t : Task) (ht : t.fits) (b0 b1 : Nat) (w : World) (h0 : w.heap[b0]? = some (.cells t.cells.toArray 26 (0, 0))) (h1 : w.heap[b1]? = some (.cells #[.func (.func 101) #[] #[]] 150 (0, 0))) :
    Calls Tryz.prog 104 #[.agg #[.func (.func 102) #[] #[.pointer (some ⟨b0, 0, none⟩), .pointer (some ⟨b1, 0, none⟩)], .int .i64 11, .func (.func 103) #[] #[.pointer (some ⟨b0, 0, none⟩)], .int .i64 12]] w fun e w' => e = .returned (.int .i64 (checkE t)) ∧ Kept w w' := by
  have i0 : ∀ w, (Instr.index 154 (.agg #[.func (.func 102) #[] #[.pointer (some ⟨b0, 0, none⟩), .pointer (some ⟨b1, 0, none⟩)], .int .i64 11, .func (.func 103) #[] #[.pointer (some ⟨b0, 0, none⟩)], .int .i64 12]) (.int .i64 0)).run Tryz.prog w = .ok (.agg #[.func (.func 102) #[] #[.pointer (some ⟨b0, 0, none⟩), .pointer (some ⟨b1, 0, none⟩)], .int .i64 11]) w := fun w => by rfl
  have i1 : ∀ w, (Instr.index 154 (.agg #[.func (.func 102) #[] #[.pointer (some ⟨b0, 0, none⟩), .pointer (some ⟨b1, 0, none⟩)], .int .i64 11, .func (.func 103) #[] #[.pointer (some ⟨b0, 0, none⟩)], .int .i64 12]) (.int .i64 1)).run Tryz.prog w = .ok (.agg #[.func (.func 103) #[] #[.pointer (some ⟨b0, 0, none⟩)], .int .i64 12]) w := fun w => by rfl
  have C2 : ∀ W, Kept w W → Calls Tryz.prog 102 #[.pointer (some ⟨b0, 0, none⟩), .pointer (some ⟨b1, 0, none⟩)] W fun e w' => e = .returned (.bool (decide (Ranges t))) ∧ W = w' := fun W hk => ranges_any t ht b0 b1 W (hk.heap h0) (by rw [Lib.cell_of_heap (hk.heap h1)]; rfl)
  have C3 : Ranges t → ∀ W, Kept w W → Calls Tryz.prog 103 #[.pointer (some ⟨b0, 0, none⟩)] W fun e w' => e = .returned (.bool (decide (FitsIn t))) ∧ W = w' := fun hr W hk => fits_any t hr b0 W (hk.heap h0)
  clear h0 h1
  have K1 := ((Kept.refl w).alloc (.cells #[.func (.func 102) #[] #[.pointer (some ⟨b0, 0, none⟩), .pointer (some ⟨b1, 0, none⟩)], .int .i64 11, .func (.func 103) #[] #[.pointer (some ⟨b0, 0, none⟩)], .int .i64 12] 154)).alloc (.cells #[.func (.func 102) #[] #[.pointer (some ⟨b0, 0, none⟩), .pointer (some ⟨b1, 0, none⟩)], .int .i64 11] 153)
  have K2 := K1.alloc (.cells #[.func (.func 103) #[] #[.pointer (some ⟨b0, 0, none⟩)], .int .i64 12] 153)
  by_cases hr : Ranges t
  · have d1 : decide (Ranges t) = true := by simp [hr]
    have C3' := C3 hr
    by_cases hf : FitsIn t
    · have d2 : decide (FitsIn t) = true := by simp [hf]
      have hv : checkE t = 0 := checkE_zero.2 ⟨hr, hf⟩
      rw [hv]
      rw [d1] at C2
      rw [d2] at C3'
      clear hr hf d1 d2 hv C3
      go_enter Tryz.func104, Tryz.ntmps104
      go_wp2
      go_step3
      go_wp2
      go_step3
      go_wp2
      refine wp_loop_rounds 3 ?_
      rw [rounds_succ]
      go_wp2_with (go_at_call 102; refine (C2 _ K1).mono ?_; rintro e w' ⟨rfl, rfl⟩)
      rw [rounds_succ]
      go_wp2_with (go_at_call 103; refine (C3' _ K2).mono ?_; rintro e w' ⟨rfl, rfl⟩)
      rw [rounds_succ]
      go_wp2
      try rw [Exit.noGoto_ret]
      go_ret
      exact ⟨rfl, K2⟩
    · have d2 : decide (FitsIn t) = false := by simp [hf]
      have hv : checkE t = 12 := by unfold checkE; rw [if_pos hr, if_neg hf]
      rw [hv]
      rw [d1] at C2
      rw [d2] at C3'
      clear hr hf d1 d2 hv C3
      go_enter Tryz.func104, Tryz.ntmps104
      go_wp2
      go_step3
      go_wp2
      go_step3
      go_wp2
      refine wp_loop_rounds 3 ?_
      rw [rounds_succ]
      go_wp2_with (go_at_call 102; refine (C2 _ K1).mono ?_; rintro e w' ⟨rfl, rfl⟩)
      rw [rounds_succ]
      go_wp2_with (go_at_call 103; refine (C3' _ K2).mono ?_; rintro e w' ⟨rfl, rfl⟩)
      try rw [Exit.noGoto_ret]
      go_ret
      exact ⟨rfl, K2⟩
  · have d1 : decide (Ranges t) = false := by simp [hr]
    have hv : checkE t = 11 := by unfold checkE; rw [if_neg hr]
    rw [hv]
    rw [d1] at C2
    clear hr d1 hv C3
    go_enter Tryz.func104, Tryz.ntmps104
    go_wp2
    go_step3
    go_wp2
    go_step3
    go_wp2
    refine wp_loop_rounds 3 ?_
    rw [rounds_succ]
    go_wp2_with (go_at_call 102; refine (C2 _ K1).mono ?_; rintro e w' ⟨rfl, rfl⟩)
    try rw [Exit.noGoto_ret]
    go_ret
    exact ⟨rfl, K1⟩

set_option maxRecDepth 100000 in
set_option maxHeartbeats 4000000 in
theorem Check_any (t : Task) (ht : t.fits) (w : World) : Calls Tryz.prog 76 #[t.val] w fun e w' => e = .returned (.int .i64 (checkE t)) ∧ Kept w w' := by
  unfold Cad.Task.val
  have K := ((Kept.refl w).alloc (.cells t.cells.toArray 26)).alloc (.cells #[.func (.func 101) #[] #[]] 150)
  have h0 := heap_alloc2_old w (.cells t.cells.toArray 26) (.cells #[.func (.func 101) #[] #[]] 150)
  have h1 := heap_alloc2_new w (.cells t.cells.toArray 26) (.cells #[.func (.func 101) #[] #[]] 150)
  have C := first_any t ht _ _ _ h0 h1
  clear h0 h1
  go_enter Tryz.func76, Tryz.ntmps76
  go_wp2_with fail
  refine C.mono ?_
  rintro e w' ⟨rfl, hk⟩
  go_wp2
  go_ret
  exact ⟨rfl, K.trans hk⟩
end Go.Proofs.YtphdcoegkfmaeaaGreatDoor
