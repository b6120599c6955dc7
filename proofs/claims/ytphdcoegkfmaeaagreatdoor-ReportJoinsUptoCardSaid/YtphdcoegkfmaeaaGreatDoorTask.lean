/- Package task: Check. -/
import Derived.Test.YtphdcoegkfmaeaaGreatDoorTaskSpec
import Derived.Test.YtphdcoegkfmaeaaGreatDoorProg
import Derived.Lib.Hide
import Derived.WalkLawsBesides
import Derived.Laws.EntriesVeiled
set_option linter.unusedVariables false
set_option linter.unusedSimpArgs false
namespace Go.Proofs.YtphdcoegkfmaeaaGreatDoor
open Go.RowKit Cad

theorem within_any (n : Int) (w : World) : Calls Tryz.prog 101 #[.int .i64 n] w fun e w' => e = .returned (.bool (decide (0 ≤ n ∧ n ≤ 2147483647))) ∧ w = w' := by
  by_cases h1 : 0 ≤ n
  · go_enter Tryz.func101, Tryz.ntmps101
    go_wp2
    all_goals go_ret
    all_goals simp [h1]
  · go_enter Tryz.func101, Tryz.ntmps101
    go_wp2
    all_goals go_ret
    all_goals (simp; omega)

theorem run_min_int4 {P : Program} {w : World} (ts : Array TypeId) (t : TypeId) (k : IntKind) (x y z u : Int) : ∃ m : Int, (Builtin.min_ ts t #[.int k x, .int k y, .int k z, .int k u]).run P w = .ok (.int k m) w ∧ (0 < m ↔ 0 < x ∧ 0 < y ∧ 0 < z ∧ 0 < u) := by
  refine ⟨if u < (if z < (if y < x then y else x) then z else (if y < x then y else x)) then u else (if z < (if y < x then y else x) then z else (if y < x then y else x)), ?_, ?_⟩
  · simp only [Builtin.min_, List.foldlM_cons, List.foldlM_nil]
    simp [Builtin.min2, Sem.run_bind, go_sem]
  · split <;> split <;> split <;> omega
theorem ret_b {a b : Bool} (h : a = b) : Ending.returned (.bool a) = .returned (.bool b) := by rw [h]
set_option maxRecDepth 100000 in
set_option maxHeartbeats 4000000 in
theorem ranges_any (t : Task) (ht : t.fits) (b0 b1 : Nat) (w : World) (h0 : w.heap[b0]? = some (.cells t.cells.toArray 26 (0, 0))) (h1 : w.cell? ⟨b1, 0, none⟩ = some (.func (.func 101) #[] #[])) :
    Calls Tryz.prog 102 #[.pointer (some ⟨b0, 0, none⟩), .pointer (some ⟨b1, 0, none⟩)] w fun e w' => e = .returned (.bool (decide (Ranges t))) ∧ w = w' := by
  have hm : t.name.size ≤ maxLen := by have := ht.nameS; unfold maxLen; omega
  have hm2 := ht.nameS
  have c0 : w.cell? ⟨b0, 0, none⟩ = some (.string t.name) := by rw [Lib.cell_of_heap h0]; rfl
  have c1 : w.cell? ⟨b0, 1, none⟩ = some (.int .i64 t.c) := by rw [Lib.cell_of_heap h0]; rfl
  have c2 : w.cell? ⟨b0, 2, none⟩ = some (.int .i64 t.t) := by rw [Lib.cell_of_heap h0]; rfl
  have c3 : w.cell? ⟨b0, 3, none⟩ = some (.int .i64 t.d) := by rw [Lib.cell_of_heap h0]; rfl
  have c4 : w.cell? ⟨b0, 4, none⟩ = some (.int .i64 t.j) := by rw [Lib.cell_of_heap h0]; rfl
  have c5 : w.cell? ⟨b0, 5, none⟩ = some (.int .i64 t.q) := by rw [Lib.cell_of_heap h0]; rfl
  have c6 : w.cell? ⟨b0, 6, none⟩ = some (.int .i64 t.p) := by rw [Lib.cell_of_heap h0]; rfl
  clear h0
  obtain ⟨m, hmin, hmi⟩ := run_min_int4 (P := Tryz.prog) (w := w) #[2, 2, 2, 2] 2 .i64 t.c t.t t.d t.q
  have Hmi := Lib.hid hmi
  clear hmi
  cases hW : isWord t.name with
  | false =>
    have hn : ¬ Ranges t := fun h => by have := h.1; rw [hW] at this; cases this
    have HW := Lib.hid hW
    clear hW
    go_enter Tryz.func102, Tryz.ntmps102
    go_wp2_with (go_at_call 60; refine (Word_any _ hm _).mono ?_; rintro e w' ⟨rfl, rfl⟩; rw [HW.out])
    go_ret
    exact ⟨ret_b (by simp [hn]), rfl⟩
  | true =>
    have HW := Lib.hid hW
    clear hW
    go_enter Tryz.func102, Tryz.ntmps102
    go_wp2_with (first
      | (go_at_call 60; refine (Word_any _ hm _).mono ?_; rintro e w' ⟨rfl, rfl⟩; rw [HW.out])
      | (go_at_call 101; refine (within_any _ _).mono ?_; rintro e w' ⟨rfl, rfl⟩))
    all_goals
      go_ret
      refine ⟨ret_b ?_, rfl⟩
      have h1 := Hmi.out
      have h2 := HW.out
      rw [Bool.eq_iff_iff]
      simp only [decide_eq_true_eq, Bool.false_eq_true, Ranges, h2, true_and, false_iff]
      omega

set_option maxRecDepth 100000 in
set_option maxHeartbeats 4000000 in
theorem fits_any (t : Task) (hr : Ranges t) (b0 : Nat) (w : World) (h0 : w.heap[b0]? = some (.cells t.cells.toArray 26 (0, 0))) :
    Calls Tryz.prog 103 #[.pointer (some ⟨b0, 0, none⟩)] w fun e w' => e = .returned (.bool (decide (FitsIn t))) ∧ w = w' := by
  have c1 : w.cell? ⟨b0, 1, none⟩ = some (.int .i64 t.c) := by rw [Lib.cell_of_heap h0]; rfl
  have c2 : w.cell? ⟨b0, 2, none⟩ = some (.int .i64 t.t) := by rw [Lib.cell_of_heap h0]; rfl
  have c3 : w.cell? ⟨b0, 3, none⟩ = some (.int .i64 t.d) := by rw [Lib.cell_of_heap h0]; rfl
  have c4 : w.cell? ⟨b0, 4, none⟩ = some (.int .i64 t.j) := by rw [Lib.cell_of_heap h0]; rfl
  have c5 : w.cell? ⟨b0, 5, none⟩ = some (.int .i64 t.q) := by rw [Lib.cell_of_heap h0]; rfl
  clear h0
  obtain ⟨_, _, h1, h2, h3, h4, h5, h6, h7, h8, h9, h10, h11, h12⟩ := hr
  go_enter Tryz.func103, Tryz.ntmps103
  go_wp2
  all_goals
    go_ret
    refine ⟨ret_b ?_, rfl⟩
    rw [Bool.eq_iff_iff]
    simp only [decide_eq_true_eq, Bool.false_eq_true, true_and, false_iff]
    unfold FitsIn
    first | omega | (simp; omega)

end Go.Proofs.YtphdcoegkfmaeaaGreatDoor
