/- Package task: Higher, Lower. -/
import Derived.Test.YtphdcoegkfmaeaaGreatDoorThose
import Derived.Deep.QuietTactic
import Derived.BigQuiet
set_option linter.unusedVariables false
set_option linter.unusedSimpArgs false
namespace Go.Proofs.YtphdcoegkfmaeaaGreatDoor
open Go.RowKit Cad

def hiB (l : List Task) (i : Nat) (x : Task) : Bool := decide (x.p < (tsk l i).p)
def loB (l : List Task) (i : Nat) (x : Task) : Bool := decide ((tsk l i).p < x.p)
set_option maxRecDepth 100000 in
set_option maxHeartbeats 400000 in
theorem hi1_any (l : List Task) (i : Nat) (hi : i < l.length) (hl : l.length ≤ 1024) (A : Option Addr) (c b2 b3 : Nat) (x : Task) (w : World) (hrow : tasksRow w A l) (h2 : w.cell? ⟨b2, 0, none⟩ = some (.slice A l.length c)) (h3 : w.cell? ⟨b3, 0, none⟩ = some (.int .i64 i)) :
    Calls Tryz.prog 147 #[x.val, .pointer (some ⟨b2, 0, none⟩), .pointer (some ⟨b3, 0, none⟩)] w fun e w' => e = .returned (.bool (hiB l i x)) ∧ Kept w w' := by
  obtain ⟨b, off, rfl, -, -, -, -, -, -, c6⟩ := hrow.range (tsk_some hi)
  have hlt : (i : Int) < l.length := by omega
  unfold Cad.Task.val hiB
  generalize tsk l i = y at *
  have K := (Kept.refl w).alloc (.cells #[.string x.name, .int .i64 x.c, .int .i64 x.t, .int .i64 x.d, .int .i64 x.j, .int .i64 x.q, .int .i64 x.p] 26)
  have a2 := K.cell h2
  have a3 := K.cell h3
  have a6 := K.cell c6
  have hi2 : (0:Int) ≤ i := by omega
  clear h2 h3 c6
  go_enter Tryz.func147, Tryz.ntmps147
  go_wp2
  go_quiet (fail)
  go_wp2
  go_ret
  exact ⟨rfl, by repeat (first | exact K | apply Kept.drewN | apply Kept.drew)⟩
set_option maxRecDepth 100000 in
set_option maxHeartbeats 400000 in
theorem lo1_any (l : List Task) (i : Nat) (hi : i < l.length) (hl : l.length ≤ 1024) (A : Option Addr) (c b2 b3 : Nat) (x : Task) (w : World) (hrow : tasksRow w A l) (h2 : w.cell? ⟨b2, 0, none⟩ = some (.slice A l.length c)) (h3 : w.cell? ⟨b3, 0, none⟩ = some (.int .i64 i)) :
    Calls Tryz.prog 143 #[x.val, .pointer (some ⟨b2, 0, none⟩), .pointer (some ⟨b3, 0, none⟩)] w fun e w' => e = .returned (.bool (loB l i x)) ∧ Kept w w' := by
  obtain ⟨b, off, rfl, -, -, -, -, -, -, c6⟩ := hrow.range (tsk_some hi)
  have hlt : (i : Int) < l.length := by omega
  unfold Cad.Task.val loB
  generalize tsk l i = y at *
  have K := (Kept.refl w).alloc (.cells #[.string x.name, .int .i64 x.c, .int .i64 x.t, .int .i64 x.d, .int .i64 x.j, .int .i64 x.q, .int .i64 x.p] 26)
  have a2 := K.cell h2
  have a3 := K.cell h3
  have a6 := K.cell c6
  have hi2 : (0:Int) ≤ i := by omega
  clear h2 h3 c6
  go_enter Tryz.func143, Tryz.ntmps143
  go_wp2
  go_quiet (fail)
  go_wp2
  go_ret
  exact ⟨rfl, by repeat (first | exact K | apply Kept.drewN | apply Kept.drew)⟩

theorem heap_alloc3_a (w : World) (a b c : Obj) : (((w.alloc a).alloc b).alloc c).heap[w.heap.size]? = some a := by
  rw [heap_alloc_old _ c (by simp; omega)]; exact heap_alloc2_old w a b
theorem heap_alloc3_b (w : World) (a b c : Obj) : (((w.alloc a).alloc b).alloc c).heap[w.heap.size + 1]? = some b := by
  rw [heap_alloc_old _ c (by simp)]; exact heap_alloc2_new w a b
theorem heap_alloc3_c (w : World) (a b c : Obj) : (((w.alloc a).alloc b).alloc c).heap[w.heap.size + 1 + 1]? = some c := by
  have h := heap_alloc2_new (w.alloc a) b c
  rw [World.size_alloc] at h
  exact h
set_option maxRecDepth 100000 in
set_option maxHeartbeats 1000000 in
theorem Higher_any (l : List Task) (i : Nat) (hi : i < l.length) (hl : l.length ≤ 1024) (A : Option Addr) (c : Nat) (w : World) (hrow : tasksRow w A l) :
    Calls Tryz.prog 129 #[.slice A l.length c, .int .i64 i] w fun e w' => e = .returned (.agg (setCells (mask (hiB l i) l l.length))) ∧ Kept w w' := by
  have ep : ∀ args w, (callFunc 147 args).run Tryz.prog w = .ok (.enter 147 args) w := enters_of Tryz.func147 (by kernel_rfl) rfl
  have K := (((Kept.refl w).alloc (.cells #[.slice A l.length c] 23)).alloc (.cells #[.int .i64 i] 3)).alloc (.cells (setCells 0) 176)
  have h2 := heap_alloc3_a w (.cells #[.slice A l.length c] 23) (.cells #[.int .i64 i] 3) (.cells (setCells 0) 176)
  have h3 := heap_alloc3_b w (.cells #[.slice A l.length c] 23) (.cells #[.int .i64 i] 3) (.cells (setCells 0) 176)
  have h4 := heap_alloc3_c w (.cells #[.slice A l.length c] 23) (.cells #[.int .i64 i] 3) (.cells (setCells 0) 176)
  have C := those_any (hiB l i) 147 #[.pointer (some ⟨w.heap.size, 0, none⟩), .pointer (some ⟨w.heap.size + 1, 0, none⟩)] ep l i hi hl A c _ (hrow.kept K) (fun W k hk hkl => hi1_any l i hi hl A c _ _ _ W (hrow.kept (K.trans hk)) (by rw [Lib.cell_of_heap (hk.heap h2)]; rfl) (by rw [Lib.cell_of_heap (hk.heap h3)]; rfl))
  rw [setCells_zero] at C h4 K
  generalize mask (hiB l i) l l.length = m at *
  go_enter Tryz.func129, Tryz.ntmps129
  go_wp2_with fail
  refine C.mono ?_
  rintro e w2 ⟨rfl, hk⟩
  have h5 := hk.heap h4
  clear h4 C h2 h3
  go_wp2_with (refine wpList_store_row rfl 176 _ _ rfl _ _ rfl rfl 176 _ h5 (by kernel_rfl) rfl (setCells_one _) ?_)
  refine bodyPost_ret (results_cell_row rfl _ _ (w.heap.size + 1 + 1) 176 (setCells m) (0, 0) _ rfl (setRow_heap _ _ _ _ _ _ h5) Tryz.underlying176 rfl (by kernel_rfl)) rfl ⟨rfl, ?_⟩
  exact (K.trans hk).setRow (by omega) _
set_option maxRecDepth 100000 in
set_option maxHeartbeats 1000000 in
theorem Lower_any (l : List Task) (i : Nat) (hi : i < l.length) (hl : l.length ≤ 1024) (A : Option Addr) (c : Nat) (w : World) (hrow : tasksRow w A l) :
    Calls Tryz.prog 127 #[.slice A l.length c, .int .i64 i] w fun e w' => e = .returned (.agg (setCells (mask (loB l i) l l.length))) ∧ Kept w w' := by
  have ep : ∀ args w, (callFunc 143 args).run Tryz.prog w = .ok (.enter 143 args) w := enters_of Tryz.func143 (by kernel_rfl) rfl
  have K := (((Kept.refl w).alloc (.cells #[.slice A l.length c] 23)).alloc (.cells #[.int .i64 i] 3)).alloc (.cells (setCells 0) 176)
  have h2 := heap_alloc3_a w (.cells #[.slice A l.length c] 23) (.cells #[.int .i64 i] 3) (.cells (setCells 0) 176)
  have h3 := heap_alloc3_b w (.cells #[.slice A l.length c] 23) (.cells #[.int .i64 i] 3) (.cells (setCells 0) 176)
  have h4 := heap_alloc3_c w (.cells #[.slice A l.length c] 23) (.cells #[.int .i64 i] 3) (.cells (setCells 0) 176)
  have C := those_any (loB l i) 143 #[.pointer (some ⟨w.heap.size, 0, none⟩), .pointer (some ⟨w.heap.size + 1, 0, none⟩)] ep l i hi hl A c _ (hrow.kept K) (fun W k hk hkl => lo1_any l i hi hl A c _ _ _ W (hrow.kept (K.trans hk)) (by rw [Lib.cell_of_heap (hk.heap h2)]; rfl) (by rw [Lib.cell_of_heap (hk.heap h3)]; rfl))
  rw [setCells_zero] at C h4 K
  generalize mask (loB l i) l l.length = m at *
  go_enter Tryz.func127, Tryz.ntmps127
  go_wp2_with fail
  refine C.mono ?_
  rintro e w2 ⟨rfl, hk⟩
  have h5 := hk.heap h4
  clear h4 C h2 h3
  go_wp2_with (refine wpList_store_row rfl 176 _ _ rfl _ _ rfl rfl 176 _ h5 (by kernel_rfl) rfl (setCells_one _) ?_)
  refine bodyPost_ret (results_cell_row rfl _ _ (w.heap.size + 1 + 1) 176 (setCells m) (0, 0) _ rfl (setRow_heap _ _ _ _ _ _ h5) Tryz.underlying176 rfl (by kernel_rfl)) rfl ⟨rfl, ?_⟩
  exact (K.trans hk).setRow (by omega) _
end Go.Proofs.YtphdcoegkfmaeaaGreatDoor
