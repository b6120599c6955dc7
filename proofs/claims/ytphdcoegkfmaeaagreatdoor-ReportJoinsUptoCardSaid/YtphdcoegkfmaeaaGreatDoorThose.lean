/- Package task: which tasks are more urgent, or less. -/
import Derived.Test.YtphdcoegkfmaeaaGreatDoorTaskAll
import Derived.Test.YtphdcoegkfmaeaaGreatDoorAll
set_option linter.unusedVariables false
set_option linter.unusedSimpArgs false
namespace Go.Proofs.YtphdcoegkfmaeaaGreatDoor
open Go.RowKit Cad

/-- The places below one of the tasks that are so, as a number's bits. -/
def mask (P : Task → Bool) (l : List Task) : Nat → Nat
  | 0 => 0
  | k + 1 => if P (tsk l k) then mask P l k ||| 2 ^ k else mask P l k
theorem mask_bit (P : Task → Bool) (l : List Task) : ∀ k j, (mask P l k).testBit j = (decide (j < k) && P (tsk l j))
  | 0, j => by simp [mask]
  | k + 1, j => by
    unfold mask
    split
    · rename_i h
      rw [Nat.testBit_or, mask_bit P l k j, Nat.testBit_two_pow]
      by_cases e : k = j
      · subst e; simp [h]
      · by_cases e2 : j < k
        · have : j < k + 1 := by omega
          simp [e, e2, this]
        · have : ¬ j < k + 1 := by omega
          simp [e, e2, this]
    · rename_i h
      rw [mask_bit P l k j]
      by_cases e : k = j
      · subst e; simp [h]
      · by_cases e2 : j < k
        · have : j < k + 1 := by omega
          simp [e2, this]
        · have : ¬ j < k + 1 := by omega
          simp [e2, this]
/-- The places of the tasks that are so. -/
def places (P : Task → Bool) (l : List Task) : List Nat := (List.range l.length).filter (fun j => P (tsk l j))
theorem mem_mask (P : Task → Bool) (l : List Task) (hl : l.length ≤ 1024) : mem (mask P l l.length) = places P l := by
  unfold mem upto places
  rw [show (1024 : Nat) = l.length + (1024 - l.length) by omega, List.range_add, List.filter_append]
  have e1 : List.filter (fun k => (mask P l l.length).testBit k) (List.map (fun x => l.length + x) (List.range (1024 - l.length))) = [] := by
    rw [List.filter_eq_nil_iff]
    intro a ha
    obtain ⟨b, hb, rfl⟩ := List.mem_map.1 ha
    rw [mask_bit]; simp; intro h; omega
  rw [e1, List.append_nil]
  apply List.filter_congr
  intro a ha
  rw [mask_bit]
  have := List.mem_range.1 ha
  simp [this]

theorem wd_zero (i : Nat) : wd 0 i = 0 := by simp [wd]
theorem setCells_zero : setCells 0 = #[.int .u64 0, .int .u64 0, .int .u64 0, .int .u64 0, .int .u64 0, .int .u64 0, .int .u64 0, .int .u64 0, .int .u64 0, .int .u64 0, .int .u64 0, .int .u64 0, .int .u64 0, .int .u64 0, .int .u64 0, .int .u64 0] := by
  unfold setCells; simp only [wd_zero]
set_option maxRecDepth 100000 in
set_option maxHeartbeats 4000000 in
theorem those_any (P : Task → Bool) (f : Nat) (cap : Array Value) (ep : ∀ args w, (callFunc f args).run Tryz.prog w = .ok (.enter f args) w) (l : List Task) (i : Nat) (hi : i < l.length) (hl : l.length ≤ 1024) (A : Option Addr) (c : Nat) (w : World) (hrow : tasksRow w A l)
    (hf : ∀ W k, Kept w W → k < l.length → Calls Tryz.prog f (#[(tsk l k).val] ++ cap) W fun e w' => e = .returned (.bool (P (tsk l k))) ∧ Kept W w') :
    Calls Tryz.prog 142 #[.slice A l.length c, .int .i64 i, .func (.func f) #[] cap] w fun e w' => e = .returned (.agg (setCells (mask P l l.length))) ∧ Kept w w' := by
  have hz1 : ¬ ((i : Int) < 0) := by omega
  have hz2 : (i : Int) < l.length := by omega
  go_enter Tryz.func142, Tryz.ntmps142
  go_wp2
  go_loopw [21] (fun iv wr => ∃ k : Nat, k ≤ l.length ∧ iv = .int .i64 k ∧ wr.heap[w.heap.size]? = some (.cells (setCells 0) 176 (0, 0)) ∧ wr.heap[w.heap.size + 1]? = some (.cells (setCells (mask P l k)) 176 (0, 0)) ∧ Kept w wr)
    (fun iv _ => l.length - (intOf iv).toNat)
  case atStart => exact ⟨0, by omega, rfl, by rw [setCells_zero]; exact heap_alloc2_old w _ _, by rw [show mask P l 0 = 0 from rfl, setCells_zero]; exact heap_alloc2_new w _ _, ((Kept.refl w).alloc _).alloc _⟩
  case round =>
    obtain ⟨k, hk, rfl, hb0, hb1, hK⟩ := hrel
    by_cases he : k = l.length
    · have hlt : ¬ ((k : Int) < l.length) := by omega
      subst he
      go_wp2_with (first
        | (refine wpList_load_row rfl 176 _ rfl _ rfl 176 _ _ _ hb1 Tryz.underlying176 rfl (by kernel_rfl) ?_)
        | (refine wpList_store_row rfl 176 _ _ rfl _ _ rfl rfl 176 _ hb0 (by kernel_rfl) rfl (setCells_one _) ?_))
      refine bodyPost_ret (results_cell_row rfl _ _ w.heap.size 176 (setCells (mask P l l.length)) (0, 0) _ rfl (setRow_heap _ _ _ _ _ _ hb0) Tryz.underlying176 rfl (by kernel_rfl)) rfl ⟨rfl, ?_⟩
      exact Kept.setRow hK (Nat.le_refl _) _
    · have hlt : ((k : Int) < l.length) := by omega
      obtain ⟨b, off, rfl, c0, c1, c2, c3, c4, c5, c6⟩ := (hrow.kept hK).range (tsk_some (l := l) (k := k) (by omega))
      have hk2 : k < l.length := by omega
      have hbk := (Array.getElem?_eq_some_iff.1 hb1).1
      have hall : Kept w (wr.alloc (.cells (tsk l k).cells.toArray 26)) := hK.alloc _
      have hF := hf _ k hall hk2
      unfold Cad.Task.val at hF
      have hmk : mask P l (k + 1) = if P (tsk l k) then mask P l k ||| 2 ^ k else mask P l k := rfl
      generalize hx : tsk l k = x at *
      cases hP : P x with
      | false =>
        rw [hP] at hF
        rw [hP, if_neg (by simp)] at hmk
        have Hmk := Lib.hid hmk
        clear hmk hP hx
        go_wp2_with (go_at_fn f; refine hF.mono ?_; rintro e w2 ⟨rfl, hk3⟩)
        go_roundw
        case rel =>
          have hk4 : Kept wr w2 := ((Kept.refl wr).alloc _).trans hk3
          exact ⟨k + 1, by omega, by go_num, hk4.heap hb0, by rw [Hmk.out]; exact hk4.heap hb1, hK.trans hk4⟩
        case measure => simp [intOf]; omega
      | true =>
        rw [hP] at hF
        rw [hP, if_pos rfl] at hmk
        have Hmk := Lib.hid hmk
        clear hmk hP hx
        go_wp2_with (first
          | (go_at_fn f; refine hF.mono ?_; rintro e w2 ⟨rfl, hk3⟩; have hk4 : Kept wr w2 := ((Kept.refl wr).alloc _).trans hk3; have hb2 := hk4.heap hb1; have hb3 := hk4.heap hb0; clear hb0 hb1)
          | (refine wpList_load_row rfl 176 _ rfl _ rfl 176 _ _ _ hb2 Tryz.underlying176 rfl (by kernel_rfl) ?_)
          | (go_at_call 153; refine (With_yes (mask P l k) k _ (by omega)).mono ?_; rintro e w3 ⟨rfl, hk5⟩; have hb4 := hk5.heap hb2; have hb5 := hk5.heap hb3; clear hb2 hb3)
          | (refine wpList_store_row rfl 176 _ _ rfl _ _ rfl rfl 176 _ hb4 (by kernel_rfl) rfl (setCells_one _) ?_))
        go_roundw
        case rel =>
          refine ⟨k + 1, by omega, by go_num, ?_, by rw [Hmk.out]; exact setRow_heap _ _ _ _ _ _ hb4, ((hK.trans hk4).trans hk5).setRow (by omega) _⟩
          rw [setRow_other _ _ _ _ (by omega)]
          exact hb5
        case measure => simp [intOf]; omega
end Go.Proofs.YtphdcoegkfmaeaaGreatDoor
