/- Package demand: Higher: the work that is more urgent. -/
import Derived.Test.YtphdcoegkfmaeaaGreatDoorNeed
import Derived.Test.YtphdcoegkfmaeaaGreatDoorHeldIn
set_option linter.unusedVariables false
set_option linter.unusedSimpArgs false
namespace Go.Proofs.YtphdcoegkfmaeaaGreatDoor
open Go.RowKit Cad Go.Shelf
attribute [local go_sem] Oper.semAt_some

/-- The work, so far. -/
def workTo (l : List Task) (v : Int) (ks : List Nat) : Int := ks.foldl (fun s k => s + load1 (tsk l k) v) 0
theorem workTo_snoc (l : List Task) (v : Int) (ks : List Nat) (k : Nat) : workTo l v (ks ++ [k]) = workTo l v ks + load1 (tsk l k) v := by unfold workTo; rw [List.foldl_append]; rfl
theorem higher_is (l : List Task) (i : Nat) (v : Int) : workTo l v (places (hiB l i) l) = Cad.higher l i v := by
  unfold places Cad.higher
  induction l.length with
  | zero => rfl
  | succ n ih =>
    rw [List.range_succ, List.filter_append]
    show _ = sumN _ n + _
    rw [← ih]
    unfold hiB
    by_cases h : (tsk l n).p < (tsk l i).p
    · simp only [List.filter_cons, List.filter_nil, h, decide_true, if_true]
      rw [workTo_snoc]
    · simp only [List.filter_cons, List.filter_nil, h, decide_false, if_false]
      simp
theorem load1_le {x : Task} (h : TaskOk x) {v : Int} (hv : 0 ≤ v) : load1 x v ≤ v + 4294967296 := by
  unfold load1 Cad.cdiv
  have h1 := h.c1; have h2 := h.j0; have h3 := h.cd; have h4 := h.dt; have h5 := h.tm
  have hq : 0 ≤ (v + x.j + x.t - 1) / x.t := Int.ediv_nonneg (by omega) (by omega)
  have h6 : (v + x.j + x.t - 1) / x.t * x.t ≤ v + x.j + x.t - 1 := Int.ediv_mul_le _ (by omega)
  have h7 : (v + x.j + x.t - 1) / x.t * x.c ≤ (v + x.j + x.t - 1) / x.t * x.t := Int.mul_le_mul_of_nonneg_left (by omega) hq
  omega
theorem workTo_le (l : List Task) (v : Int) (hv : 0 ≤ v) : ∀ ks : List Nat, (∀ k ∈ ks, TaskOk (tsk l k)) → 0 ≤ workTo l v ks ∧ workTo l v ks ≤ ks.length * (v + 4294967296) := fun ks => by
  refine rev_ind (P := fun ks => (∀ k ∈ ks, TaskOk (tsk l k)) → 0 ≤ workTo l v ks ∧ workTo l v ks ≤ ks.length * (v + 4294967296)) (fun _ => by simp [workTo]) (fun ks k ih h => ?_) ks
  rw [workTo_snoc]
  have h1 := ih (fun j hj => h j (by simp [hj]))
  have h2 := load1_le (h k (by simp)) hv
  have h3 := load1_nonneg (h k (by simp)) hv
  rw [List.length_append, List.length_singleton]
  have : ((ks.length + 1 : Nat) : Int) * (v + 4294967296) = ks.length * (v + 4294967296) + (v + 4294967296) := by rw [Int.natCast_add, Int.add_mul]; simp
  omega

set_option maxRecDepth 100000 in
set_option maxHeartbeats 4000000 in
theorem Higher_in (F : Fence) (hF : F = Fence.wide) (n : Nat) (hn : 3 ≤ n) (l : List Task) (hmay : May l) (hfit : ∀ t ∈ l, t.fits) (i : Nat) (hi : i < l.length) (v : Int) (hv : 0 < v) (hv2 : v ≤ 1099511627776) (A : Option Addr) (c : Nat) (w : World) (hrow : tasksRow w A l) (hT : Tab64 w) :
    CallsIn F n Tryz.prog 108 #[.slice A l.length c, .int .i64 i, .int .u64 v] w fun e w' => e = .returned (.int .u64 (Cad.higher l i v)) ∧ Kept w w' := by
  have hl : l.length ≤ 1024 := (may_iff.1 hmay).2.1
  have h1 : 1 ≤ n := by omega
  have h11 : 1 ≤ n - 1 - 1 := by omega
  have hro : F.round = none := by rw [hF]; rfl
  have hf0 : F.fn 108 := by rw [hF]; trivial
  have hf1 : F.fn 105 := by rw [hF]; trivial
  have hf2 : F.fn 129 := by rw [hF]; trivial
  have hf3 : F.fn 128 := by rw [hF]; trivial
  have hf4 : F.fn 144 := by rw [hF]; trivial
  have HF := Lib.hid hF
  clear hF
  have hb := Lib.hid (higher_is l i v)
  have hmm := Lib.hid (mem_mask (hiB l i) l hl)
  have hz0 : ((v : Int) == 0) = false := by rw [beq_eq_false_iff_ne]; omega
  refine callsIn_of_wp_marks Tryz.func108 rfl hf0 ?_ hro
  simp only [Tryz.ntmps108, List.size_toArray, List.length_cons, List.length_nil, Nat.reduceAdd, Nat.reduceSub, Array.replicate_succ, Array.replicate_zero, List.push_toArray, List.append_toArray, List.nil_append, List.cons_append]
  have K1 := (((Kept.refl w).alloc (.cells #[.slice A l.length c] 23)).alloc (.cells #[.int .u64 v] 104)).alloc (.cells #[.int .u64 0] 104)
  have CI := dIs_any l hfit (by omega) i A c _ (hrow.kept K1)
  rw [isB_may hmay hi] at CI
  have CL : ∀ W, Kept w W → Calls Tryz.prog 129 #[.slice A l.length c, .int .i64 i] W fun e w' => e = .returned (.agg (setCells (mask (hiB l i) l l.length))) ∧ Kept W w' := fun W hk => Higher_any l i hi hl A c W (hrow.kept hk)
  generalize hM : mask (hiB l i) l l.length = M at *
  gi_wp2_with (first
    | (gi_at_call 105; refine (wideIn HF.out CI).mono ?_; rintro e w2 ⟨rfl, hk2⟩; have K2 := K1.trans hk2; have cA := hk2.cell (p := ⟨w.heap.size, 0, none⟩) (u := .slice A l.length c) (by rw [Lib.cell_of_heap (heap_alloc3_a w _ _ _)]; rfl))
    | (gi_at_call 129; refine (wideIn HF.out (CL _ K2)).mono ?_; rintro e w3 ⟨rfl, hk3⟩)
    | (gi_at_call 128; refine (wideIn HF.out (All_any M _)).mono ?_; rintro e w4 ⟨rfl, rfl⟩))
  have K3 := K2.trans hk3
  have K4 := K3.alloc (.cells (setCells M) 176)
  have hk4 : Kept (((w.alloc (.cells #[.slice A l.length c] 23)).alloc (.cells #[.int .u64 v] 104)).alloc (.cells #[.int .u64 0] 104)) (w3.alloc (.cells (setCells M) 176)) := (hk2.trans hk3).alloc _
  have bA : Boxed (w3.alloc (.cells (setCells M) 176)) w.heap.size 23 (.slice A l.length c) := hk4.heap (heap_alloc3_a w _ _ _)
  have bV : Boxed (w3.alloc (.cells (setCells M) 176)) (w.heap.size + 1) 104 (.int .u64 v) := hk4.heap (heap_alloc3_b w _ _ _)
  have bB : Boxed (w3.alloc (.cells (setCells M) 176)) (w.heap.size + 1 + 1) 104 (.int .u64 0) := hk4.heap (heap_alloc3_c w _ _ _)
  have hBs := heap_alloc_new w3 (.cells (setCells M) 176)
  have hT4 := hT.kept K4
  have hg : 5 < w3.heap.size := Nat.lt_of_lt_of_le (World.block_lt_of_cell? w _ (hT 0 (by decide))) K3.size
  have hs3 : w.heap.size + 3 ≤ w3.heap.size := by have := (hk2.trans hk3).size; simp at this; omega
  have hg0 : 5 < w.heap.size := World.block_lt_of_cell? w _ (hT 0 (by decide))
  have hseq := All_stops (n - 1) (by omega) w3.heap.size M (w3.alloc (.cells (setCells M) 176)) hBs hT4 hg
  rw [← HF.out] at hseq
  refine wpIn_rangeFunc_ownG hro h1 (gf := 144) (lb := #[.pointer (some ⟨w3.heap.size, 0, none⟩)]) ?hg hf4 (enters_of Tryz.func144 (by kernel_rfl) rfl)
    hseq (fun h k => KeepS.trans h k) (fun W l o o' _ hl hc _ => KeepS.put o' hl hc) (Below.refl _ _) ?hps
    (fun pre W => (Boxed W (w.heap.size + 1 + 1) 104 (.int .u64 (workTo l v (pre.map (·.1)))) ∧ Boxed W w.heap.size 23 (.slice A l.length c) ∧ Boxed W (w.heap.size + 1) 104 (.int .u64 v)) ∧ Below w.heap.size w W)
    (fun _ _ _ => False)
    (OwnFrom.and (Own.from (Own.and (boxed_own' _ _ (fun pre : List { x : Nat // x ∈ mem M } => Value.int .u64 (workTo l v (pre.map (·.1))))) (Own.and (boxed_own' _ _ (fun _ => .slice A l.length c)) (boxed_own' _ _ (fun _ => .int .u64 v)))) _) (ownFrom_below (Nat.le_refl _) (by simp; omega)))
    (fun _ _ _ _ _ hs _ _ => hs)
    ⟨⟨bB, bA, bV⟩, K4⟩
    (fun x => { tmps := #[.slice A l.length c, .int .i64 i, .int .u64 v, .pointer (some ⟨w.heap.size, 0, none⟩), undef, .pointer (some ⟨w.heap.size + 1, 0, none⟩), .int .u64 0, .pointer (some ⟨w.heap.size + 1 + 1, 0, none⟩), .int .i64 (x.1 : Int), .int .u64 v, .bool false, .bool false, .slice A l.length c, .int .i64 i, .bool true, .bool false, .bool false, undef, .slice A l.length c, .int .i64 i, .agg (setCells M), .func (.func 144) #[] #[.pointer (some ⟨w3.heap.size, 0, none⟩)], .int .i64 (x.1 : Int), undef, undef, undef, undef, undef, undef, undef, undef, undef, undef, undef, undef, undef, undef, undef, undef, undef], defers := [] }) ?assign ?body ?done ?stop
  case hg => rfl
  case hps => intro x; rfl
  case assign =>
    intro l x W K hK
    gi_wp2
    exact hK
  case body =>
    rintro L pre x W ⟨⟨hb1, hb2, hb3⟩, hB⟩ hlen
    have hx : x.1 ∈ places (hiB l i) l := by rw [← hmm.out]; exact x.2
    have hxl : x.1 < l.length := List.mem_range.1 (List.mem_filter.1 hx).1
    have hq := (may_valid hmay).ok x.1 hxl
    obtain ⟨b, off, rfl, d0, d1, d2, d3, d4, d5, d6⟩ := hrow.range (tsk_some hxl)
    have hKW : Kept w W := hB
    have c0 := hKW.cell d0
    have c1 := hKW.cell d1
    have c2 := hKW.cell d2
    have c3 := hKW.cell d3
    have c4 := hKW.cell d4
    have c5 := hKW.cell d5
    have c6 := hKW.cell d6
    have hbne : b ≠ w.heap.size + 1 + 1 := by have := World.block_lt_of_cell? w _ d0; simp at this; omega
    clear d0 d1 d2 d3 d4 d5 d6
    have hbt := workTo_snoc l v (pre.map (·.1)) x.1
    have Hbt := Lib.hid hbt
    have hbg := workTo_le l v (by omega) (pre.map (·.1)) (fun k hk => by
      obtain ⟨z, _, rfl⟩ := List.mem_map.1 hk
      have hz : z.1 ∈ places (hiB l i) l := by rw [← hmm.out]; exact z.2
      exact (may_valid hmay).ok z.1 (List.mem_range.1 (List.mem_filter.1 hz).1))
    have hbg2 : workTo l v (pre.map (·.1)) ≤ 1125899906842624000 := by
      have e : ((pre.map (·.1)).length : Int) * (v + 4294967296) ≤ 1024 * (v + 4294967296) := Int.mul_le_mul_of_nonneg_right (by rw [List.length_map]; omega) (by omega)
      omega
    have hl1 := load1_le hq (v := v) (by omega)
    have hl0 := load1_nonneg hq (w := v) (by omega)
    generalize hy : tsk l x.1 = y at *
    generalize hz : workTo l v (pre.map (·.1)) = z at *
    have k1 := hb1.cell
    have k2 := hb2.cell
    have k3 := hb3.cell
    have f1 := hb1.frozen
    have hi1 : (x.1 : Int) < l.length := by omega
    have hi0 : (0 : Int) ≤ x.1 := by omega
    clear hbt hx hy hz hseq CI CL hBs
    have cO : ∀ W, Calls Tryz.prog 131 #[.agg #[.string y.name, .int .i64 y.c, .int .i64 y.t, .int .i64 y.d, .int .i64 y.j, .int .i64 y.q, .int .i64 y.p], .int .u64 v] W fun e w' => e = .returned (.int .u64 (Cad.cdiv (v + y.j) y.t)) ∧ Kept W w' := fun W => often_any y hq v (by omega) hv2 W
    have cT : ∀ W, Calls Tryz.prog 130 #[.int .u64 (Cad.cdiv (v + y.j) y.t), .int .u64 (IntKind.u64.wrap y.c)] W fun e w' => e = .returned (.int .u64 (load1 y v)) ∧ W = w' := fun W => by
      have q1 := hq.c1
      have q2 := hq.cd
      have q3 := hq.dt
      have q4 := hq.tm
      have q5 := hq.j0
      rw [wrap_in (by omega) (by omega)]
      have hc0 : 0 ≤ Cad.cdiv (v + y.j) y.t := Cad.cdiv_nonneg (by omega) (by omega)
      have hc1 : Cad.cdiv (v + y.j) y.t * 1 ≤ Cad.cdiv (v + y.j) y.t * y.c := Int.mul_le_mul_of_nonneg_left (by omega) hc0
      have hc2 : Cad.cdiv (v + y.j) y.t * y.c = load1 y v := rfl
      exact Times_any _ _ hc0 (by omega) (by omega) (by omega) (by rw [hc2]; omega) W
    have cS : ∀ (W : World) (A : Option Addr), Row W A (u64s [load1 y v]) → Calls Tryz.prog 106 #[.int .u64 z, .slice A 1 1] W fun e w' => e = .returned (.int .u64 (z + load1 y v)) ∧ W = w' := fun W A hA => by
      have := Sum_any z A 1 [load1 y v] hbg.1 (by intro x hx; simp at hx; omega) (by simp; omega) (by simp) W hA
      simpa using this
    gi_wp2
    rw [HF.out]
    have hSW : W.drew.cell? ⟨w.heap.size, 0, none⟩ = some (.slice (some ⟨b, off, none⟩) l.length c) ∧ W.drew.cell? ⟨w.heap.size + 1, 0, none⟩ = some (.int .u64 v) ∧ W.drew.cell? ⟨b, off + x.1 * 7, none⟩ = some (.string y.name) ∧ W.drew.cell? ⟨b, off + x.1 * 7 + 1, none⟩ = some (.int .i64 y.c) ∧ W.drew.cell? ⟨b, off + x.1 * 7 + 2, none⟩ = some (.int .i64 y.t) ∧ W.drew.cell? ⟨b, off + x.1 * 7 + 3, none⟩ = some (.int .i64 y.d) ∧ W.drew.cell? ⟨b, off + x.1 * 7 + 4, none⟩ = some (.int .i64 y.j) ∧ W.drew.cell? ⟨b, off + x.1 * 7 + 5, none⟩ = some (.int .i64 y.q) ∧ W.drew.cell? ⟨b, off + x.1 * 7 + 6, none⟩ = some (.int .i64 y.p) := ⟨k2, k3, c0, c1, c2, c3, c4, c5, c6⟩
    refine wpIn_mono (held_in (S := fun W' => W'.cell? ⟨w.heap.size, 0, none⟩ = some (.slice (some ⟨b, off, none⟩) l.length c) ∧ W'.cell? ⟨w.heap.size + 1, 0, none⟩ = some (.int .u64 v) ∧ W'.cell? ⟨b, off + x.1 * 7, none⟩ = some (.string y.name) ∧ W'.cell? ⟨b, off + x.1 * 7 + 1, none⟩ = some (.int .i64 y.c) ∧ W'.cell? ⟨b, off + x.1 * 7 + 2, none⟩ = some (.int .i64 y.t) ∧ W'.cell? ⟨b, off + x.1 * 7 + 3, none⟩ = some (.int .i64 y.d) ∧ W'.cell? ⟨b, off + x.1 * 7 + 4, none⟩ = some (.int .i64 y.j) ∧ W'.cell? ⟨b, off + x.1 * 7 + 5, none⟩ = some (.int .i64 y.q) ∧ W'.cell? ⟨b, off + x.1 * 7 + 6, none⟩ = some (.int .i64 y.p))
      (Q := fun e _ w' => e = .normal ∧ ∃ w5, Kept W w5 ∧ w' = w5.setCell ⟨w.heap.size + 1 + 1, 0, none⟩ (.int .u64 (z + load1 y v))) (by kernel_rfl) (by kernel_rfl) (fun ⟨_, _, h⟩ => by cases h.1) hSW (fun hHeld => ?_)) ?fin
    case fin =>
      rintro e a W' ⟨rfl, w5, hk5, rfl⟩
      have e1 : List.map (fun x => x.1) (pre ++ [x]) = List.map (fun x => x.1) pre ++ [x.1] := by simp
      have hs5 := hk5.size
      refine ⟨((KeepsOthers.of_grownBy (Kept.grownBy hk5 none) (fun j o e => by cases e)).trans (KeepsOthers.setCell _ _ _)).from _, ?_, ⟨?_, Boxed.other (show Boxed w5 _ _ _ from hk5.heap hb2) (by omega) _, Boxed.other (show Boxed w5 _ _ _ from hk5.heap hb3) (by omega) _⟩, (Kept.trans (show Kept w W from hB) hk5).setCell (p := ⟨w.heap.size + 1 + 1, 0, none⟩) (by simp; omega) _⟩
      · exact (KeepS.kept hk5).trans (KeepS.set (by omega) (by omega) _)
      · rw [e1, Hbt.out]
        exact Boxed.set _ (show Boxed w5 _ _ _ from hk5.heap hb1)
    refine wpAnyH_take (i := 1) (v := .slice (some ⟨b, off, none⟩) l.length c) rfl (by kernel_rfl) (by kernel_rfl) (by kernel_rfl) (fun _ _ _ h => by cases h.1) (Or.inl ⟨by rfl, fun W0 hW0 => ?_⟩) (by assumption) ?_
    · obtain ⟨g1, g2, g3, g4, g5, g6, g7, g8, g9⟩ := hW0
      go_simp
    simp only [Act.put, List.setIfInBounds_toArray, List.set_cons_zero, List.set_cons_succ]
    refine wpAnyH_take (i := 2) (v := .int .i64 (x.1 : Int)) rfl (by kernel_rfl) (by kernel_rfl) (by kernel_rfl) (fun _ _ _ h => by cases h.1) (Or.inl ⟨by rfl, fun W0 hW0 => ?_⟩) (by assumption) ?_
    · obtain ⟨g1, g2, g3, g4, g5, g6, g7, g8, g9⟩ := hW0
      go_simp
    simp only [Act.put, List.setIfInBounds_toArray, List.set_cons_zero, List.set_cons_succ]
    refine wpAnyH_take (i := 3) (v := .pointer (some ⟨b, off + x.1 * 7, none⟩)) rfl (by kernel_rfl) (by kernel_rfl) (by kernel_rfl) (fun _ _ _ h => by cases h.1) (Or.inl ⟨by rfl, fun W0 hW0 => ?_⟩) (by assumption) ?_
    · obtain ⟨g1, g2, g3, g4, g5, g6, g7, g8, g9⟩ := hW0
      go_simp
    simp only [Act.put, List.setIfInBounds_toArray, List.set_cons_zero, List.set_cons_succ]
    refine wpAnyH_take (i := 4) (v := .agg #[.string y.name, .int .i64 y.c, .int .i64 y.t, .int .i64 y.d, .int .i64 y.j, .int .i64 y.q, .int .i64 y.p]) rfl (by kernel_rfl) (by kernel_rfl) (by kernel_rfl) (fun _ _ _ h => by cases h.1) (Or.inl ⟨by rfl, fun W0 hW0 => ?_⟩) (by assumption) ?_
    · obtain ⟨g1, g2, g3, g4, g5, g6, g7, g8, g9⟩ := hW0
      go_simp
    simp only [Act.put, List.setIfInBounds_toArray, List.set_cons_zero, List.set_cons_succ]
    refine wpAnyH_take (i := 5) (v := .int .u64 v) rfl (by kernel_rfl) (by kernel_rfl) (by kernel_rfl) (fun _ _ _ h => by cases h.1) (Or.inl ⟨by rfl, fun W0 hW0 => ?_⟩) (by assumption) ?_
    · obtain ⟨g1, g2, g3, g4, g5, g6, g7, g8, g9⟩ := hW0
      go_simp
    simp only [Act.put, List.setIfInBounds_toArray, List.set_cons_zero, List.set_cons_succ]
    refine wpAnyH_take (i := 7) (v := .slice (some ⟨b, off, none⟩) l.length c) rfl (by kernel_rfl) (by kernel_rfl) (by kernel_rfl) (fun _ _ _ h => by cases h.1) (Or.inl ⟨by rfl, fun W0 hW0 => ?_⟩) (by assumption) ?_
    · obtain ⟨g1, g2, g3, g4, g5, g6, g7, g8, g9⟩ := hW0
      go_simp
    simp only [Act.put, List.setIfInBounds_toArray, List.set_cons_zero, List.set_cons_succ]
    refine wpAnyH_take (i := 8) (v := .int .i64 (x.1 : Int)) rfl (by kernel_rfl) (by kernel_rfl) (by kernel_rfl) (fun _ _ _ h => by cases h.1) (Or.inl ⟨by rfl, fun W0 hW0 => ?_⟩) (by assumption) ?_
    · obtain ⟨g1, g2, g3, g4, g5, g6, g7, g8, g9⟩ := hW0
      go_simp
    simp only [Act.put, List.setIfInBounds_toArray, List.set_cons_zero, List.set_cons_succ]
    refine wpAnyH_take (i := 9) (v := .pointer (some ⟨b, off + x.1 * 7, none⟩)) rfl (by kernel_rfl) (by kernel_rfl) (by kernel_rfl) (fun _ _ _ h => by cases h.1) (Or.inl ⟨by rfl, fun W0 hW0 => ?_⟩) (by assumption) ?_
    · obtain ⟨g1, g2, g3, g4, g5, g6, g7, g8, g9⟩ := hW0
      go_simp
    simp only [Act.put, List.setIfInBounds_toArray, List.set_cons_zero, List.set_cons_succ]
    refine wpAnyH_take (i := 10) (v := .pointer (some ⟨b, off + x.1 * 7 + 1, none⟩)) rfl (by kernel_rfl) (by kernel_rfl) (by kernel_rfl) (fun _ _ _ h => by cases h.1) (Or.inl ⟨by rfl, fun W0 hW0 => ?_⟩) (by assumption) ?_
    · obtain ⟨g1, g2, g3, g4, g5, g6, g7, g8, g9⟩ := hW0
      go_simp
    simp only [Act.put, List.setIfInBounds_toArray, List.set_cons_zero, List.set_cons_succ]
    refine wpAnyH_take (i := 11) (v := .int .i64 y.c) rfl (by kernel_rfl) (by kernel_rfl) (by kernel_rfl) (fun _ _ _ h => by cases h.1) (Or.inl ⟨by rfl, fun W0 hW0 => ?_⟩) (by assumption) ?_
    · obtain ⟨g1, g2, g3, g4, g5, g6, g7, g8, g9⟩ := hW0
      go_simp
    simp only [Act.put, List.setIfInBounds_toArray, List.set_cons_zero, List.set_cons_succ]
    refine wpAnyH_take (i := 12) (v := .int .u64 (IntKind.u64.wrap y.c)) rfl (by kernel_rfl) (by kernel_rfl) (by kernel_rfl) (fun _ _ _ h => by cases h.1) (Or.inl ⟨by rfl, fun W0 hW0 => ?_⟩) (by assumption) ?_
    · obtain ⟨g1, g2, g3, g4, g5, g6, g7, g8, g9⟩ := hW0
      go_simp
    simp only [Act.put, List.setIfInBounds_toArray, List.set_cons_zero, List.set_cons_succ]
    have hk0 : Kept W W.drew := (Kept.refl W).drew
    refine wpAnyH_ready (rs := [0, 6]) (by kernel_rfl) (by simp) (AllReadyH.cons rfl (fun K hK => ?_) (AllReadyH.cons rfl (fun K hK => ?_) AllReadyH.nil))
    · skip
      rw [if_pos (by rfl)]
      have kz := hk0.cell k1
      go_wp2
      refine hK.out _ _ ⟨hk0.cell k2, hk0.cell k3, hk0.cell c0, hk0.cell c1, hk0.cell c2, hk0.cell c3, hk0.cell c4, hk0.cell c5, hk0.cell c6⟩ (fun hHeld => ?_)
      clear hK K
      try simp only [Act.put, List.setIfInBounds_toArray, List.set_cons_zero, List.set_cons_succ]
      refine wpAnyH_ready (rs := [6]) (by kernel_rfl) (by simp) (AllReadyH.cons rfl (fun K hK => ?_) AllReadyH.nil)
      rw [if_pos (by rfl)]
      go_wp2_with (go_at_call 131; refine (cO _).mono ?_; rintro e w5 ⟨rfl, hk5⟩)
      have hk6 : Kept W w5 := hk0.trans hk5
      refine hK.out _ _ ⟨hk6.cell k2, hk6.cell k3, hk6.cell c0, hk6.cell c1, hk6.cell c2, hk6.cell c3, hk6.cell c4, hk6.cell c5, hk6.cell c6⟩ (fun hHeld => ?_)
      clear hK K
      try simp only [Act.put, List.setIfInBounds_toArray, List.set_cons_zero, List.set_cons_succ]
      refine wpAnyH_ready (rs := [13]) (by kernel_rfl) (by simp) (AllReadyH.cons rfl (fun K hK => ?_) AllReadyH.nil)
      rw [if_pos (by rfl)]
      go_wp2_with (go_at_call 130; refine (cT _).mono ?_; rintro e w6 ⟨rfl, rfl⟩)
      refine hK.out _ _ ⟨hk6.cell k2, hk6.cell k3, hk6.cell c0, hk6.cell c1, hk6.cell c2, hk6.cell c3, hk6.cell c4, hk6.cell c5, hk6.cell c6⟩ (fun hHeld => ?_)
      clear hK K
      try simp only [Act.put, List.setIfInBounds_toArray, List.set_cons_zero, List.set_cons_succ]
      refine wpAnyH_ready (rs := [14]) (by kernel_rfl) (by simp) (AllReadyH.cons rfl (fun K hK => ?_) AllReadyH.nil)
      rw [if_pos (by rfl)]
      go_wp2
      have hk7 : Kept W (w5.alloc (.cells #[.int .u64 (load1 y v)] 104)) := hk6.alloc _
      refine hK.out _ _ ⟨hk7.cell k2, hk7.cell k3, hk7.cell c0, hk7.cell c1, hk7.cell c2, hk7.cell c3, hk7.cell c4, hk7.cell c5, hk7.cell c6⟩ (fun hHeld => ?_)
      clear hK K
      try simp only [Act.put, List.setIfInBounds_toArray, List.set_cons_zero, List.set_cons_succ]
      refine wpAnyH_ready (rs := [15]) (by kernel_rfl) (by simp) (AllReadyH.cons rfl (fun K hK => ?_) AllReadyH.nil)
      rw [if_pos (by rfl)]
      go_wp2_with (go_at_call 106; refine (cS _ _ (row_one _ _ _)).mono ?_; rintro e w7 ⟨rfl, rfl⟩)
      refine hK.out _ _ ⟨hk7.cell k2, hk7.cell k3, hk7.cell c0, hk7.cell c1, hk7.cell c2, hk7.cell c3, hk7.cell c4, hk7.cell c5, hk7.cell c6⟩ (fun hHeld => ?_)
      clear hK K
      try simp only [Act.put, List.setIfInBounds_toArray, List.set_cons_zero, List.set_cons_succ]
      refine wpAnyH_ready (rs := [16]) (by kernel_rfl) (by simp) (AllReadyH.cons rfl (fun K hK => ?_) AllReadyH.nil)
      rw [if_pos (by rfl)]
      have hb7 : Boxed (w5.alloc (.cells #[.int .u64 (load1 y v)] 104)) _ _ _ := hk7.heap hb1
      have k7 := hb7.cell
      have f7 := hb7.frozen
      go_wp2
      have hfar : ∀ (p : Addr) (u : Value), W.cell? p = some u → p.block ≠ w.heap.size + 1 + 1 → ((w5.alloc (.cells #[.int .u64 (load1 y v)] 104)).setCell ⟨w.heap.size + 1 + 1, 0, none⟩ (.int .u64 (z + load1 y v))).cell? p = some u := fun p u hp hne => (World.cell?_of_block (heap_setCell_other _ _ _ _ hne)).trans (hk7.cell hp)
      refine hK.out _ _ ⟨hfar _ _ k2 (by show w.heap.size ≠ _; omega), hfar _ _ k3 (by show w.heap.size + 1 ≠ _; omega), hfar _ _ c0 hbne, hfar _ _ c1 hbne, hfar _ _ c2 hbne, hfar _ _ c3 hbne, hfar _ _ c4 hbne, hfar _ _ c5 hbne, hfar _ _ c6 hbne⟩ (fun hHeld => ?_)
      refine wpAnyH_done (by kernel_rfl) ?_ _
      exact ⟨rfl, _, hk7, rfl⟩
    · skip
      rw [if_pos (by rfl)]
      go_wp2_with (go_at_call 131; refine (cO _).mono ?_; rintro e w5 ⟨rfl, hk5⟩)
      have hk6 : Kept W w5 := hk0.trans hk5
      refine hK.out _ _ ⟨hk6.cell k2, hk6.cell k3, hk6.cell c0, hk6.cell c1, hk6.cell c2, hk6.cell c3, hk6.cell c4, hk6.cell c5, hk6.cell c6⟩ (fun hHeld => ?_)
      clear hK K
      try simp only [Act.put, List.setIfInBounds_toArray, List.set_cons_zero, List.set_cons_succ]
      refine wpAnyH_ready (rs := [0, 13]) (by kernel_rfl) (by simp) (AllReadyH.cons rfl (fun K hK => ?_) (AllReadyH.cons rfl (fun K hK => ?_) AllReadyH.nil))
      · skip
        rw [if_pos (by rfl)]
        have kz := hk6.cell k1
        go_wp2
        refine hK.out _ _ ⟨hk6.cell k2, hk6.cell k3, hk6.cell c0, hk6.cell c1, hk6.cell c2, hk6.cell c3, hk6.cell c4, hk6.cell c5, hk6.cell c6⟩ (fun hHeld => ?_)
        clear hK K
        try simp only [Act.put, List.setIfInBounds_toArray, List.set_cons_zero, List.set_cons_succ]
        refine wpAnyH_ready (rs := [13]) (by kernel_rfl) (by simp) (AllReadyH.cons rfl (fun K hK => ?_) AllReadyH.nil)
        rw [if_pos (by rfl)]
        go_wp2_with (go_at_call 130; refine (cT _).mono ?_; rintro e w6 ⟨rfl, rfl⟩)
        refine hK.out _ _ ⟨hk6.cell k2, hk6.cell k3, hk6.cell c0, hk6.cell c1, hk6.cell c2, hk6.cell c3, hk6.cell c4, hk6.cell c5, hk6.cell c6⟩ (fun hHeld => ?_)
        clear hK K
        try simp only [Act.put, List.setIfInBounds_toArray, List.set_cons_zero, List.set_cons_succ]
        refine wpAnyH_ready (rs := [14]) (by kernel_rfl) (by simp) (AllReadyH.cons rfl (fun K hK => ?_) AllReadyH.nil)
        rw [if_pos (by rfl)]
        go_wp2
        have hk7 : Kept W (w5.alloc (.cells #[.int .u64 (load1 y v)] 104)) := hk6.alloc _
        refine hK.out _ _ ⟨hk7.cell k2, hk7.cell k3, hk7.cell c0, hk7.cell c1, hk7.cell c2, hk7.cell c3, hk7.cell c4, hk7.cell c5, hk7.cell c6⟩ (fun hHeld => ?_)
        clear hK K
        try simp only [Act.put, List.setIfInBounds_toArray, List.set_cons_zero, List.set_cons_succ]
        refine wpAnyH_ready (rs := [15]) (by kernel_rfl) (by simp) (AllReadyH.cons rfl (fun K hK => ?_) AllReadyH.nil)
        rw [if_pos (by rfl)]
        go_wp2_with (go_at_call 106; refine (cS _ _ (row_one _ _ _)).mono ?_; rintro e w7 ⟨rfl, rfl⟩)
        refine hK.out _ _ ⟨hk7.cell k2, hk7.cell k3, hk7.cell c0, hk7.cell c1, hk7.cell c2, hk7.cell c3, hk7.cell c4, hk7.cell c5, hk7.cell c6⟩ (fun hHeld => ?_)
        clear hK K
        try simp only [Act.put, List.setIfInBounds_toArray, List.set_cons_zero, List.set_cons_succ]
        refine wpAnyH_ready (rs := [16]) (by kernel_rfl) (by simp) (AllReadyH.cons rfl (fun K hK => ?_) AllReadyH.nil)
        rw [if_pos (by rfl)]
        have hb7 : Boxed (w5.alloc (.cells #[.int .u64 (load1 y v)] 104)) _ _ _ := hk7.heap hb1
        have k7 := hb7.cell
        have f7 := hb7.frozen
        go_wp2
        have hfar : ∀ (p : Addr) (u : Value), W.cell? p = some u → p.block ≠ w.heap.size + 1 + 1 → ((w5.alloc (.cells #[.int .u64 (load1 y v)] 104)).setCell ⟨w.heap.size + 1 + 1, 0, none⟩ (.int .u64 (z + load1 y v))).cell? p = some u := fun p u hp hne => (World.cell?_of_block (heap_setCell_other _ _ _ _ hne)).trans (hk7.cell hp)
        refine hK.out _ _ ⟨hfar _ _ k2 (by show w.heap.size ≠ _; omega), hfar _ _ k3 (by show w.heap.size + 1 ≠ _; omega), hfar _ _ c0 hbne, hfar _ _ c1 hbne, hfar _ _ c2 hbne, hfar _ _ c3 hbne, hfar _ _ c4 hbne, hfar _ _ c5 hbne, hfar _ _ c6 hbne⟩ (fun hHeld => ?_)
        refine wpAnyH_done (by kernel_rfl) ?_ _
        exact ⟨rfl, _, hk7, rfl⟩
      · skip
        rw [if_pos (by rfl)]
        go_wp2_with (go_at_call 130; refine (cT _).mono ?_; rintro e w6 ⟨rfl, rfl⟩)
        refine hK.out _ _ ⟨hk6.cell k2, hk6.cell k3, hk6.cell c0, hk6.cell c1, hk6.cell c2, hk6.cell c3, hk6.cell c4, hk6.cell c5, hk6.cell c6⟩ (fun hHeld => ?_)
        clear hK K
        try simp only [Act.put, List.setIfInBounds_toArray, List.set_cons_zero, List.set_cons_succ]
        refine wpAnyH_ready (rs := [0, 14]) (by kernel_rfl) (by simp) (AllReadyH.cons rfl (fun K hK => ?_) (AllReadyH.cons rfl (fun K hK => ?_) AllReadyH.nil))
        · skip
          rw [if_pos (by rfl)]
          have kz := hk6.cell k1
          go_wp2
          refine hK.out _ _ ⟨hk6.cell k2, hk6.cell k3, hk6.cell c0, hk6.cell c1, hk6.cell c2, hk6.cell c3, hk6.cell c4, hk6.cell c5, hk6.cell c6⟩ (fun hHeld => ?_)
          clear hK K
          try simp only [Act.put, List.setIfInBounds_toArray, List.set_cons_zero, List.set_cons_succ]
          refine wpAnyH_ready (rs := [14]) (by kernel_rfl) (by simp) (AllReadyH.cons rfl (fun K hK => ?_) AllReadyH.nil)
          rw [if_pos (by rfl)]
          go_wp2
          have hk7 : Kept W (w5.alloc (.cells #[.int .u64 (load1 y v)] 104)) := hk6.alloc _
          refine hK.out _ _ ⟨hk7.cell k2, hk7.cell k3, hk7.cell c0, hk7.cell c1, hk7.cell c2, hk7.cell c3, hk7.cell c4, hk7.cell c5, hk7.cell c6⟩ (fun hHeld => ?_)
          clear hK K
          try simp only [Act.put, List.setIfInBounds_toArray, List.set_cons_zero, List.set_cons_succ]
          refine wpAnyH_ready (rs := [15]) (by kernel_rfl) (by simp) (AllReadyH.cons rfl (fun K hK => ?_) AllReadyH.nil)
          rw [if_pos (by rfl)]
          go_wp2_with (go_at_call 106; refine (cS _ _ (row_one _ _ _)).mono ?_; rintro e w7 ⟨rfl, rfl⟩)
          refine hK.out _ _ ⟨hk7.cell k2, hk7.cell k3, hk7.cell c0, hk7.cell c1, hk7.cell c2, hk7.cell c3, hk7.cell c4, hk7.cell c5, hk7.cell c6⟩ (fun hHeld => ?_)
          clear hK K
          try simp only [Act.put, List.setIfInBounds_toArray, List.set_cons_zero, List.set_cons_succ]
          refine wpAnyH_ready (rs := [16]) (by kernel_rfl) (by simp) (AllReadyH.cons rfl (fun K hK => ?_) AllReadyH.nil)
          rw [if_pos (by rfl)]
          have hb7 : Boxed (w5.alloc (.cells #[.int .u64 (load1 y v)] 104)) _ _ _ := hk7.heap hb1
          have k7 := hb7.cell
          have f7 := hb7.frozen
          go_wp2
          have hfar : ∀ (p : Addr) (u : Value), W.cell? p = some u → p.block ≠ w.heap.size + 1 + 1 → ((w5.alloc (.cells #[.int .u64 (load1 y v)] 104)).setCell ⟨w.heap.size + 1 + 1, 0, none⟩ (.int .u64 (z + load1 y v))).cell? p = some u := fun p u hp hne => (World.cell?_of_block (heap_setCell_other _ _ _ _ hne)).trans (hk7.cell hp)
          refine hK.out _ _ ⟨hfar _ _ k2 (by show w.heap.size ≠ _; omega), hfar _ _ k3 (by show w.heap.size + 1 ≠ _; omega), hfar _ _ c0 hbne, hfar _ _ c1 hbne, hfar _ _ c2 hbne, hfar _ _ c3 hbne, hfar _ _ c4 hbne, hfar _ _ c5 hbne, hfar _ _ c6 hbne⟩ (fun hHeld => ?_)
          refine wpAnyH_done (by kernel_rfl) ?_ _
          exact ⟨rfl, _, hk7, rfl⟩
        · skip
          rw [if_pos (by rfl)]
          go_wp2
          have hk7 : Kept W (w5.alloc (.cells #[.int .u64 (load1 y v)] 104)) := hk6.alloc _
          refine hK.out _ _ ⟨hk7.cell k2, hk7.cell k3, hk7.cell c0, hk7.cell c1, hk7.cell c2, hk7.cell c3, hk7.cell c4, hk7.cell c5, hk7.cell c6⟩ (fun hHeld => ?_)
          clear hK K
          try simp only [Act.put, List.setIfInBounds_toArray, List.set_cons_zero, List.set_cons_succ]
          refine wpAnyH_ready (rs := [0]) (by kernel_rfl) (by simp) (AllReadyH.cons rfl (fun K hK => ?_) AllReadyH.nil)
          rw [if_pos (by rfl)]
          have kz := hk7.cell k1
          go_wp2
          refine hK.out _ _ ⟨hk7.cell k2, hk7.cell k3, hk7.cell c0, hk7.cell c1, hk7.cell c2, hk7.cell c3, hk7.cell c4, hk7.cell c5, hk7.cell c6⟩ (fun hHeld => ?_)
          clear hK K
          try simp only [Act.put, List.setIfInBounds_toArray, List.set_cons_zero, List.set_cons_succ]
          refine wpAnyH_ready (rs := [15]) (by kernel_rfl) (by simp) (AllReadyH.cons rfl (fun K hK => ?_) AllReadyH.nil)
          rw [if_pos (by rfl)]
          go_wp2_with (go_at_call 106; refine (cS _ _ (row_one _ _ _)).mono ?_; rintro e w7 ⟨rfl, rfl⟩)
          refine hK.out _ _ ⟨hk7.cell k2, hk7.cell k3, hk7.cell c0, hk7.cell c1, hk7.cell c2, hk7.cell c3, hk7.cell c4, hk7.cell c5, hk7.cell c6⟩ (fun hHeld => ?_)
          clear hK K
          try simp only [Act.put, List.setIfInBounds_toArray, List.set_cons_zero, List.set_cons_succ]
          refine wpAnyH_ready (rs := [16]) (by kernel_rfl) (by simp) (AllReadyH.cons rfl (fun K hK => ?_) AllReadyH.nil)
          rw [if_pos (by rfl)]
          have hb7 : Boxed (w5.alloc (.cells #[.int .u64 (load1 y v)] 104)) _ _ _ := hk7.heap hb1
          have k7 := hb7.cell
          have f7 := hb7.frozen
          go_wp2
          have hfar : ∀ (p : Addr) (u : Value), W.cell? p = some u → p.block ≠ w.heap.size + 1 + 1 → ((w5.alloc (.cells #[.int .u64 (load1 y v)] 104)).setCell ⟨w.heap.size + 1 + 1, 0, none⟩ (.int .u64 (z + load1 y v))).cell? p = some u := fun p u hp hne => (World.cell?_of_block (heap_setCell_other _ _ _ _ hne)).trans (hk7.cell hp)
          refine hK.out _ _ ⟨hfar _ _ k2 (by show w.heap.size ≠ _; omega), hfar _ _ k3 (by show w.heap.size + 1 ≠ _; omega), hfar _ _ c0 hbne, hfar _ _ c1 hbne, hfar _ _ c2 hbne, hfar _ _ c3 hbne, hfar _ _ c4 hbne, hfar _ _ c5 hbne, hfar _ _ c6 hbne⟩ (fun hHeld => ?_)
          refine wpAnyH_done (by kernel_rfl) ?_ _
          exact ⟨rfl, _, hk7, rfl⟩
  case done =>
    rintro D ys W hD hrows ⟨⟨hb1, hb2, hb3⟩, hB⟩ hK
    have c0 := hb1.cell
    have hv : workTo l v (ys.map (·.1)) = Cad.higher l i v := by rw [show ys.map (·.1) = mem M from hrows, hmm.out, hb.out]
    rw [hv] at c0
    gi_wp2
    refine ⟨by simp, .inl ⟨_, _, rfl, run_takeDeferred hK, ?_⟩⟩
    exact ⟨_, results_tmp rfl _ _ _, rfl, hB.trans (belowK_b (w := w) (Nat.le_refl _) W D _ _ (by simp at hD; omega) hK rfl rfl)⟩
  case stop =>
    rintro D c pre W _ _ h _
    exact h.elim
theorem HigherW_any (l : List Task) (hmay : May l) (hfit : ∀ t ∈ l, t.fits) (i : Nat) (hi : i < l.length) (v : Int) (hv : 0 < v) (hv2 : v ≤ 1099511627776) (A : Option Addr) (c : Nat) (w : World) (hrow : tasksRow w A l) (hT : Tab64 w) :
    Calls Tryz.prog 108 #[.slice A l.length c, .int .i64 i, .int .u64 v] w fun e w' => e = .returned (.int .u64 (Cad.higher l i v)) ∧ Kept w w' :=
  callsIn_wide.1 (Higher_in Fence.wide rfl 3 (by decide) l hmay hfit i hi v hv hv2 A c w hrow hT)
set_option maxRecDepth 100000 in
theorem HigherW_zero (l : List Task) (i : Int) (A : Option Addr) (c : Nat) (w : World) :
    Calls Tryz.prog 108 #[.slice A l.length c, .int .i64 i, .int .u64 0] w fun e w' => e = .returned (.int .u64 0) ∧ Kept w w' := by
  go_enter Tryz.func108, Tryz.ntmps108
  go_wp2
  go_ret
  exact ⟨rfl, (((Kept.refl w).alloc _).alloc _).alloc _⟩
/-- What is needed of so many ticks; of none: nothing that is more urgent. -/
def needZ (l : List Task) (i : Nat) (v : Int) : Int := if v = 0 then (tsk l i).c + Cad.block l i else Cad.need l i v
def highZ (l : List Task) (i : Nat) (v : Int) : Int := if v = 0 then 0 else Cad.higher l i v
theorem HigherZ_any (l : List Task) (hmay : May l) (hfit : ∀ t ∈ l, t.fits) (i : Nat) (hi : i < l.length) (v : Int) (hv : 0 ≤ v) (hv2 : v ≤ 1099511627776) (A : Option Addr) (c : Nat) (w : World) (hrow : tasksRow w A l) (hT : Tab64 w) :
    Calls Tryz.prog 108 #[.slice A l.length c, .int .i64 i, .int .u64 v] w fun e w' => e = .returned (.int .u64 (highZ l i v)) ∧ Kept w w' := by
  unfold highZ
  by_cases h : v = 0
  · subst h
    rw [if_pos rfl]
    exact HigherW_zero l i A c w
  · rw [if_neg h]
    exact HigherW_any l hmay hfit i hi v (by omega) hv2 A c w hrow hT
end Go.Proofs.YtphdcoegkfmaeaaGreatDoor
