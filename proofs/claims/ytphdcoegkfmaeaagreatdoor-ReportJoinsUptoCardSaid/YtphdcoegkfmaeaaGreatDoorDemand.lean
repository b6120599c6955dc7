/- Package demand: is, Block. -/
import Derived.Test.YtphdcoegkfmaeaaGreatDoorHigher
import Derived.Test.YtphdcoegkfmaeaaGreatDoorSum
import Derived.Test.YtphdcoegkfmaeaaGreatDoorBound
import Derived.RangeFuncWrites
import Derived.Deep.RegionHeld3
import Derived.Lib.Hide
import Derived.IntWalk
set_option linter.unusedVariables false
set_option linter.unusedSimpArgs false
namespace Go.Proofs.YtphdcoegkfmaeaaGreatDoor
open Go.RowKit Cad Go.Shelf
attribute [local go_sem] Oper.semAt_some

/-- The set may be, and there is such a place. -/
noncomputable def isB (l : List Task) (i : Int) : Bool := decide ((checkAll l).2 = 0) && decide (0 ≤ i ∧ i < l.length)
theorem isB_may {l : List Task} {i : Nat} (h : May l) (hi : i < l.length) : isB l i = true := by
  unfold isB; unfold May at h; simp [h, hi]
set_option maxRecDepth 100000 in
set_option maxHeartbeats 1000000 in
theorem dIs_any (l : List Task) (hfit : ∀ t ∈ l, t.fits) (hlen : l.length ≤ 9223372036854775807) (i : Int) (A : Option Addr) (c : Nat) (w : World) (hrow : tasksRow w A l) :
    Calls Tryz.prog 105 #[.slice A l.length c, .int .i64 i] w fun e w' => e = .returned (.bool (isB l i)) ∧ Kept w w' := by
  have C := CheckAll_any l hfit hlen A c w hrow
  unfold isB
  generalize checkAll l = r at *
  obtain ⟨a, e⟩ := r
  simp only at C ⊢
  by_cases he : e = 0
  · subst he
    go_enter Tryz.func105, Tryz.ntmps105
    go_wp2_with (go_at_call 52; refine C.mono ?_; rintro e w' ⟨rfl, hk⟩)
    all_goals
      go_ret
      refine ⟨ret_b ?_, hk⟩
      rw [Bool.eq_iff_iff]
      simp
      try omega
  · have he2 : ((e : Int) == 0) = false := by simp [he]
    go_enter Tryz.func105, Tryz.ntmps105
    go_wp2_with (go_at_call 52; refine C.mono ?_; rintro e w' ⟨rfl, hk⟩)
    go_ret
    refine ⟨ret_b ?_, hk⟩
    simp [he]

/-- How long one is blocked, so far. -/
def blockTo (l : List Task) (ks : List Nat) : Int := ks.foldl (fun b k => max b ((tsk l k).q - 1)) 0
theorem blockTo_snoc (l : List Task) (ks : List Nat) (k : Nat) : blockTo l (ks ++ [k]) = max (blockTo l ks) ((tsk l k).q - 1) := by unfold blockTo; rw [List.foldl_append]; rfl
theorem blockTo_ge (l : List Task) : ∀ ks, 0 ≤ blockTo l ks := fun ks => by
  refine rev_ind (P := fun ks => 0 ≤ blockTo l ks) (Int.le_refl _) (fun ks k ih => ?_) ks
  rw [blockTo_snoc]; omega
theorem blockTo_le (l : List Task) (B : Int) (h0 : 0 ≤ B) : ∀ ks, (∀ k ∈ ks, (tsk l k).q - 1 ≤ B) → blockTo l ks ≤ B := fun ks => by
  refine rev_ind (P := fun ks => (∀ k ∈ ks, (tsk l k).q - 1 ≤ B) → blockTo l ks ≤ B) (fun _ => h0) (fun ks k ih h => ?_) ks
  rw [blockTo_snoc]
  have := ih (fun j hj => h j (by simp [hj]))
  have := h k (by simp)
  omega
theorem block_is (l : List Task) (i : Nat) : blockTo l (places (loB l i) l) = Cad.block l i := by
  unfold places Cad.block
  induction l.length with
  | zero => rfl
  | succ n ih =>
    rw [List.range_succ, List.filter_append]
    show _ = max (maxN _ n) _
    rw [← ih]
    unfold loB
    by_cases h : (tsk l i).p < (tsk l n).p
    · simp only [List.filter_cons, List.filter_nil, h, decide_true, if_true]
      rw [blockTo_snoc]
    · simp only [List.filter_cons, List.filter_nil, h, decide_false, if_false]
      have := blockTo_ge l ((List.range n).filter fun j => decide ((tsk l i).p < (tsk l j).p))
      simp
      omega

theorem boxed_own' {β : Type} (B : Nat) (t : TypeId) (v : β → Value) : Own (fun (s : β) W => Boxed W B t (v s)) := fun s A C row hs hg hr => hs.kept hg (fun e => by
  obtain ⟨o, ho, hc⟩ := hr B e.symm
  rw [show A.heap[B]? = _ from hs] at ho
  cases ho
  cases hc)

set_option maxRecDepth 100000 in
set_option maxHeartbeats 2000000 in
theorem Block_in (F : Fence) (hF : F = Fence.wide) (n : Nat) (hn : 3 ≤ n) (l : List Task) (hmay : May l) (hfit : ∀ t ∈ l, t.fits) (i : Nat) (hi : i < l.length) (A : Option Addr) (c : Nat) (w : World) (hrow : tasksRow w A l) (hT : Tab64 w) :
    CallsIn F n Tryz.prog 107 #[.slice A l.length c, .int .i64 i] w fun e w' => e = .returned (.int .i64 (Cad.block l i)) ∧ Kept w w' := by
  have hl : l.length ≤ 1024 := (may_iff.1 hmay).2.1
  have h1 : 1 ≤ n := by omega
  have h11 : 1 ≤ n - 1 - 1 := by omega
  have hro : F.round = none := by rw [hF]; rfl
  have hf0 : F.fn 107 := by rw [hF]; trivial
  have hf1 : F.fn 105 := by rw [hF]; trivial
  have hf2 : F.fn 127 := by rw [hF]; trivial
  have hf3 : F.fn 128 := by rw [hF]; trivial
  have hf4 : F.fn 144 := by rw [hF]; trivial
  have HF := Lib.hid hF
  clear hF
  have hb := Lib.hid (block_is l i)
  have hmm := Lib.hid (mem_mask (loB l i) l hl)
  refine callsIn_of_wp_marks Tryz.func107 rfl hf0 ?_ hro
  simp only [Tryz.ntmps107, List.size_toArray, List.length_cons, List.length_nil, Nat.reduceAdd, Nat.reduceSub, Array.replicate_succ, Array.replicate_zero, List.push_toArray, List.append_toArray, List.nil_append, List.cons_append]
  have K1 := ((Kept.refl w).alloc (.cells #[.slice A l.length c] 23)).alloc (.cells #[.int .i64 0] 2)
  have CI := dIs_any l hfit (by omega) i A c _ (hrow.kept K1)
  rw [isB_may hmay hi] at CI
  have CL : ∀ W, Kept w W → Calls Tryz.prog 127 #[.slice A l.length c, .int .i64 i] W fun e w' => e = .returned (.agg (setCells (mask (loB l i) l l.length))) ∧ Kept W w' := fun W hk => Lower_any l i hi hl A c W (hrow.kept hk)
  generalize hM : mask (loB l i) l l.length = M at *
  gi_wp2_with (first
    | (gi_at_call 105; refine (wideIn HF.out CI).mono ?_; rintro e w2 ⟨rfl, hk2⟩; have K2 := K1.trans hk2; have cA := hk2.cell (p := ⟨w.heap.size, 0, none⟩) (u := .slice A l.length c) (by rw [Lib.cell_of_heap (heap_alloc2_old w _ _)]; rfl))
    | (gi_at_call 127; refine (wideIn HF.out (CL _ K2)).mono ?_; rintro e w3 ⟨rfl, hk3⟩)
    | (gi_at_call 128; refine (wideIn HF.out (All_any M _)).mono ?_; rintro e w4 ⟨rfl, rfl⟩))
  have K3 := K2.trans hk3
  have K4 := K3.alloc (.cells (setCells M) 176)
  have hk4 : Kept ((w.alloc (.cells #[.slice A l.length c] 23)).alloc (.cells #[.int .i64 0] 2)) (w3.alloc (.cells (setCells M) 176)) := (hk2.trans hk3).alloc _
  have bA : Boxed (w3.alloc (.cells (setCells M) 176)) w.heap.size 23 (.slice A l.length c) := hk4.heap (heap_alloc2_old w _ _)
  have bB : Boxed (w3.alloc (.cells (setCells M) 176)) (w.heap.size + 1) 2 (.int .i64 0) := hk4.heap (heap_alloc2_new w _ _)
  have hBs := heap_alloc_new w3 (.cells (setCells M) 176)
  have hT4 := hT.kept K4
  have hg : 5 < w3.heap.size := Nat.lt_of_lt_of_le (World.block_lt_of_cell? w _ (hT 0 (by decide))) K3.size
  have hs3 : w.heap.size + 2 ≤ w3.heap.size := by have := (hk2.trans hk3).size; simp at this; omega
  have hg0 : 5 < w.heap.size := World.block_lt_of_cell? w _ (hT 0 (by decide))
  have hseq := All_stops (n - 1) (by omega) w3.heap.size M (w3.alloc (.cells (setCells M) 176)) hBs hT4 hg
  rw [← HF.out] at hseq
  refine wpIn_rangeFunc_ownG hro h1 (gf := 144) (lb := #[.pointer (some ⟨w3.heap.size, 0, none⟩)]) ?hg hf4 (enters_of Tryz.func144 (by kernel_rfl) rfl)
    hseq (fun h k => KeepS.trans h k) (fun W l o o' _ hl hc _ => KeepS.put o' hl hc) (Below.refl _ _) ?hps
    (fun pre W => (Boxed W (w.heap.size + 1) 2 (.int .i64 (blockTo l (pre.map (·.1)))) ∧ Boxed W w.heap.size 23 (.slice A l.length c)) ∧ Below w.heap.size w W)
    (fun _ _ _ => False)
    (OwnFrom.and (Own.from (Own.and (boxed_own' _ _ (fun pre : List { x : Nat // x ∈ mem M } => Value.int .i64 (blockTo l (pre.map (·.1))))) (boxed_own' _ _ (fun _ => .slice A l.length c))) _) (ownFrom_below (Nat.le_refl _) (by simp; omega)))
    (fun _ _ _ _ _ hs _ _ => hs)
    ⟨⟨bB, bA⟩, K4⟩
    (fun x => { tmps := #[.slice A l.length c, .int .i64 i, .pointer (some ⟨w.heap.size, 0, none⟩), undef, .int .i64 0, .pointer (some ⟨w.heap.size + 1, 0, none⟩), .int .i64 (x.1 : Int), .slice A l.length c, .int .i64 i, .bool true, .bool false, undef, .slice A l.length c, .int .i64 i, .agg (setCells M), .func (.func 144) #[] #[.pointer (some ⟨w3.heap.size, 0, none⟩)], .int .i64 (x.1 : Int), undef, undef, undef, undef, undef, undef, undef, undef, undef], defers := [] }) ?assign ?body ?done ?stop
  case hg => rfl
  case hps => intro x; rfl
  case assign =>
    intro l x W K hK
    gi_wp2
    exact hK
  case body =>
    rintro L pre x W ⟨⟨hb1, hb2⟩, hB⟩ _
    have hx : x.1 ∈ places (loB l i) l := by rw [← hmm.out]; exact x.2
    have hxl : x.1 < l.length := List.mem_range.1 (List.mem_filter.1 hx).1
    obtain ⟨b, off, rfl, -, -, -, -, -, c5, -⟩ := (hrow.kept (show Kept w W from hB)).range (tsk_some hxl)
    have hbt := blockTo_snoc l (pre.map (·.1)) x.1
    have Hbt := Lib.hid hbt
    have hbg := blockTo_ge l (pre.map (·.1))
    have hq := (may_valid hmay).ok x.1 hxl
    have q1 := hq.q1
    have q2 := hq.qc
    have q3 := hq.cd
    have q4 := hq.j0
    have q5 := hq.dt
    have q6 := hq.tm
    have hbl : blockTo l (pre.map (·.1)) ≤ 2147483647 := blockTo_le l _ (by decide) _ (fun k hk => by
      obtain ⟨z, _, rfl⟩ := List.mem_map.1 hk
      have hz : z.1 ∈ places (loB l i) l := by rw [← hmm.out]; exact z.2
      have hzl : z.1 < l.length := List.mem_range.1 (List.mem_filter.1 hz).1
      have hz := (may_valid hmay).ok z.1 hzl
      have := hz.qc; have := hz.cd; have := hz.j0; have := hz.dt; have := hz.tm; omega)
    generalize hy : tsk l x.1 = y at *
    generalize hz : blockTo l (pre.map (·.1)) = z at *
    have k1 := hb1.cell
    have k2 := hb2.cell
    have f1 := hb1.frozen
    have hi1 : (x.1 : Int) < l.length := by omega
    clear hbt hx hy hz hq hseq CI CL hBs
    have hw64 : IntKind.i64.wrap (y.q - 1) = y.q - 1 := IntWalk.i64_in _ (by omega)
    have hV : (if z < IntKind.i64.wrap (y.q - 1) then IntKind.i64.wrap (y.q - 1) else z) = max z (y.q - 1) := by rw [hw64]; split <;> omega
    have HV := Lib.hid hV
    clear hw64 hV
    gi_wp2
    gi_region
    all_goals
      rw [HV.out, ← Hbt.out]
      have e1 : List.map (fun x => x.1) (pre ++ [x]) = List.map (fun x => x.1) pre ++ [x.1] := by simp
      rw [← e1]
      refine ⟨((KeepsOthers.setCell _ _ _).trans (KeepsOthers.drew _)).from _, ?_, ⟨(hb1.set _ : Boxed (W.setCell _ _) _ _ _), (hb2.other (by omega) _ : Boxed (W.setCell _ _) _ _ _)⟩, (hB.setCell (p := ⟨w.heap.size + 1, 0, none⟩) (by simp) _).drew⟩
      exact (KeepS.set (by omega) (by omega) _).trans (KeepS.kept (Kept.refl _).drew)
  case done =>
    rintro D ys W hD hrows ⟨⟨hb1, hb2⟩, hB⟩ hK
    have c0 := hb1.cell
    have hv : blockTo l (ys.map (·.1)) = Cad.block l i := by rw [show ys.map (·.1) = mem M from hrows, hmm.out, hb.out]
    rw [hv] at c0
    gi_wp2
    refine ⟨by simp, .inl ⟨_, _, rfl, run_takeDeferred hK, ?_⟩⟩
    exact ⟨_, results_tmp rfl _ _ _, rfl, hB.trans (belowK_b (w := w) (Nat.le_refl _) W D _ _ (by simp at hD; omega) hK rfl rfl)⟩
  case stop =>
    rintro D c pre W _ _ h _
    exact h.elim
theorem Block_any (l : List Task) (hmay : May l) (hfit : ∀ t ∈ l, t.fits) (i : Nat) (hi : i < l.length) (A : Option Addr) (c : Nat) (w : World) (hrow : tasksRow w A l) (hT : Tab64 w) :
    Calls Tryz.prog 107 #[.slice A l.length c, .int .i64 i] w fun e w' => e = .returned (.int .i64 (Cad.block l i)) ∧ Kept w w' :=
  callsIn_wide.1 (Block_in Fence.wide rfl 3 (by decide) l hmay hfit i hi A c w hrow hT)
end Go.Proofs.YtphdcoegkfmaeaaGreatDoor
