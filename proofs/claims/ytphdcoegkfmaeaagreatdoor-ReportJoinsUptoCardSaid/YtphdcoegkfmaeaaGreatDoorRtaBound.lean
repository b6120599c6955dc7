/- rta.Bound. -/
import Derived.Test.YtphdcoegkfmaeaaGreatDoorRtaEach
set_option linter.unusedVariables false
set_option linter.unusedSimpArgs false
namespace Go.Proofs.YtphdcoegkfmaeaaGreatDoor
open Go.RowKit Cad Go.Shelf
attribute [local go_sem] Oper.semAt_some

noncomputable def boundZ (l : List Task) (i : Nat) : Int × Int := if isB l i then rtaB l i else (0, 1)
set_option maxRecDepth 100000 in
theorem Bound_no (l : List Task) (hfit : ∀ t ∈ l, t.fits) (hlen : l.length ≤ 9223372036854775807) (i : Int) (hno : isB l i = false) (A : Option Addr) (c : Nat) (w : World) (hrow : tasksRow w A l) :
    Calls Tryz.prog 34 #[.slice A l.length c, .int .i64 i] w fun e w' => e = .returned (.tuple #[.int .i64 0, .int .i64 1]) ∧ Kept w w' := by
  have CI := rIs_any l hfit hlen i A c w hrow
  rw [hno] at CI
  go_enter Tryz.func34, Tryz.ntmps34
  go_wp2_with (go_at_call 53; refine CI.mono ?_; rintro e w' ⟨rfl, hk⟩)
  go_ret2
  exact ⟨rfl, hk⟩

def lastOf (xs : List RW) : Int := (xs.getLast?.map (·.1)).getD 0
theorem lastOf_snoc (xs : List RW) (x : RW) : lastOf (xs ++ [x]) = x.1 := by simp [lastOf]
theorem heap3_a (w : World) (a b c : Obj) : (((w.alloc a).alloc b).alloc c).heap[w.heap.size]? = some a := by
  rw [heap_alloc_old _ c (by simp; omega)]; exact heap_alloc2_old w a b
theorem heap3_b (w : World) (a b c : Obj) : (((w.alloc a).alloc b).alloc c).heap[w.heap.size + 1]? = some b := by
  rw [heap_alloc_old _ c (by simp)]; exact heap_alloc2_new w a b
theorem heap3_c (w : World) (a b c : Obj) : (((w.alloc a).alloc b).alloc c).heap[w.heap.size + 1 + 1]? = some c := by
  have h := heap_alloc2_new (w.alloc a) b c
  rw [World.size_alloc] at h
  exact h

set_option maxRecDepth 100000 in
set_option maxHeartbeats 4000000 in
theorem Bound_in (F : Fence) (hF : F = Fence.wide) (n : Nat) (hn : 3 ≤ n) (l : List Task) (hmay : May l) (hfit : ∀ t ∈ l, t.fits) (i : Nat) (hi : i < l.length) (A : Option Addr) (c : Nat) (w : World) (hrow : tasksRow w A l) (hT : Tab64 w) :
    CallsIn F n Tryz.prog 34 #[.slice A l.length c, .int .i64 i] w fun e w' => e = .returned (.tuple #[.int .i64 (rtaB l i).1, .int .i64 (rtaB l i).2]) ∧ Kept w w' := by
  have hl : l.length ≤ 1024 := (may_iff.1 hmay).2.1
  have h1 : 1 ≤ n := by omega
  have hro : F.round = none := by rw [hF]; rfl
  have hf0 : F.fn 34 := by rw [hF]; trivial
  have hf1 : F.fn 53 := by rw [hF]; trivial
  have hf3 : F.fn 54 := by rw [hF]; trivial
  have hf4 : F.fn 77 := by rw [hF]; trivial
  have HF := Lib.hid hF
  clear hF
  refine callsIn_of_wp_marks Tryz.func34 rfl hf0 ?_ hro
  simp only [Tryz.ntmps34, List.size_toArray, List.length_cons, List.length_nil, Nat.reduceAdd, Nat.reduceSub, Array.replicate_succ, Array.replicate_zero, List.push_toArray, List.append_toArray, List.nil_append, List.cons_append]
  have CI := rIs_any l hfit (by omega) i A c w hrow
  rw [isB_may hmay hi] at CI
  gi_wp2_with (first
    | (gi_at_call 53; refine (wideIn HF.out CI).mono ?_; rintro e w2 ⟨rfl, hk2⟩)
    | (gi_at_call 54; refine (wideIn HF.out (Each_any _ _ _ _ _)).mono ?_; rintro e w4 ⟨rfl, rfl⟩))
  obtain ⟨b, off, rfl, c0, -⟩ := hrow.range (tsk_some hi)
  have hbw : b < w.heap.size := World.block_lt_of_cell? w _ c0
  have hg0 : 5 < w.heap.size := World.block_lt_of_cell? w _ (hT 0 (by decide))
  have hs2 := hk2.size
  have K3 := ((hk2.alloc (.cells #[.int .u64 0] 104)).alloc (.cells #[.slice (some ⟨b, off, none⟩) l.length c] 23)).alloc (.cells #[.int .i64 i] 3)
  have hR : Reads l i (some ⟨b, off, none⟩) c (w2.heap.size + 1) (w2.heap.size + 1 + 1) w2.heap.size (((w2.alloc (.cells #[.int .u64 0] 104)).alloc (.cells #[.slice (some ⟨b, off, none⟩) l.length c] 23)).alloc (.cells #[.int .i64 i] 3)) :=
    ⟨heap3_b _ _ _ _, heap3_c _ _ _ _, hrow.kept K3, hT.kept K3, by omega, by omega, by omega, fun b2 off2 e => by cases e; omega⟩
  have bL : Boxed (((w2.alloc (.cells #[.int .u64 0] 104)).alloc (.cells #[.slice (some ⟨b, off, none⟩) l.length c] 23)).alloc (.cells #[.int .i64 i] 3)) w2.heap.size 104 (.int .u64 (lastOf [])) := heap3_a _ _ _ _
  have hseq := Each_stops (n - 1) (by omega) l hmay hfit i hi (some ⟨b, off, none⟩) c (w2.heap.size + 1) (w2.heap.size + 1 + 1) w2.heap.size _ hR
  rw [← HF.out] at hseq
  refine wpIn_rangeFunc_ownG hro h1 (gf := 77) (lb := #[.pointer (some ⟨w2.heap.size + 1, 0, none⟩), .pointer (some ⟨w2.heap.size + 1 + 1, 0, none⟩)]) ?hg hf4 (enters_of Tryz.func77 (by kernel_rfl) rfl)
    hseq (fun h k => KeepP.trans h k) (fun W l o o' _ hl hc _ => KeepP.put o' hl hc) (Below.refl _ _) ?hps
    (fun pre W => Boxed W w2.heap.size 104 (.int .u64 (lastOf pre)) ∧ Below w.heap.size w W)
    (fun _ _ _ => False)
    (OwnFrom.and (Own.from (boxed_own' _ _ (fun pre : List RW => Value.int .u64 (lastOf pre))) _) (ownFrom_below (Nat.le_refl _) (by simp; omega)))
    (fun _ _ _ _ _ hs _ _ => hs)
    ⟨bL, K3⟩
    (fun x => { tmps := #[.slice (some ⟨b, off, none⟩) l.length c, .int .i64 i, undef, undef, .int .i64 0, .int .i64 0, .pointer (some ⟨w2.heap.size, 0, none⟩), .int .u64 x.1, undef, .slice (some ⟨b, off, none⟩) l.length c, .int .i64 i, .bool true, .bool false, .slice (some ⟨b, off, none⟩) l.length c, .int .i64 i, .func (.func 77) #[] #[.pointer (some ⟨w2.heap.size + 1, 0, none⟩), .pointer (some ⟨w2.heap.size + 1 + 1, 0, none⟩)], .int .u64 x.1, undef, undef, undef, undef, undef, undef, undef, undef, undef, undef, undef, undef, undef, undef, undef, undef, undef, undef], defers := [] }) ?assign ?body ?done ?stop
  case hg => rfl
  case hps => intro x; rfl
  case assign =>
    intro l x W K hK
    gi_wp2
    exact hK
  case body =>
    rintro L pre x W ⟨hb1, hB⟩ _
    have k1 := hb1.cell
    have f1 := hb1.frozen
    clear hseq CI hR bL
    gi_wp2
    refine ⟨(KeepsOthers.setCell _ _ _).from _, KeepP.set _, ?_, hB.setCell (p := ⟨w2.heap.size, 0, none⟩) (by simp; omega) _⟩
    rw [lastOf_snoc]
    exact hb1.set _
  case done =>
    rintro D ys W hD ⟨zs, x, rfl, hend⟩ ⟨hb1, hB⟩ hK
    rw [lastOf_snoc] at hb1
    have k1 := hb1.cell
    have hF := HF.out
    subst hF
    obtain ⟨_, _, hAe, c0, c1, c2, c3, c4, c5, c6⟩ := (hrow.kept (show Kept w W from hB)).range (tsk_some hi)
    cases hAe
    have hv := rtaB_end (may_valid hmay) hend
    have hz1 : (0:Int) ≤ i := by omega
    have hz2 : (i : Int) < l.length := by omega
    have hq := (may_valid hmay).ok i hi
    have q1 := hq.c1
    have q3 := hq.cd
    have q4 := hq.j0
    have q5 := hq.dt
    have q6 := hq.tm
    have hx1 := x.2.1
    have hx2 := x.2.2
    unfold bigW at hx2
    generalize hy : tsk l i = y at *
    have a1 := ((Kept.refl W).alloc (.cells #[.string y.name, .int .i64 y.c, .int .i64 y.t, .int .i64 y.d, .int .i64 y.j, .int .i64 y.q, .int .i64 y.p] 26)).cell k1
    clear hseq CI hR bL k1
    by_cases hm : y.d - y.j < x.1
    · have hd : decide (x.1 > y.d - y.j) = true := decide_eq_true hm
      rw [if_pos hm] at hv
      have HV := Lib.hid hv
      clear hv hm
      gi_wp2
      have hK2 := (heap_alloc_old W (.cells #[.string y.name, .int .i64 y.c, .int .i64 y.t, .int .i64 y.d, .int .i64 y.j, .int .i64 y.q, .int .i64 y.p] 26) (Array.getElem?_eq_some_iff.1 hK).1).trans hK
      rw [HV.out]
      refine ⟨by simp, .inl ⟨_, _, rfl, run_takeDeferred hK2, ?_⟩⟩
      exact ⟨_, results_tmp2 rfl _ _ _, rfl, Below.trans (show Below w.heap.size w _ from (show Kept w W from hB).alloc (.cells #[.string y.name, .int .i64 y.c, .int .i64 y.t, .int .i64 y.d, .int .i64 y.j, .int .i64 y.q, .int .i64 y.p] 26)) (belowK_b (w := w) (Nat.le_refl _) _ D _ _ (by simp at hD; omega) hK2 rfl rfl)⟩
    · have hd : decide (x.1 > y.d - y.j) = false := decide_eq_false hm
      rw [if_neg hm] at hv
      have HV := Lib.hid hv
      have hx3 : x.1 ≤ 2147483647 := by omega
      clear hv hm
      gi_wp2
      have hK2 := (heap_alloc_old W (.cells #[.string y.name, .int .i64 y.c, .int .i64 y.t, .int .i64 y.d, .int .i64 y.j, .int .i64 y.q, .int .i64 y.p] 26) (Array.getElem?_eq_some_iff.1 hK).1).trans hK
      rw [HV.out]
      refine ⟨by simp, .inl ⟨_, _, rfl, run_takeDeferred hK2, ?_⟩⟩
      exact ⟨_, results_tmp2 rfl _ _ _, rfl, Below.trans (show Below w.heap.size w _ from (show Kept w W from hB).alloc (.cells #[.string y.name, .int .i64 y.c, .int .i64 y.t, .int .i64 y.d, .int .i64 y.j, .int .i64 y.q, .int .i64 y.p] 26)) (belowK_b (w := w) (Nat.le_refl _) _ D _ _ (by simp at hD; omega) hK2 rfl rfl)⟩
  case stop =>
    rintro D c pre W _ _ h _
    exact h.elim
theorem Bound_any (l : List Task) (hmay : May l) (hfit : ∀ t ∈ l, t.fits) (i : Nat) (hi : i < l.length) (A : Option Addr) (c : Nat) (w : World) (hrow : tasksRow w A l) (hT : Tab64 w) :
    Calls Tryz.prog 34 #[.slice A l.length c, .int .i64 i] w fun e w' => e = .returned (.tuple #[.int .i64 (rtaB l i).1, .int .i64 (rtaB l i).2]) ∧ Kept w w' :=
  callsIn_wide.1 (Bound_in Fence.wide rfl 3 (by decide) l hmay hfit i hi A c w hrow hT)
end Go.Proofs.YtphdcoegkfmaeaaGreatDoor
