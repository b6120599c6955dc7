/- report.lines, report.Analyze: the walk. -/
import Derived.Test.YtphdcoegkfmaeaaGreatDoorRtaBound
import Derived.Test.YtphdcoegkfmaeaaGreatDoorLineRows
set_option linter.unusedVariables false
set_option linter.unusedSimpArgs false
namespace Go.Proofs.YtphdcoegkfmaeaaGreatDoor
open Go.RowKit Cad

def lnOf (l : List Task) (rs : Nat → Int × Int) (i : Nat) : Line := ⟨(tsk l i).name, (rs i).1, (rs i).2 == 0⟩
def lnTo (l : List Task) (rs : Nat → Int × Int) (k : Nat) : List Line := (List.range k).map (lnOf l rs)
def lnL (l : List Task) (rs : Nat → Int × Int) : List Line := lnTo l rs l.length
theorem lnTo_snoc (l : List Task) (rs : Nat → Int × Int) (k : Nat) : lnTo l rs (k + 1) = lnTo l rs k ++ [lnOf l rs k] := by
  unfold lnTo; rw [List.range_succ, List.map_append]; rfl
theorem lnL_length (l : List Task) (rs : Nat → Int × Int) : (lnL l rs).length = l.length := by simp [lnL, lnTo]
theorem lnTo_length (l : List Task) (rs : Nat → Int × Int) (k : Nat) : (lnTo l rs k).length = k := by simp [lnTo]
theorem heap_alloc_at (w : World) (o : Obj) : (w.alloc o).heap[w.heap.size]? = some o := heap_alloc_new w o
theorem cells_one (w : World) (x : Line) (T : TypeId) : ∀ (j : Nat) (u : Value), x.cells[j]? = some u → (w.alloc (.cells #[.string x.name, .int .i64 x.r, .bool x.ok] T)).cell? ((⟨w.heap.size, 0, none⟩ : Addr).add j) = some u := by
  intro j u hu
  have e : (⟨w.heap.size, 0, none⟩ : Addr).add j = ⟨w.heap.size, j, none⟩ := by unfold Addr.add; split <;> simp_all
  rw [e, World.cell?_alloc_mark]
  have : (#[Value.string x.name, .int .i64 x.r, .bool x.ok] : Array Value)[j]? = x.cells[j]? := by simp [Line.cells]
  rw [this]; exact hu

set_option maxRecDepth 100000 in
set_option maxHeartbeats 4000000 in
theorem lines_any (l : List Task) (hmay : May l) (hfit : ∀ t ∈ l, t.fits) (rs : Nat → Int × Int) (f : FuncId) (ep : ∀ args w, (callFunc f args).run Tryz.prog w = .ok (.enter f args) w) (A : Option Addr) (c : Nat) (w : World) (hrow : tasksRow w A l) (hne : ∀ i, i < l.length → (rs i).2 ≠ 15) (hi64 : ∀ i, i < l.length → I64 (rs i).1)
    (hf : ∀ W i, Kept w W → i < l.length → Calls Tryz.prog f #[.slice A l.length c, .int .i64 (i : Int)] W fun e w' => e = .returned (.tuple #[.int .i64 (rs i).1, .int .i64 (rs i).2]) ∧ Kept W w') :
    Calls Tryz.prog 33 #[.slice A l.length c, .func (.func f) #[] #[]] w fun e w' => ∃ B cap, e = .returned (.tuple #[.slice B l.length cap, .int .i64 0]) ∧ l.length ≤ cap ∧ linesRow w' B (lnL l rs) ∧ Kept w w' := by
  obtain ⟨i0, hi0, iz0, iz1, iz2⟩ := info_parts (show (Tryz.prog.info? 75).map (fun i => (i.zero, i.size, i.bytes)) = some (some (.agg #[.string ⟨#[]⟩, .int .i64 0, .bool false]), 3, 32) by kernel_rfl)
  obtain ⟨hl1, hl2, -⟩ := may_iff.1 hmay
  have CA := CheckAll_any l hfit (by omega) A c w hrow
  rw [may_all hmay] at CA
  simp only at CA
  go_enter Tryz.func33, Tryz.ntmps33
  go_wp2_with (go_at_call 52; refine CA.mono ?_; rintro e w1 ⟨rfl, hk1⟩)
  have Hmay := Lib.hid hmay
  clear hmay CA
  go_loopw [8, 22] (fun ov iv wr => ∃ k : Nat, k ≤ l.length ∧ iv = .int .i64 k ∧ Kept w wr ∧ wr.ownsRow w.heap.size 75 3 ov k ((lnTo l rs k).flatMap Line.cells)) (fun _ iv _ => l.length - (intOf iv).toNat)
  case atStart => exact ⟨0, by omega, rfl, hk1, World.ownsRow_nil _ _ _ _⟩
  case round =>
    obtain ⟨k, hk, rfl, hK, hown⟩ := hrel
    obtain ⟨OA, ocap, rfl⟩ := own_slice hown
    by_cases he : k = l.length
    · have hlt : ¬ ((k : Int) < l.length) := by omega
      subst he
      have hcap : l.length ≤ ocap := by
        rcases hown.2 with ⟨_, h0⟩ | ⟨g, cap, cur, hv, hb1, hb2, hb3, hb4, hb5, hb6⟩
        · omega
        · cases hv; exact hb3
      go_wp2
      go_ret2
      exact ⟨_, _, rfl, hcap, Row.own hown, hK⟩
    · have hlt : ((k : Int) < l.length) := by omega
      obtain ⟨b, off, rfl, c0, c1, c2, c3, c4, c5, c6⟩ := (hrow.kept hK).range (tsk_some (l := l) (k := k) (by omega))
      have hsn := lnTo_snoc l rs k
      have hln : lnOf l rs k = ⟨(tsk l k).name, (rs k).1, (rs k).2 == 0⟩ := rfl
      have hall : Kept w (wr.alloc (.cells #[.string (tsk l k).name, .int .i64 (tsk l k).c, .int .i64 (tsk l k).t, .int .i64 (tsk l k).d, .int .i64 (tsk l k).j, .int .i64 (tsk l k).q, .int .i64 (tsk l k).p] 26)) := hK.alloc _
      have hF := hf _ k hall (by omega)
      have hz := hne k (by omega)
      generalize hx : tsk l k = x at *
      generalize hrk : rs k = r at *
      obtain ⟨r1, r2⟩ := r
      simp only at hF hz hln
      have hb15 : (r2 == 15) = false := by rw [beq_eq_false_iff_ne]; exact hz
      have Hsn := Lib.hid hsn
      have Hln := Lib.hid hln
      generalize hok : (r2 == 0) = ok at *
      have hlt4 := (show Kept w wr from hK).size
      clear hsn hln hz hx hrk hf
      go_wp2_with (first
        | (go_at_fn f; refine hF.mono ?_; rintro e w2 ⟨rfl, hk2⟩; have hk4 : Kept wr w2 := ((Kept.refl wr).alloc _).trans hk2; have hB2 := hk2.heap (heap_alloc_at wr _); have hn2 : w2.cell? ⟨wr.heap.size, 0, none⟩ = some (.string x.name) := by rw [Lib.cell_of_heap hB2]; rfl)
        | (at_builtin; go_loud (refine wpList_append_own _ rfl _ _ 38 rfl w.heap.size 75 i0 _ 3 32 Tryz.underlying38 hi0 iz0 iz1 iz2 rfl (by decide) _ k ((lnTo l rs k).flatMap Line.cells) rfl (ownsRow_kept hown (hk4.alloc _)) ⟨w2.heap.size, 0, none⟩ 1 1 (Line.mk x.name r1 ok).cells rfl rfl (cells_one w2 ⟨x.name, r1, ok⟩ _) (line_oneCell _) (by unfold maxLen; omega) (by omega) (by have := hk4.size; simp; omega) ?_; intro v' w4 hown4 hgrow _)))
      go_roundw
      case rel =>
        refine ⟨k + 1, by omega, by go_num, ((hK.trans hk4).alloc _).grown hgrow (fun g e => by have := (hown.lt _ e).1; omega), ?_⟩
        rw [Hsn.out, Hln.out, List.flatMap_append]
        have h6 : [(⟨x.name, r1, ok⟩ : Line)].flatMap Line.cells = (Line.mk x.name r1 ok).cells := by simp
        rw [h6]
        exact hown4
      case measure => simp [intOf]; omega

theorem rtaB_ne (l : List Task) (i : Nat) : (rtaB l i).2 ≠ 15 := by
  unfold rtaB; split <;> simp
theorem rtaB_nums {l : List Task} (hmay : May l) {i : Nat} (hi : i < l.length) : 0 ≤ (rtaB l i).1 ∧ (rtaB l i).1 ≤ 4294967294 := by
  have hv := may_valid hmay
  have hq := hv.ok i hi
  have q3 := hq.cd
  have q1 := hq.c1
  have q4 := hq.j0
  have q5 := hq.dt
  have q6 := hq.tm
  unfold rtaB
  cases hb : bnd l i with
  | some r =>
    obtain ⟨b1, b2, _, _⟩ := bnd_some hb
    simp only
    omega
  | none => simp
set_option maxRecDepth 100000 in
theorem Analyze_any (l : List Task) (hmay : May l) (hfit : ∀ t ∈ l, t.fits) (A : Option Addr) (c : Nat) (w : World) (hrow : tasksRow w A l) (hT : Tab64 w) :
    Calls Tryz.prog 14 #[.slice A l.length c] w fun e w' => ∃ B cap, e = .returned (.tuple #[.slice B l.length cap, .int .i64 0]) ∧ l.length ≤ cap ∧ linesRow w' B (lnL l (rtaB l)) ∧ Kept w w' := by
  have C := lines_any l hmay hfit (rtaB l) 34 (enters_of Tryz.func34 (by kernel_rfl) rfl) A c w hrow (fun i _ => rtaB_ne l i) (fun i hi => by have := rtaB_nums hmay hi; unfold I64; omega) (fun W i hk hi => Bound_any l hmay hfit i hi A c W (hrow.kept hk) (hT.kept hk))
  go_enter Tryz.func14, Tryz.ntmps14
  go_wp2_with (go_at_call 33; refine C.mono ?_; rintro e w1 ⟨B, cap, rfl, hc, hr, hk1⟩)
  go_ret2
  exact ⟨B, cap, rfl, hc, hr, hk1⟩
end Go.Proofs.YtphdcoegkfmaeaaGreatDoor
