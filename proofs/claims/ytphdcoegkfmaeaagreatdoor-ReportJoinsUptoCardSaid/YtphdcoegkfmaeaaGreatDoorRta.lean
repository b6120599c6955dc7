/- Package rta: how a bound is reckoned. -/
import Derived.Test.YtphdcoegkfmaeaaGreatDoorNeedW
set_option linter.unusedVariables false
set_option linter.unusedSimpArgs false
namespace Go.Proofs.YtphdcoegkfmaeaaGreatDoor
open Go.RowKit Cad Go.Shelf
attribute [local go_sem] Oper.semAt_some

/-! ### The plain law -/
/-- Nothing below is enough. -/
def NoneBelow (l : List Task) (i : Nat) (w : Int) : Prop := 1 ≤ w ∧ ∀ y, 1 ≤ y → y < w → y < Cad.need l i y
theorem none_first {l : List Task} (hv : Valid l) {i : Nat} (hi : i < l.length) : NoneBelow l i ((tsk l i).c + Cad.block l i) := by
  have h1 := (hv.ok i hi).c1
  have h2 := Cad.block_nonneg l i
  refine ⟨by omega, fun y hy hlt => ?_⟩
  have h3 := Cad.higher_nonneg hv i (w := y) (by omega)
  unfold Cad.need
  omega
theorem none_step {l : List Task} (hv : Valid l) {i : Nat} (hi : i < l.length) {w : Int} (h : NoneBelow l i w) (hne : Cad.need l i w ≠ w) : NoneBelow l i (Cad.need l i w) ∧ w < Cad.need l i w := by
  obtain ⟨h1, h2⟩ := h
  have hp := Cad.need_pos hv hi (w := w) (by omega)
  have hlt : w < Cad.need l i w := by
    rcases Int.lt_trichotomy (Cad.need l i w) w with hl | he | hg
    · have h3 := h2 (Cad.need l i w) (by omega) hl
      have h4 := Cad.need_mono hv i (w := Cad.need l i w) (w' := w) (by omega)
      omega
    · exact absurd he hne
    · exact hg
  exact ⟨⟨by omega, Cad.reckon_step hv h2 (by omega)⟩, hlt⟩
/-- A task's bound, and an error. -/
noncomputable def rtaB (l : List Task) (i : Nat) : Int × Int := match bnd l i with
  | some r => (r + (tsk l i).j, 0)
  | none => (0, 16)
/-- How a reckoning ends. -/
def EndsAt (l : List Task) (i : Nat) (w : Int) : Prop := NoneBelow l i w ∧ ((tsk l i).d - (tsk l i).j < w ∨ (w ≤ (tsk l i).d - (tsk l i).j ∧ Cad.need l i w = w))
theorem rtaB_end {l : List Task} (hv : Valid l) {i : Nat} {w : Int} (h : EndsAt l i w) : rtaB l i = if (tsk l i).d - (tsk l i).j < w then (0, 16) else (w + (tsk l i).j, 0) := by
  unfold rtaB
  rcases h.2 with h2 | ⟨h2, h3⟩
  · rw [if_pos h2, reckon_miss h2 h.1.2]
  · rw [if_neg (by omega), reckon_end hv h.1.1 h2 h.1.2 h3]

/-! ### The walk -/
/-- Every block but one stays. -/
def KeepP (s : Nat) (W W' : World) : Prop := ∀ k cs T fr, k ≠ s → W.heap[k]? = some (.cells cs T fr) → W'.heap[k]? = some (.cells cs T fr)
theorem KeepP.refl {s : Nat} (W : World) : KeepP s W W := fun _ _ _ _ _ h => h
theorem KeepP.trans {s : Nat} {A B C : World} (h : KeepP s A B) (k : KeepP s B C) : KeepP s A C := fun _ _ _ _ hn e => k _ _ _ _ hn (h _ _ _ _ hn e)
theorem KeepP.kept {s : Nat} {W W' : World} (h : Kept W W') : KeepP s W W' := fun _ _ _ _ _ e => h.heap e
theorem KeepP.set {s : Nat} {W : World} (u : Value) : KeepP s W (W.setCell ⟨s, 0, none⟩ u) := fun _ _ _ _ hn e => (heap_setCell_other _ _ _ _ hn).trans e
theorem KeepP.put {s : Nat} {W : World} {l : Nat} {o : Obj} (o' : Obj) (hl : W.heap[l]? = some o) (hc : o.isCells = false) : KeepP s W (W.putObj l o') := fun k cs T fr _ e => by
  by_cases hne : k = l
  · subst hne; rw [e] at hl; cases hl; cases hc
  · rw [World.putObj_heap_other hne]; exact e
theorem KeepP.cell {s : Nat} {W W' : World} (h : KeepP s W W') {p : Addr} {u : Value} (hn : p.block ≠ s) (hc : W.cell? p = some u) : W'.cell? p = some u := by
  obtain ⟨o, ho, hx⟩ := cells_of_cell hc
  cases o <;> first | (cases hx; done) | skip
  rename_i cs T fr
  exact (World.cell?_of_block ((h _ _ _ _ hn ho).trans ho.symm)).trans hc
/-- What a reckoning reads. -/
structure Reads (l : List Task) (i : Nat) (A : Option Addr) (c bl bi s : Nat) (W : World) : Prop where
  l0 : W.heap[bl]? = some (.cells #[.slice A l.length c] 23 (0, 0))
  i0 : W.heap[bi]? = some (.cells #[.int .i64 i] 3 (0, 0))
  row : tasksRow W A l
  tab : Tab64 W
  ln : bl ≠ s
  inn : bi ≠ s
  tn : 5 ≠ s
  rn : ∀ b off, A = some ⟨b, off, none⟩ → b ≠ s
theorem Reads.keep {l : List Task} {i : Nat} {A : Option Addr} {c bl bi s : Nat} {W W' : World} (h : Reads l i A c bl bi s W) (hk : KeepP s W W') : Reads l i A c bl bi s W' where
  l0 := hk _ _ _ _ h.ln h.l0
  i0 := hk _ _ _ _ h.inn h.i0
  row := fun hn => by
    obtain ⟨b, off, e, hb, hc⟩ := h.row hn
    have hlen : 0 < (l.flatMap Task.cells).length := hn
    have h0 := hk.cell (h.rn b off e) (hc 0 _ (List.getElem?_eq_getElem hlen))
    exact ⟨b, off, e, World.block_lt_of_cell? W' _ h0, fun j u hu => hk.cell (h.rn b off e) (hc j u hu)⟩
  tab := fun j hj => hk.cell h.tn (h.tab j hj)
  ln := h.ln
  inn := h.inn
  tn := h.tn
  rn := h.rn

set_option maxRecDepth 100000 in
theorem rIs_any (l : List Task) (hfit : ∀ t ∈ l, t.fits) (hlen : l.length ≤ 9223372036854775807) (i : Int) (A : Option Addr) (c : Nat) (w : World) (hrow : tasksRow w A l) :
    Calls Tryz.prog 53 #[.slice A l.length c, .int .i64 i] w fun e w' => e = .returned (.bool (isB l i)) ∧ Kept w w' := by
  have C := CheckAll_any l hfit hlen A c w hrow
  unfold isB
  generalize checkAll l = r at *
  obtain ⟨a, e⟩ := r
  simp only at C ⊢
  by_cases he : e = 0
  · subst he
    go_enter Tryz.func53, Tryz.ntmps53
    go_wp2_with (go_at_call 52; refine C.mono ?_; rintro e w' ⟨rfl, hk⟩)
    all_goals
      go_ret
      refine ⟨ret_b ?_, hk⟩
      rw [Bool.eq_iff_iff]
      simp
      try omega
  · have he2 : ((e : Int) == 0) = false := by simp [he]
    go_enter Tryz.func53, Tryz.ntmps53
    go_wp2_with (go_at_call 52; refine C.mono ?_; rintro e w' ⟨rfl, hk⟩)
    go_ret
    refine ⟨ret_b ?_, hk⟩
    simp [he]
theorem Each_any (A : Option Addr) (len c : Nat) (i : Int) (w : World) : Calls Tryz.prog 54 #[.slice A len c, .int .i64 i] w fun e w' =>
    e = .returned (.func (.func 77) #[] #[.pointer (some ⟨w.heap.size, 0, none⟩), .pointer (some ⟨w.heap.size + 1, 0, none⟩)]) ∧ w' = (w.alloc (.cells #[.slice A len c] 23)).alloc (.cells #[.int .i64 i] 3) := by
  go_enter Tryz.func54, Tryz.ntmps54
  go_wp2
  go_ret
  exact ⟨rfl, rfl⟩
end Go.Proofs.YtphdcoegkfmaeaaGreatDoor
