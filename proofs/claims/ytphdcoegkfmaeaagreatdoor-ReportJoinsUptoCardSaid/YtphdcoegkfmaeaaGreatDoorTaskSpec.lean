/- Tasks: how they lie in memory; when one may be, and when a set may be. -/
import Derived.Test.YtphdcoegkfmaeaaGreatDoorModel
import Derived.Test.YtphdcoegkfmaeaaGreatDoorWord
import Derived.Test.YtphdcoegkfmaeaaGreatDoorMem
set_option linter.unusedVariables false
set_option linter.unusedSimpArgs false
namespace Go.Proofs.YtphdcoegkfmaeaaGreatDoor
open Go.RowKit Cad

def Cad.Task.cells (t : Task) : List Value := [.string t.name, .int .i64 t.c, .int .i64 t.t, .int .i64 t.d, .int .i64 t.j, .int .i64 t.q, .int .i64 t.p]
def Cad.Task.val (t : Task) : Value := .agg #[.string t.name, .int .i64 t.c, .int .i64 t.t, .int .i64 t.d, .int .i64 t.j, .int .i64 t.q, .int .i64 t.p]
def I64 (n : Int) : Prop := -9223372036854775808 ≤ n ∧ n ≤ 9223372036854775807
/-- What every task in memory is. -/
structure Cad.Task.fits (t : Task) : Prop where
  nameS : t.name.size ≤ 1125899906842624
  c64 : I64 t.c
  t64 : I64 t.t
  d64 : I64 t.d
  j64 : I64 t.j
  q64 : I64 t.q
  p64 : I64 t.p
def tasksRow (w : World) (A : Option Addr) (l : List Task) : Prop := Row w A (l.flatMap Task.cells)
theorem tasksRow.kept {w w' : World} {A : Option Addr} {l : List Task} (h : tasksRow w A l) (hk : Kept w w') : tasksRow w' A l := Row.kept h hk
theorem tasksRow.range {w : World} {A : Option Addr} {l : List Task} (h : tasksRow w A l) {k : Nat} {x : Task} (hx : l[k]? = some x) :
    ∃ b off, A = some ⟨b, off, none⟩ ∧ w.cell? ⟨b, off + k * 7, none⟩ = some (.string x.name) ∧ w.cell? ⟨b, off + k * 7 + 1, none⟩ = some (.int .i64 x.c) ∧ w.cell? ⟨b, off + k * 7 + 2, none⟩ = some (.int .i64 x.t) ∧
      w.cell? ⟨b, off + k * 7 + 3, none⟩ = some (.int .i64 x.d) ∧ w.cell? ⟨b, off + k * 7 + 4, none⟩ = some (.int .i64 x.j) ∧ w.cell? ⟨b, off + k * 7 + 5, none⟩ = some (.int .i64 x.q) ∧ w.cell? ⟨b, off + k * 7 + 6, none⟩ = some (.int .i64 x.p) := by
  have hk : k < l.length := (List.getElem?_eq_some_iff.1 hx).1
  obtain ⟨b, off, e, hb, hc⟩ := h (by rw [flat_length (f := Task.cells) (size := 7) (fun _ => rfl)]; omega)
  have hat : ∀ j v, x.cells[j]? = some v → w.cell? ⟨b, off + k * 7 + j, none⟩ = some v := fun j v hj => by
    have hj3 : j < 7 := (List.getElem?_eq_some_iff.1 hj).1
    have := hc (k * 7 + j) v (by rw [flat_at (f := Task.cells) (size := 7) (fun _ => rfl) l k j x hx hj3]; exact hj)
    rw [← Nat.add_assoc] at this
    exact this
  exact ⟨b, off, e, hat 0 _ rfl, hat 1 _ rfl, hat 2 _ rfl, hat 3 _ rfl, hat 4 _ rfl, hat 5 _ rfl, hat 6 _ rfl⟩

/-- Its numbers are in their ranges. -/
def Ranges (t : Task) : Prop := isWord t.name = true ∧ t.name.size ≤ 32 ∧ 1 ≤ t.c ∧ t.c ≤ 2147483647 ∧ 1 ≤ t.t ∧ t.t ≤ 2147483647 ∧ 1 ≤ t.d ∧ t.d ≤ 2147483647 ∧ 1 ≤ t.q ∧ t.q ≤ 2147483647 ∧ 0 ≤ t.j ∧ t.j ≤ 2147483647 ∧ 1 ≤ t.p ∧ t.p ≤ 1048576
/-- They fit each other. -/
def FitsIn (t : Task) : Prop := t.q ≤ t.c ∧ t.c + t.j ≤ t.d ∧ t.d ≤ t.t
instance (t : Task) : Decidable (Ranges t) := by unfold Ranges; infer_instance
instance (t : Task) : Decidable (FitsIn t) := by unfold FitsIn; infer_instance
/-- A task's error; 0: it may be. -/
def checkE (t : Task) : Int := if Ranges t then if FitsIn t then 0 else 12 else 11
/-- Another one ahead has the same name, or urgency. -/
def dupAt (l : List Task) (i : Nat) : Prop := ∃ k, k < i ∧ ((tsk l k).name = (tsk l i).name ∨ (tsk l k).p = (tsk l i).p)
open Classical in
noncomputable def ckAt (l : List Task) (i : Nat) : Int := if checkE (tsk l i) ≠ 0 then checkE (tsk l i) else if dupAt l i then 13 else 0
noncomputable def scanFrom (l : List Task) : Nat → Nat → Nat × Int
  | 0, i => (i, 0)
  | n + 1, i => if ckAt l i ≠ 0 then (i, ckAt l i) else scanFrom l n (i + 1)
/-- What is told of a set: a place, and an error. -/
noncomputable def checkAll (l : List Task) : Nat × Int := if l.length = 0 ∨ 1024 < l.length then (0, 14) else scanFrom l l.length 0
/-- A set that may be. -/
def May (l : List Task) : Prop := (checkAll l).2 = 0

theorem checkE_zero {t : Task} : checkE t = 0 ↔ Ranges t ∧ FitsIn t := by
  unfold checkE; by_cases h1 : Ranges t <;> by_cases h2 : FitsIn t <;> simp [h1, h2]
theorem checkE_ok {t : Task} (h : checkE t = 0) : TaskOk t := by
  obtain ⟨⟨_, _, h1, h2, h3, h4, h5, h6, h7, h8, h9, h10, h11, h12⟩, g1, g2, g3⟩ := checkE_zero.1 h
  exact ⟨h1, h7, g1, h9, g2, g3, h4, h11, h12⟩
theorem ckAt_zero {l : List Task} {i : Nat} : ckAt l i = 0 ↔ checkE (tsk l i) = 0 ∧ ¬ dupAt l i := by
  unfold ckAt; by_cases h1 : checkE (tsk l i) = 0 <;> by_cases h2 : dupAt l i <;> simp [h1, h2]
theorem scanFrom_step {l : List Task} {i : Nat} (hi : i < l.length) (h : ckAt l i = 0) : scanFrom l (l.length - i) i = scanFrom l (l.length - (i + 1)) (i + 1) := by
  rw [show l.length - i = (l.length - (i + 1)) + 1 by omega]
  show (if ckAt l i ≠ 0 then _ else _) = _
  rw [if_neg (by simp [h])]
theorem scanFrom_bad {l : List Task} {i : Nat} (hi : i < l.length) (h : ckAt l i ≠ 0) : scanFrom l (l.length - i) i = (i, ckAt l i) := by
  rw [show l.length - i = (l.length - (i + 1)) + 1 by omega]
  show (if ckAt l i ≠ 0 then _ else _) = _
  rw [if_pos h]
theorem scanFrom_end {l : List Task} : scanFrom l (l.length - l.length) l.length = (l.length, 0) := by simp [scanFrom]
theorem scanFrom_zero {l : List Task} : ∀ {n i : Nat}, (scanFrom l n i).2 = 0 → ∀ k, i ≤ k → k < i + n → ckAt l k = 0
  | 0, i, _, k, h1, h2 => by omega
  | n + 1, i, h, k, h1, h2 => by
    unfold scanFrom at h
    by_cases hc : ckAt l i ≠ 0
    · rw [if_pos hc] at h; exact absurd h hc
    · rw [if_neg hc] at h
      by_cases e : k = i
      · subst e; simpa using hc
      · exact scanFrom_zero h k (by omega) (by omega)
theorem scanFrom_all {l : List Task} : ∀ {n i : Nat}, (∀ k, i ≤ k → k < i + n → ckAt l k = 0) → scanFrom l n i = (i + n, 0)
  | 0, i, _ => rfl
  | n + 1, i, h => by
    unfold scanFrom
    rw [if_neg (by simp [h i (by omega) (by omega)]), scanFrom_all (fun k h1 h2 => h k (by omega) (by omega))]
    congr 1; omega
theorem scanFrom_le {l : List Task} : ∀ {n i : Nat}, i ≤ (scanFrom l n i).1 ∧ (scanFrom l n i).1 ≤ i + n
  | 0, i => by simp [scanFrom]
  | n + 1, i => by
    unfold scanFrom
    split
    · simp
    · have := @scanFrom_le l n (i + 1); omega
theorem may_iff {l : List Task} : May l ↔ 0 < l.length ∧ l.length ≤ 1024 ∧ ∀ k, k < l.length → checkE (tsk l k) = 0 ∧ ¬ dupAt l k := by
  unfold May checkAll
  constructor
  · intro h
    split at h
    · cases h
    · rename_i hb
      refine ⟨by omega, by omega, fun k hk => ckAt_zero.1 (scanFrom_zero h k (by omega) (by omega))⟩
  · rintro ⟨h1, h2, h3⟩
    rw [if_neg (by omega), scanFrom_all (fun k _ hk => ckAt_zero.2 (h3 k (by omega)))]
theorem may_all {l : List Task} (h : May l) : checkAll l = (l.length, 0) := by
  obtain ⟨h1, h2, h3⟩ := may_iff.1 h
  unfold checkAll
  rw [if_neg (by omega), scanFrom_all (fun k _ hk => ckAt_zero.2 (h3 k (by omega)))]
  simp
theorem may_valid {l : List Task} (h : May l) : Valid l := by
  obtain ⟨h1, h2, h3⟩ := may_iff.1 h
  refine ⟨h1, h2, fun k hk => checkE_ok (h3 k hk).1, fun a b ha hb e => ?_⟩
  rcases Nat.lt_trichotomy a b with hlt | rfl | hlt
  · exact absurd ⟨a, hlt, .inr e⟩ (h3 b hb).2
  · rfl
  · exact absurd ⟨b, hlt, .inr e.symm⟩ (h3 a ha).2
theorem may_names {l : List Task} (h : May l) {a b : Nat} (ha : a < l.length) (hb : b < l.length) (e : (tsk l a).name = (tsk l b).name) : a = b := by
  obtain ⟨h1, h2, h3⟩ := may_iff.1 h
  rcases Nat.lt_trichotomy a b with hlt | rfl | hlt
  · exact absurd ⟨a, hlt, .inl e⟩ (h3 b hb).2
  · rfl
  · exact absurd ⟨b, hlt, .inl e.symm⟩ (h3 a ha).2
theorem tsk_at {l : List Task} {k : Nat} {x : Task} (h : l[k]? = some x) : tsk l k = x := by
  unfold tsk; rw [List.getD_eq_getElem?_getD, h]; rfl
theorem tsk_some {l : List Task} {k : Nat} (h : k < l.length) : l[k]? = some (tsk l k) := by
  unfold tsk; rw [List.getD_eq_getElem?_getD, List.getElem?_eq_getElem h]; rfl
theorem checkAll_len {l : List Task} : (checkAll l).1 ≤ l.length := by
  unfold checkAll
  split
  · simp
  · have := @scanFrom_le l l.length 0; omega
end Go.Proofs.YtphdcoegkfmaeaaGreatDoor
