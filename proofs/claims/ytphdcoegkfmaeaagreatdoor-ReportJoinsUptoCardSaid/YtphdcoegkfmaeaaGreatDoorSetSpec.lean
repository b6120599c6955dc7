/- cadencyref04.Set: a set of tasks by plain numbers: what it is, and that it may be. -/
import Derived.Test.YtphdcoegkfmaeaaGreatDoorTaskSpec
set_option linter.unusedVariables false
set_option linter.unusedSimpArgs false
namespace Go.Proofs.YtphdcoegkfmaeaaGreatDoor
open Go.RowKit Cad

/-- A task by plain numbers (the order of the fields: C, D, J, Q, T). -/
structure Spec where
  c : Int
  d : Int
  j : Int
  q : Int
  t : Int
def Spec.cells (s : Spec) : List Value := [.int .i64 s.c, .int .i64 s.d, .int .i64 s.j, .int .i64 s.q, .int .i64 s.t]
structure Spec.fits (s : Spec) : Prop where
  c64 : I64 s.c
  d64 : I64 s.d
  j64 : I64 s.j
  q64 : I64 s.q
  t64 : I64 s.t
def specsRow (w : World) (A : Option Addr) (l : List Spec) : Prop := Row w A (l.flatMap Spec.cells)
theorem specsRow.kept {w w' : World} {A : Option Addr} {l : List Spec} (h : specsRow w A l) (hk : Kept w w') : specsRow w' A l := Row.kept h hk
def spc (l : List Spec) (i : Nat) : Spec := l.getD i ⟨0, 0, 0, 0, 0⟩
theorem spc_some {l : List Spec} {k : Nat} (h : k < l.length) : l[k]? = some (spc l k) := by
  unfold spc; rw [List.getD_eq_getElem?_getD, List.getElem?_eq_getElem h]; rfl
theorem specsRow.range {w : World} {A : Option Addr} {l : List Spec} (h : specsRow w A l) {k : Nat} {x : Spec} (hx : l[k]? = some x) :
    ∃ b off, A = some ⟨b, off, none⟩ ∧ w.cell? ⟨b, off + k * 5, none⟩ = some (.int .i64 x.c) ∧ w.cell? ⟨b, off + k * 5 + 1, none⟩ = some (.int .i64 x.d) ∧ w.cell? ⟨b, off + k * 5 + 2, none⟩ = some (.int .i64 x.j) ∧
      w.cell? ⟨b, off + k * 5 + 3, none⟩ = some (.int .i64 x.q) ∧ w.cell? ⟨b, off + k * 5 + 4, none⟩ = some (.int .i64 x.t) := by
  have hk : k < l.length := (List.getElem?_eq_some_iff.1 hx).1
  obtain ⟨b, off, e, hb, hc⟩ := h (by rw [flat_length (f := Spec.cells) (size := 5) (fun _ => rfl)]; omega)
  have hat : ∀ j v, x.cells[j]? = some v → w.cell? ⟨b, off + k * 5 + j, none⟩ = some v := fun j v hj => by
    have hj3 : j < 5 := (List.getElem?_eq_some_iff.1 hj).1
    have := hc (k * 5 + j) v (by rw [flat_at (f := Spec.cells) (size := 5) (fun _ => rfl) l k j x hx hj3]; exact hj)
    rw [← Nat.add_assoc] at this
    exact this
  exact ⟨b, off, e, hat 0 _ rfl, hat 1 _ rfl, hat 2 _ rfl, hat 3 _ rfl, hat 4 _ rfl⟩

def nmT (i : Nat) : ByteArray := ⟨#[116, UInt8.ofNat (97 + i)]⟩
/-- A spec's task, but for its urgency. -/
def baseT (s : Spec) (i : Nat) : Task :=
  { name := nmT i, c := 1 + s.c % 4, d := 1 + s.c % 4 + s.d % 11, j := s.j % (1 + s.c % 4 + s.d % 11 - (1 + s.c % 4) + 1), t := 1 + s.c % 4 + s.d % 11 + s.t % 7, q := 1 + s.q % (1 + s.c % 4), p := 0 }
def withP (t : Task) (p : Int) : Task := ⟨t.name, t.c, t.t, t.d, t.j, t.q, p⟩
def turnsZ (n turn : Int) : Int := if 2 < n ∧ (turn.tdiv n) % 2 = 1 then n - 1 else 1
def prioZ (n turn : Int) (i : Nat) : Int := 1 + (i * turnsZ n turn + turn % n) % n
def specs1 (l : List Spec) (turn : Int) : List Spec := if l.length = 0 then [⟨turn, 0, 0, 0, 0⟩] else l
def setN (l : List Spec) (most : Nat) : Nat := min (max l.length 1) most
/-- The first k, but for their urgencies. -/
def baseL (l : List Spec) (k : Nat) : List Task := (List.range k).map fun i => baseT (spc l i) i
/-- n of them, k with their urgencies. -/
def prioL (l : List Spec) (n : Nat) (turn : Int) (k : Nat) : List Task := (List.range n).map fun i => if i < k then withP (baseT (spc l i) i) (prioZ n turn i) else baseT (spc l i) i
def setT (l : List Spec) (most : Nat) (turn : Int) : List Task := prioL (specs1 l turn) (setN l most) turn (setN l most)
theorem setT_length (l : List Spec) (most : Nat) (turn : Int) : (setT l most turn).length = setN l most := by simp [setT, prioL]
theorem prioL_length (l : List Spec) (n : Nat) (turn : Int) (k : Nat) : (prioL l n turn k).length = n := by simp [prioL]
theorem prioL_at {l : List Spec} {n : Nat} {turn : Int} {k i : Nat} (hi : i < n) : tsk (prioL l n turn k) i = if i < k then withP (baseT (spc l i) i) (prioZ n turn i) else baseT (spc l i) i := tsk_at (by simp [prioL, List.getElem?_range hi])
theorem setT_at {l : List Spec} {most : Nat} {turn : Int} {i : Nat} (hi : i < setN l most) : tsk (setT l most turn) i = withP (baseT (spc (specs1 l turn) i) i) (prioZ (setN l most) turn i) := by
  unfold setT; rw [prioL_at hi, if_pos hi]
theorem specs1_length (l : List Spec) (turn : Int) : (specs1 l turn).length = max l.length 1 := by
  unfold specs1
  split
  · rename_i h; rw [h]; rfl
  · omega
theorem name_word : ∀ i, i < 8 → isWord (nmT i) = true := by decide +kernel
theorem name_inj {i k : Nat} (hi : i < 8) (hk : k < 8) (h : nmT i = nmT k) : i = k := by
  have : ∀ i, i < 8 → ∀ k, k < 8 → nmT i = nmT k → i = k := by decide +kernel
  exact this i hi k hk h
theorem mod_eq_small {a b n : Int} (hn : 0 < n) (h : a % n = b % n) (h1 : a - b < n) (h2 : b - a < n) : a = b := by
  have h3 := Int.emod_emod_of_dvd a (Int.dvd_refl n)
  have e1 := Int.mul_ediv_add_emod a n
  have e2 := Int.mul_ediv_add_emod b n
  have e3 : a - b = n * (a / n - b / n) := by rw [Int.mul_sub]; omega
  generalize a / n - b / n = q at e3
  rcases Int.lt_trichotomy q 0 with hq | rfl | hq
  · have : n * q ≤ n * (-1) := Int.mul_le_mul_of_nonneg_left (by omega) (by omega)
    omega
  · simp at e3; omega
  · have : n * 1 ≤ n * q := Int.mul_le_mul_of_nonneg_left (by omega) (by omega)
    omega
theorem prio_range {n turn : Int} (hn : 1 ≤ n) (i : Nat) : 1 ≤ prioZ n turn i ∧ prioZ n turn i ≤ n := by
  unfold prioZ
  have h1 := Int.emod_nonneg (i * turnsZ n turn + turn % n) (b := n) (by omega)
  have h2 := Int.emod_lt_of_pos (i * turnsZ n turn + turn % n) (b := n) (by omega)
  omega
theorem prio_inj {n : Nat} {turn : Int} {i k : Nat} (hi : i < n) (hk : k < n) (h : prioZ n turn i = prioZ n turn k) : i = k := by
  have hn : (0 : Int) < n := by omega
  unfold prioZ at h
  have h' : ((i : Int) * turnsZ n turn + turn % n) % n = ((k : Int) * turnsZ n turn + turn % n) % n := by omega
  unfold turnsZ at h'
  split at h'
  · have e : ∀ z : Int, (z * ((n : Int) - 1) + turn % n) % n = (turn % n - z) % n := fun z => by
      rw [show z * ((n : Int) - 1) + turn % n = turn % n - z + n * z by rw [Int.mul_sub, Int.mul_comm z n]; omega, Int.add_mul_emod_self_left]
    rw [e, e] at h'
    have := mod_eq_small hn h' (by omega) (by omega)
    omega
  · have := mod_eq_small hn h' (by omega) (by omega)
    omega
theorem baseT_nums (s : Spec) (i : Nat) : 1 ≤ (baseT s i).c ∧ (baseT s i).c ≤ 4 ∧ (baseT s i).c ≤ (baseT s i).d ∧ (baseT s i).d ≤ 14 ∧ 0 ≤ (baseT s i).j ∧ (baseT s i).c + (baseT s i).j ≤ (baseT s i).d ∧
    (baseT s i).d ≤ (baseT s i).t ∧ (baseT s i).t ≤ 20 ∧ 1 ≤ (baseT s i).q ∧ (baseT s i).q ≤ (baseT s i).c := by
  unfold baseT
  have c1 := Int.emod_nonneg s.c (b := 4) (by decide)
  have c2 := Int.emod_lt_of_pos s.c (b := 4) (by decide)
  have d1 := Int.emod_nonneg s.d (b := 11) (by decide)
  have d2 := Int.emod_lt_of_pos s.d (b := 11) (by decide)
  have t1 := Int.emod_nonneg s.t (b := 7) (by decide)
  have t2 := Int.emod_lt_of_pos s.t (b := 7) (by decide)
  simp only
  generalize s.c % 4 = c at *
  generalize s.d % 11 = d at *
  have j1 := Int.emod_nonneg s.j (b := 1 + c + d - (1 + c) + 1) (by omega)
  have j2 := Int.emod_lt_of_pos s.j (b := 1 + c + d - (1 + c) + 1) (by omega)
  have q1 := Int.emod_nonneg s.q (b := 1 + c) (by omega)
  have q2 := Int.emod_lt_of_pos s.q (b := 1 + c) (by omega)
  generalize s.j % (1 + c + d - (1 + c) + 1) = j at *
  generalize s.q % (1 + c) = q at *
  generalize s.t % 7 = t at *
  refine ⟨?_, ?_, ?_, ?_, ?_, ?_, ?_, ?_, ?_, ?_⟩ <;> omega
theorem setT_may (l : List Spec) (most : Nat) (turn : Int) (h1 : 1 ≤ most) (h8 : most ≤ 8) : May (setT l most turn) := by
  have hn1 : 1 ≤ setN l most := by unfold setN; omega
  have hn8 : setN l most ≤ 8 := by unfold setN; omega
  refine may_iff.2 ⟨by rw [setT_length]; omega, by rw [setT_length]; omega, fun k hk => ?_⟩
  rw [setT_length] at hk
  obtain ⟨a1, a2, a3, a4, a5, a6, a7, a8, a9, a10⟩ := baseT_nums (spc (specs1 l turn) k) k
  obtain ⟨p1, p2⟩ := prio_range (n := setN l most) (turn := turn) (by omega) k
  refine ⟨?_, ?_⟩
  · rw [setT_at hk, checkE_zero]
    have hw := name_word k (by omega)
    have hnm : (baseT (spc (specs1 l turn) k) k).name = nmT k := rfl
    have hsz : (nmT k).size = 2 := rfl
    generalize baseT (spc (specs1 l turn) k) k = b at *
    generalize prioZ (setN l most) turn k = p at *
    unfold withP
    rw [hnm]
    exact ⟨⟨hw, by rw [hsz]; decide, a1, by dsimp only; omega, by dsimp only; omega, by dsimp only; omega, by dsimp only; omega, by dsimp only; omega, a9, by dsimp only; omega, a5, by dsimp only; omega, p1, by dsimp only; omega⟩, ⟨a10, a6, a7⟩⟩
  · rintro ⟨j, hj, hd⟩
    have hj2 : j < setN l most := by omega
    rw [setT_at hk, setT_at hj2] at hd
    rcases hd with hd | hd
    · have := name_inj (i := j) (k := k) (by omega) (by omega) hd
      omega
    · have := prio_inj hj2 hk hd
      omega
theorem setT_fits (l : List Spec) (most : Nat) (turn : Int) (h1 : 1 ≤ most) (h8 : most ≤ 8) : ∀ t ∈ setT l most turn, t.fits := by
  intro t ht
  obtain ⟨k, hk, rfl⟩ := List.getElem_of_mem ht
  rw [setT_length] at hk
  have e : (setT l most turn)[k]'(by rw [setT_length]; exact hk) = tsk (setT l most turn) k := by
    have := tsk_some (l := setT l most turn) (k := k) (by rw [setT_length]; exact hk)
    rw [List.getElem?_eq_getElem (by rw [setT_length]; exact hk)] at this
    exact Option.some.inj this
  rw [e, setT_at hk]
  have hn8 : setN l most ≤ 8 := by unfold setN; omega
  obtain ⟨a1, a2, a3, a4, a5, a6, a7, a8, a9, a10⟩ := baseT_nums (spc (specs1 l turn) k) k
  obtain ⟨p1, p2⟩ := prio_range (n := setN l most) (turn := turn) (by omega) k
  have hnm : (baseT (spc (specs1 l turn) k) k).name = nmT k := rfl
  have hsz : (nmT k).size = 2 := rfl
  generalize baseT (spc (specs1 l turn) k) k = b at *
  generalize prioZ (setN l most) turn k = p at *
  unfold withP
  rw [hnm]
  exact ⟨by rw [hsz]; decide, ⟨by dsimp only; omega, by dsimp only; omega⟩, ⟨by dsimp only; omega, by dsimp only; omega⟩, ⟨by dsimp only; omega, by dsimp only; omega⟩, ⟨by dsimp only; omega, by dsimp only; omega⟩, ⟨by dsimp only; omega, by dsimp only; omega⟩, ⟨by dsimp only; omega, by dsimp only; omega⟩⟩
end Go.Proofs.YtphdcoegkfmaeaaGreatDoor
