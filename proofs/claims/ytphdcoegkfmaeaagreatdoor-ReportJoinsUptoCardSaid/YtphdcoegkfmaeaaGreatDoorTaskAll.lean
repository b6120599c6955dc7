/- Package task: CheckAll: whether a set may be. -/
import Derived.Test.YtphdcoegkfmaeaaGreatDoorTaskCheck
import Derived.Test.YtphdcoegkfmaeaaGreatDoorFence
import Derived.Maps.OwnOps
import Derived.Maps.Views
import Derived.Maps.Keyed
import Derived.WideLaws
set_option linter.unusedVariables false
set_option linter.unusedSimpArgs false
namespace Go.Proofs.YtphdcoegkfmaeaaGreatDoor
open Go.RowKit Cad Go.Maps Go.WideMaps Go.ChangeMaps Go.WalkArith

theorem Check_fin (t : Task) (ht : t.fits) (w : World) : Calls Tryz.prog 76 #[t.val] w fun e w' => e = .returned (.int .i64 (checkE t)) ∧ Kept w w' := Check_any t ht w

def u1 : DataW Unit := .lit (.int .i64 1)
def u0 : DataW Unit := .lit (.int .i64 0)
def nameLit (t : Task) : Lit := .string t.name.data.toList
def prioLit (t : Task) : Lit := .int .i64 t.p
theorem rev_ind {α : Type} {P : List α → Prop} (h0 : P []) (h1 : ∀ l x, P l → P (l ++ [x])) (l : List α) : P l := by
  rw [← List.reverse_reverse l]
  induction l.reverse with
  | nil => exact h0
  | cons x l ih => rw [List.reverse_cons]; exact h1 _ _ ih
theorem isMap_setOf (acc : List Lit) : IsMap (setOf u1 acc) :=
  rev_ind (P := fun acc => IsMap (setOf u1 acc)) ⟨[], rfl⟩ (fun acc x ih => by rw [setOf_snoc]; exact ih.put _ _) acc
open Classical in
theorem seen_at (acc : List Lit) (k : Lit) (hk : WideAt.IsKeyLit k) : (setOf u1 acc).atKey k u0 = if k ∈ acc then u1 else u0 := by
  refine rev_ind (P := fun acc => (setOf u1 acc).atKey k u0 = if k ∈ acc then u1 else u0) ?_ (fun acc x ih => ?_) acc
  · simp [setOf, DataW.atKey]
  · rw [setOf_snoc]
    by_cases e : k = x
    · subst e
      rw [atKey_put_same (isMap_setOf acc) hk, if_pos (by simp)]
    · rw [atKey_put_other e, ih]
      simp [e]
def namesTo (l : List Task) (k : Nat) : List Lit := (l.take k).map nameLit
def priosTo (l : List Task) (k : Nat) : List Lit := (l.take k).map prioLit
theorem namesTo_succ {l : List Task} {k : Nat} {x : Task} (h : l[k]? = some x) : namesTo l (k + 1) = namesTo l k ++ [nameLit x] := by
  unfold namesTo; rw [List.take_add_one, h]; simp
theorem priosTo_succ {l : List Task} {k : Nat} {x : Task} (h : l[k]? = some x) : priosTo l (k + 1) = priosTo l k ++ [prioLit x] := by
  unfold priosTo; rw [List.take_add_one, h]; simp
theorem bytes_inj {a b : ByteArray} (h : a.data.toList = b.data.toList) : a = b := bytes_ext h
theorem mem_names {l : List Task} {k : Nat} (hk : k ≤ l.length) (x : Task) : nameLit x ∈ namesTo l k ↔ ∃ j, j < k ∧ (tsk l j).name = x.name := by
  unfold namesTo
  simp only [List.mem_map]
  constructor
  · rintro ⟨y, hy, e⟩
    obtain ⟨j, hj, rfl⟩ := List.getElem_of_mem hy
    rw [List.length_take] at hj
    refine ⟨j, by omega, ?_⟩
    rw [tsk_at (x := (l.take k)[j]) (by rw [List.getElem_take]; exact List.getElem?_eq_getElem _)]
    unfold nameLit at e
    exact bytes_inj (by simpa using e)
  · rintro ⟨j, hj, e⟩
    refine ⟨tsk l j, ?_, by unfold nameLit; rw [e]⟩
    have h2 := tsk_some (l := l) (k := j) (by omega)
    exact List.mem_of_getElem? (i := j) (by rw [List.getElem?_take, if_pos hj]; exact h2)
theorem mem_prios {l : List Task} {k : Nat} (hk : k ≤ l.length) (x : Task) : prioLit x ∈ priosTo l k ↔ ∃ j, j < k ∧ (tsk l j).p = x.p := by
  unfold priosTo
  simp only [List.mem_map]
  constructor
  · rintro ⟨y, hy, e⟩
    obtain ⟨j, hj, rfl⟩ := List.getElem_of_mem hy
    rw [List.length_take] at hj
    refine ⟨j, by omega, ?_⟩
    rw [tsk_at (x := (l.take k)[j]) (by rw [List.getElem_take]; exact List.getElem?_eq_getElem _)]
    unfold prioLit at e
    simpa using e
  · rintro ⟨j, hj, e⟩
    refine ⟨tsk l j, ?_, by unfold prioLit; rw [e]⟩
    have h2 := tsk_some (l := l) (k := j) (by omega)
    exact List.mem_of_getElem? (i := j) (by rw [List.getElem?_take, if_pos hj]; exact h2)
theorem ownsMap_kept {H : Type} {w w' : World} {P : Program} {k : TypeId} {R : Value → Option (DataW H × List MemPlace)} {b n : Nat} {D : DataW H} (h : w.ownsMap P k R b n D) (hk : Kept w w') : w'.ownsMap P k R b n D :=
  h.kept (Kept.grownBy hk none) (by simp)

theorem nameLaw : Keyed Tryz.prog 9 := string_keyed Tryz.underlying9
theorem intLaw : Keyed Tryz.prog 3 := int_keyed Tryz.underlying3
theorem zeroInt (w : World) : (zeroValue 3).run Tryz.prog w = .ok (.int .i64 0) w := by kernel_rfl

theorem seen_c {acc : List Lit} {k : Lit} (hk : WideAt.IsKeyLit k) {c : Int} (h : (setOf u1 acc).atKey k (.lit (.int .i64 0)) = .lit (.int .i64 c)) : 0 ≤ c ∧ c ≤ 1 ∧ (1 < c + 1 ↔ k ∈ acc) := by
  have h1 := seen_at acc k hk
  unfold u0 at h1
  rw [h] at h1
  split at h1
  · rename_i hm
    unfold u1 at h1
    obtain rfl : c = 1 := by simpa using h1
    simp [hm]
  · rename_i hm
    obtain rfl : c = 0 := by simpa using h1
    simp [hm]

theorem ret_2 {a b c d : Int} (h : a = c) (h' : b = d) : Ending.returned (.tuple #[.int .i64 a, .int .i64 b]) = .returned (.tuple #[.int .i64 c, .int .i64 d]) := by rw [h, h']
theorem ckAt_e {l : List Task} {k : Nat} {x : Task} (hx : tsk l k = x) (h : checkE x ≠ 0) : ckAt l k = checkE x := by unfold ckAt; rw [hx, if_pos h]
theorem ckAt_d {l : List Task} {k : Nat} {x : Task} (hx : tsk l k = x) (h : checkE x = 0) (hd : dupAt l k) : ckAt l k = 13 := by unfold ckAt; rw [hx, if_neg (by simp [h]), if_pos hd]
theorem ckAt_o {l : List Task} {k : Nat} {x : Task} (hx : tsk l k = x) (h : checkE x = 0) (hd : ¬ dupAt l k) : ckAt l k = 0 := by unfold ckAt; rw [hx, if_neg (by simp [h]), if_neg hd]
theorem dup_iff {l : List Task} {k : Nat} (hk : k ≤ l.length) {x : Task} (hx : tsk l k = x) : dupAt l k ↔ nameLit x ∈ namesTo l k ∨ prioLit x ∈ priosTo l k := by
  rw [mem_names hk, mem_prios hk]
  unfold dupAt
  rw [hx]
  constructor
  · rintro ⟨j, hj, h | h⟩
    · exact .inl ⟨j, hj, h⟩
    · exact .inr ⟨j, hj, h⟩
  · rintro (⟨j, hj, h⟩ | ⟨j, hj, h⟩)
    · exact ⟨j, hj, .inl h⟩
    · exact ⟨j, hj, .inr h⟩
theorem cell_grown {w w' : World} {p : Addr} {u : Value} {b : Nat} (h : w.cell? p = some u) (hg : w.grownBy w' (some b)) (hne : p.block ≠ b) : w'.cell? p = some u :=
  (World.cell?_of_block (hg.block p.block (World.block_lt_of_cell? w p h) (fun e => hne (by simpa using e)))).trans h
theorem put_lookup {P : Program} {k e t : TypeId} {b n : Nat} {w : World} {D : DataW Unit} {kl : Lit} {c : Int} {key : Value} (K : Keyed P k) (ht : P.underlying t = some (.map k e)) (he : P.underlying e = some (.int .i64)) (hz : (zeroValue e).run P w = .ok (.int .i64 0) w)
    (hD : IsMap D) (hkey : keyOf P k key = some kl) (h : w.ownsMap P k (plainElem P e) b n (D.put kl (.lit (.int .i64 c)))) : (Instr.lookup t (.map (some b)) key false).run P w = .ok (.int .i64 c) w := by
  obtain ⟨c', hr, ha, _⟩ := h.lookup_int K ht he hz hkey
  rw [atKey_put_same hD (K.key hkey)] at ha
  obtain rfl : c = c' := by simpa using ha
  exact hr
set_option maxRecDepth 100000 in
theorem CheckAll_none (A : Option Addr) (cap : Nat) (w : World) : Calls Tryz.prog 52 #[.slice A 0 cap] w fun e w' => e = .returned (.tuple #[.int .i64 0, .int .i64 14]) ∧ Kept w w' := by
  go_enter Tryz.func52, Tryz.ntmps52
  go_wp2
  go_ret2
  exact ⟨rfl, Kept.refl w⟩
set_option maxRecDepth 100000 in
theorem CheckAll_many (A : Option Addr) (n cap : Nat) (hn : 1024 < n) (hn2 : n ≤ 9223372036854775807) (w : World) : Calls Tryz.prog 52 #[.slice A n cap] w fun e w' => e = .returned (.tuple #[.int .i64 0, .int .i64 14]) ∧ Kept w w' := by
  have h1 : ((n : Int) == 0) = false := by simp; omega
  have h2 : (1024 : Int) < n := by omega
  go_enter Tryz.func52, Tryz.ntmps52
  go_wp2
  go_ret2
  exact ⟨rfl, Kept.refl w⟩
set_option maxRecDepth 100000 in
set_option maxHeartbeats 4000000 in
theorem CheckAll_some (l : List Task) (hfit : ∀ t ∈ l, t.fits) (A : Option Addr) (cap : Nat) (w : World) (h0 : 0 < l.length) (h1 : l.length ≤ 1024) (hrow : tasksRow w A l) :
    Calls Tryz.prog 52 #[.slice A l.length cap] w fun e w' => e = .returned (.tuple #[.int .i64 (checkAll l).1, .int .i64 (checkAll l).2]) ∧ Kept w w' := by
  have hb0 : ¬ (l.length = 0 ∨ 1024 < l.length) := by omega
  have hc0 : checkAll l = scanFrom l (l.length - 0) 0 := by unfold checkAll; rw [if_neg hb0]; rfl
  clear hb0
  have Hc0 := Lib.hid hc0
  clear hc0
  have hz1 : ((l.length : Int) == 0) = false := by rw [beq_eq_false_iff_ne]; omega
  have hz2 : ¬ (1024 : Int) < l.length := by omega
  have hmm := @run_makeMap Tryz.prog
  go_enter Tryz.func52, Tryz.ntmps52
  go_wp2
  go_loopw [21] (fun iv wr => ∃ k : Nat, k ≤ l.length ∧ iv = .int .i64 k ∧ wr.ownsMap Tryz.prog 9 (plainElem Tryz.prog 3) w.heap.size k (setOf u1 (namesTo l k)) ∧ wr.ownsMap Tryz.prog 3 (plainElem Tryz.prog 3) (w.heap.size + 1) k (setOf u1 (priosTo l k)) ∧ Kept w wr ∧ Hid (checkAll l = scanFrom l (l.length - k) k))
    (fun iv _ => l.length - (intOf iv).toNat)
  case atStart =>
    refine ⟨0, by omega, rfl, (World.ownsMap_made w _ _ _).alloc _, ?_, ((Kept.refl w).alloc _).alloc _, Hc0⟩
    have := World.ownsMap_made (w.alloc (.map #[] 0)) Tryz.prog 3 (plainElem (H := Unit) Tryz.prog 3)
    rw [World.size_alloc] at this
    exact this
  case round =>
    obtain ⟨k, hk, rfl, hown, hpown, hK, hck⟩ := hrel
    by_cases he : k = l.length
    · have hlt : ¬ ((k : Int) < l.length) := by omega
      go_wp2
      go_ret2
      have hv : checkAll l = (l.length, 0) := by rw [hck.out, he, scanFrom_end]
      exact ⟨ret_2 (by rw [hv]) (by rw [hv]), hK⟩
    · have hlt : ((k : Int) < l.length) := by omega
      obtain ⟨x, hx⟩ : ∃ x, l[k]? = some x := ⟨_, List.getElem?_eq_getElem (by omega)⟩
      obtain ⟨b, off, rfl, c0, c1, c2, c3, c4, c5, c6⟩ := (hrow.kept hK).range hx
      have hxl := hfit x (List.mem_of_getElem? hx)
      have hx' := tsk_at hx
      have hkN : keyOf Tryz.prog 9 (.string x.name) = some (nameLit x) := keyOf_string_mk Tryz.underlying9 (by have := hxl.nameS; unfold maxLen; omega)
      have hkP : keyOf Tryz.prog 3 (.int .i64 x.p) = some (prioLit x) := keyOf_int_mk Tryz.underlying3 (wf_i64 hxl.p64)
      have hN2 := namesTo_succ hx
      have hP2 := priosTo_succ hx
      have HN2 := Lib.hid hN2
      have HP2 := Lib.hid hP2
      have Hx' := Lib.hid hx'
      have C := Check_fin x hxl
      unfold Cad.Task.val at C
      generalize hE : checkE x = E at C
      have HE := Lib.hid hE
      clear hE hN2 hP2 hx' hx hxl
      go_wp2_with fail
      refine (C _).mono ?_
      rintro e w2 ⟨rfl, hk2⟩
      have hKw : Kept wr w2 := ((Kept.refl wr).alloc _).trans hk2
      have cN := hk2.cell (p := ⟨wr.heap.size, 0, none⟩) (u := .string x.name) (by rw [Lib.cell_of_heap (heap_alloc_new wr _)]; rfl)
      have cP := hk2.cell (p := ⟨wr.heap.size, 6, none⟩) (u := .int .i64 x.p) (by rw [Lib.cell_of_heap (heap_alloc_new wr _)]; rfl)
      have hB : wr.heap.size < w2.heap.size := by have := hk2.size; simp at this; omega
      have hown2 := ownsMap_kept hown hKw
      have hpown2 := ownsMap_kept hpown hKw
      have hKK := hK.trans hKw
      have hs1 := hK.size
      have hb1 := hown.lt
      have hb2 := hpown.lt
      clear hown hpown hKw hk2 c0 c1 c2 c3 c4 c5 c6 C hmm
      obtain ⟨n1, hr1, ha1, hw1⟩ := hown2.lookup_int nameLaw Tryz.underlying130 Tryz.underlying3 (zeroInt _) hkN
      obtain ⟨g1, g2, g3⟩ := seen_c (nameLaw.key hkN) ha1
      have G3 := Lib.hid g3
      clear g3 ha1 hw1
      by_cases hE0 : E = 0
      · subst hE0
        have tokA : True := trivial
        go_wp2_with (first
          | (at_mapUpdate; have _t := tokA; refine wpList_mapUpdate_own _ rfl _ _ _ 130 rfl 9 3 nameLaw Tryz.underlying130 _ w.heap.size k _ rfl hown2 (by unfold maxLen; omega) _ _ _ rfl rfl hkN _ [] (plainElem_int Tryz.underlying3 (wf_i64 ⟨by omega, by omega⟩)) ?_; intro w3 hown3 hg3; have hpown3 := hpown2.kept hg3 (by simp); obtain ⟨n2, hr2, ha2, hw2⟩ := hpown3.lookup_int intLaw Tryz.underlying131 Tryz.underlying3 (zeroInt _) hkP; obtain ⟨g4, g5, g6⟩ := seen_c (intLaw.key hkP) ha2; have G6 := Lib.hid g6; have cP3 := cell_grown cP hg3 (by simp; omega); have cN3 := cell_grown cN hg3 (by simp; omega); clear g6 ha2 hw2 tokA hr1 hpown2 hown2; have tokB : True := trivial)
          | (at_mapUpdate; have _t := tokB; refine wpList_mapUpdate_own _ rfl _ _ _ 131 rfl 3 3 intLaw Tryz.underlying131 _ (w.heap.size + 1) k _ rfl hpown3 (by unfold maxLen; omega) _ _ _ rfl rfl hkP _ [] (plainElem_int Tryz.underlying3 (wf_i64 ⟨by omega, by omega⟩)) ?_; intro w4 hpown4 hg4; have hown4 := hown3.kept hg4 (by simp); have cP4 := cell_grown cP3 hg4 (by have := hg3.size; simp; omega); have cN4 := cell_grown cN3 hg4 (by have := hg3.size; simp; omega); have hr3 := put_lookup nameLaw Tryz.underlying130 Tryz.underlying3 (zeroInt _) (isMap_setOf _) hkN hown4; have hr4 := put_lookup intLaw Tryz.underlying131 Tryz.underlying3 (zeroInt _) (isMap_setOf _) hkP hpown4; clear tokB hr2 hpown3 hown3 cP cN cP3 cN3; have hK4 := (hKK.grown hg3 (fun k e => by cases e; exact Nat.le_refl _)).grown hg4 (fun k e => by cases e; exact Nat.le_succ _)))
        · go_ret2
          have hd : dupAt l k := (dup_iff hk Hx'.out).2 (by
            have a := G3.out
            have b := G6.out
            by_cases c : 1 < n1 + 1
            · exact .inl (a.1 c)
            · exact .inr (b.1 (by omega)))
          have hv : checkAll l = (k, 13) := by rw [hck.out, scanFrom_bad (by omega) (by rw [ckAt_d Hx'.out HE.out hd]; decide), ckAt_d Hx'.out HE.out hd]
          exact ⟨ret_2 (by rw [hv]) (by rw [hv]), hK4⟩
        · have hd : ¬ dupAt l k := fun h => by
            have a := G3.out
            have b := G6.out
            rcases (dup_iff hk Hx'.out).1 h with h | h
            · have := a.2 h; omega
            · have := b.2 h; omega
          obtain rfl : n1 = 0 := by omega
          obtain rfl : n2 = 0 := by omega
          have e1 : (setOf u1 (namesTo l k)).put (nameLit x) (DataW.lit (Lit.int IntKind.i64 (0 + 1))) = setOf u1 (namesTo l (k + 1)) := by rw [HN2.out, setOf_snoc]; rfl
          have e2 : (setOf u1 (priosTo l k)).put (prioLit x) (DataW.lit (Lit.int IntKind.i64 (0 + 1))) = setOf u1 (priosTo l (k + 1)) := by rw [HP2.out, setOf_snoc]; rfl
          refine ⟨⟨k + 1, by omega, by go_num, by rw [← e1]; exact hown4, by rw [← e2]; exact hpown4, hK4, Lib.hid ?_⟩, by simp [intOf]; omega⟩
          rw [hck.out, scanFrom_step (by omega) (ckAt_o Hx'.out HE.out hd)]
        · go_ret2
          have hd : dupAt l k := (dup_iff hk Hx'.out).2 (by
            have a := G3.out
            have b := G6.out
            by_cases c : 1 < n1 + 1
            · exact .inl (a.1 c)
            · exact .inr (b.1 (by omega)))
          have hv : checkAll l = (k, 13) := by rw [hck.out, scanFrom_bad (by omega) (by rw [ckAt_d Hx'.out HE.out hd]; decide), ckAt_d Hx'.out HE.out hd]
          exact ⟨ret_2 (by rw [hv]) (by rw [hv]), hK4⟩
      · have hE1 : ((E : Int) != 0) = true := by simp [hE0]
        go_wp2
        go_ret2
        have hv : checkAll l = (k, E) := by rw [hck.out, scanFrom_bad (by omega) (by rw [ckAt_e Hx'.out (by rw [HE.out]; exact hE0), HE.out]; exact hE0), ckAt_e Hx'.out (by rw [HE.out]; exact hE0), HE.out]
        exact ⟨ret_2 (by rw [hv]) (by rw [hv]), hKK⟩

theorem CheckAll_any (l : List Task) (hfit : ∀ t ∈ l, t.fits) (hlen : l.length ≤ 9223372036854775807) (A : Option Addr) (cap : Nat) (w : World) (hrow : tasksRow w A l) :
    Calls Tryz.prog 52 #[.slice A l.length cap] w fun e w' => e = .returned (.tuple #[.int .i64 (checkAll l).1, .int .i64 (checkAll l).2]) ∧ Kept w w' := by
  by_cases h0 : l.length = 0
  · have hv : checkAll l = (0, 14) := by unfold checkAll; rw [if_pos (.inl h0)]
    rw [hv, h0]
    exact CheckAll_none A cap w
  · by_cases h1 : 1024 < l.length
    · have hv : checkAll l = (0, 14) := by unfold checkAll; rw [if_pos (.inr h1)]
      rw [hv]
      exact CheckAll_many A l.length cap h1 hlen w
    · exact CheckAll_some l hfit A cap w (by omega) (by omega) hrow
end Go.Proofs.YtphdcoegkfmaeaaGreatDoor
