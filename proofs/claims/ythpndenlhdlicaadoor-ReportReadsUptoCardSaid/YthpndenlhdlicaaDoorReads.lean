/- cadencylaw23: what of ReportReads does not hang on the row. -/
import Derived.Test.YthpndenlhdlicaaDoorRead
import Derived.Deep.QuietTactic
import Derived.BigQuiet
set_option linter.unusedVariables false
set_option linter.unusedSimpArgs false
namespace Go.Proofs.YthpndenlhdlicaaDoor
open Go.RowKit Go.Shelf

def lnEq (x y : Line) : Bool := (x.name.toList == y.name.toList) && (x.r == y.r) && (x.ok == y.ok)
set_option maxRecDepth 100000 in
set_option maxHeartbeats 400000 in
theorem Same_yes (l : List Line) (A B : Option Addr) (ca cb : Nat) (w : World) (hlen : l.length ≤ 100000000) (hA : linesRow w A l) (hB : linesRow w B l) :
    Calls Tryd.prog 38 #[.slice A l.length ca, .slice B l.length cb] w fun e w' => e = .returned (.bool true) ∧ Kept w w' := by
  go_enter Tryd.func38, Tryd.ntmps38
  go_wp2
  go_loopw [5] (fun iv wr => ∃ k : Nat, k ≤ l.length ∧ iv = .int .i64 k ∧ Kept w wr) (fun iv _ => l.length - (intOf iv).toNat)
  case atStart => exact ⟨0, by omega, rfl, Kept.refl w⟩
  case round =>
    obtain ⟨k, hk, rfl, hK⟩ := hrel
    by_cases he : k = l.length
    · have hlt : ¬ ((k : Int) < l.length) := by omega
      go_wp2
      go_ret
      exact ⟨rfl, hK⟩
    · have hlt : ((k : Int) < l.length) := by omega
      obtain ⟨x, hx⟩ : ∃ x, l[k]? = some x := ⟨_, List.getElem?_eq_getElem (by omega)⟩
      obtain ⟨b, off, rfl, c0, c1, c2⟩ := (hA.kept hK).range hx
      obtain ⟨b', off', rfl, d0, d1, d2⟩ := (hB.kept hK).range hx
      go_wp2
      repeat (go_quiet (fail); try go_wp2)
      go_roundw
      case rel => exact ⟨k + 1, by omega, by go_num, by repeat (first | exact hK | apply Kept.drewN | apply Kept.drew)⟩
      case measure => simp [intOf]; omega

theorem rest_num (x n : Int) (h1 : 1 ≤ n) : (x.tmod n + n) % n = x % n := by
  have e := Int.tmod_eq_emod (a := x) (b := n)
  have h3 : (n.natAbs : Int) = n := by omega
  split at e
  · rw [e]; simp
  · rw [e, h3, Int.sub_add_cancel, Int.emod_emod]
theorem rest_low (x n : Int) (h1 : 1 ≤ n) : -n < x.tmod n ∧ x.tmod n < n := by
  have e := Int.tmod_eq_emod (a := x) (b := n)
  have h0 := Int.emod_nonneg x (b := n) (by omega)
  have h2 := Int.emod_lt_of_pos x (b := n) (by omega)
  have h3 : (n.natAbs : Int) = n := by omega
  split at e <;> omega
theorem ret_i {k : IntKind} {a b : Int} (h : a = b) : Ending.returned (.int k a) = .returned (.int k b) := by rw [h]
set_option maxRecDepth 100000 in
theorem rest_any (x n : Int) (h0 : -9223372036854775808 ≤ x) (h9 : x ≤ 9223372036854775807) (h1 : 1 ≤ n) (h2 : n ≤ 4611686018427387904) (w : World) :
    Calls Tryd.prog 39 #[.int .i64 x, .int .i64 n] w fun e w' => e = .returned (.int .i64 (x % n)) ∧ w = w' := by
  obtain ⟨l1, l2⟩ := rest_low x n h1
  have hz : ((n : Int) == 0) = false := by simp; omega
  have hn := Lib.hid (rest_num x n h1)
  go_enter Tryd.func39, Tryd.ntmps39
  go_wp2
  go_ret
  exact ⟨ret_i hn.out, rfl⟩
def SomeText (n : Nat) (w : World) (e : Ending) (w' : World) : Prop := ∃ t : ByteArray, t.size ≤ n ∧ e = .returned (.string t) ∧ Kept w w'
theorem Run.len {s : ByteArray} {a : Nat} {l : List Line} {r : List Line × Nat × Bool} (h : Run s a l r) : l.length ≤ a → a ≤ s.size → r.1.length ≤ s.size := by
  induction h with
  | done h => intro h1 h2; simp only; omega
  | fail h hs => intro h1 h2; simp
  | @step a b l x r h hs _ ih =>
    intro h1 h2
    unfold stepAt at hs
    split at hs
    · cases hs
    · split at hs
      · cases hs
      · simp only [Option.some.injEq, Prod.mk.injEq] at hs
        have := lngAt_le notFeed s a h2
        exact ih (by simp; omega) (by omega)
set_option maxRecDepth 100000 in
set_option maxHeartbeats 2000000 in
theorem reads_any (s : ByteArray) (hs : s.size ≤ 2097152) (w : World) (hL : Laid w) : Calls Tryd.prog 11 #[.string s] w fun e w' => e = .returned (.bool true) ∧ Kept w w' := by
  have hR := callsIn_wide.1 (Read_in Fence.wide rfl 3 (by decide) s hs w hL)
  go_enter Tryd.func11, Tryd.ntmps11
  go_wp2_with fail
  refine hR.mono ?_
  clear hR
  rintro e w1 ⟨⟨l, a, ok, A, cap, hRun, rfl, hrow⟩, hk1⟩
  obtain ⟨E, hE⟩ : ∃ E : Int, (if ok then 0 else 10) = E := ⟨_, rfl⟩
  rw [hE]
  have HE := Lib.hid hE
  have HRun := Lib.hid hRun
  clear hRun hE
  go_wp2_with fail
  refine (rRead_any s hs _).mono ?_
  rintro e w2 ⟨l', a', ok', A', cap', hRun', rfl, hrow', hk2⟩
  have he := HRun.out.one hRun'
  simp only [Prod.mk.injEq] at he
  obtain ⟨rfl, rfl, rfl⟩ := he
  rw [HE.out]
  have hlen : l.length ≤ 100000000 := by have := hRun'.len (by simp) (by omega); simp at this; omega
  clear hRun'
  have hk3 := (Kept.refl w2).alloc (.cells #[.slice A' l.length cap', .int .i64 a, .int .i64 E] 84)
  have r1 := (hrow.kept hk2).kept hk3
  have r2 := hrow'.kept hk3
  clear hrow hrow'
  have b1 := heap_alloc_new w2 (.cells #[.slice A' l.length cap', .int .i64 a, .int .i64 E] 84)
  go_wp2_with fail
  refine (Same_yes l A A' cap cap' _ hlen r1 r2).mono ?_
  rintro e w3 ⟨rfl, hk4⟩
  have b2 := hk4.heap b1
  have b3 : w3.cell? ⟨w2.heap.size, 1, none⟩ = some (.int .i64 a) := by rw [Lib.cell_of_heap b2]; rfl
  have b4 : w3.cell? ⟨w2.heap.size, 2, none⟩ = some (.int .i64 E) := by rw [Lib.cell_of_heap b2]; rfl
  clear b1 b2
  go_wp2
  go_ret
  exact ⟨rfl, ((Kept.trans hk1 hk2).trans hk3).trans hk4⟩

set_option maxRecDepth 100000 in
set_option maxHeartbeats 2000000 in
theorem spoilt_any (s : ByteArray) (q0 q1 q2 : Int) (h0 : -9223372036854775808 ≤ q0) (h0' : q0 ≤ 9223372036854775807) (h1 : -9223372036854775808 ≤ q1) (h1' : q1 ≤ 9223372036854775807) (hs : s.size ≤ 2000000) (w : World) :
    Calls Tryd.prog 12 #[.string s, .agg #[.int .i64 q0, .int .i64 q1, .int .i64 q2]] w (SomeText (s.size + 1) w) := by
  have hcv := conv_one (w.alloc (.cells #[.int .i64 q0, .int .i64 q1, .int .i64 q2] 23)) (q2 % 256) (UInt8.ofNat (q2 % 256).toNat) (by simp; omega)
  rw [World.size_alloc] at hcv
  generalize UInt8.ofNat (q2 % 256).toNat = c at hcv
  by_cases he : s.size = 0
  · have he1 := name_empty he
    go_enter Tryd.func12, Tryd.ntmps12
    go_wp2
    go_ret
    exact ⟨⟨#[c]⟩, Nat.le_add_left _ _, rfl, ((Kept.refl w).alloc _).alloc _⟩
  · have he1 := toList_ne he
    have he2 : s.toList.isEmpty = false := by simpa using he1
    have hr := Int.emod_nonneg q1 (b := s.size) (by omega)
    have hr' := Int.emod_lt_of_pos q1 (b := s.size) (by omega)
    obtain ⟨I, hI⟩ := Int.eq_ofNat_of_zero_le hr
    have HI := Lib.hid hI
    rw [hI] at hr'
    have hI2 : I < s.size := by omega
    have hI3 : I ≤ s.size := by omega
    clear hI hr
    have ht1 : (s.extract 0 I).size = I := by simp; omega
    have ht2 : (s.extract I s.size).size = s.size - I := by simp
    have ht3 : (s.extract (I + 1) s.size).size = s.size - (I + 1) := by simp
    have hc1 : (⟨#[c]⟩ : ByteArray).size = 1 := rfl
    have ha1 : (s.extract 0 I ++ ⟨#[c]⟩ ++ s.extract (I + 1) s.size).size ≤ s.size + 1 := by rw [ByteArray.size_append, ByteArray.size_append, ht1, ht3, hc1]; omega
    have ha2 : (s.extract 0 I ++ s.extract (I + 1) s.size).size ≤ s.size + 1 := by rw [ByteArray.size_append, ht1, ht3]; omega
    have ha3 : (s.extract 0 I ++ ⟨#[c]⟩ ++ s.extract I s.size).size ≤ s.size + 1 := by rw [ByteArray.size_append, ByteArray.size_append, ht1, ht2, hc1]; omega
    have HA := Lib.hid (And.intro ha1 (And.intro ha2 ha3))
    clear ha1 ha2 ha3 hc1
    replace ht1 : (s.extract 0 I).size ≤ 2000000 := by omega
    replace ht2 : (s.extract I s.size).size ≤ 2000000 := by omega
    replace ht3 : (s.extract (I + 1) s.size).size ≤ 2000000 := by omega
    have hq : q0 % 3 = 0 ∨ q0 % 3 = 1 ∨ q0 % 3 = 2 := by omega
    rcases hq with hq | hq | hq
    all_goals
      have HQ := Lib.hid hq
      clear hq
      go_enter Tryd.func12, Tryd.ntmps12
      go_wp2_with (go_at_call 39; refine (rest_any _ _ (by assumption) (by assumption) (by omega) (by omega) _).mono ?_; rintro e w' ⟨rfl, rfl⟩; first | rw [HI.out] | rw [HQ.out])
      go_region
      go_wp2
      go_ret
      first
        | exact ⟨_, HA.out.1, rfl, (((Kept.refl w).alloc _).alloc _).drew⟩
        | exact ⟨_, HA.out.2.1, rfl, (((Kept.refl w).alloc _).alloc _).drew⟩
        | exact ⟨_, HA.out.2.2, rfl, (((Kept.refl w).alloc _).alloc _).drew⟩

theorem awake_text : (⟨(rendered [⟨⟨#[97]⟩, 7, true⟩, ⟨⟨#[98]⟩, 0, false⟩]).toArray⟩ : ByteArray) = ⟨#[97, 32, 55, 10, 98, 32, 109, 105, 115, 115, 10]⟩ := by decide +kernel
theorem awake_row (w : World) : linesRow (w.alloc (.cells #[.string ⟨#[97]⟩, .int .i64 7, .bool true, .string ⟨#[98]⟩, .int .i64 0, .bool false] 69)) (some ⟨w.heap.size, 0, none⟩) [⟨⟨#[97]⟩, 7, true⟩, ⟨⟨#[98]⟩, 0, false⟩] := fun _ =>
  ⟨_, 0, rfl, by simp, fun j u hu => by
    rw [Lib.cell_of_heap (heap_alloc_new w _), Nat.zero_add]
    simpa [Line.cells] using hu⟩
set_option maxRecDepth 100000 in
set_option maxHeartbeats 2000000 in
theorem awake23_any (w : World) (hP : Pows w) : Calls Tryd.prog 8 #[] w fun e w' => e = .returned (.bool true) ∧ Kept w w' := by
  go_enter Tryd.func8, Tryd.ntmps8
  go_wp2_with fail
  refine (Render_any [⟨⟨#[97]⟩, 7, true⟩, ⟨⟨#[98]⟩, 0, false⟩] (some ⟨w.heap.size, 0, none⟩) 2 _ (hP.kept ((Kept.refl w).alloc _)) (by decide) (by intro x hx; simp at hx; rcases hx with rfl | rfl <;> exact ⟨by decide, by decide, by decide⟩) (by decide +kernel) (awake_row w)).mono ?_
  rintro e w' ⟨rfl, hk⟩
  rw [awake_text]
  go_wp2
  go_ret
  exact ⟨rfl, ((Kept.refl w).alloc _).trans hk⟩

theorem linesRow.take {w : World} {A : Option Addr} {l : List Line} (h : linesRow w A l) (k : Nat) : linesRow w A (l.take k) := fun hn => by
  have hl := flat_length (f := Line.cells) (size := 3) (fun _ => rfl) (l.take k)
  have hl2 := flat_length (f := Line.cells) (size := 3) (fun _ => rfl) l
  have e : l.flatMap Line.cells = (l.take k).flatMap Line.cells ++ (l.drop k).flatMap Line.cells := by rw [← List.flatMap_append, List.take_append_drop]
  obtain ⟨b, off, h1, h2, h3⟩ := h (by rw [e, List.length_append]; omega)
  exact ⟨b, off, h1, h2, fun j u hu => h3 j u (by rw [e, List.getElem?_append_left (List.getElem?_eq_some_iff.1 hu).1]; exact hu)⟩
set_option maxRecDepth 100000 in
set_option maxHeartbeats 4000000 in
theorem ReportReads_tail (s S : ByteArray) (l L : List Line) (A : Option Addr) (cap : Nat) (q0 q1 q2 : Int) (h0 : -9223372036854775808 ≤ q0) (h0' : q0 ≤ 9223372036854775807) (h1 : -9223372036854775808 ≤ q1) (h1' : q1 ≤ 9223372036854775807)
    (hs : s.size ≤ 1048576) (hS : S = if 100 < s.size then s.extract 0 100 else s) (hLL : L = if 6 < l.length then l.take 6 else l) (hcap : l.length ≤ cap) (hfit : ∀ x ∈ l, x.fits) (hsum : (rendered L).length ≤ 1900000) (w : World) (hL : Laid w) (hrow : linesRow w A l) :
    Calls Tryd.prog 3 #[.string s, .slice A l.length cap, .agg #[.int .i64 q0, .int .i64 q1, .int .i64 q2]] w fun e w' => e = .returned (.bool true) ∧ Kept w w' := by
  have hS1 : S.size ≤ 1048576 := by rw [hS]; split; (simp; omega); exact hs
  have hL1 : L.length ≤ 6 ∧ L.length ≤ cap := by rw [hLL]; split; (simp; omega); omega
  have hrowL : linesRow w A L := by rw [hLL]; split; exact hrow.take 6; exact hrow
  have hfitL : ∀ x ∈ L, x.fits := by rw [hLL]; split; exact fun x hx => hfit x (List.mem_of_mem_take hx); exact hfit
  have hw0 := (Kept.refl w).alloc (.cells #[.int .i64 q0, .int .i64 q1, .int .i64 q2] 23)
  have hq := heap_alloc_new w (.cells #[.int .i64 q0, .int .i64 q1, .int .i64 q2] 23)
  have hr : (⟨(rendered L).toArray⟩ : ByteArray).size ≤ 1900000 := by show (rendered L).toArray.size ≤ _; simpa using hsum
  generalize hT : (⟨(rendered L).toArray⟩ : ByteArray) = T at *
  by_cases c1 : 100 < s.size <;> by_cases c2 : 6 < l.length
  all_goals
    first | rw [if_pos c1] at hS | rw [if_neg c1] at hS
    first | rw [if_pos c2] at hLL | rw [if_neg c2] at hLL
    have HT := Lib.hid hT
    clear hT
    have cRef : ∀ W, Kept w W → Calls Tryd.prog 9 #[.slice A L.length cap] W fun e w' => e = .returned (.string T) ∧ Kept W w' := fun W hk => by
      rw [← HT.out]; exact rRender_any L A cap W (by omega) hfitL (by omega) (hrowL.kept hk)
    have cRen : ∀ W, Kept w W → Calls Tryd.prog 10 #[.slice A L.length cap] W fun e w' => e = .returned (.string T) ∧ Kept W w' := fun W hk => by
      rw [← HT.out]; exact Render_any L A cap W (hL.kept hk).pows (by omega) hfitL (by omega) (hrowL.kept hk)
    have hN : L.length = (if 6 < l.length then 6 else l.length) := by rw [hLL]; first | rw [if_pos c2, List.length_take]; omega | rw [if_neg c2]
    first | rw [if_pos c2] at hN | rw [if_neg c2] at hN
    rw [hN] at cRef cRen
    clear hN HT hLL hsum hrowL hfitL hfit hrow
    replace hS := hS.symm
    subst hS
    have hab : (⟨#[97, 32, 55, 10, 98, 32, 109, 105, 115, 115, 10]⟩ : ByteArray).size = 11 := rfl
    first | (have c1' : (100 : Int) < s.size := by omega) | (have c1' : ¬ (100 : Int) < s.size := by omega)
    first | (have c2' : (6 : Int) < l.length := by omega) | (have c2' : ¬ (6 : Int) < l.length := by omega)
    go_enter Tryd.func3, Tryd.ntmps3
    go_wp2_with fail
    refine (awake23_any _ (hL.kept hw0).pows).mono ?_
    rintro e w1 ⟨rfl, hk1⟩
    have hK1 := hw0.trans hk1
    go_wp2_with fail
    refine (cRef _ hK1).mono ?_
    rintro e w2 ⟨rfl, hk2⟩
    have hK2 := hK1.trans hk2
    go_wp2_with fail
    refine (cRen _ hK2).mono ?_
    rintro e w3 ⟨rfl, hk3⟩
    have hK3 := hK2.trans hk3
    go_wp2_with fail
    refine (reads_any _ (by omega) _ (hL.kept hK3)).mono ?_
    rintro e w4 ⟨rfl, hk4⟩
    have hK4 := hK3.trans hk4
    go_wp2_with fail
    refine (reads_any _ (by omega) _ (hL.kept hK4)).mono ?_
    rintro e w5 ⟨rfl, hk5⟩
    have hK5 := hK4.trans hk5
    have hq5 := (((hk1.trans hk2).trans hk3).trans (hk4.trans hk5)).heap hq
    have k0 : w5.cell? ⟨w.heap.size, 0, none⟩ = some (.int .i64 q0) := by rw [Lib.cell_of_heap hq5]; rfl
    have k1 : w5.cell? ⟨w.heap.size, 1, none⟩ = some (.int .i64 q1) := by rw [Lib.cell_of_heap hq5]; rfl
    have k2 : w5.cell? ⟨w.heap.size, 2, none⟩ = some (.int .i64 q2) := by rw [Lib.cell_of_heap hq5]; rfl
    clear hq5
    go_wp2_with fail
    refine (spoilt_any T q0 q1 q2 h0 h0' h1 h1' (by omega) _).mono ?_
    rintro e w6 ⟨t, ht, rfl, hk6⟩
    have hK6 := hK5.trans hk6
    clear k0 k1 k2
    go_wp2_with fail
    refine (reads_any _ (by omega) _ (hL.kept hK6)).mono ?_
    rintro e w7 ⟨rfl, hk7⟩
    have hK7 := hK6.trans hk7
    go_wp2_with fail
    refine (reads_any _ (by rw [ByteArray.size_append, hab]; omega) _ (hL.kept hK7)).mono ?_
    rintro e w8 ⟨rfl, hk8⟩
    have hK8 := hK7.trans hk8
    go_wp2
    go_ret
    exact ⟨rfl, hK8⟩
end Go.Proofs.YthpndenlhdlicaaDoor
