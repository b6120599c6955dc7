/- cadencylaw23: what of ReportReads does not hang on the row. -/
import Derived.Test.YtphdcoegkfmaeaaGreatDoorRead
import Derived.Deep.QuietTactic
import Derived.BigQuiet
set_option linter.unusedVariables false
set_option linter.unusedSimpArgs false
namespace Go.Proofs.YtphdcoegkfmaeaaGreatDoor
open Go.RowKit Go.Shelf

def lnEq (x y : Line) : Bool := (x.name.toList == y.name.toList) && (x.r == y.r) && (x.ok == y.ok)
set_option maxRecDepth 100000 in
set_option maxHeartbeats 400000 in
theorem Same_yes (l : List Line) (A B : Option Addr) (ca cb : Nat) (w : World) (hlen : l.length ≤ 100000000) (hA : linesRow w A l) (hB : linesRow w B l) :
    Calls Tryz.prog 17 #[.slice A l.length ca, .slice B l.length cb] w fun e w' => e = .returned (.bool true) ∧ Kept w w' := by
  go_enter Tryz.func17, Tryz.ntmps17
  go_wp2
  go_loopw [5] (fun iv wr => ∃ k : Nat, k ≤ l.length ∧ iv = .int .i64 k ∧ Kept w wr) (fun iv _ => l.length - (intOf iv).toNat)
  case atStart => exact ⟨0, by omega, rfl, Kept.refl w⟩
  case round =>
    obtain ⟨k, hk, rfl, hK⟩ := hrel
    by_cases he : k = l.length
    · have hlt : ¬ ((k : Int) < l.length) := by omega
      go_wp2
      go_ret
      exact ⟨rfl, hK⟩
    · have hlt : ((k : Int) < l.length) := by omega
      obtain ⟨x, hx⟩ : ∃ x, l[k]? = some x := ⟨_, List.getElem?_eq_getElem (by omega)⟩
      obtain ⟨b, off, rfl, c0, c1, c2⟩ := (hA.kept hK).range hx
      obtain ⟨b', off', rfl, d0, d1, d2⟩ := (hB.kept hK).range hx
      go_wp2
      repeat (go_quiet (fail); try go_wp2)
      go_roundw
      case rel => exact ⟨k + 1, by omega, by go_num, by repeat (first | exact hK | apply Kept.drewN | apply Kept.drew)⟩
      case measure => simp [intOf]; omega

theorem rest_num (x n : Int) (h1 : 1 ≤ n) : (x.tmod n + n) % n = x % n := by
  have e := Int.tmod_eq_emod (a := x) (b := n)
  have h3 : (n.natAbs : Int) = n := by omega
  split at e
  · rw [e]; simp
  · rw [e, h3, Int.sub_add_cancel, Int.emod_emod]
theorem rest_low (x n : Int) (h1 : 1 ≤ n) : -n < x.tmod n ∧ x.tmod n < n := by
  have e := Int.tmod_eq_emod (a := x) (b := n)
  have h0 := Int.emod_nonneg x (b := n) (by omega)
  have h2 := Int.emod_lt_of_pos x (b := n) (by omega)
  have h3 : (n.natAbs : Int) = n := by omega
  split at e <;> omega
theorem ret_i {k : IntKind} {a b : Int} (h : a = b) : Ending.returned (.int k a) = .returned (.int k b) := by rw [h]
set_option maxRecDepth 100000 in
theorem rest_any (x n : Int) (h0 : -9223372036854775808 ≤ x) (h9 : x ≤ 9223372036854775807) (h1 : 1 ≤ n) (h2 : n ≤ 4611686018427387904) (w : World) :
    Calls Tryz.prog 40 #[.int .i64 x, .int .i64 n] w fun e w' => e = .returned (.int .i64 (x % n)) ∧ w = w' := by
  obtain ⟨l1, l2⟩ := rest_low x n h1
  have hz : ((n : Int) == 0) = false := by simp; omega
  have hn := Lib.hid (rest_num x n h1)
  go_enter Tryz.func40, Tryz.ntmps40
  go_wp2
  go_ret
  exact ⟨ret_i hn.out, rfl⟩
def SomeText (n : Nat) (w : World) (e : Ending) (w' : World) : Prop := ∃ t : ByteArray, t.size ≤ n ∧ e = .returned (.string t) ∧ Kept w w'
theorem Run.len {s : ByteArray} {a : Nat} {l : List Line} {r : List Line × Nat × Bool} (h : Run s a l r) : l.length ≤ a → a ≤ s.size → r.1.length ≤ s.size := by
  induction h with
  | done h => intro h1 h2; simp only; omega
  | fail h hs => intro h1 h2; simp
  | @step a b l x r h hs _ ih =>
    intro h1 h2
    unfold stepAt at hs
    split at hs
    · cases hs
    · split at hs
      · cases hs
      · simp only [Option.some.injEq, Prod.mk.injEq] at hs
        have := lngAt_le notFeed s a h2
        exact ih (by simp; omega) (by omega)
set_option maxRecDepth 100000 in
set_option maxHeartbeats 2000000 in
theorem spoilt_any (s : ByteArray) (q0 q1 q2 : Int) (h0 : -9223372036854775808 ≤ q0) (h0' : q0 ≤ 9223372036854775807) (h1 : -9223372036854775808 ≤ q1) (h1' : q1 ≤ 9223372036854775807) (hs : s.size ≤ 2000000) (w : World) :
    Calls Tryz.prog 19 #[.string s, .agg #[.int .i64 q0, .int .i64 q1, .int .i64 q2]] w (SomeText (s.size + 1) w) := by
  have hcv := conv_one (w.alloc (.cells #[.int .i64 q0, .int .i64 q1, .int .i64 q2] 37)) (q2 % 256) (UInt8.ofNat (q2 % 256).toNat) (by simp; omega)
  rw [World.size_alloc] at hcv
  generalize UInt8.ofNat (q2 % 256).toNat = c at hcv
  by_cases he : s.size = 0
  · have he1 := name_empty he
    go_enter Tryz.func19, Tryz.ntmps19
    go_wp2
    go_ret
    exact ⟨⟨#[c]⟩, Nat.le_add_left _ _, rfl, ((Kept.refl w).alloc _).alloc _⟩
  · have he1 := toList_ne he
    have he2 : s.toList.isEmpty = false := by simpa using he1
    have hr := Int.emod_nonneg q1 (b := s.size) (by omega)
    have hr' := Int.emod_lt_of_pos q1 (b := s.size) (by omega)
    obtain ⟨I, hI⟩ := Int.eq_ofNat_of_zero_le hr
    have HI := Lib.hid hI
    rw [hI] at hr'
    have hI2 : I < s.size := by omega
    have hI3 : I ≤ s.size := by omega
    clear hI hr
    have ht1 : (s.extract 0 I).size = I := by simp; omega
    have ht2 : (s.extract I s.size).size = s.size - I := by simp
    have ht3 : (s.extract (I + 1) s.size).size = s.size - (I + 1) := by simp
    have hc1 : (⟨#[c]⟩ : ByteArray).size = 1 := rfl
    have ha1 : (s.extract 0 I ++ ⟨#[c]⟩ ++ s.extract (I + 1) s.size).size ≤ s.size + 1 := by rw [ByteArray.size_append, ByteArray.size_append, ht1, ht3, hc1]; omega
    have ha2 : (s.extract 0 I ++ s.extract (I + 1) s.size).size ≤ s.size + 1 := by rw [ByteArray.size_append, ht1, ht3]; omega
    have ha3 : (s.extract 0 I ++ ⟨#[c]⟩ ++ s.extract I s.size).size ≤ s.size + 1 := by rw [ByteArray.size_append, ByteArray.size_append, ht1, ht2, hc1]; omega
    have HA := Lib.hid (And.intro ha1 (And.intro ha2 ha3))
    clear ha1 ha2 ha3 hc1
    replace ht1 : (s.extract 0 I).size ≤ 2000000 := by omega
    replace ht2 : (s.extract I s.size).size ≤ 2000000 := by omega
    replace ht3 : (s.extract (I + 1) s.size).size ≤ 2000000 := by omega
    have hq : q0 % 3 = 0 ∨ q0 % 3 = 1 ∨ q0 % 3 = 2 := by omega
    rcases hq with hq | hq | hq
    all_goals
      have HQ := Lib.hid hq
      clear hq
      go_enter Tryz.func19, Tryz.ntmps19
      go_wp2_with (go_at_call 40; refine (rest_any _ _ (by assumption) (by assumption) (by omega) (by omega) _).mono ?_; rintro e w' ⟨rfl, rfl⟩; first | rw [HI.out] | rw [HQ.out])
      go_region
      go_wp2
      go_ret
      first
        | exact ⟨_, HA.out.1, rfl, (((Kept.refl w).alloc _).alloc _).drew⟩
        | exact ⟨_, HA.out.2.1, rfl, (((Kept.refl w).alloc _).alloc _).drew⟩
        | exact ⟨_, HA.out.2.2, rfl, (((Kept.refl w).alloc _).alloc _).drew⟩

theorem awake_text : (⟨(rendered [⟨⟨#[97]⟩, 7, true⟩, ⟨⟨#[98]⟩, 0, false⟩]).toArray⟩ : ByteArray) = ⟨#[97, 32, 55, 10, 98, 32, 109, 105, 115, 115, 10]⟩ := by decide +kernel
theorem awake_row (w : World) : linesRow (w.alloc (.cells #[.string ⟨#[97]⟩, .int .i64 7, .bool true, .string ⟨#[98]⟩, .int .i64 0, .bool false] 75)) (some ⟨w.heap.size, 0, none⟩) [⟨⟨#[97]⟩, 7, true⟩, ⟨⟨#[98]⟩, 0, false⟩] := fun _ =>
  ⟨_, 0, rfl, by simp, fun j u hu => by
    rw [Lib.cell_of_heap (heap_alloc_new w _), Nat.zero_add]
    simpa [Line.cells] using hu⟩
set_option maxRecDepth 100000 in
set_option maxHeartbeats 2000000 in
theorem awake23_any (w : World) (hP : Pows w) : Calls Tryz.prog 13 #[] w fun e w' => e = .returned (.bool true) ∧ Kept w w' := by
  go_enter Tryz.func13, Tryz.ntmps13
  go_wp2_with fail
  refine (Render_any [⟨⟨#[97]⟩, 7, true⟩, ⟨⟨#[98]⟩, 0, false⟩] (some ⟨w.heap.size, 0, none⟩) 2 _ (hP.kept ((Kept.refl w).alloc _)) (by decide) (by intro x hx; simp at hx; rcases hx with rfl | rfl <;> exact ⟨by decide, by decide, by decide⟩) (by decide +kernel) (awake_row w)).mono ?_
  rintro e w' ⟨rfl, hk⟩
  rw [awake_text]
  go_wp2
  go_ret
  exact ⟨rfl, ((Kept.refl w).alloc _).trans hk⟩

theorem linesRow.take {w : World} {A : Option Addr} {l : List Line} (h : linesRow w A l) (k : Nat) : linesRow w A (l.take k) := fun hn => by
  have hl := flat_length (f := Line.cells) (size := 3) (fun _ => rfl) (l.take k)
  have hl2 := flat_length (f := Line.cells) (size := 3) (fun _ => rfl) l
  have e : l.flatMap Line.cells = (l.take k).flatMap Line.cells ++ (l.drop k).flatMap Line.cells := by rw [← List.flatMap_append, List.take_append_drop]
  obtain ⟨b, off, h1, h2, h3⟩ := h (by rw [e, List.length_append]; omega)
  exact ⟨b, off, h1, h2, fun j u hu => h3 j u (by rw [e, List.getElem?_append_left (List.getElem?_eq_some_iff.1 hu).1]; exact hu)⟩
end Go.Proofs.YtphdcoegkfmaeaaGreatDoor
