/- report.rows: a text's rows, each with where it begins. -/
import Derived.Test.YtphdcoegkfmaeaaGreatDoorOne
import Derived.Test.YtphdcoegkfmaeaaGreatDoorRefRead
import Derived.Test.YtphdcoegkfmaeaaGreatDoorAll
set_option linter.unusedVariables false
set_option linter.unusedSimpArgs false
namespace Go.Proofs.YtphdcoegkfmaeaaGreatDoor
open Go.RowKit Go.Shelf

/-- Where the row that begins at a place ends. -/
def rowEnd (s : ByteArray) (a : Nat) : Nat := if a + lngAt notFeed s a = s.size then s.size else a + lngAt notFeed s a + 1
theorem lngAt_le (p : Nat → Bool) (s : ByteArray) (a : Nat) (h : a ≤ s.size) : a + lngAt p s a ≤ s.size := by
  have h1 : lngAt p s a ≤ (s.data.toList.drop a).length := (List.takeWhile_prefix _).length_le
  have h2 : (s.data.toList.drop a).length = s.size - a := by simp
  omega
theorem rowEnd_le (s : ByteArray) (a : Nat) (h : a < s.size) : a < rowEnd s a ∧ rowEnd s a ≤ s.size := by
  have := lngAt_le notFeed s a (by omega)
  unfold rowEnd
  split <;> omega
/-- A row. -/
abbrev RowOf (s : ByteArray) := { p : Nat × ByteArray // p.1 < s.size ∧ p.2.size ≤ s.size }
/-- So far these rows, up to a place. -/
inductive RowsTo (s : ByteArray) : Nat → List (RowOf s) → Prop
  | nil : RowsTo s 0 []
  | more {a : Nat} {ys : List (RowOf s)} {x : RowOf s} (h : RowsTo s a ys) (ha : a < s.size) (h1 : x.1.1 = a) (h2 : x.1.2 = s.extract a (rowEnd s a)) : RowsTo s (rowEnd s a) (ys ++ [x])
theorem RowsTo.len {s : ByteArray} {a : Nat} {ys : List (RowOf s)} (h : RowsTo s a ys) : ys.length ≤ a := by
  induction h with
  | nil => simp
  | more h ha _ _ ih =>
    have := (rowEnd_le s _ ha).1
    simp; omega
theorem indexByte_is (l : List UInt8) : Lib.indexByte l 10 = if (l.takeWhile (fun b => notFeed b.toNat)).length = l.length then -1 else ((l.takeWhile (fun b => notFeed b.toNat)).length : Int) := by
  induction l with
  | nil => rfl
  | cons c l ih =>
    unfold Lib.indexByte
    by_cases hc : c = 10
    · subst hc
      have : (List.takeWhile (fun b : UInt8 => notFeed b.toNat) (10 :: l)) = [] := by
        rw [List.takeWhile_cons, if_neg (by decide)]
      rw [this]; simp
    · have hn : notFeed c.toNat = true := by
        unfold notFeed
        simp
        intro h
        exact hc (UInt8.toNat_inj.1 h)
      rw [if_neg (by simp [hc]), ih, List.takeWhile_cons, if_pos hn]
      have hle := (List.takeWhile_prefix (l := l) (fun b : UInt8 => notFeed b.toNat)).length_le
      by_cases he : (l.takeWhile (fun b => notFeed b.toNat)).length = l.length
      · rw [if_pos he]; simp [he]
      · rw [if_neg he]
        simp [he]
theorem index_at (s : ByteArray) (a : Nat) (h : a ≤ s.size) : Lib.indexByte (s.extract a s.size).data.toList 10 + 1 = if a + lngAt notFeed s a = s.size then 0 else ((lngAt notFeed s a + 1 : Nat) : Int) := by
  have e : (s.extract a s.size).data.toList = s.data.toList.drop a := by
    simp [ByteArray.data_extract]
    exact List.take_of_length_le (by simp)
  have h2 : (s.data.toList.drop a).length = s.size - a := by simp
  rw [e, indexByte_is, h2]
  show (if lngAt notFeed s a = s.size - a then (-1 : Int) else (lngAt notFeed s a : Int)) + 1 = _
  have := lngAt_le notFeed s a h
  split
  · rw [if_pos (by omega)]; rfl
  · rw [if_neg (by omega)]; omega

theorem rows_any (s : ByteArray) (w : World) : Calls Tryz.prog 37 #[.string s] w fun e w' =>
    e = .returned (.func (.func 55) #[] #[.pointer (some ⟨w.heap.size, 0, none⟩)]) ∧ w' = w.alloc (.cells #[.string s] 9) := by
  go_enter Tryz.func37, Tryz.ntmps37
  go_wp2
  go_ret
  exact ⟨rfl, rfl⟩

/-- What lies in a block stays. -/
def KeepsAt (b : Nat) (W W' : World) : Prop := ∀ cs T fr, W.heap[b]? = some (.cells cs T fr) → W'.heap[b]? = some (.cells cs T fr)
theorem KeepsAt.refl {b : Nat} (W : World) : KeepsAt b W W := fun _ _ _ h => h
theorem KeepsAt.trans {b : Nat} {A B C : World} (h : KeepsAt b A B) (k : KeepsAt b B C) : KeepsAt b A C := fun _ _ _ e => k _ _ _ (h _ _ _ e)
theorem index_any (t : ByteArray) (v : Int) (hv : Lib.indexByte t.data.toList 10 = v) (w : World) : Calls Tryz.prog 56 #[.string t, .int .u8 10] w fun e w' => e = .returned (.int .i64 v) ∧ w = w' := by
  refine (Tryz.strings_IndexByte t 10 w).mono ?_
  rintro e w' ⟨rfl, rfl⟩
  refine ⟨?_, rfl⟩
  rw [← hv]; rfl
set_option maxRecDepth 100000 in
set_option maxHeartbeats 2000000 in
theorem rows1_in (n : Nat) (hn : 1 ≤ n) (l Bs : Nat) (s : ByteArray) (hs : s.size ≤ 2097152) (J Jx : List (RowOf s) → World → Prop) (W : World) (hJ : AbidesFrom W.heap.size J)
    (hY : ∀ pre x W, J pre W → pre.length < 2097153 → YieldAt Fence.wide (n - 1) Tryz.prog l #[.int .i64 (x.1.1 : Nat), .string x.1.2] W fun e W' =>
      (e = .returned (.bool true) ∧ J (pre ++ [x]) W' ∧ KeepsAt Bs W W') ∨ (e = .returned (.bool false) ∧ Jx (pre ++ [x]) W'))
    (hBs : W.heap[Bs]? = some (.cells #[.string s] 9 (0, 0))) (h0 : J [] W) :
    CallsIn Fence.wide n Tryz.prog 55 #[.func (.yield l) #[] #[], .pointer (some ⟨Bs, 0, none⟩)] W fun e W' => (∃ v, e = .returned v) ∧
      ((∃ ys, RowsTo s s.size ys ∧ J ys W') ∨ (∃ pre, (∃ a, RowsTo s a pre) ∧ Jx pre W')) := by
  refine callsIn_of_wp Tryz.func55 rfl trivial ?_ rfl
  simp only [Tryz.ntmps55, List.size_toArray, List.length_cons, List.length_nil, Nat.reduceAdd, Nat.reduceSub, Array.replicate_succ, Array.replicate_zero, List.push_toArray, List.append_toArray, List.nil_append, List.cons_append]
  gi_wp2
  have hW0 : KeepsAt Bs W W := KeepsAt.refl W
  gi_loopw [3] (fun iv wr => ∃ (a : Nat) (ys : List (RowOf s)), a ≤ s.size ∧ RowsTo s a ys ∧ iv = .int .i64 a ∧ J ys wr ∧ KeepsAt Bs W wr) (fun iv _ => s.size - (intOf iv).toNat)
  case atStart => exact ⟨0, [], by omega, .nil, rfl, h0, hW0⟩
  case round =>
    obtain ⟨a, ys, ha, hrows, rfl, hJa, hWa⟩ := hrel
    have hB3 : wr.heap[Bs]? = some (.cells #[.string s] 9 (0, 0)) := hWa _ _ _ hBs
    have hc3 : wr.cell? ⟨Bs, 0, none⟩ = some (.string s) := by rw [Lib.cell_of_heap hB3]; rfl
    by_cases hend : a = s.size
    · have hlt : ¬ ((a : Int) < s.size) := by omega
      gi_wp2
      go_end0
      exact ⟨⟨_, rfl⟩, .inl ⟨_, by rw [← hend]; exact hrows, hJa⟩⟩
    · have hlt : ((a : Int) < s.size) := by omega
      obtain ⟨hr1, hr2⟩ := rowEnd_le s a (by omega)
      have hlen := hrows.len
      have hidx := index_at s a ha
      have hle := lngAt_le notFeed s a ha
      by_cases hL : a + lngAt notFeed s a = s.size
      · have hre : rowEnd s a = s.size := by unfold rowEnd; rw [if_pos hL]
        have hix : Lib.indexByte (s.extract a s.size).data.toList 10 = -1 := by rw [if_pos hL] at hidx; omega
        obtain ⟨x, hx1, hx2⟩ : ∃ x : RowOf s, x.1.1 = a ∧ x.1.2 = s.extract a s.size := ⟨⟨(a, s.extract a s.size), by show a < s.size; omega, by simp⟩, rfl, rfl⟩
        have hmore : RowsTo s s.size (ys ++ [x]) := by
          have := RowsTo.more (x := x) hrows (by omega) hx1 (by rw [hre, hx2])
          rw [hre] at this; exact this
        obtain ⟨fn, tmps, assign, body, hy, hR⟩ := hY ys x wr hJa (by omega)
        rw [hx1, hx2] at hy
        have Hmore := Lib.hid hmore
        have Hix := Lib.hid hix
        clear hmore hix hidx hre hL hle hr1 hr2 hrows
        gi_wp2_with (refine ⟨trivial, ?_⟩; gi_at_call 56; refine (callsIn_wide.2 (index_any (s.extract a s.size) (-1) Hix.out _)).mono ?_; rintro e w' ⟨rfl, rfl⟩)
        refine hR.mono ?_
        rintro e W3 (⟨rfl, hJ3, hk3⟩ | ⟨rfl, hJx3⟩)
        · gi_wp2
          go_roundw
          case rel => exact ⟨s.size, _, by omega, Hmore.out, by first | go_num | (simp; omega), hJ3, hWa.trans hk3⟩
          case measure => simp [intOf]; omega
        · gi_wp2
          refine bodyPost_ret (results_none rfl _ _ _) rfl ?_
          exact ⟨⟨_, rfl⟩, .inr ⟨_, ⟨_, Hmore.out⟩, hJx3⟩⟩
      · obtain ⟨L, hLL⟩ : ∃ L, lngAt notFeed s a = L := ⟨_, rfl⟩
        rw [hLL] at hL hle hidx
        have hre : rowEnd s a = a + (L + 1) := by unfold rowEnd; rw [hLL, if_neg hL]; omega
        have hix : Lib.indexByte (s.extract a s.size).data.toList 10 = (L : Int) := by rw [if_neg hL] at hidx; omega
        obtain ⟨x, hx1, hx2⟩ : ∃ x : RowOf s, x.1.1 = a ∧ x.1.2 = s.extract a (a + (L + 1)) := ⟨⟨(a, s.extract a (a + (L + 1))), by show a < s.size; omega, by simp; omega⟩, rfl, rfl⟩
        have hmore : RowsTo s (a + (L + 1)) (ys ++ [x]) := by
          have := RowsTo.more (x := x) hrows (by omega) hx1 (by rw [hre, hx2])
          rw [hre] at this; exact this
        obtain ⟨fn, tmps, assign, body, hy, hR⟩ := hY ys x wr hJa (by omega)
        rw [hx1, hx2] at hy
        have hs1 : (a : Int) + ((L : Int) + 1) ≤ s.size := by omega
        have hs2 : (a : Int) ≤ (a : Int) + ((L : Int) + 1) := by omega
        have Hmore := Lib.hid hmore
        have Hix := Lib.hid hix
        clear hmore hix hidx hre hLL hr1 hr2 hrows
        gi_wp2_with (refine ⟨trivial, ?_⟩; gi_at_call 56; refine (callsIn_wide.2 (index_any (s.extract a s.size) L Hix.out _)).mono ?_; rintro e w' ⟨rfl, rfl⟩)
        refine hR.mono ?_
        rintro e W3 (⟨rfl, hJ3, hk3⟩ | ⟨rfl, hJx3⟩)
        · gi_wp2
          go_roundw
          case rel => exact ⟨a + (L + 1), _, by omega, Hmore.out, by first | go_num | (simp; omega), hJ3, hWa.trans hk3⟩
          case measure => simp [intOf]; omega
        · gi_wp2
          refine bodyPost_ret (results_none rfl _ _ _) rfl ?_
          exact ⟨⟨_, rfl⟩, .inr ⟨_, ⟨_, Hmore.out⟩, hJx3⟩⟩

/-- **rows(s) HANDS BACK A VALUE THAT TELLS ALL ROWS IN ORDER; or a prefix.** -/
theorem rows_stops (n : Nat) (hn : 1 ≤ n) (Bs : Nat) (s : ByteArray) (hs : s.size ≤ 2097152) (w : World) (hBs : w.heap[Bs]? = some (.cells #[.string s] 9 (0, 0))) :
    SeqStopsK Fence.wide n Tryz.prog 55 #[.pointer (some ⟨Bs, 0, none⟩)] (fun x : RowOf s => #[Value.int .i64 (x.1.1 : Nat), .string x.1.2]) (KeepsAt Bs) (fun ys => RowsTo s s.size ys) (fun pre => ∃ a, RowsTo s a pre) 2097153 w := fun l J Jx W hW hJ hJx hY h0 => by
  have hB : Bs < w.heap.size := (Array.getElem?_eq_some_iff.1 hBs).1
  exact rows1_in n hn l Bs s hs J Jx W hJ (fun pre x W1 h hlen => hY pre x W1 h hlen) ((hW.block Bs hB).trans hBs) h0
end Go.Proofs.YtphdcoegkfmaeaaGreatDoor
