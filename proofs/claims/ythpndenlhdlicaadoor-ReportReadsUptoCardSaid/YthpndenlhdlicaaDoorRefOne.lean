/- The document's one: a row's line. -/
import Derived.Test.YthpndenlhdlicaaDoorGood
import Derived.Test.YthpndenlhdlicaaDoorRefThree
import Derived.Deep.RegionWith
import Derived.Deep.QuietTactic
import Derived.BigQuiet
import Derived.Deep.DeepCutAuto
set_option linter.unusedVariables false
set_option linter.unusedSimpArgs false
namespace Go.Proofs.YthpndenlhdlicaaDoor
open Go.RowKit Go.Shelf

theorem at3 {w : World} {n : Nat} {a b c : Value} {T : TypeId} {fr : Nat × Nat} (h : w.heap[n]? = some (.cells #[a, b, c] T fr)) : w.cell? ⟨n, 0, none⟩ = some a ∧ w.cell? ⟨n, 1, none⟩ = some b ∧ w.cell? ⟨n, 2, none⟩ = some c := by
  refine ⟨?_, ?_, ?_⟩ <;> (rw [Lib.cell_of_heap h]; rfl)

theorem at3' {w : World} {n : Nat} {a b c : Value} {T : TypeId} {fr : Nat × Nat} (h : w.heap[n]? = some (.cells #[a, b, c] T fr)) : (∀ o, (w.alloc o).cell? ⟨n, 0, none⟩ = some a) ∧ (∀ o, (w.alloc o).cell? ⟨n, 1, none⟩ = some b) ∧ ∀ o, (w.alloc o).cell? ⟨n, 2, none⟩ = some c := by
  have h' : ∀ o, (w.alloc o).heap[n]? = some (.cells #[a, b, c] T fr) := fun o => ((Kept.refl w).alloc o).heap h
  exact ⟨fun o => (at3 (h' o)).1, fun o => (at3 (h' o)).2.1, fun o => (at3 (h' o)).2.2⟩
theorem line_one (a : ByteArray) (b : Int) (c : Bool) : (#[Value.string a, Value.int .i64 b, Value.bool c]).all (·.oneCell') = true := by simp [Value.oneCell']
theorem ofNat_byte {b : Nat} (h : b < 256) : (UInt8.ofNat b).toNat = b := by simp only [UInt8.toNat_ofNat']; exact Nat.mod_eq_of_lt h
theorem dig_step {l : List UInt8} {i b : Nat} (h : l[i]? = some (UInt8.ofNat b)) (hb : 48 ≤ b) (h256 : b < 256) : ((digVal 0 (l.take i) : Nat) : Int) * 10 + ((b : Int) - 48) = ((digVal 0 (l.take (i + 1)) : Nat) : Int) := by
  rw [List.take_add_one, h, digVal_append]
  show _ = ((digVal 0 (l.take i) * 10 + ((UInt8.ofNat b).toNat - 48) : Nat) : Int)
  rw [ofNat_byte h256]
  omega
theorem digs_step {l : List UInt8} {i b : Nat} (hd : Digs (l.take i)) (h : l[i]? = some (UInt8.ofNat b)) (hb : 48 ≤ b ∧ b ≤ 57) (h256 : b < 256) : Digs (l.take (i + 1)) := by
  rw [List.take_add_one, h]
  intro c hc
  rcases List.mem_append.1 hc with hc | hc
  · exact hd c hc
  · have : c = UInt8.ofNat b := by simpa using hc
    rw [this, ofNat_byte h256]; exact hb
theorem conv_at (W : World) (b : Nat) (h : W.cell? ⟨b, 0, none⟩ = some (.int .u8 10)) : (convert 72 9 (.slice (some ⟨b, 0, none⟩) 1 1)).run Tryd.prog W = .ok (.string ⟨#[10]⟩) W :=
  run_convert_bytes_back _ _ _ _ ⟨b, 0, none⟩ 1 [10] Tryd.underlying72 Tryd.underlying5 Tryd.underlying9 (fun j hj => by
    have : j = 0 := by simp at hj; omega
    subst this
    exact h)
set_option maxRecDepth 100000 in
set_option maxHeartbeats 1000000 in
theorem rOne_any (s : ByteArray) (hs : s.size ≤ 1125899906842624) (w : World) :
    Calls Tryd.prog 70 #[.string s] w fun e w' => e = .returned (lineOf (s ++ feed)).val ∧ Kept w w' := by
  go_enter Tryd.func70, Tryd.ntmps70
  go_wp2
  go_loop [3] (fun v => ∃ k : Nat, v = .int .i64 k ∧ k ≤ s.size ∧ ∀ j, j < k → byteAt s j ≠ 32) (fun v => s.size - (intOf v).toNat)
  case atStart => exact ⟨0, rfl, by omega, fun j hj => by omega⟩
  case round =>
    obtain ⟨k, rfl, hk, hno⟩ := hrel
    by_cases he : k = s.size
    · have hv : lineOf (s ++ feed) = zeroLine := parse_none (by rw [← he]; exact hno)
      have Hv := Lib.hid hv
      clear hv hno
      have hlt : ¬ ((k : Int) < s.size) := by omega
      go_wp2
      refine bodyPost_ret (results_cell_row rfl _ _ w.heap.size 69 _ (0, 0) _ rfl (heap_alloc2_old _ _ _) Tryd.underlying69 rfl (by kernel_rfl)) rfl ⟨?_, ((Kept.refl w).alloc _).alloc _⟩
      rw [Hv.out]; rfl
    · have hlt : ((k : Int) < s.size) := by omega
      have hb := byteAt_lt s k
      have hsk := byteAt_elem s (k := k) (by omega)
      by_cases h32 : byteAt s k = 32
      · have hp : Parsed (s ++ feed) (s.extract 0 k) (s.extract (k + 1) s.size).data.toList := fun y hy ht => parse_at (by omega) h32 hno hy ht
        have Hp := Lib.hid hp
        have hsk' : (s[k]'(by omega)).toNat = 32 := by rw [hsk, h32]
        clear hp hno h32 hsk hb
        have hk1 : (k : Int) + 1 ≤ s.size := by omega
        have hke : ((k : Int) == s.size) = false := by simp; omega
        have hWs : (s.extract (k + 1) s.size).size ≤ s.size := by simp
        go_upto_if 34 with fail
        generalize s.extract (k + 1) s.size = W at *
        go_cut [6] (fun _ wx => ∃ (u : World) (R : Int) (ok : Bool), Kept w u ∧ u.heap.size = w.heap.size ∧ wx = (u.alloc (.cells #[.string ⟨#[]⟩, .int .i64 0, .bool false] 69)).alloc (.cells #[.string (s.extract 0 k), .int .i64 R, .bool ok] 69) ∧ 0 ≤ R ∧ R ≤ 10000000000000 ∧ (ok = false → R = 0) ∧ ∀ y, Good y → y.text = s ++ feed → y = ⟨s.extract 0 k, R, ok⟩)
        case first =>
          cases hm : (W.toList == [109, 105, 115, 115]) with
          | true =>
            have hW : W.data.toList = missW := by rw [← bytes_toList]; exact eq_of_beq hm
            go_wp2_with fail
            go_meet
            exact ⟨w, 0, false, Kept.refl w, rfl, rfl, by omega, by omega, fun _ => rfl, parsed_miss Hp.out hW⟩
          | false =>
            have hW : W.data.toList ≠ missW := by
              rw [← bytes_toList]
              intro h
              rw [h] at hm
              exact absurd hm (by decide)
            have Hd := Lib.hid (parsed_digits Hp.out hW)
            have hWl : W.data.toList.length = W.size := by simp
            by_cases h13 : W.size ≤ 13
            · have h13' : (W.size : Int) ≤ 13 := by omega
              go_wp2_with fail
              go_loopw [6] (fun iv wx => ∃ (i : Nat) (u : World), iv = .int .i64 i ∧ i ≤ W.size ∧ Kept w u ∧ u.heap.size = w.heap.size ∧ Digs (W.data.toList.take i) ∧ wx = (u.alloc (.cells #[.string ⟨#[]⟩, .int .i64 0, .bool false] 69)).alloc (.cells #[.string (s.extract 0 k), .int .i64 (digVal 0 (W.data.toList.take i) : Nat), .bool true] 69)) (fun iv _ => W.size - (intOf iv).toNat)
              case atStart => exact ⟨0, w, rfl, by omega, Kept.refl w, rfl, by simp [Digs], rfl⟩
              case round =>
                obtain ⟨i, u, rfl, hi, hKu, hu, hdg, rfl⟩ := hrel
                have hRb := digVal_lt _ hdg 0
                have hRc : digVal 0 (W.data.toList.take i) ≤ 10000000000000 := by
                  have h1 : (W.data.toList.take i).length = i := by simp; omega
                  rw [h1] at hRb
                  have h2 := tens_le i (13 - i)
                  rw [show i + (13 - i) = 13 by omega, show tens 13 = 10000000000000 from rfl] at h2
                  omega
                rw [← hu]
                by_cases hie : i = W.size
                · have hlt2 : ¬ ((i : Int) < W.size) := by omega
                  have htake : W.data.toList.take i = W.data.toList := List.take_of_length_le (by omega)
                  rw [htake] at hRc ⊢
                  have Hd2 := Lib.hid fun y hy ht => ((Hd.out y hy ht).1 : y = _)
                  go_wp2_with fail
                  go_meet
                  exact ⟨u, (digVal 0 W.data.toList : Nat), true, hKu, hu, rfl, by omega, by omega, fun h => by simp at h, Hd2.out⟩
                · have hlt2 : (i : Int) < W.size := by omega
                  have hbi := byteAt_lt W i
                  have hsi := byteAt_elem W (k := i) (by omega)
                  have hget : W.data.toList[i]? = some (UInt8.ofNat (byteAt W i)) := byteAt_get (by omega)
                  by_cases hdig : 48 ≤ byteAt W i ∧ byteAt W i ≤ 57
                  · have hdig1 : (48 : Int) ≤ byteAt W i := by omega
                    have hdig2 : ((byteAt W i : Nat) : Int) ≤ 57 := by omega
                    have hstep : ((digVal 0 (W.data.toList.take i) : Nat) : Int) * 10 + ((byteAt W i : Int) - 48) = ((digVal 0 (W.data.toList.take (i + 1)) : Nat) : Int) := dig_step hget hdig.1 hbi
                    have hdg' : Digs (W.data.toList.take (i + 1)) := digs_step hdg hget hdig hbi
                    have Hstep := Lib.hid hstep
                    have Hdg := Lib.hid hdg'
                    clear hstep hdg' hget
                    go_wp2_with fail
                    go_region
                    rw [Hstep.out]
                    go_wp2_with fail
                    try rw [hu]
                    go_roundw
                    case rel => exact ⟨i + 1, u.drew, by go_num, by omega, hKu.drew, hu, Hdg.out, rfl⟩
                    case measure => simp [intOf]; omega
                  · have hv : lineOf (s ++ feed) = zeroLine := lineOf_none fun y hy ht => by
                      have h1 := (Hd.out y hy ht).2.1 _ (List.mem_of_getElem? hget)
                      simp only [UInt8.toNat_ofNat'] at h1
                      rw [Nat.mod_eq_of_lt hbi] at h1
                      exact hdig h1
                    have hcond : (decide ((byteAt W i : Int) < 48) || decide ((57 : Int) < byteAt W i)) = true := by simp; omega
                    have Hv := Lib.hid hv
                    clear hv hget
                    go_wp2_with fail
                    all_goals
                      refine bodyPost_ret (results_cell_row rfl _ _ w.heap.size 69 _ (0, 0) _ rfl (by rw [← hu]; exact heap_alloc2_old _ _ _) Tryd.underlying69 rfl (by kernel_rfl)) rfl ⟨?_, (hKu.alloc _).alloc _⟩
                      rw [Hv.out]; rfl
            · have h13' : ¬ ((W.size : Int) ≤ 13) := by omega
              have hv : lineOf (s ++ feed) = zeroLine := lineOf_none fun y hy ht => by
                have := (Hd.out y hy ht).2.2.1
                omega
              have Hv := Lib.hid hv
              clear hv
              go_wp2_with fail
              refine bodyPost_ret (results_cell_row rfl _ _ w.heap.size 69 _ (0, 0) _ rfl (heap_alloc2_old _ _ _) Tryd.underlying69 rfl (by kernel_rfl)) rfl ⟨?_, ((Kept.refl w).alloc _).alloc _⟩
              rw [Hv.out]; rfl
        case rest =>
          obtain ⟨u, R, ok, hKu, hu, rfl, hR0, hR, hok, hpar⟩ := hcut
          have hv : lineOf (s ++ feed) = _ := lineOf_check (s ++ feed) ⟨s.extract 0 k, R, ok⟩ hR0 hok hpar
          have Hv := Lib.hid hv
          have hft : Line.fits ⟨s.extract 0 k, R, ok⟩ := ⟨by simp; omega, by simp only; omega, by simp only; omega⟩
          have hsz : (s.extract 0 k).size ≤ maxLen := by unfold maxLen; simp; omega
          have Hft := Lib.hid hft
          clear hv hft hpar hok
          rw [← hu]
          have Hu := Lib.hid hu
          clear hu
          generalize s.extract 0 k = nm at *
          go_wp2_with fail
          refine (rWord_any nm hsz _).mono ?_
          rintro e w1 ⟨rfl, hK1⟩
          have hX := hK1.heap (heap_alloc2_new _ _ _)
          have hA := hK1.heap (heap_alloc2_old _ _ _)
          obtain ⟨g0, g1, g2⟩ := at3 hX
          obtain ⟨q0, q1, q2⟩ := at3' hX
          have hconv : ∀ (W : World) (b : Nat), W.cell? ⟨b, 0, none⟩ = some (.int .u8 10) → (convert 72 9 (.slice (some ⟨b, 0, none⟩) 1 1)).run Tryd.prog W = .ok (.string ⟨#[10]⟩) W := conv_at
          obtain ⟨wd, hwd⟩ : ∃ b, isWord nm = b := ⟨_, rfl⟩
          rw [hwd]
          have Hwd := Lib.hid hwd
          have HR := Lib.hid hR
          have HR0 := Lib.hid hR0
          clear hwd hR hR0
          go_upto_region 19 with fail
          go_cut [85] (fun v wx => v = .bool (!(wd && decide (R < 1099511627776) && decide (Line.text ⟨nm, R, ok⟩ = s ++ feed))) ∧ Kept w1 wx)
          case first =>
            cases wd with
            | false =>
              go_quiet (fail)
              go_wp2_with fail
              go_meet
              exact ⟨by simp, (Kept.refl w1).drewN _⟩
            | true =>
              by_cases hR40 : R < 1099511627776
              · have hR1 : R < 1099511627776 := by omega
                have hR2 : decide ((1099511627776 : Int) ≤ R) = false := by simp; omega
                have HR40 := Lib.hid hR40
                have HR1 := Lib.hid hR1
                clear hR40
                go_region_with (go_at_call 31; refine (rLine_any ⟨nm, R, ok⟩ Hft.out _).mono ?_; rintro e w2 ⟨rfl, hk2⟩; try have gc := hk2.cell (p := ⟨w1.heap.size, 0, none⟩) (by simp [World.cell?_alloc_mark]; rfl))
                all_goals
                  go_wp2_with fail
                  go_meet
                  refine ⟨?_, ?_⟩
                  · first
                      | (rw [toList_beq]; simp [HR1.out, feed]; exact decide_eq_decide.2 Iff.rfl)
                  · first
                      | exact ((Kept.refl w1).drew.trans hk2).alloc _
                      | exact ((Kept.refl w1).drew.alloc _).trans hk2
              · have hR1 : (1099511627776 : Int) ≤ R := by omega
                have hR2 : decide ((1099511627776 : Int) ≤ R) = true := by simp; omega
                go_quiet (fail)
                go_wp2_with fail
                go_meet
                exact ⟨by simp; omega, (Kept.refl w1).drewN _⟩
          case rest =>
            obtain ⟨rfl, hK2⟩ := hcut
            have hA2 := hK2.heap hA
            have hX2 := hK2.heap hX
            obtain ⟨g0', g1', g2'⟩ := at3 hX2
            by_cases hC : wd = true ∧ R < 1099511627776 ∧ Line.text ⟨nm, R, ok⟩ = s ++ feed
            · have hb : (wd && decide (R < 1099511627776) && decide (Line.text ⟨nm, R, ok⟩ = s ++ feed)) = true := by simp [hC.1, hC.2.2]; omega
              rw [hb]
              go_wp2_with (refine wpList_store_row rfl 69 _ _ rfl _ _ rfl rfl 69 _ hA2 (by kernel_rfl) rfl (line_one _ _ _) ?_)
              refine bodyPost_ret (results_cell_row rfl _ _ u.heap.size 69 _ (0, 0) _ rfl (setRow_heap _ _ _ _ _ _ hA2) Tryd.underlying69 rfl (by kernel_rfl)) rfl ⟨?_, ?_⟩
              · rw [Hv.out, if_pos ⟨Hwd.out.trans hC.1, hC.2.1, hC.2.2⟩]; rfl
              · exact Kept.setRow ((((hKu.alloc _).alloc _).trans hK1).trans hK2) (by have := Hu.out; omega) _
            · have hb : (wd && decide (R < 1099511627776) && decide (Line.text ⟨nm, R, ok⟩ = s ++ feed)) = false := by
                rw [Bool.eq_false_iff]
                intro h
                simp at h
                exact hC ⟨h.1.1, by omega, h.2⟩
              rw [hb]
              go_wp2_with (refine wpList_store_row rfl 69 _ _ rfl _ _ rfl rfl 69 _ hA2 (by kernel_rfl) rfl (line_one _ _ _) ?_)
              refine bodyPost_ret (results_cell_row rfl _ _ u.heap.size 69 _ (0, 0) _ rfl (setRow_heap _ _ _ _ _ _ hA2) Tryd.underlying69 rfl (by kernel_rfl)) rfl ⟨?_, ?_⟩
              · rw [Hv.out, if_neg (fun h => hC ⟨Hwd.out.symm.trans h.1, h.2.1, h.2.2⟩)]; rfl
              · exact Kept.setRow ((((hKu.alloc _).alloc _).trans hK1).trans hK2) (by have := Hu.out; omega) _
      · have hc : ((byteAt s k : Int) != 32) = true := by simp; omega
        have hno' : ∀ j, j < k + 1 → byteAt s j ≠ 32 := fun j hj => by
          by_cases e : j = k
          · subst e; exact h32
          · exact hno j (by omega)
        have Hno := Lib.hid hno'
        clear hno hno' h32
        go_wp2
        go_round
        case rel => exact ⟨k + 1, by go_num, by omega, Hno.out⟩
        case measure => simp [intOf]; omega
end Go.Proofs.YthpndenlhdlicaaDoor
