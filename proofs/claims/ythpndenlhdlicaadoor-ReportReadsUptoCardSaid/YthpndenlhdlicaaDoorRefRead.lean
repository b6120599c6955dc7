/- The document's Read: the lines of a text. -/
import Derived.Test.YthpndenlhdlicaaDoorRefOne
import Derived.Laws.AppendOwn
set_option linter.unusedVariables false
set_option linter.unusedSimpArgs false
namespace Go.Proofs.YthpndenlhdlicaaDoor
open Go.RowKit Go.Shelf

def notFeed (c : Nat) : Bool := decide (c ≠ 10)
/-- One row more: its line, and where the next one begins. -/
noncomputable def stepAt (s : ByteArray) (a : Nat) : Option (Line × Nat) :=
  if a + lngAt notFeed s a = s.size then none
  else if (lineOf (s.extract a (a + lngAt notFeed s a) ++ feed)).name.size = 0 then none
  else some (lineOf (s.extract a (a + lngAt notFeed s a) ++ feed), a + lngAt notFeed s a + 1)
/-- What is read from a place on, with so many lines read before. -/
inductive Run (s : ByteArray) : Nat → List Line → List Line × Nat × Bool → Prop
  | done {a : Nat} {l : List Line} (h : s.size ≤ a) : Run s a l (l, s.size, true)
  | fail {a : Nat} {l : List Line} (h : a < s.size) (hs : stepAt s a = none) : Run s a l ([], a, false)
  | step {a b : Nat} {l : List Line} {x : Line} {r : List Line × Nat × Bool} (h : a < s.size) (hs : stepAt s a = some (x, b)) (hr : Run s b (l ++ [x]) r) : Run s a l r
theorem Run.one {s : ByteArray} {a : Nat} {l : List Line} {r r' : List Line × Nat × Bool} (h : Run s a l r) (h' : Run s a l r') : r = r' := by
  induction h with
  | done h =>
    cases h' with
    | done h2 => rfl
    | fail h2 => omega
    | step h2 => omega
  | fail h hs =>
    cases h' with
    | done h2 => omega
    | fail h2 => rfl
    | step h2 hs2 => rw [hs] at hs2; cases hs2
  | step h hs _ ih =>
    cases h' with
    | done h2 => omega
    | fail h2 hs2 => rw [hs] at hs2; cases hs2
    | step h2 hs2 hr2 =>
      rw [hs] at hs2
      cases hs2
      exact ih hr2

def atOf : Option Obj → Nat
  | some (.cells cs _ _) => (intOf (cs.getD 1 undef)).toNat
  | _ => 0
/-- What a reading hands back. -/
def GotIs (s : ByteArray) (w w' : World) (e : Ending) : Prop := ∃ (l : List Line) (a : Nat) (ok : Bool) (A : Option Addr) (cap : Nat), Run s 0 [] (l, a, ok) ∧ e = .returned (.agg #[.slice A l.length cap, .int .i64 a, .int .i64 (if ok then 0 else 10)]) ∧ linesRow w' A l ∧ Kept w w'
theorem own_slice {w : World} {B n : Nat} {e : TypeId} {size : Nat} {v : Value} {xs : List Value} (h : w.ownsRow B e size v n xs) : ∃ A cap, v = .slice A n cap := by
  rcases h.2 with ⟨rfl, rfl⟩ | ⟨g, cap, cur, rfl, _⟩
  · exact ⟨none, 0, rfl⟩
  · exact ⟨_, _, rfl⟩
theorem got_one (A : Option Addr) (n c : Nat) (x y : Int) : (#[Value.slice A n c, Value.int .i64 x, Value.int .i64 y]).all (·.oneCell') = true := by simp [Value.oneCell']
theorem name_empty {x : ByteArray} (h : x.size = 0) : x.toList = [] := by
  rw [bytes_toList]
  have : x.data = #[] := Array.eq_empty_of_size_eq_zero h
  rw [this]
theorem line_oneCell (x : Line) : ∀ u ∈ x.cells, u.oneCell' = true := by
  intro u hu
  simp [Line.cells] at hu
  rcases hu with rfl | rfl | rfl <;> simp [Value.oneCell']
theorem cells_two (w : World) (o : Obj) (x : Line) (T : TypeId) : ∀ (j : Nat) (u : Value), x.cells[j]? = some u → ((w.alloc o).alloc (.cells #[.string x.name, .int .i64 x.r, .bool x.ok] T)).cell? ((⟨w.heap.size + 1, 0, none⟩ : Addr).add j) = some u := by
  intro j u hu
  have e : (⟨w.heap.size + 1, 0, none⟩ : Addr).add j = ⟨(w.alloc o).heap.size, j, none⟩ := by
    rw [show (w.alloc o).heap.size = w.heap.size + 1 by simp]
    unfold Addr.add; split <;> simp_all
  rw [e, World.cell?_alloc_mark]
  have : (#[Value.string x.name, .int .i64 x.r, .bool x.ok] : Array Value)[j]? = x.cells[j]? := by simp [Line.cells]
  rw [this]; exact hu
/-- A row that another block than these two holds stays, whatever is stored into those. -/
theorem own_apart {w w' : World} {B : Nat} {e : TypeId} {size n : Nat} {v : Value} {xs : List Value} (h : w.ownsRow B e size v n xs) (hk : ∀ g, B ≤ g → w'.heap[g]? = w.heap[g]?) : w'.ownsRow B e size v n xs := by
  refine ⟨h.1, ?_⟩
  rcases h.2 with h2 | ⟨g, cap, cur, hv, hb, hh, h3⟩
  · exact .inl h2
  · exact .inr ⟨g, cap, cur, hv, hb, by rw [hk g hb]; exact hh, h3⟩

set_option maxRecDepth 100000 in
set_option maxHeartbeats 1000000 in
theorem rRead_any (s : ByteArray) (hs : s.size ≤ 2097152) (w : World) :
    Calls Tryd.prog 37 #[.string s] w fun e w' => GotIs s w w' e := by
  obtain ⟨i0, hi0, iz0, iz1, iz2⟩ := info_parts (show (Tryd.prog.info? 69).map (fun i => (i.zero, i.size, i.bytes)) = some (some (.agg #[.string ⟨#[]⟩, .int .i64 0, .bool false]), 3, 32) by kernel_rfl)
  go_enter Tryd.func37, Tryd.ntmps37
  go_wp2_with fail
  go_loopw [4] (fun _ wr => ∃ (v : Value) (a : Nat) (l : List Line), Kept w wr ∧ wr.heap[w.heap.size]? = some (.cells #[.slice none 0 0, .int .i64 0, .int .i64 0] 84 (0, 0)) ∧ wr.heap[w.heap.size + 1]? = some (.cells #[v, .int .i64 a, .int .i64 0] 84 (0, 0)) ∧ wr.ownsRow (w.heap.size + 2) 69 3 v l.length (l.flatMap Line.cells) ∧ w.heap.size + 2 ≤ wr.heap.size ∧ a ≤ s.size ∧ l.length ≤ a ∧ ∀ r, Run s a l r → Run s 0 [] r) (fun _ wr => s.size - atOf (wr.heap[w.heap.size + 1]?))
  case atStart => exact ⟨.slice none 0 0, 0, [], ((Kept.refl w).alloc _).alloc _, heap_alloc2_old _ _ _, heap_alloc2_new _ _ _, World.ownsRow_nil _ _ _ _, by simp, by omega, by simp, fun r h => h⟩
  case round =>
    obtain ⟨v, a, l, hK, hR, hG, hown, hsz, has, hla, hrun⟩ := hrel
    obtain ⟨A, cap, rfl⟩ := own_slice hown
    obtain ⟨g0, g1, g2⟩ := at3 hG
    by_cases hend : a = s.size
    · have hlt : ¬ ((a : Int) < s.size) := by omega
      have Hr := Lib.hid (hrun _ (.done (by omega)))
      clear hrun
      go_wp2_with (refine wpList_store_row rfl 84 _ _ rfl _ _ rfl rfl 84 _ hR (by kernel_rfl) rfl (got_one _ _ _ _ _) ?_)
      refine bodyPost_ret (results_cell_row rfl _ _ w.heap.size 84 _ (0, 0) _ rfl (setRow_heap _ _ _ _ _ _ hR) Tryd.underlying84 rfl (by kernel_rfl)) rfl ⟨l, s.size, true, A, cap, Hr.out, rfl, ?_, ?_⟩
      · exact Row.own (own_apart hown fun g hg => setRow_other _ _ _ _ (by omega))
      · exact Kept.setRow hK (Nat.le_refl _) _
    · have hlt : ((a : Int) < s.size) := by omega
      have Hrun := Lib.hid hrun
      clear hrun
      go_wp2_with fail
      go_loop [4] (fun ev => ∃ k : Nat, ev = .int .i64 k ∧ a ≤ k ∧ k ≤ s.size ∧ ∀ j, a ≤ j → j < k → notFeed (byteAt s j) = true) (fun ev => s.size - (intOf ev).toNat)
      case atStart => exact ⟨a, rfl, by omega, by omega, fun j h1 h2 => by omega⟩
      case round =>
        obtain ⟨k, rfl, hak, hks, hall⟩ := hrel
        by_cases hke : k = s.size
        · subst hke
          have hv : lngAt notFeed s a = s.size - a := lngAt_is hak hall hks (.inl rfl)
          have hst : stepAt s a = none := by unfold stepAt; rw [if_pos (by omega)]
          have Hr := Lib.hid (Hrun.out _ (.fail (by omega) hst))
          clear hv hst hall
          have hex : (s.extract a s.size).size ≤ 1125899906842624 := by simp; omega
          go_wp2_with (first
            | (go_at_call 70; refine (rOne_any (s.extract a s.size) hex _).mono ?_; rintro e w2 ⟨rfl, hk2⟩; simp only [Line.val]; generalize lineOf (s.extract a s.size ++ feed) = x; have hR2 := hk2.heap hR; have hG2 := hk2.heap hG; have hR3 : (w2.alloc (.cells #[.string x.name, .int .i64 x.r, .bool x.ok] 69)).heap[w.heap.size]? = _ := ((Kept.refl w2).alloc _).heap hR2; obtain ⟨q0, q1, q2⟩ := at3 hG2; obtain ⟨p0, p1, p2⟩ := at3' hG2)
            | (refine wpList_store_row rfl 84 _ _ rfl _ _ rfl rfl 84 _ hR3 (by kernel_rfl) rfl (got_one _ _ _ _ _) ?_))
          refine bodyPost_ret (results_cell_row rfl _ _ w.heap.size 84 _ (0, 0) _ rfl (setRow_heap _ _ _ _ _ _ hR3) Tryd.underlying84 rfl (by kernel_rfl)) rfl ⟨[], a, false, none, 0, Hr.out, rfl, Row.nil, Kept.setRow ((hK.trans hk2).alloc _) (Nat.le_refl _) _⟩
        · have hlt2 : ((k : Int) < s.size) := by omega
          have hbk := byteAt_lt s k
          have hsk := byteAt_elem s (k := k) (by omega)
          by_cases h10 : byteAt s k = 10
          · have hv : lngAt notFeed s a = k - a := lngAt_is hak hall hks (.inr (by rw [h10]; rfl))
            have hst : stepAt s a = if (lineOf (s.extract a k ++ feed)).name.size = 0 then none else some (lineOf (s.extract a k ++ feed), k + 1) := by
              unfold stepAt
              rw [hv, show a + (k - a) = k by omega, if_neg hke]
            have Hst := Lib.hid hst
            have H10 := Lib.hid h10
            have hsk' : (s[k]'(by omega)).toNat = 10 := by rw [hsk, h10]
            have hex : (s.extract a k).size ≤ 1125899906842624 := by simp; omega
            have hke' : ((k : Int) == s.size) = false := by simp; omega
            clear hv hst hall h10 hsk
            by_cases hz : (lineOf (s.extract a k ++ feed)).name.size = 0
            · have Hr := Lib.hid (Hrun.out _ (.fail (by omega) (by rw [Hst.out, if_pos hz])))
              have hz1 := name_empty hz
              clear hz
              go_wp2_with (first
                | (go_at_call 70; refine (rOne_any (s.extract a k) hex _).mono ?_; rintro e w2 ⟨rfl, hk2⟩; simp only [Line.val]; generalize lineOf (s.extract a k ++ feed) = x at *; have hR3 : (w2.alloc (.cells #[.string x.name, .int .i64 x.r, .bool x.ok] 69)).heap[w.heap.size]? = _ := ((Kept.refl w2).alloc _).heap (hk2.heap hR); have hR2 := hk2.heap hR; have hG2 := hk2.heap hG; obtain ⟨q0, q1, q2⟩ := at3 hG2; obtain ⟨p0, p1, p2⟩ := at3' hG2)
                | (refine wpList_store_row rfl 84 _ _ rfl _ _ rfl rfl 84 _ hR3 (by kernel_rfl) rfl (got_one _ _ _ _ _) ?_))
              refine bodyPost_ret (results_cell_row rfl _ _ w.heap.size 84 _ (0, 0) _ rfl (setRow_heap _ _ _ _ _ _ hR3) Tryd.underlying84 rfl (by kernel_rfl)) rfl ⟨[], a, false, none, 0, Hr.out, rfl, Row.nil, Kept.setRow ((hK.trans hk2).alloc _) (Nat.le_refl _) _⟩
            · have hz1 := toList_ne hz
              have hz2 : (lineOf (s.extract a k ++ feed)).name.toList.isEmpty = false := by simpa using hz1
              have Hr := Lib.hid fun r (h : Run s (k + 1) (l ++ [lineOf (s.extract a k ++ feed)]) r) => Hrun.out r (.step (by omega) (by rw [Hst.out, if_neg hz]) h)
              clear hz
              go_wp2_with (first
                | (go_at_call 70; refine (rOne_any (s.extract a k) hex _).mono ?_; rintro e w2 ⟨rfl, hk2⟩; simp only [Line.val]; generalize lineOf (s.extract a k ++ feed) = x at *; have hR2 := hk2.heap hR; have hG2 := hk2.heap hG; obtain ⟨q0, q1, q2⟩ := at3 hG2; obtain ⟨p0, p1, p2⟩ := at3' hG2; have hown2 := ownsRow_kept hown hk2; have hlt2 := hk2.size)
                | (at_builtin; go_loud (refine wpList_append_own _ rfl _ _ 22 rfl (w.heap.size + 2) 69 i0 _ 3 32 Tryd.underlying22 hi0 iz0 iz1 iz2 rfl (by decide) _ l.length (l.flatMap Line.cells) rfl (ownsRow_kept hown2 (((Kept.refl w2).alloc _).alloc _)) ⟨w2.heap.size + 1, 0, none⟩ 1 1 x.cells rfl rfl (cells_two _ _ _ _) (line_oneCell x) (by unfold maxLen; omega) (by omega) (by simp; omega) ?_; intro v' w4 hown4 hgrow _; obtain ⟨A4, cap4, rfl⟩ := own_slice hown4; have hG4 := (hgrow.block (w.heap.size + 1) (by simp; omega) (fun e => by have := (hown.lt _ e.symm).1; omega)).trans ((((Kept.refl w2).alloc _).alloc _).heap hG2); have hR4 := (hgrow.block w.heap.size (by simp; omega) (fun e => by have := (hown.lt _ e.symm).1; omega)).trans ((((Kept.refl w2).alloc _).alloc _).heap hR2); obtain ⟨r0, r1, r2⟩ := at3 hG4; have f0 := Lib.frozen_of_heap hG4 0; have f1 := Lib.frozen_of_heap hG4 1)))
              have hG5 := Joins.block_setCell (i := 1) (Joins.block_setCell (i := 0) hG4 (.slice A4 (l.length + 1) cap4)) (.int .i64 ((k : Int) + 1))
              have hR5 : ((w4.setCell ⟨w.heap.size + 1, 0, none⟩ (.slice A4 (l.length + 1) cap4)).setCell ⟨w.heap.size + 1, 1, none⟩ (.int .i64 ((k : Int) + 1))).heap[w.heap.size]? = _ := (heap_setCell_other _ _ _ _ (by simp)).trans ((heap_setCell_other _ _ _ _ (by simp)).trans hR4)
              have hK4 : Kept w w4 := ((((hK.trans hk2).alloc _).alloc _).grown hgrow (fun g e => by have := (hown.lt _ e).1; omega))
              have hS4 := hgrow.size
              have hcast : ((k : Int) + 1) = ((k + 1 : Nat) : Int) := by omega
              go_roundw
              case rel =>
                refine ⟨.slice A4 (l.length + 1) cap4, k + 1, l ++ [x], ((hK4.setCell (p := ⟨w.heap.size + 1, 0, none⟩) (by simp) _).setCell (p := ⟨w.heap.size + 1, 1, none⟩) (by simp) _), hR5, ?_, ?_, ?_, by omega, by simp; omega, Hr.out⟩
                · rw [hG5, hcast]; rfl
                · rw [List.length_append, List.flatMap_append]
                  have h6 : [x].flatMap Line.cells = x.cells := by simp
                  rw [h6]
                  exact own_apart hown4 fun g hg => (heap_setCell_other _ _ _ _ (by simp; omega)).trans (heap_setCell_other _ _ _ _ (by simp; omega))
                · simp at hS4 ⊢; omega
              case measure =>
                rw [hG5, hG]
                show s.size - (intOf (.int .i64 ((k : Int) + 1))).toNat < s.size - (intOf (.int .i64 (a : Int))).toNat
                simp only [intOf]
                omega
          · have hc : ((byteAt s k : Int) != 10) = true := by simp; omega
            have hall' : ∀ j, a ≤ j → j < k + 1 → notFeed (byteAt s j) = true := fun j h1 h2 => by
              by_cases e : j = k
              · subst e; simp [notFeed, h10]
              · exact hall j h1 (by omega)
            have Hall := Lib.hid hall'
            clear hall hall' h10
            go_wp2_with fail
            go_round
            case rel => exact ⟨k + 1, by go_num, by omega, by omega, Hall.out⟩
            case measure => simp [intOf]; omega
end Go.Proofs.YthpndenlhdlicaaDoor
