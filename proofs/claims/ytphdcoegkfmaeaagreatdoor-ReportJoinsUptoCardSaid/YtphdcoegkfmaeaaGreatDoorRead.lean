/- report.Read: the lines of a text. -/
import Derived.Test.YtphdcoegkfmaeaaGreatDoorRowLaw
import Derived.RangeFuncWrites
set_option linter.unusedVariables false
set_option linter.unusedSimpArgs false
namespace Go.Proofs.YtphdcoegkfmaeaaGreatDoor
open Go.RowKit Go.Shelf
attribute [local go_sem] Oper.semAt_some

theorem good_name {x : Line} (h : Good x) : x.name.size ≠ 0 := (word_goes h.1).1
theorem lineOf_two (s : ByteArray) : (Good (lineOf s) ∧ (lineOf s).text = s) ∨ lineOf s = zeroLine := by
  by_cases h : ∃ x, Good x ∧ x.text = s
  · obtain ⟨x, hx, ht⟩ := h
    rw [lineOf_good hx ht]
    exact .inl ⟨hx, ht⟩
  · exact .inr (lineOf_none fun x hx ht => h ⟨x, hx, ht⟩)

/-- What stands while rows are read: the lines so far in the box h + 3; the results' boxes as they were made. -/
def ReadI (s : ByteArray) (h : Nat) (pre : List (RowOf s)) (W : World) : Prop :=
  (∃ v, Boxed W (h + 1 + 1 + 1) 38 v ∧ W.ownsRow (h + 5) 75 3 v (outOf pre).length ((outOf pre).flatMap Line.cells) ∧ AllLines pre) ∧
  Boxed W h 38 (.slice none 0 0) ∧ Boxed W (h + 1) 3 (.int .i64 0) ∧ Boxed W (h + 1 + 1) 39 (.int .i64 0) ∧ Boxed W (h + 1 + 1 + 1 + 1) 9 (.string s)
theorem ReadI.own (s : ByteArray) (h : Nat) : Own (ReadI s h) :=
  Own.and (holdsRow_own (h + 5) (h + 1 + 1 + 1) 38 75 3 (fun pre : List (RowOf s) => (outOf pre).length) (fun pre => (outOf pre).flatMap Line.cells) (fun pre _ => AllLines pre)) (Own.and (boxed_own _ _ _) (Own.and (boxed_own _ _ _) (Own.and (boxed_own _ _ _) (boxed_own _ _ _))))
/-- How a reading is left. -/
def ReadX (s : ByteArray) (h : Nat) (pre : List (RowOf s)) (W : World) : Prop :=
  ∃ ini x, pre = ini ++ [x] ∧ AllLines ini ∧ (lineAt x).name.size = 0 ∧ Boxed W h 38 (.slice none 0 0) ∧ Boxed W (h + 1) 3 (.int .i64 (x.1.1 : Nat)) ∧ Boxed W (h + 1 + 1) 39 (.int .i64 10)
theorem ReadX.own (s : ByteArray) (h : Nat) : Own (ReadX s h) := fun pre A C row hs hg hr => by
  obtain ⟨ini, x, e, h1, h2, h3, h4, h5⟩ := hs
  exact ⟨ini, x, e, h1, h2, boxed_own _ _ _ () A C row h3 hg hr, boxed_own _ _ _ () A C row h4 hg hr, boxed_own _ _ _ () A C row h5 hg hr⟩

theorem own_put {w : World} {B : Nat} {e : TypeId} {size n D : Nat} {v : Value} {xs : List Value} {x : Option (List Deferred)} (h : w.ownsRow B e size v n xs) (hD : w.heap[D]? = some (.deferred x)) (o : Obj) : (w.putObj D o).ownsRow B e size v n xs := by
  refine ⟨h.1, ?_⟩
  rcases h.2 with h2 | ⟨g, cap, cur, h1, hb, hc, hr⟩
  · exact .inl h2
  · exact .inr ⟨g, cap, cur, h1, hb, (World.putObj_heap_other (fun e => by subst e; rw [hD] at hc; cases hc)).trans hc, hr⟩
set_option maxRecDepth 100000 in
set_option maxHeartbeats 2000000 in
theorem Read_in (F : Fence) (hF : F = Fence.wide) (n : Nat) (hn : 3 ≤ n) (s : ByteArray) (hs : s.size ≤ 2097152) (w : World) (hL : Laid w) :
    CallsIn F n Tryz.prog 16 #[.string s] w fun e w' => (∃ (l : List Line) (a : Nat) (ok : Bool) (A : Option Addr) (cap : Nat), Run s 0 [] (l, a, ok) ∧ e = .returned (.tuple #[.slice A l.length cap, .int .i64 a, .int .i64 (if ok then 0 else 10)]) ∧ linesRow w' A l) ∧ Below w.heap.size w w' := by
  have h1 : 1 ≤ n := by omega
  have h11 : 1 ≤ n - 1 - 1 := by omega
  have hro : F.round = none := by rw [hF]; rfl
  have hf0 : F.fn 16 := by rw [hF]; trivial
  have hf1 : F.fn 37 := by rw [hF]; trivial
  have hf2 : F.fn 55 := by rw [hF]; trivial
  have hf3 : F.fn 38 := by rw [hF]; trivial
  have HF := Lib.hid hF
  clear hF
  obtain ⟨i0, hi0, iz0, iz1, iz2⟩ := info_parts (show (Tryz.prog.info? 75).map (fun i => (i.zero, i.size, i.bytes)) = some (some (.agg #[.string ⟨#[]⟩, .int .i64 0, .bool false]), 3, 32) by kernel_rfl)
  refine callsIn_of_wp_marks Tryz.func16 rfl hf0 ?_ hro
  simp only [Tryz.ntmps16, List.size_toArray, List.length_cons, List.length_nil, Nat.reduceAdd, Nat.reduceSub, Array.replicate_succ, Array.replicate_zero, List.push_toArray, List.append_toArray, List.nil_append, List.cons_append]
  gi_wp2_with (gi_at_call 37; refine (wideIn HF.out (rows_any s _)).mono ?_; rintro e w' ⟨rfl, rfl⟩)
  have hB0 : Below w.heap.size w (((((w.alloc (.cells #[.slice none 0 0] 38)).alloc (.cells #[.int .i64 0] 3)).alloc (.cells #[.int .i64 0] 39)).alloc (.cells #[.slice none 0 0] 38)).alloc (.cells #[.string s] 9)) := ((((Kept.refl w).alloc _).alloc _).alloc _).alloc _ |>.alloc _
  have hbox : ReadI s w.heap.size [] (((((w.alloc (.cells #[.slice none 0 0] 38)).alloc (.cells #[.int .i64 0] 3)).alloc (.cells #[.int .i64 0] 39)).alloc (.cells #[.slice none 0 0] 38)).alloc (.cells #[.string s] 9)) := by
    refine ⟨⟨.slice none 0 0, ?_, World.ownsRow_nil _ _ _ _, fun x hx => by simp at hx⟩, ?_, ?_, ?_, ?_⟩
    · have h := Boxed.new (((w.alloc (.cells #[.slice none 0 0] 38)).alloc (.cells #[.int .i64 0] 3)).alloc (.cells #[.int .i64 0] 39)) 38 (.slice none 0 0)
      simp only [World.size_alloc] at h
      exact h.alloc _
    · exact ((((Boxed.new w 38 (.slice none 0 0)).alloc _).alloc _).alloc _).alloc _
    · have h := Boxed.new (w.alloc (.cells #[.slice none 0 0] 38)) 3 (.int .i64 0)
      simp only [World.size_alloc] at h
      exact ((h.alloc _).alloc _).alloc _
    · have h := Boxed.new ((w.alloc (.cells #[.slice none 0 0] 38)).alloc (.cells #[.int .i64 0] 3)) 39 (.int .i64 0)
      simp only [World.size_alloc] at h
      exact (h.alloc _).alloc _
    · have h := heap_alloc_new ((((w.alloc (.cells #[.slice none 0 0] 38)).alloc (.cells #[.int .i64 0] 3)).alloc (.cells #[.int .i64 0] 39)).alloc (.cells #[.slice none 0 0] 38)) (.cells #[.string s] 9)
      simp only [World.size_alloc] at h
      exact h
  have hsb : (((((w.alloc (.cells #[.slice none 0 0] 38)).alloc (.cells #[.int .i64 0] 3)).alloc (.cells #[.int .i64 0] 39)).alloc (.cells #[.slice none 0 0] 38)).alloc (.cells #[.string s] 9)).heap[w.heap.size + 1 + 1 + 1 + 1]? = some (.cells #[.string s] 9 (0, 0)) := by
    have h := heap_alloc_new ((((w.alloc (.cells #[.slice none 0 0] 38)).alloc (.cells #[.int .i64 0] 3)).alloc (.cells #[.int .i64 0] 39)).alloc (.cells #[.slice none 0 0] 38)) (.cells #[.string s] 9)
    simp only [World.size_alloc] at h
    exact h
  have hseq := rows_stops (n - 1) (by omega) (w.heap.size + 1 + 1 + 1 + 1) s hs _ hsb
  rw [← HF.out] at hseq
  refine wpIn_rangeFunc_ownG hro h1 (gf := 55) (lb := #[.pointer (some ⟨w.heap.size + 1 + 1 + 1 + 1, 0, none⟩)]) ?hg hf2 (enters_of Tryz.func55 (by kernel_rfl) rfl)
    hseq (fun h k => KeepsAt.trans h k) (fun W l o o' _ hl hc _ cs T fr e => by
      by_cases hne : w.heap.size + 1 + 1 + 1 + 1 = l
      · subst hne; rw [e] at hl; cases hl; cases hc
      · rw [World.putObj_heap_other hne]; exact e) (Below.refl _ _) ?hps
    (fun pre W => ReadI s w.heap.size pre W ∧ Below w.heap.size w W)
    (fun c pre W => (c = .ret ∧ ReadX s w.heap.size pre W) ∧ Below w.heap.size w W)
    (OwnFrom.and (Own.from (ReadI.own s _) _) (ownFrom_below (Nat.le_refl _) (by simp; omega)))
    (fun c => OwnFrom.and (Own.from (fun pre A C row hs hg hr => ⟨hs.1, ReadX.own s _ pre A C row hs.2 hg hr⟩) _) (ownFrom_below (Nat.le_refl _) (by simp; omega)))
    ⟨hbox, hB0⟩
    (fun x => { tmps := #[.string s, undef, .pointer (some ⟨w.heap.size, 0, none⟩), .pointer (some ⟨w.heap.size + 1, 0, none⟩), .pointer (some ⟨w.heap.size + 1 + 1, 0, none⟩), .pointer (some ⟨w.heap.size + 1 + 1 + 1, 0, none⟩), .int .i64 (x.1.1 : Nat), .string x.1.2, undef, .string s, .func (.func 55) #[] #[.pointer (some ⟨w.heap.size + 1 + 1 + 1 + 1, 0, none⟩)], .int .i64 (x.1.1 : Nat), .string x.1.2, undef, undef, undef, undef, undef, undef, undef, undef, undef, undef, undef, undef, undef], defers := [] }) ?assign ?body ?done ?stop
  case hg => rfl
  case hps => intro x; rfl
  case assign =>
    intro l x W K hK
    gi_wp2
    exact hK
  case body =>
    rintro l pre x W ⟨⟨⟨v, hv, hrow, hall⟩, hb0, hb1, hb2, hbs⟩, hB⟩ hlen
    have hLW : Laid W := hL.kept hB
    have hc := hv.cell
    have hxs : x.1.2.size ≤ 2097152 := Nat.le_trans x.2.2 hs
    have hb5 : w.heap.size + 5 ≤ W.heap.size := by have := hbs.lt; omega
    rcases lineOf_two x.1.2 with ⟨hg, ht⟩ | hz
    · have hz1 := toList_ne (good_name hg)
      have Hg := Lib.hid hg
      clear hg ht
      obtain ⟨A, cap, rfl⟩ := own_slice hrow
      have Hol := Lib.hid (show (outOf pre).length = pre.length by simp [outOf])
      gi_wp2_with (first
        | (gi_at_call 38; refine (CallsIn.inRound l (wideIn HF.out (one_any x.1.2 hxs _ hLW))).mono ?_; rintro e W1 ⟨rfl, hk1⟩; simp only [Line.val]; generalize hyl : lineOf x.1.2 = y at *; have d0 : Boxed (W1.alloc (.cells #[.string y.name, .int .i64 y.r, .bool y.ok] 75)) _ _ _ := (show Boxed W1 _ _ _ from hk1.heap hb0).alloc _; have d1 : Boxed (W1.alloc (.cells #[.string y.name, .int .i64 y.r, .bool y.ok] 75)) _ _ _ := (show Boxed W1 _ _ _ from hk1.heap hb1).alloc _; have d2 : Boxed (W1.alloc (.cells #[.string y.name, .int .i64 y.r, .bool y.ok] 75)) _ _ _ := (show Boxed W1 _ _ _ from hk1.heap hb2).alloc _; have dv : Boxed (W1.alloc (.cells #[.string y.name, .int .i64 y.r, .bool y.ok] 75)) _ _ _ := (show Boxed W1 _ _ _ from hk1.heap hv).alloc _; have k0 := d0.cell; have k1 := d1.cell; have k2 := d2.cell; have kv := dv.cell; have f0 := d0.frozen; have f1 := d1.frozen; have f2 := d2.frozen)
        | (gi_at_builtin; have e1 := ownsRow_kept (ownsRow_kept hrow hk1) (((Kept.refl W1).alloc (.cells #[.string y.name, .int .i64 y.r, .bool y.ok] 75)).alloc (.cells #[.string y.name, .int .i64 y.r, .bool y.ok] 75)); have e2 : (outOf pre).length + 1 ≤ maxLen := (by have := Hol.out; unfold maxLen; omega); have e3 : ((outOf pre).length + 1) * 32 ≤ 140737488355328 := (by have := Hol.out; omega); have e4 : w.heap.size + 5 ≤ W1.heap.size := (by have := hb5; have := hk1.size; omega); go_loud (refine wpListIn_append_own _ rfl _ _ 38 rfl (w.heap.size + 5) 75 i0 _ 3 32 Tryz.underlying38 hi0 iz0 iz1 iz2 rfl (by decide) _ (outOf pre).length ((outOf pre).flatMap Line.cells) rfl e1 ⟨W1.heap.size + 1, 0, none⟩ 1 1 y.cells rfl rfl (cells_two _ _ _ _) (line_oneCell y) e2 e3 (by simp; omega) ?_; intro v' w4 hown4 hgrow _; obtain ⟨A4, cap4, rfl⟩ := own_slice hown4; have dv4 := (dv.alloc _).kept hgrow ((dv.alloc _).not_row (by decide) e1); have kv4 := dv4.cell; have fv4 := dv4.frozen)))
      have K1 : KeepsOthers W W1 := KeepsOthers.of_grownBy (Kept.grownBy hk1 none) (fun j o e => by cases e)
      have K2 : KeepsOthers _ w4 := KeepsOthers.of_grownBy hgrow (fun j o e ho => by
        have e : (Value.slice A (outOf pre).length cap).ownBlock = some j := e
        have h2 := e1.2
        rcases h2 with ⟨h2, _⟩ | ⟨g, cap', cur, h2, _, hgb, _⟩
        · rw [h2] at e; simp [Value.ownBlock] at e
        · rw [h2] at e
          obtain rfl : g = j := by simpa [Value.ownBlock] using e
          rw [hgb] at ho; cases ho; rfl)
      refine ⟨((((K1.trans (KeepsOthers.alloc _ _)).trans (KeepsOthers.alloc _ _)).trans K2).trans (KeepsOthers.setCell _ _ _)).from _, ?_, ⟨⟨_, dv4.set _, ?_, ?_⟩, ?_, ?_, ?_, ?_⟩, ?_⟩
      · intro cs T fr e
        exact (heap_setCell_other _ _ _ _ (by simp)).trans ((hgrow.block _ (by simp; omega) (fun e' => by have := (hrow.lt _ e'.symm).1; omega)).trans ((((Kept.refl W1).alloc _).alloc _).heap (hk1.heap e)))
      · rw [outOf_snoc, List.length_append, List.flatMap_append]
        have h6 : [lineAt x].flatMap Line.cells = y.cells := by unfold lineAt; rw [hyl]; simp
        rw [h6]
        exact own_apart hown4 fun g hg => heap_setCell_other _ _ _ _ (by simp; omega)
      · intro z hz
        rcases List.mem_append.1 hz with h | h
        · exact hall z h
        · have : z = x := by simpa using h
          rw [this]; unfold lineAt; rw [hyl]; exact good_name Hg.out
      · exact ((d0.alloc _).kept hgrow ((d0.alloc _).not_row (by decide) e1)).other (by omega) _
      · exact ((d1.alloc _).kept hgrow ((d1.alloc _).not_row (by decide) e1)).other (by omega) _
      · exact ((d2.alloc _).kept hgrow ((d2.alloc _).not_row (by decide) e1)).other (by omega) _
      · exact ((((show Boxed W1 _ _ _ from hk1.heap hbs).alloc _).alloc _).kept hgrow ((((show Boxed W1 _ _ _ from hk1.heap hbs).alloc _).alloc _).not_row (by decide) e1)).other (by omega) _
      · have hs1 : w.heap.size ≤ W1.heap.size := by omega
        exact (((((hB.trans (Below.mono hk1 hB.size)).alloc hs1 _).alloc (by simp; omega) _).grown hgrow (by simp; omega) (fun g e => by have := (hrow.lt _ e).1; omega))).setCell (p := ⟨w.heap.size + 1 + 1 + 1, 0, none⟩) (by simp; omega) _
    · gi_wp2_with (gi_at_call 38; refine (CallsIn.inRound l (wideIn HF.out (one_any x.1.2 hxs _ hLW))).mono ?_; rintro e W1 ⟨rfl, hk1⟩; simp only [Line.val, hz, zeroLine]; have d0 : Boxed (W1.alloc (.cells #[.string ⟨#[]⟩, .int .i64 0, .bool false] 75)) _ _ _ := (show Boxed W1 _ _ _ from hk1.heap hb0).alloc _; have d1 : Boxed (W1.alloc (.cells #[.string ⟨#[]⟩, .int .i64 0, .bool false] 75)) _ _ _ := (show Boxed W1 _ _ _ from hk1.heap hb1).alloc _; have d2 : Boxed (W1.alloc (.cells #[.string ⟨#[]⟩, .int .i64 0, .bool false] 75)) _ _ _ := (show Boxed W1 _ _ _ from hk1.heap hb2).alloc _; have dv : Boxed (W1.alloc (.cells #[.string ⟨#[]⟩, .int .i64 0, .bool false] 75)) _ _ _ := (show Boxed W1 _ _ _ from hk1.heap hv).alloc _; have k0 := d0.cell; have k1 := d1.cell; have k2 := d2.cell; have kv := dv.cell; have f0 := d0.frozen; have f1 := d1.frozen; have f2 := d2.frozen)
      have K1 : KeepsOthers W W1 := KeepsOthers.of_grownBy (Kept.grownBy hk1 none) (fun j o e => by cases e)
      refine ⟨((((K1.trans (KeepsOthers.alloc _ _)).trans (KeepsOthers.setCell _ _ _)).trans (KeepsOthers.setCell _ _ _)).trans (KeepsOthers.setCell _ _ _)).from _, ⟨rfl, pre, x, rfl, hall, by unfold lineAt; rw [hz]; rfl, ?_, ?_, ?_⟩, ?_⟩
      · exact (((d0.set _).other (by omega) _).other (by omega) _)
      · exact (((d1.other (by omega) _).set _).other (by omega) _)
      · exact (((d2.other (by omega) _).other (by omega) _).set _)
      · exact ((((hB.trans (Below.mono hk1 hB.size)).alloc (Nat.le_trans hB.size hk1.size) _).setCell (p := ⟨w.heap.size, 0, none⟩) (Nat.le_refl _) _).setCell (p := ⟨w.heap.size + 1, 0, none⟩) (by simp) _).setCell (p := ⟨w.heap.size + 1 + 1, 0, none⟩) (by simp; omega) _
  case done =>
    rintro D ys W hD hrows ⟨⟨⟨v, hv, hrow, hall⟩, hb0, hb1, hb2, hbs⟩, hB⟩ hK
    obtain ⟨A, cap, rfl⟩ := own_slice hrow
    have hc := hv.cell
    have c0 := hb0.cell
    have c1 := hb1.cell
    have c2 := hb2.cell
    have f0 := hb0.frozen
    have f1 := hb1.frozen
    have f2 := hb2.frozen
    have hRun := rows_done hrows hall
    gi_wp2
    have d0 : Boxed ((((W.setCell ⟨w.heap.size, 0, none⟩ (.slice A (outOf ys).length cap)).setCell ⟨w.heap.size + 1, 0, none⟩ (.int .i64 s.size)).setCell ⟨w.heap.size + 1 + 1, 0, none⟩ (.int .i64 0))) _ _ _ := ((hb0.set _).other (by omega) _).other (by omega) _
    have d1 : Boxed ((((W.setCell ⟨w.heap.size, 0, none⟩ (.slice A (outOf ys).length cap)).setCell ⟨w.heap.size + 1, 0, none⟩ (.int .i64 s.size)).setCell ⟨w.heap.size + 1 + 1, 0, none⟩ (.int .i64 0))) _ _ _ := ((hb1.other (by omega) _).set _).other (by omega) _
    have d2 : Boxed ((((W.setCell ⟨w.heap.size, 0, none⟩ (.slice A (outOf ys).length cap)).setCell ⟨w.heap.size + 1, 0, none⟩ (.int .i64 s.size)).setCell ⟨w.heap.size + 1 + 1, 0, none⟩ (.int .i64 0))) _ _ _ := ((hb2.other (by omega) _).other (by omega) _).set _
    have hK1 := (KeepsOthers.setCell W ⟨w.heap.size, 0, none⟩ (.slice A (outOf ys).length cap)).same D _ hK rfl
    have hK2 := (KeepsOthers.setCell _ ⟨w.heap.size + 1, 0, none⟩ (.int .i64 s.size)).same D _ hK1 rfl
    have hK3 := (KeepsOthers.setCell _ ⟨w.heap.size + 1 + 1, 0, none⟩ (.int .i64 0)).same D _ hK2 rfl
    refine ⟨by simp, .inl ⟨_, _, rfl, run_takeDeferred hK3, ?_⟩⟩
    have g := grownBy_putObj' (((W.setCell ⟨w.heap.size, 0, none⟩ (.slice A (outOf ys).length cap)).setCell ⟨w.heap.size + 1, 0, none⟩ (.int .i64 s.size)).setCell ⟨w.heap.size + 1 + 1, 0, none⟩ (.int .i64 0)) D (.deferred none)
    have e0 := cell_kept d0.cell g (fun r e => by cases e; exact ⟨_, hK3, rfl⟩)
    have e1 := cell_kept d1.cell g (fun r e => by cases e; exact ⟨_, hK3, rfl⟩)
    have e2 := cell_kept d2.cell g (fun r e => by cases e; exact ⟨_, hK3, rfl⟩)
    have hBe := (((hB.setCell (p := ⟨w.heap.size, 0, none⟩) (Nat.le_refl _) (.slice A (outOf ys).length cap)).setCell (p := ⟨w.heap.size + 1, 0, none⟩) (by simp) (.int .i64 s.size)).setCell (p := ⟨w.heap.size + 1 + 1, 0, none⟩) (by simp; omega) (.int .i64 0)).trans (belowK_b (w := w) (Nat.le_refl _) _ D _ (.deferred none) (by simp at hD; omega) hK3 rfl rfl)
    refine ⟨.tuple #[.slice A (outOf ys).length cap, .int .i64 s.size, .int .i64 0], ?_, ⟨outOf ys, s.size, true, A, cap, hRun, rfl, ?_⟩, hBe⟩
    · simp [results, Tryz.f16, go_sem, e0, e1, e2]
    · exact Row.own (own_put (own_apart hrow fun g hg => by
        rw [heap_setCell_other _ _ _ _ (by simp; omega), heap_setCell_other _ _ _ _ (by simp; omega), heap_setCell_other _ _ _ _ (by simp; omega)]) hK3 _)
  case stop =>
    rintro D c pre W hD ⟨a, hrows⟩ ⟨⟨rfl, ini, x, rfl, hall, hx0, hb0, hb1, hb2⟩, hB⟩ hK
    have hRun := rows_stop hrows hall hx0
    gi_wp2
    refine ⟨by simp, .inl ⟨_, _, rfl, run_takeDeferred hK, ?_⟩⟩
    have g := grownBy_putObj' W D (.deferred none)
    have e0 := cell_kept hb0.cell g (fun r e => by cases e; exact ⟨_, hK, rfl⟩)
    have e1 := cell_kept hb1.cell g (fun r e => by cases e; exact ⟨_, hK, rfl⟩)
    have e2 := cell_kept hb2.cell g (fun r e => by cases e; exact ⟨_, hK, rfl⟩)
    have hBe := hB.trans (belowK_b (w := w) (Nat.le_refl _) _ D _ (.deferred none) (by simp at hD; omega) hK rfl rfl)
    refine ⟨.tuple #[.slice none 0 0, .int .i64 (x.1.1 : Nat), .int .i64 10], ?_, ⟨[], x.1.1, false, none, 0, hRun, rfl, Row.nil⟩, hBe⟩
    simp [results, Tryz.f16, go_sem, e0, e1, e2]
end Go.Proofs.YtphdcoegkfmaeaaGreatDoor
