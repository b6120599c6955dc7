/- ReportReads returns true for every input whose arguments hold together at most 1048576 values and letters: texts are read, or refused, as the document says; lines are rendered. The card of the second form. -/
import Derived.Test.YthpndenlhdlicaaDoorCards
import Derived.Test.YthpndenlhdlicaaDoorTie
import Derived.Test.YthpndenlhdlicaaDoorRowKit
import Derived.Test.YthpndenlhdlicaaDoorReads
import Derived.Deep.DeepHandedRow
import Derived.Deep.DeepWitnessRowRef
import Derived.Lib.LaidTab
import Derived.Stop.LaidErr
import Derived.LaidMore
import Derived.WideKeyArr2
set_option linter.unusedVariables false
set_option linter.unusedSimpArgs false
namespace Go.Proofs.YthpndenlhdlicaaDoor.reportReads
open Go.ChangeShapes Go.WideShapes Go.ChangeAt Go.RowKit Go.WideElems Go.WideMaps
open Go.ChangeMaps (open_string shut_string)

theorem own : ownKnob Tryd.prog.godebug = none := by kernel_rfl
theorem laidOut : laidOutB Tryd.prog = true := by kernel_rfl
theorem gPow : Tryd.prog.globalNamed "internal/strconv.uint64pow10" = some 2 := by kernel_rfl
theorem gSyn : Tryd.prog.globalNamed "strconv.ErrSyntax" = some 5 := by kernel_rfl
theorem gRan : Tryd.prog.globalNamed "strconv.ErrRange" = some 6 := by kernel_rfl

theorem var_of {P : Program} {x : String × DataW Unit} {r : List (String × DataW Unit)} {W : World} (h : laidMet P (x :: r) W) : ∃ (g : Nat) (t : TypeId) (cs : Array Value) (fuel : Nat) (p : List MemPlace), P.globalNamed x.1 = some g ∧ (P.globals[g]?).map (·.type) = some t ∧ W.var? P x.1 = some cs ∧
    DataW.trod (fun _ => ()) P W 0 (fun _ => true) false fuel t cs.toList = some (x.2, p) := by
  obtain ⟨n, d⟩ := x
  obtain ⟨ps, ⟨g, t, cs, fuel, p, q, h1, h2, h3, h4, _, _⟩, _⟩ := h
  exact ⟨g, t, cs, fuel, p, h1, h2, h3, h4⟩

theorem laid_of {W : World} (h : laidMetH Tryd.prog Rows.reportReadsUptoRow.laid W) (hsh : W.ShapedOpen Tryd.prog) : Laid W := by
  have h1 : laidMet Tryd.prog Rows.reportReadsUptoRow.laid W := h
  have h2 : laidMet Tryd.prog [("internal/strconv.uint64pow10", Rows.laid_internal_strconv_uint64pow10), ("strconv.ErrRange", Rows.laid_strconv_ErrRange), ("strconv.ErrSyntax", Rows.laid_strconv_ErrSyntax)] W := h1.tail.tail
  refine ⟨?_, ?_, ?_, ?_⟩
  · exact Lib.tabIs_of_head (rest := _) gPow (by kernel_rfl) Tryd.underlying280 Tryd.underlying33 (by kernel_rfl) (by kernel_rfl) h2
  · obtain ⟨a, s, hv, _⟩ := laid_sentinel h2.tail.tail gSyn (by kernel_rfl) Tryd.underlying76 (fun u h => typeName_ptr_named (nm := "errors.errorString") (by kernel_rfl) (by kernel_rfl) (by decide) u h) Tryd.underlying313 Tryd.underlying315 rfl rfl Tryd.underlying9 (by kernel_rfl) (by kernel_rfl)
    exact ⟨_, _, hv⟩
  · obtain ⟨a, s, hv, _⟩ := laid_sentinel h2.tail gRan (by kernel_rfl) Tryd.underlying76 (fun u h => typeName_ptr_named (nm := "errors.errorString") (by kernel_rfl) (by kernel_rfl) (by decide) u h) Tryd.underlying313 Tryd.underlying315 rfl rfl Tryd.underlying9 (by kernel_rfl) (by kernel_rfl)
    exact ⟨_, _, hv⟩
  · exact Tryd.laysM145.s1_3 W hsh

theorem text_size {x : Line} (h : -9223372036854775808 ≤ x.r ∧ x.r ≤ 9223372036854775807) : x.text.data.toList.length ≤ x.name.size + 24 := by
  have h1 : x.text.data.toList.length = x.text.size := by simp
  have h2 : x.word.size ≤ 21 := by
    unfold Line.word
    split
    · exact itoa_size x.r h.1 h.2
    · decide
  rw [h1]
  unfold Line.text
  rw [ByteArray.size_append, ByteArray.size_append, ByteArray.size_append]
  have h3 : (⟨#[32]⟩ : ByteArray).size = 1 := rfl
  have h4 : (⟨#[10]⟩ : ByteArray).size = 1 := rfl
  omega
theorem bulk_names : ∀ (l : List Line) (k : Nat), (∀ y ∈ l, -9223372036854775808 ≤ y.r ∧ y.r ≤ 9223372036854775807) → ((rendered (l.take k)).length) ≤ (l.map fun y => y.name.size + 4).sum + 24 * k
  | [], k, _ => by simp [rendered]
  | x :: l, 0, _ => by simp [rendered]
  | x :: l, k + 1, h => by
    have h1 := bulk_names l k (fun y hy => h y (List.mem_cons_of_mem _ hy))
    have h2 := text_size (h x (by simp))
    unfold rendered at h1 ⊢
    rw [List.take_succ_cons, List.flatMap_cons, List.length_append, List.map_cons, List.sum_cons]
    omega
theorem bulk_name {l : List Line} {x : Line} (h : x ∈ l) : x.name.size ≤ (l.map fun y => y.name.size + 4).sum := by
  induction l with
  | nil => cases h
  | cons y l ih =>
    rw [List.map_cons, List.sum_cons]
    rcases List.mem_cons.1 h with rfl | h
    · omega
    · have := ih h; omega

set_option maxRecDepth 100000 in
theorem contract (H : Type) (enc : TypeId × Value → H) (W : World) (base : Nat) (args : Array Value) (ds gs : List (DataW H)) (before : List MemPlace)
    (hval0 : ∀ (j : Nat) t v, Tryd.f3.params[j]? = some t → args[j]? = some v → Value.okWide Tryd.prog W .any base t v)
    (hW : DataW.Whole enc Tryd.prog Tryd.f3.params.toList Rows.reportReadsSpec.vars false W args.toList ds gs before) (hk : Rows.uptoSmall H (ds ++ gs) = true) (hL : Laid W) :
    Calls Tryd.prog 3 args W fun e W' => ∃ v, e = .returned v ∧ Rows.reportReadsSpec.post enc Tryd.prog Tryd.f3 false true false false W args v W' := by
  have hval : ∀ (j : Nat) t v, Tryd.f3.params[j]? = some t → args[j]? = some v → Value.okWide Tryd.prog W .any base t v := hval0
  have hW' := hW
  obtain ⟨p, q, hA0, hV, rfl, hfz, hnd⟩ := hW
  have hA : DataW.TrodAll enc Tryd.prog W 0 (fun _ => true) true Tryd.f3.params.toList args.toList ds p := hA0
  rw [Tryd.params3] at hA hval
  obtain ⟨v0, vs0, d0, ds0, p0, q0, hargs, rfl, rfl, h0, r0⟩ := trodAll_cons hA
  obtain ⟨v1, vs1, d1, ds1, p1, q1, rfl, rfl, rfl, h1, r1⟩ := trodAll_cons r0
  obtain ⟨v2, vs2, d2, ds2, p2, q2, rfl, rfl, rfl, h2, r2⟩ := trodAll_cons r1
  obtain ⟨rfl, rfl, rfl⟩ := trodAll_nil r2
  obtain rfl : args = #[v0, v1, v2] := by cases args; simp_all
  obtain ⟨rfl, rfl⟩ := trodVars_none hV
  have hb := bulk_bound hk
  obtain ⟨s, rfl, rfl, rfl, ys⟩ := open_string Tryd.underlying9 (hval 0 9 v0 rfl rfl) h0
  obtain ⟨A, len, cap, rfl⟩ := okWide_slice Tryd.underlying22 (hval 1 22 v1 rfl rfl)
  have k1 := h1
  have lt1 : ∀ x ∈ p1, x.block < W.heap.size := by obtain ⟨m, hm⟩ := k1; exact DataW.trod_lt m _ _ _ hm
  obtain ⟨f1, hf1⟩ := h1
  obtain ⟨l, rfl, hcap, hrow, hrs, hbl⟩ := open_lines (show DataW.trod enc Tryd.prog W 0 (fun _ => true) true f1 22 [.slice A len cap] = some (d1, p1) from hf1)
  have Ak : ArrKey Tryd.prog 23 3 3 := ⟨Tryd.underlying23, by kernel_rfl, by kernel_rfl, by kernel_rfl⟩
  obtain ⟨xs, rfl, hxs⟩ := okWide_arr Ak (hval 2 23 v2 rfl rfl)
  have k2 := h2
  have lt2 : ∀ x ∈ p2, x.block < W.heap.size := by obtain ⟨m, hm⟩ := k2; exact DataW.trod_lt m _ _ _ hm
  obtain ⟨xs⟩ := xs
  match xs, hxs with
  | [c0, c1, c2], _ =>
    obtain ⟨f2, hf2⟩ := h2
    obtain ⟨y0, y1, y2, n2, _, t0, t1, t2⟩ := trod_array3 Tryd.underlying23 (by kernel_rfl) (show DataW.trod enc Tryd.prog W 0 (fun _ => true) true f2 23 [c0, c1, c2] = some (d2, p2) from hf2)
    obtain ⟨q0, g0, _, w0⟩ := DataW.trod_int Tryd.underlying3 t0
    obtain ⟨q1, g1, _, w1⟩ := DataW.trod_int Tryd.underlying3 t1
    obtain ⟨q2, g2, _, w2⟩ := DataW.trod_int Tryd.underlying3 t2
    simp only [List.cons.injEq, and_true] at g0 g1 g2
    subst g0 g1 g2
    have w0' : -9223372036854775808 ≤ q0 ∧ q0 ≤ 9223372036854775807 := by simpa [Lit.wf, IntKind.min, IntKind.signed, IntKind.bits] using w0
    have w1' : -9223372036854775808 ≤ q1 ∧ q1 ≤ 9223372036854775807 := by simpa [Lit.wf, IntKind.min, IntKind.signed, IntKind.bits] using w1
    have b0 : s.size ≤ 1048576 := by
      have := bulk_part (d := DataW.lit (H := H) (.string s.data.toList)) (l := [.lit (.string s.data.toList), d1, d2] ++ []) (by simp)
      simp only [Rows.uptoBulk] at this
      have e : s.data.toList.length = s.size := by simp
      omega
    have b1 : (l.map fun y => y.name.size + 4).sum ≤ 1048576 := by
      have := bulk_part (d := d1) (l := [.lit (.string s.data.toList), d1, d2] ++ []) (by simp)
      simp only at hbl
      omega
    clear hA0 hval0
    have hsum : (rendered (if 6 < l.length then l.take 6 else l)).length ≤ 1900000 := by
      split
      · have := bulk_names l 6 hrs; omega
      · have := bulk_names l l.length hrs
        rw [List.take_length] at this; omega
    refine (ReportReads_tail s _ l _ A cap q0 q1 q2 w0'.1 w0'.2 w1'.1 w1'.2 b0 rfl rfl hcap (fun x hx => ⟨by have := bulk_name hx; omega, (hrs x hx).1, (hrs x hx).2⟩) hsum W hL hrow).mono fun e W' ⟨he, bel⟩ => ?_
    subst he
    exact ⟨_, rfl, _, _, _, [], _, [], hW', trodAll_mk1 (shut_bool Tryd.underlying4 _), trodAll_cons_mk (shut_string Tryd.underlying9 ys) (trodAll_cons_mk (Below.trod laidOut (by kernel_rfl) (of_decide_eq_true (by kernel_rfl)) k1 bel lt1) (trodAll_cons_mk (Below.trod laidOut (by kernel_rfl) (of_decide_eq_true (by kernel_rfl)) k2 bel lt2) trodAll_mk0)), rfl, bel.frame _, fun h => by cases h⟩

noncomputable def wit : Array Value := #[.string ⟨#[]⟩, .slice none 0 0, .agg #[.int .i64 0, .int .i64 0, .int .i64 0]]
theorem laid_met (os : Os) : laidMet Tryd.prog Rows.reportReadsUptoRow.laid (((World.doorLaid Tryd.prog 400 os)).forCall (fun _ _ => 0) ⟨#[], wit, []⟩).memory :=
  laidMet_of_run' 8 (by kernel_rfl) (by kernel_rfl)
theorem reads (os : Os) {H : Type} (enc : TypeId × Value → H) : ∃ places, DataW.whole enc Tryd.prog ((World.doorLaid Tryd.prog 400 os).forCall (fun _ _ => 0) ⟨#[], wit, []⟩).memory Tryd.f3.params.toList Rows.reportReadsSpec.vars false wit.toList 8 = some ([.lit (.string []), .nil, .agg [.lit (.int .i64 0), .lit (.int .i64 0), .lit (.int .i64 0)]], [], places) :=
  ⟨[], by kernel_rfl⟩

set_option maxRecDepth 100000 in
theorem lifted (os : Os) (started : os.Started) (H : Type) (enc : TypeId × Value → H) (F : Stop.Interp) :
    ReturnsInHanded {} Tryd.checked os 3 .any ((Rows.OpenSpec.upto Rows.reportReadsSpec).preRow enc Tryd.prog Tryd.f3 Rows.reportReadsUptoRow.domain false Rows.reportReadsUptoRow.laid) (((Rows.OpenSpec.upto Rows.reportReadsSpec).at F).post enc Tryd.prog Tryd.f3 false true false false) := by
  obtain ⟨places, hx⟩ := reads os enc
  refine returnsInHanded_of_row (C := Tryd.checked) (s := Rows.OpenSpec.upto Rows.reportReadsSpec) own started (by kernel_rfl) Tryd.func3
    (witness_row_atRef (enc := enc) (C := Tryd.checked) false (World.doorLaid Tryd.prog 400 os) wit rfl (by kernel_rfl) (by kernel_rfl) (by kernel_rfl)
      (OpenSpec.preRow_of_cond 8 hx (by kernel_rfl) (fun k hk => by cases hk; kernel_rfl) (by kernel_rfl) (laid_met os))) ?_
  intro W base args ds gs before hval hW _ hcond _ hL hsh _
  exact contract H enc W base args ds gs before hval hW (hcond _ rfl) (laid_of hL hsh)

theorem said : Rows.ReportReadsUptoSaid :=
  OpenClaim.holds_of_cond 3 Tryd.f3 rfl rfl rfl rfl rfl rfl rfl ⟨rfl, rfl, rfl, rfl, rfl⟩ rfl rfl rfl rfl rfl (by kernel_rfl) Tryd.func3 (by kernel_rfl)
    (of_decide_eq_true (by kernel_rfl)) (by unfold Func.isWrapper; first | (rw [if_pos (by decide +kernel)]; kernel_rfl) | (rw [if_neg (by decide +kernel)]; exact ⟨rfl, rfl⟩))
    (fun os started H enc _ F => by rw [OpenClaim.pre_eq_preRow]; exact lifted os started H enc F)

/-- No parameter wants a stand-in; the program's own looks are off: what the card asks. -/
theorem plain (f : FuncId) (fn : Func) (hf : Tryd.pinned.checked.prog.funcNamed "cadency/cadencylaw23.ReportReads" = some f) (hfn : Tryd.pinned.checked.prog.funcs[f]? = some fn) :
    true = Tryd.pinned.checked.prog.looks [] ∧ ∀ (j : Nat) t, fn.params[j]? = some t → Tryd.pinned.checked.prog.wantsStandIn t = false := by
  obtain rfl : f = 3 := Option.some.inj ((show Tryd.prog.funcNamed "cadency/cadencylaw23.ReportReads" = some 3 by kernel_rfl).symm.trans hf) |>.symm
  obtain rfl : fn = Tryd.f3 := (Option.some.inj (Tryd.func3.symm.trans hfn)).symm
  refine ⟨by kernel_rfl, fun j t ht => ?_⟩
  rw [Tryd.params3] at ht
  have hm : t = 9 ∨ t = 22 ∨ t = 23 := by simpa using Array.mem_of_getElem? ht
  rcases hm with rfl | rfl | rfl
  · exact (show Tryd.prog.wantsStandIn 9 = false by kernel_rfl)
  · exact (show Tryd.prog.wantsStandIn 22 = false by kernel_rfl)
  · exact (show Tryd.prog.wantsStandIn 23 = false by kernel_rfl)

theorem card : Rows.ReportReadsUptoCardSaid :=
  Claim7.holds_tied_plain_at .later [] _ _ _ _ said (fun _ h => by cases h) (by kernel_rfl) (fun _ h => by cases h) reportReadsUpto_row_tie rfl ⟨rfl, rfl⟩ (by kernel_rfl) rfl plain (by kernel_rfl)
end Go.Proofs.YthpndenlhdlicaaDoor.reportReads
namespace Go.Proofs.YthpndenlhdlicaaDoor
theorem reportReads_card : Rows.ReportReadsUptoCardSaid := reportReads.card
#print axioms reportReads_card
end Go.Proofs.YthpndenlhdlicaaDoor
