/- cadencylaw23.ReportBack, ReportJoins: the walk. -/
import Derived.Test.YtphdcoegkfmaeaaGreatDoorOnly
import Derived.Test.YtphdcoegkfmaeaaGreatDoorRefSet
set_option linter.unusedVariables false
set_option linter.unusedSimpArgs false
namespace Go.Proofs.YtphdcoegkfmaeaaGreatDoor
open Go.RowKit Go.Shelf Cad

noncomputable def setLines (l : List Spec) (most : Nat) (turn : Int) : List Line := lnL (setT l most turn) (rtaB (setT l most turn))
theorem setLines_length (l : List Spec) (most : Nat) (turn : Int) : (setLines l most turn).length = setN l most := by unfold setLines; rw [lnL_length, setT_length]
theorem setLines_good (l : List Spec) (most : Nat) (turn : Int) (h1 : 1 ≤ most) (h8 : most ≤ 8) : ∀ x ∈ setLines l most turn, Good x ∧ x.name.size ≤ 32 := by
  intro x hx
  have hm := setT_may l most turn h1 h8
  unfold setLines lnL lnTo at hx
  obtain ⟨i, hi, rfl⟩ := List.mem_map.1 hx
  have hi := List.mem_range.1 hi
  obtain ⟨hc, _⟩ := (may_iff.1 hm).2.2 i hi
  obtain ⟨⟨r1, r2, _⟩, _⟩ := checkE_zero.1 hc
  have hn := rtaB_nums hm hi
  refine ⟨⟨r1, fun _ => ⟨hn.1, Int.lt_of_le_of_lt hn.2 (by decide)⟩, fun ho => ?_⟩, r2⟩
  unfold lnOf at ho ⊢
  unfold rtaB at ho ⊢
  cases hb : bnd (setT l most turn) i with
  | some r => rw [hb] at ho; simp at ho
  | none => rfl
theorem rendered_bound (l : List Line) (h : ∀ x ∈ l, x.fits ∧ x.name.size ≤ 32) : (rendered l).length ≤ l.length * 60 := by
  induction l with
  | nil => simp [rendered]
  | cons x l ih =>
    have e : (rendered (x :: l)).length = x.text.data.toList.length + (rendered l).length := by
      unfold rendered; rw [List.flatMap_cons, List.length_append]
    have h2 := ih (fun y hy => h y (by simp [hy]))
    obtain ⟨hf, hs⟩ := h x (by simp)
    have hw : x.wordL.length ≤ 21 := by
      unfold Line.wordL
      split
      · have := itoa_size x.r hf.2.1 hf.2.2
        have h3 : (⟨(Lib.itoa x.r).toArray⟩ : ByteArray).size = (Lib.itoa x.r).length := by show (Lib.itoa x.r).toArray.size = _; simp
        omega
      · decide
    have hn : x.name.data.toList.length = x.name.size := by simp
    rw [e, text_list, List.length_append, List.length_cons, List.length_append, List.length_cons, List.length_cons, List.length_nil]
    omega
theorem setLines_sum (l : List Spec) (most : Nat) (turn : Int) (h1 : 1 ≤ most) (h8 : most ≤ 8) : (∀ x ∈ setLines l most turn, x.fits) ∧ (rendered (setLines l most turn)).length ≤ 480 := by
  have hg := setLines_good l most turn h1 h8
  have hf : ∀ x ∈ setLines l most turn, x.fits ∧ x.name.size ≤ 32 := fun x hx => ⟨good_fits (hg x hx).1 (by have := (hg x hx).2; omega), (hg x hx).2⟩
  refine ⟨fun x hx => (hf x hx).1, ?_⟩
  have := rendered_bound _ hf
  rw [setLines_length] at this
  have h3 : setN l most ≤ 8 := by unfold setN; omega
  omega
/-- What a set's lines are. -/
theorem setAnalyze (l : List Spec) (most : Nat) (turn : Int) (h1 : 1 ≤ most) (h8 : most ≤ 8) (A : Option Addr) (c : Nat) (w : World) (hrow : tasksRow w A (setT l most turn)) (hT : Tab64 w) :
    Calls Tryz.prog 14 #[.slice A (setN l most) c] w fun e w' => ∃ B cap, e = .returned (.tuple #[.slice B (setN l most) cap, .int .i64 0]) ∧ setN l most ≤ cap ∧ linesRow w' B (setLines l most turn) ∧ Kept w w' := by
  have h := Analyze_any (setT l most turn) (setT_may l most turn h1 h8) (setT_fits l most turn h1 h8) A c w hrow hT
  rw [setT_length] at h
  exact h
theorem setRender (L : List Line) (n : Nat) (hn : L.length = n) (hn2 : n ≤ 1000) (hf : ∀ x ∈ L, x.fits) (hs : (rendered L).length ≤ 100000) (A : Option Addr) (c : Nat) (w : World) (hP : Pows w) (hrow : linesRow w A L) :
    Calls Tryz.prog 15 #[.slice A n c] w fun e w' => e = .returned (.string ⟨(rendered L).toArray⟩) ∧ Kept w w' := by
  have h := Render_any L A c w hP (by omega) hf (by omega) hrow
  rw [hn] at h
  exact h
theorem setRead (L : List Line) (n : Nat) (hn : L.length = n) (hg : ∀ x ∈ L, Good x) (t : ByteArray) (ht : t.data.toList = rendered L) (hs : t.size ≤ 2097152) (w : World) (hL : Laid w) :
    Calls Tryz.prog 16 #[.string t] w fun e w' => ∃ A cap, e = .returned (.tuple #[.slice A n cap, .int .i64 t.size, .int .i64 0]) ∧ linesRow w' A L ∧ Kept w w' := by
  refine (callsIn_wide.1 (Read_in Fence.wide rfl 3 (by decide) t hs w hL)).mono ?_
  rintro e w1 ⟨⟨l, a, ok, A, cap, hRun, rfl, hrow⟩, hk1⟩
  have hr := run_rendered L hg
  have he : (⟨(rendered L).toArray⟩ : ByteArray) = t := by apply bytes_ext; rw [ht]
  rw [he] at hr
  have h1 := hRun.one hr
  simp only [Prod.mk.injEq] at h1
  obtain ⟨rfl, rfl, rfl⟩ := h1
  have hsz : (rendered l).length = t.size := by rw [← ht]; simp
  rw [hsz, hn]
  exact ⟨A, cap, rfl, hrow, hk1⟩
theorem setSame (L : List Line) (n : Nat) (hn : L.length = n) (hn2 : n ≤ 1000) (A B : Option Addr) (ca cb : Nat) (w : World) (hA : linesRow w A L) (hB : linesRow w B L) :
    Calls Tryz.prog 17 #[.slice A n ca, .slice B n cb] w fun e w' => e = .returned (.bool true) ∧ Kept w w' := by
  have h := Same_yes L A B ca cb w (by omega) hA hB
  rw [hn] at h
  exact h

theorem Set_lit (l : List Spec) (hfit : ∀ x ∈ l, x.fits) (hlen : l.length ≤ 9223372036854775807) (most : Nat) (m : Int) (hm : m = (most : Int)) (h1 : 1 ≤ most) (h8 : most ≤ 8) (turn : Int) (ht0 : -9223372036854775808 ≤ turn) (ht9 : turn ≤ 9223372036854775807) (A : Option Addr) (c : Nat) (w : World) (hrow : specsRow w A l) :
    Calls Tryz.prog 9 #[.slice A l.length c, .int .i64 m, .int .i64 turn] w fun e w' => ∃ B cap, e = .returned (.slice B (setN l most) cap) ∧ setN l most ≤ cap ∧ tasksRow w' B (setT l most turn) ∧ Kept w w' := by
  subst hm
  exact Set_any l hfit hlen most h1 h8 turn ht0 ht9 A c w hrow
set_option maxRecDepth 100000 in
set_option maxHeartbeats 4000000 in
theorem ReportBack_tail (s S : ByteArray) (l : List Spec) (A : Option Addr) (cap : Nat) (q0 q1 q2 : Int) (h0 : -9223372036854775808 ≤ q0) (h0' : q0 ≤ 9223372036854775807) (h1 : -9223372036854775808 ≤ q1) (h1' : q1 ≤ 9223372036854775807)
    (hs : s.size ≤ 1048576) (hS : S = if 100 < s.size then s.extract 0 100 else s) (hlen : l.length ≤ 9223372036854775807) (hfit : ∀ x ∈ l, x.fits) (w : World) (hL : Laid w) (hT : Tab64 w) (hrow : specsRow w A l) :
    Calls Tryz.prog 5 #[.slice A l.length cap, .string s, .agg #[.int .i64 q0, .int .i64 q1, .int .i64 q2]] w fun e w' => e = .returned (.bool true) ∧ Kept w w' := by
  have hS1 : S.size ≤ 1048576 := by rw [hS]; split; (simp; omega); exact hs
  have hw0 := (Kept.refl w).alloc (.cells #[.int .i64 q0, .int .i64 q1, .int .i64 q2] 37)
  have hq := heap_alloc_new w (.cells #[.int .i64 q0, .int .i64 q1, .int .i64 q2] 37)
  have hg := setLines_good l 6 q1 (by decide) (by decide)
  obtain ⟨hf, hsum⟩ := setLines_sum l 6 q1 (by decide) (by decide)
  have hN := setLines_length l 6 q1
  have hn6 : setN l 6 ≤ 6 := by unfold setN; omega
  have CSet := fun (m : Int) (hm : m = ((6 : Nat) : Int)) W (hk : Kept w W) => Set_lit l hfit hlen 6 m hm (by decide) (by decide) q1 h1 h1' A cap W (hrow.kept hk)
  have CAna := fun B c W (hk : Kept w W) hr => setAnalyze l 6 q1 (by decide) (by decide) B c W hr (hT.kept hk)
  generalize setLines l 6 q1 = L at *
  generalize setT l 6 q1 = T at *
  generalize setN l 6 = n at *
  generalize hTx : (⟨(rendered L).toArray⟩ : ByteArray) = t at *
  have htl : t.data.toList = rendered L := by rw [← hTx]
  have hts : t.size ≤ 480 := by rw [← hTx]; show (rendered L).toArray.size ≤ _; simpa using hsum
  have CRen := fun B c W (hk : Kept w W) hr => setRender L n hN (by omega) hf (by omega) B c W (hL.kept hk).pows hr
  rw [hTx] at CRen
  have CRead := fun W (hk : Kept w W) => setRead L n hN (fun x hx => (hg x hx).1) t htl (by omega) W (hL.kept hk)
  have CSame := fun B C cb cc W hr hr' => setSame L n hN (by omega) B C cb cc W hr hr'
  clear hTx htl hg hf hsum hN hfit hrow
  by_cases c1 : 100 < s.size
  all_goals
    first | rw [if_pos c1] at hS | rw [if_neg c1] at hS
    replace hS := hS.symm
    subst hS
    first | (have c1' : (100 : Int) < s.size := by omega) | (have c1' : ¬ (100 : Int) < s.size := by omega)
    go_enter Tryz.func5, Tryz.ntmps5
    go_wp2_with fail
    refine (awake23_any _ (hL.kept hw0).pows).mono ?_
    rintro e w1 ⟨rfl, hk1⟩
    have hK1 := hw0.trans hk1
    have hq1 := hk1.heap hq
    have k1 : w1.cell? ⟨w.heap.size, 1, none⟩ = some (.int .i64 q1) := by rw [Lib.cell_of_heap hq1]; rfl
    go_wp2_with fail
    refine (CSet _ rfl _ hK1).mono ?_
    rintro e w2 ⟨B2, cap2, rfl, hc2, hr2, hk2⟩
    have hK2 := hK1.trans hk2
    go_wp2_with fail
    refine (CAna B2 cap2 _ hK2 hr2).mono ?_
    rintro e w3 ⟨B3, cap3, rfl, hc3, hr3, hk3⟩
    have hK3 := hK2.trans hk3
    go_wp2_with fail
    refine (CRen B3 cap3 _ hK3 hr3).mono ?_
    rintro e w4 ⟨rfl, hk4⟩
    have hK4 := hK3.trans hk4
    go_wp2_with fail
    refine (CRead _ hK4).mono ?_
    rintro e w5 ⟨B5, cap5, rfl, hr5, hk5⟩
    have hK5 := hK4.trans hk5
    go_wp2_with fail
    refine (CSame B3 B5 cap3 cap5 _ ((hr3.kept hk4).kept hk5) hr5).mono ?_
    rintro e w6 ⟨rfl, hk6⟩
    have hK6 := hK5.trans hk6
    go_wp2_with fail
    refine (only_any _ (by omega) (by omega) _ (hL.kept hK6)).mono ?_
    rintro e w7 ⟨rfl, hk7⟩
    have hK7 := hK6.trans hk7
    have hq7 := (((hk2.trans hk3).trans hk4).trans ((hk5.trans hk6).trans hk7)).heap hq1
    have k0 : w7.cell? ⟨w.heap.size, 0, none⟩ = some (.int .i64 q0) := by rw [Lib.cell_of_heap hq7]; rfl
    have k1 : w7.cell? ⟨w.heap.size, 1, none⟩ = some (.int .i64 q1) := by rw [Lib.cell_of_heap hq7]; rfl
    have k2 : w7.cell? ⟨w.heap.size, 2, none⟩ = some (.int .i64 q2) := by rw [Lib.cell_of_heap hq7]; rfl
    clear hq7
    go_wp2_with fail
    refine (spoilt_any t q0 q1 q2 h0 h0' h1 h1' (by omega) _).mono ?_
    rintro e w8 ⟨t', ht', rfl, hk8⟩
    have hK8 := hK7.trans hk8
    clear k0 k1 k2
    go_wp2_with fail
    refine (only_any _ (by omega) (by omega) _ (hL.kept hK8)).mono ?_
    rintro e w9 ⟨rfl, hk9⟩
    go_wp2
    go_ret
    exact ⟨rfl, hK8.trans hk9⟩

set_option maxRecDepth 100000 in
set_option maxHeartbeats 4000000 in
theorem ReportJoins_tail (l r : List Spec) (A B : Option Addr) (ca cb : Nat) (turn : Int) (h1 : -9223372036854775808 ≤ turn) (h1' : turn ≤ 9223372036854775807)
    (hla : l.length ≤ 9223372036854775807) (hlb : r.length ≤ 9223372036854775807) (hfa : ∀ x ∈ l, x.fits) (hfb : ∀ x ∈ r, x.fits) (w : World) (hL : Laid w) (hT : Tab64 w) (hra : specsRow w A l) (hrb : specsRow w B r) :
    Calls Tryz.prog 6 #[.slice A l.length ca, .slice B r.length cb, .int .i64 turn] w fun e w' => e = .returned (.bool true) ∧ Kept w w' := by
  have ga := setLines_good l 5 turn (by decide) (by decide)
  have gb := setLines_good r 5 turn (by decide) (by decide)
  obtain ⟨fa, sa⟩ := setLines_sum l 5 turn (by decide) (by decide)
  obtain ⟨fb, sb⟩ := setLines_sum r 5 turn (by decide) (by decide)
  have na := setLines_length l 5 turn
  have nb := setLines_length r 5 turn
  have na5 : setN l 5 ≤ 5 := by unfold setN; omega
  have nb5 : setN r 5 ≤ 5 := by unfold setN; omega
  have nb1 : 1 ≤ setN r 5 := by unfold setN; omega
  have na1 : 1 ≤ setN l 5 := by unfold setN; omega
  have SetA := fun (m : Int) (hm : m = ((5 : Nat) : Int)) W (hk : Kept w W) => Set_lit l hfa hla 5 m hm (by decide) (by decide) turn h1 h1' A ca W (hra.kept hk)
  have SetB := fun (m : Int) (hm : m = ((5 : Nat) : Int)) W (hk : Kept w W) => Set_lit r hfb hlb 5 m hm (by decide) (by decide) turn h1 h1' B cb W (hrb.kept hk)
  have AnaA := fun C c W (hk : Kept w W) hr => setAnalyze l 5 turn (by decide) (by decide) C c W hr (hT.kept hk)
  have AnaB := fun C c W (hk : Kept w W) hr => setAnalyze r 5 turn (by decide) (by decide) C c W hr (hT.kept hk)
  generalize setLines l 5 turn = L at *
  generalize setLines r 5 turn = R at *
  generalize setT l 5 turn = TA at *
  generalize setT r 5 turn = TB at *
  generalize setN l 5 = n at *
  generalize setN r 5 = m at *
  have nboth : (L ++ R).length = n + m := by rw [List.length_append, na, nb]
  have gboth : ∀ x ∈ L ++ R, Good x := fun x hx => by
    rcases List.mem_append.1 hx with h | h
    · exact (ga x h).1
    · exact (gb x h).1
  have fboth : ∀ x ∈ L ++ R, x.fits := fun x hx => by
    rcases List.mem_append.1 hx with h | h
    · exact fa x h
    · exact fb x h
  have sboth : (rendered (L ++ R)).length ≤ 960 := by rw [rendered_append, List.length_append]; omega
  have RenA := fun C c W (hk : Kept w W) hr => setRender L n na (by omega) fa (by omega) C c W (hL.kept hk).pows hr
  have RenB := fun C c W (hk : Kept w W) hr => setRender R m nb (by omega) fb (by omega) C c W (hL.kept hk).pows hr
  have RenAB := fun C c W (hk : Kept w W) hr => setRender (L ++ R) (n + m) nboth (by omega) fboth (by omega) C c W (hL.kept hk).pows hr
  generalize hta : (⟨(rendered L).toArray⟩ : ByteArray) = ta at *
  generalize htb : (⟨(rendered R).toArray⟩ : ByteArray) = tb at *
  have hboth : (⟨(rendered (L ++ R)).toArray⟩ : ByteArray) = ta ++ tb := by
    apply bytes_ext
    rw [Joins.data_append, ← hta, ← htb, rendered_append]
  rw [hboth] at RenAB
  have hts : (ta ++ tb).size ≤ 960 := by rw [← hboth]; show (rendered (L ++ R)).toArray.size ≤ _; simpa using sboth
  have htl : (ta ++ tb).data.toList = rendered (L ++ R) := by rw [← hboth]
  have hsa : ta.size ≤ 480 := by rw [← hta]; show (rendered L).toArray.size ≤ _; simpa using sa
  have hsb : tb.size ≤ 480 := by rw [← htb]; show (rendered R).toArray.size ≤ _; simpa using sb
  have Read := fun W (hk : Kept w W) => setRead (L ++ R) (n + m) nboth gboth (ta ++ tb) htl (by omega) W (hL.kept hk)
  have Same := fun C D cc cd W hr hr' => setSame (L ++ R) (n + m) nboth (by omega) C D cc cd W hr hr'
  have Hna := Lib.hid na
  have Hnb := Lib.hid nb
  clear hboth htl hta htb ga gb fa fb sa sb na nb nboth gboth fboth sboth hfa hfb
  go_enter Tryz.func6, Tryz.ntmps6
  go_wp2_with fail
  refine (awake23_any _ hL.pows).mono ?_
  rintro e w1 ⟨rfl, hk1⟩
  have hK1 : Kept w w1 := hk1
  go_wp2_with fail
  refine (SetA _ rfl _ hK1).mono ?_
  rintro e w2 ⟨B2, cap2, rfl, hc2, hr2, hk2⟩
  have hK2 := hK1.trans hk2
  go_wp2_with fail
  refine (AnaA B2 cap2 _ hK2 hr2).mono ?_
  rintro e w3 ⟨B3, cap3, rfl, hc3, hr3, hk3⟩
  have hK3 := hK2.trans hk3
  go_wp2_with fail
  refine (SetB _ rfl _ hK3).mono ?_
  rintro e w4 ⟨B4, cap4, rfl, hc4, hr4, hk4⟩
  have hK4 := hK3.trans hk4
  go_wp2_with fail
  refine (AnaB B4 cap4 _ hK4 hr4).mono ?_
  rintro e w5 ⟨B5, cap5, rfl, hc5, hr5, hk5⟩
  have hK5 := hK4.trans hk5
  have hr3' := (hr3.kept hk4).kept hk5
  obtain ⟨b3, off3, rfl, -, hc3'⟩ := hr3' (by rw [flat_length (f := Line.cells) (size := 3) (fun _ => rfl), Hna.out]; omega)
  obtain ⟨b5, off5, rfl, -, hc5'⟩ := hr5 (by rw [flat_length (f := Line.cells) (size := 3) (fun _ => rfl), Hnb.out]; omega)
  have hlA : (L.flatMap Line.cells).length = n * 3 := by rw [flat_length (f := Line.cells) (size := 3) (fun _ => rfl), Hna.out]
  have hlB : (R.flatMap Line.cells).length = m * 3 := by rw [flat_length (f := Line.cells) (size := 3) (fun _ => rfl), Hnb.out]
  have hoA : ∀ u ∈ L.flatMap Line.cells, u.oneCell' = true := fun u hu => by obtain ⟨x, _, hx⟩ := List.mem_flatMap.1 hu; exact line_oneCell x u hx
  have hoB : ∀ u ∈ R.flatMap Line.cells, u.oneCell' = true := fun u hu => by obtain ⟨x, _, hx⟩ := List.mem_flatMap.1 hu; exact line_oneCell x u hx
  have hadd : ∀ b off j : Nat, (⟨b, off, none⟩ : Addr).add j = ⟨b, off + j, none⟩ := fun b off j => by unfold Addr.add; split <;> simp_all
  have hnA : ∀ (j : Nat) (u : Value), (L.flatMap Line.cells)[j]? = some u → (w5.alloc (.cells #[] 75)).cell? ((⟨b3, off3, none⟩ : Addr).add j) = some u := fun j u hu => by
    rw [hadd]; exact ((Kept.refl w5).alloc _).cell (hc3' j u hu)
  have hnB : ∀ W, Kept w5 W → ∀ (j : Nat) (u : Value), (R.flatMap Line.cells)[j]? = some u → W.cell? ((⟨b5, off5, none⟩ : Addr).add j) = some u := fun W hk j u hu => by
    rw [hadd]; exact hk.cell (hc5' j u hu)
  have hmade : (w5.alloc (.cells #[] 75)).ownsRow w5.heap.size 75 3 (.slice (some ⟨w5.heap.size, 0, none⟩) 0 0) 0 [] := World.ownsRow_made w5 #[] 0 (Nat.le_refl _) (Nat.zero_le _) rfl
  obtain ⟨i0, hi0, iz0, iz1, iz2⟩ := info_parts (show (Tryz.prog.info? 75).map (fun i => (i.zero, i.size, i.bytes)) = some (some (.agg #[.string ⟨#[]⟩, .int .i64 0, .bool false]), 3, 32) by kernel_rfl)
  have hml : n ≤ maxLen ∧ n + m ≤ maxLen := by unfold maxLen; omega
  obtain ⟨hml1, hml2⟩ := hml
  clear hc3' hc5' hadd
  go_upto_region 5 with (first
    | (at_builtin; go_loud (refine wpList_append_own _ rfl _ _ 38 rfl w5.heap.size 75 i0 _ 3 32 Tryz.underlying38 hi0 iz0 iz1 iz2 rfl (by decide) _ 0 [] rfl hmade ⟨b3, off3, none⟩ n cap3 (L.flatMap Line.cells) rfl hlA hnA hoA (by omega) (by omega) (by simp) ?_; intro v6 w6 hown6 hgrow6 _; rw [Nat.zero_add, List.nil_append] at hown6; have hk6 : Kept w5 w6 := ((Kept.refl w5).alloc _).grown hgrow6 (fun g e => by cases e; exact Nat.le_refl _); obtain ⟨A6, cap6, rfl⟩ := own_slice hown6))
    | (at_builtin; go_loud (refine wpList_append_own _ rfl _ _ 38 rfl w5.heap.size 75 i0 _ 3 32 Tryz.underlying38 hi0 iz0 iz1 iz2 rfl (by decide) _ n (L.flatMap Line.cells) rfl hown6 ⟨b5, off5, none⟩ m cap5 (R.flatMap Line.cells) rfl hlB (hnB _ hk6) hoB (by omega) (by omega) hk6.size ?_; intro v7 w7 hown7 hgrow7 _; have hk7 : Kept w5 w7 := hk6.grown hgrow7 (fun g e => (hown6.lt _ e).1); obtain ⟨A7, cap7, rfl⟩ := own_slice hown7)))
  have hr7 : linesRow w7 A7 (L ++ R) := by
    have h := Row.own hown7
    rw [← List.flatMap_append] at h
    exact h
  have hK7 := hK5.trans hk7
  clear hown7 hgrow7 hown6 hgrow6 hmade hnA hnB hoA hoB hlA hlB hml1 hml2
  go_wp2_with fail
  refine (RenA _ cap3 _ hK7 (hr3'.kept hk7)).mono ?_
  rintro e w8 ⟨rfl, hk8⟩
  have hK8 := hK7.trans hk8
  go_wp2_with fail
  refine (RenB _ cap5 _ hK8 ((hr5.kept hk7).kept hk8)).mono ?_
  rintro e w9 ⟨rfl, hk9⟩
  have hK9 := hK8.trans hk9
  go_wp2_with fail
  refine (Read _ hK9).mono ?_
  rintro e w10 ⟨B10, cap10, rfl, hr10, hk10⟩
  have hK10 := hK9.trans hk10
  go_wp2_with fail
  refine (Same B10 A7 cap10 cap7 _ hr10 (((hr7.kept hk8).kept hk9).kept hk10)).mono ?_
  rintro e w11 ⟨rfl, hk11⟩
  have hK11 := hK10.trans hk11
  go_wp2_with fail
  refine (RenAB A7 cap7 _ hK11 ((((hr7.kept hk8).kept hk9).kept hk10).kept hk11)).mono ?_
  rintro e w12 ⟨rfl, hk12⟩
  go_wp2
  go_ret
  exact ⟨rfl, hK11.trans hk12⟩
end Go.Proofs.YtphdcoegkfmaeaaGreatDoor
