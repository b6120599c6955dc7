/- The program's one: a row's line. -/
import Derived.Test.YtphdcoegkfmaeaaGreatDoorRefOne
import Derived.Deep.RegionWith
import Derived.Deep.QuietTactic
import Derived.BigQuiet
import Derived.Deep.DeepCutAuto
set_option linter.unusedVariables false
set_option linter.unusedSimpArgs false
namespace Go.Proofs.YtphdcoegkfmaeaaGreatDoor
open Go.RowKit Go.Shelf

/-- What the text of a line reads of what start-up laid. -/
structure Laid (w : World) : Prop where
  pows : Pows w
  esyn : ∃ tp p, w.var? Tryz.prog "strconv.ErrSyntax" = some #[.iface tp p]
  eran : ∃ tp p, w.var? Tryz.prog "strconv.ErrRange" = some #[.iface tp p]
  maxl : ∃ m, w.cell? ⟨1, 0, none⟩ = some (.int .i64 m)
theorem Laid.kept {w w' : World} (h : Laid w) (hk : Kept w w') : Laid w' where
  pows := h.pows.kept hk
  esyn := by obtain ⟨a, b, e⟩ := h.esyn; exact ⟨a, b, hk.var e⟩
  eran := by obtain ⟨a, b, e⟩ := h.eran; exact ⟨a, b, hk.var e⟩
  maxl := by obtain ⟨a, e⟩ := h.maxl; exact ⟨a, hk.cell e⟩

/-- ParseInt's answer: a number and no error, or some error. -/
def ParsedInt (s : ByteArray) (v : Value) : Prop :=
  match Lib.parseIntB 64 s.data.toList with
  | .ok n => v = .tuple #[.int .i64 n, .nilIface]
  | _ => ∃ (n : Int) (N : Nat), v = .tuple #[.int .i64 n, .iface 161 (.pointer (some ⟨N, 0, none⟩))]
theorem ParseInt_any (s : ByteArray) (hs : s.size ≤ 281474976710656) (w : World) (hL : Laid w) :
    Calls Tryz.prog 59 #[.string s, .int .i64 10, .int .i64 64] w fun e w' => ∃ v, e = .returned v ∧ ParsedInt s v ∧ Kept w w' := by
  cases h : Lib.parseIntB 64 s.data.toList with
  | ok n =>
    refine (Tryz.strconv_ParseInt_10_at64_ok s (by omega) n h w).mono ?_
    rintro e w' ⟨rfl, hw⟩
    refine ⟨_, rfl, by unfold ParsedInt; rw [h], ?_⟩
    rcases hw with rfl | ⟨t, rfl⟩
    · exact Kept.refl _
    · exact Lib.bytesWorld_below w _ _
  | range =>
    obtain ⟨tp, p, hv⟩ := hL.eran
    refine (Tryz.strconv_ParseInt_10_at64_range_var s hs h tp p w hv).mono ?_
    rintro e w' ⟨N, rfl, _, _, hk⟩
    exact ⟨_, rfl, by unfold ParsedInt; rw [h]; exact ⟨_, N, rfl⟩, hk⟩
  | _ =>
    obtain ⟨tp, p, hv⟩ := hL.esyn
    refine (Tryz.strconv_ParseInt_10_at64_syntax_var s hs (fun v e => by rw [e] at h; cases h) (fun e => by rw [e] at h; cases h) tp p w hv).mono ?_
    rintro e w' ⟨N, rfl, _, _, hk⟩
    exact ⟨_, rfl, by unfold ParsedInt; split; (rename_i n hn; rw [hn] at h; cases h); exact ⟨_, N, rfl⟩, hk⟩

theorem ParseInt_ok (s : ByteArray) (hs : s.size ≤ 281474976710656) (n : Int) (h : Lib.parseIntB 64 s.data.toList = .ok n) (w : World) (hL : Laid w) :
    Calls Tryz.prog 59 #[.string s, .int .i64 10, .int .i64 64] w fun e w' => e = .returned (.tuple #[.int .i64 n, .nilIface]) ∧ Kept w w' := by
  refine (ParseInt_any s hs w hL).mono ?_
  rintro e w' ⟨v, rfl, hv, hk⟩
  unfold ParsedInt at hv
  rw [h] at hv
  exact ⟨by rw [hv], hk⟩
theorem ParseInt_err (s : ByteArray) (hs : s.size ≤ 281474976710656) (h : ∀ n, Lib.parseIntB 64 s.data.toList ≠ .ok n) (w : World) (hL : Laid w) :
    Calls Tryz.prog 59 #[.string s, .int .i64 10, .int .i64 64] w fun e w' => (∃ (n : Int) (N : Nat), e = .returned (.tuple #[.int .i64 n, .iface 161 (.pointer (some ⟨N, 0, none⟩))])) ∧ Kept w w' := by
  refine (ParseInt_any s hs w hL).mono ?_
  rintro e w' ⟨v, rfl, hv, hk⟩
  refine ⟨?_, hk⟩
  unfold ParsedInt at hv
  split at hv
  · rename_i n hn
    exact absurd hn (h n)
  · obtain ⟨n, N, rfl⟩ := hv
    exact ⟨n, N, rfl⟩
/-- A row without its line feed. -/
def trimmed (s : ByteArray) : ByteArray := ⟨(Lib.trimSuffix s.data.toList [10]).toArray⟩
def cutName (t : ByteArray) : ByteArray := ⟨(Lib.cut t.data.toList [32]).1.toArray⟩
def cutWord (t : ByteArray) : ByteArray := ⟨(Lib.cut t.data.toList [32]).2.1.toArray⟩
theorem trimmed_size (s : ByteArray) : (trimmed s).size ≤ s.size := by
  show (Lib.trimSuffix s.data.toList [10]).toArray.size ≤ s.size
  unfold Lib.trimSuffix
  split
  · simp
  · simp
theorem cutName_size (s : ByteArray) : (cutName s).size ≤ s.size := by
  show (Lib.cut s.data.toList [32]).1.toArray.size ≤ s.size
  unfold Lib.cut
  split
  · simp; omega
  · simp
theorem cutWord_size (s : ByteArray) : (cutWord s).size ≤ s.size := by
  show (Lib.cut s.data.toList [32]).2.1.toArray.size ≤ s.size
  unfold Lib.cut
  split
  · simp
  · simp
theorem index_blank (a b : List UInt8) (h : ∀ c ∈ a, c ≠ 32) : Lib.index (a ++ 32 :: b) [32] = a.length := by
  induction a with
  | nil => simp [Lib.index]
  | cons c a ih =>
    have h1 := ih (fun x hx => h x (by simp [hx]))
    have hc : c ≠ 32 := h c (by simp)
    have hp : ([32] : List UInt8).isPrefixOf (c :: (a ++ 32 :: b)) = false := by
      simp [List.isPrefixOf]; exact fun e => hc e.symm
    show Lib.index (c :: (a ++ 32 :: b)) [32] = _
    unfold Lib.index
    rw [if_neg (by simp [hp]), h1, if_neg (by simp)]
    simp
theorem trim_snoc (a : List UInt8) : Lib.trimSuffix (a ++ [10]) [10] = a := by
  unfold Lib.trimSuffix Lib.hasSuffix
  have h : (a ++ [10]).length - ([10] : List UInt8).length = a.length := by simp
  rw [if_pos (List.isSuffixOf_iff_suffix.2 (List.suffix_append _ _)), h]
  exact List.take_left' rfl
theorem take_name (a b : List UInt8) : (a ++ 32 :: b).take a.length = a := List.take_left' rfl
theorem drop_name (a b : List UInt8) : (a ++ 32 :: b).drop (a.length + 1) = b := by
  have h1 : a ++ 32 :: b = (a ++ [32]) ++ b := by simp
  rw [h1]
  exact List.drop_left' (by simp)
theorem parsed_row (s : ByteArray) : Parsed s (cutName (trimmed s)) (cutWord (trimmed s)).data.toList := by
  intro y hy ht
  have e := congrArg (fun s : ByteArray => s.data.toList) ht
  simp only [text_list] at e
  have h1 : (trimmed s).data.toList = y.name.data.toList ++ 32 :: y.wordL := by
    show Lib.trimSuffix s.data.toList [10] = _
    rw [← e]
    have e2 : y.name.data.toList ++ 32 :: (y.wordL ++ [10]) = (y.name.data.toList ++ 32 :: y.wordL) ++ [10] := by simp
    rw [e2]
    exact trim_snoc _
  have h2 := index_blank y.name.data.toList y.wordL (fun c hc => (word_no hy.1 hc).1)
  have h3 : Lib.cut (trimmed s).data.toList [32] = (y.name.data.toList, y.wordL, true) := by
    rw [h1]; unfold Lib.cut; rw [h2, if_pos (by omega), Int.toNat_natCast, take_name]
    show (_, (y.name.data.toList ++ 32 :: y.wordL).drop (y.name.data.toList.length + 1), true) = _
    rw [drop_name]
  constructor
  · apply bytes_ext
    show _ = (Lib.cut (trimmed s).data.toList [32]).1
    rw [h3]
  · show _ = (Lib.cut (trimmed s).data.toList [32]).2.1
    rw [h3]
theorem parse_mag (l : List UInt8) (h : Digs l) (a : Nat) (hb : (a + 1) * tens l.length ≤ 10000000000000) : Lib.parseUintM (2 ^ 64 - 1) a l = .ok (digVal a l) := by
  induction l generalizing a with
  | nil => rfl
  | cons c l ih =>
    have hc := h c (by simp)
    have hb2 : (a + 1) * (10 * tens l.length) ≤ 10000000000000 := hb
    have ht : 1 ≤ tens l.length := by have := tens_le 0 l.length; simp at this; exact this
    have ha : (a + 1) * 10 ≤ 10000000000000 := by
      refine Nat.le_trans ?_ hb2
      exact Nat.mul_le_mul_left _ (by omega)
    unfold Lib.parseUintM
    rw [if_pos hc, if_neg (by omega), if_neg (by omega)]
    refine ih (fun x hx => h x (by simp [hx])) _ ?_
    refine Nat.le_trans ?_ hb2
    rw [← Nat.mul_assoc]
    exact Nat.mul_le_mul_right _ (by omega)
theorem parse_digs (l : List UInt8) (h : Digs l) (hne : l ≠ []) (hl : l.length ≤ 13) : Lib.parseIntB 64 l = .ok ((digVal 0 l : Nat) : Int) := by
  have hb : (0 + 1) * tens l.length ≤ 10000000000000 := by
    have h2 := tens_le l.length (13 - l.length)
    rw [show l.length + (13 - l.length) = 13 by omega, show tens 13 = 10000000000000 from rfl] at h2
    omega
  have hm := parse_mag l h 0 hb
  have hv := digVal_lt l h 0
  obtain ⟨c, r, rfl⟩ : ∃ c r, l = c :: r := by
    cases l with
    | nil => exact absurd rfl hne
    | cons c r => exact ⟨c, r, rfl⟩
  have hc := h c (by simp)
  rw [Lib.parseIntB_plain 64 c r (by omega) (by omega)]
  unfold Lib.parseUintB
  rw [if_neg (by simp), hm]
  have : digVal 0 (c :: r) < 2 ^ 63 := by omega
  simp [Lib.signlessC, this]
theorem trim_any (s : ByteArray) (hs : s.size ≤ 2097152) (w : World) :
    Calls Tryz.prog 58 #[.string s, .string ⟨#[10]⟩] w fun e w' => e = .returned (.string (trimmed s)) ∧ w = w' := by
  refine (Tryz.strings_TrimSuffix s ⟨#[10]⟩ w (by omega)).mono ?_
  rintro e w' ⟨rfl, rfl⟩
  exact ⟨rfl, rfl⟩
theorem cut_any (s : ByteArray) (hs : s.size ≤ 2097152) (w : World) (hL : Laid w) :
    Calls Tryz.prog 57 #[.string s, .string ⟨#[32]⟩] w fun e w' => (∃ b, e = .returned (.tuple #[.string (cutName s), .string (cutWord s), .bool b])) ∧ Kept w w' := by
  obtain ⟨m, hm⟩ := hL.maxl
  refine (Tryz.strings_Cut s ⟨#[32]⟩ m w (by omega) hm).mono ?_
  rintro e w' ⟨rfl, n, rfl⟩
  exact ⟨⟨_, rfl⟩, (Kept.refl w).drewN n⟩

set_option maxRecDepth 100000 in
set_option maxHeartbeats 1000000 in
theorem one_any (s : ByteArray) (hs : s.size ≤ 2097152) (w : World) (hL : Laid w) :
    Calls Tryz.prog 38 #[.string s] w fun e w' => e = .returned (lineOf s).val ∧ Kept w w' := by
  have hts := trimmed_size s
  have hns := cutName_size (trimmed s)
  have hws := cutWord_size (trimmed s)
  have hp := parsed_row s
  have Hp := Lib.hid hp
  clear hp
  go_enter Tryz.func38, Tryz.ntmps38
  go_upto_if 19 with (first
    | (go_at_call 58; refine (trim_any s hs _).mono ?_; rintro e w' ⟨rfl, rfl⟩)
    | (go_at_call 57; refine (cut_any (trimmed s) (by omega) _ (hL.kept ((Kept.refl w).alloc _))).mono ?_; rintro e u1 ⟨⟨fd, rfl⟩, hk1⟩))
  generalize cutName (trimmed s) = nm at *
  generalize cutWord (trimmed s) = W at *
  have hA := hk1.heap (heap_alloc_new _ _)
  have hwK : Kept w u1 := ((Kept.refl w).alloc _).trans hk1
  go_cut [7] (fun _ wx => ∃ (R : Int) (ok : Bool), Kept u1 wx ∧ wx.heap[u1.heap.size]? = some (.cells #[.string nm, .int .i64 R, .bool ok] 75 (0, 0)) ∧ 0 ≤ R ∧ R < 1099511627776 ∧ (ok = false → R = 0) ∧ ∀ y, Good y → y.text = s → y = ⟨nm, R, ok⟩)
  case first =>
    cases hm : (W.toList == [109, 105, 115, 115]) with
    | true =>
      have hW : W.data.toList = missW := by rw [← bytes_toList]; exact eq_of_beq hm
      go_wp2_with fail
      go_meet
      exact ⟨0, false, (Kept.refl u1).alloc _, heap_alloc_new _ _, by omega, by omega, fun _ => rfl, parsed_miss Hp.out hW⟩
    | false =>
      have hW : W.data.toList ≠ missW := by
        rw [← bytes_toList]
        intro h
        rw [h] at hm
        exact absurd hm (by decide)
      have Hd := Lib.hid (parsed_digits Hp.out hW)
      have hL1 : Laid u1 := hL.kept hwK
      by_cases hpr : ∃ n, Lib.parseIntB 64 W.data.toList = .ok n
      · obtain ⟨n, hn⟩ := hpr
        have Hn := Lib.hid hn
        clear hn
        by_cases hr : 0 ≤ n ∧ n < 1099511627776
        · obtain ⟨hr0, hr1⟩ := hr
          have hpar : ∀ y, Good y → y.text = s → y = ⟨nm, n, true⟩ := fun y hy ht => by
            obtain ⟨h1, h2, h3, h4⟩ := Hd.out y hy ht
            have h5 := parse_digs _ h2 h4 h3
            rw [Hn.out] at h5
            injection h5 with h5
            rw [h1, h5]
          have Hpar := Lib.hid hpar
          clear hpar
          go_wp2_with (go_at_call 59; refine (ParseInt_ok W (by omega) n Hn.out _ (hL1.kept ((Kept.refl u1).alloc _))).mono ?_; rintro e w2 ⟨rfl, hk2⟩; have hX2 := hk2.heap (heap_alloc_new _ _); have hA2 := hk2.heap (((Kept.refl u1).alloc _).heap hA); obtain ⟨g0, g1, g2⟩ := at3 hX2; have f1 := Lib.frozen_of_heap hX2 1; have f2 := Lib.frozen_of_heap hX2 2)
          go_meet
          exact ⟨n, true, ((((Kept.refl u1).alloc _).trans hk2).setCell (p := ⟨u1.heap.size, 1, none⟩) (Nat.le_refl _) _).setCell (p := ⟨u1.heap.size, 2, none⟩) (Nat.le_refl _) _, by rw [Joins.block_setCell (Joins.block_setCell hX2 _) _]; rfl, hr0, hr1, fun h => by simp at h, Hpar.out⟩
        · have hv : lineOf s = zeroLine := lineOf_none fun y hy ht => by
            obtain ⟨h1, h2, h3, h4⟩ := Hd.out y hy ht
            have h5 := parse_digs _ h2 h4 h3
            rw [Hn.out] at h5
            injection h5 with h5
            have h6 := hy.2.1 (by rw [h1])
            rw [h1, ← h5] at h6
            exact hr h6
          have Hv := Lib.hid hv
          have hr' : n < 0 ∨ 1099511627776 ≤ n := by omega
          have hrb : (decide (n < 0) || decide (1099511627776 ≤ n)) = true := by simp; omega
          clear hv hr
          go_wp2_with (first
            | (go_at_call 59; refine (ParseInt_ok W (by omega) n Hn.out _ (hL1.kept ((Kept.refl u1).alloc _))).mono ?_; rintro e w2 ⟨rfl, hk2⟩; have hX2 := hk2.heap (heap_alloc_new _ _); have hA2 := hk2.heap (((Kept.refl u1).alloc _).heap hA); obtain ⟨g0, g1, g2⟩ := at3 hX2; have f1 := Lib.frozen_of_heap hX2 1; have f2 := Lib.frozen_of_heap hX2 2)
            | (refine wpList_store_row rfl 75 _ _ rfl _ _ rfl rfl 75 _ hA2 (by kernel_rfl) rfl (line_one _ _ _) ?_))
          all_goals
            refine bodyPost_ret (results_cell_row rfl _ _ w.heap.size 75 _ (0, 0) _ rfl (setRow_heap _ _ _ _ _ _ hA2) Tryz.underlying75 rfl (by kernel_rfl)) rfl ⟨?_, ?_⟩
            · rw [Hv.out]; rfl
            · exact Kept.setRow ((hwK.alloc _).trans hk2) (Nat.le_refl _) _
      · have hv : lineOf s = zeroLine := lineOf_none fun y hy ht => by
          obtain ⟨_, h2, h3, h4⟩ := Hd.out y hy ht
          exact hpr ⟨_, parse_digs _ h2 h4 h3⟩
        have Hv := Lib.hid hv
        have Hpr := Lib.hid hpr
        clear hv hpr
        go_wp2_with (first
          | (go_at_call 59; refine (ParseInt_err W (by omega) (fun n hn => Hpr.out ⟨n, hn⟩) _ (hL1.kept ((Kept.refl u1).alloc _))).mono ?_; rintro e w2 ⟨⟨n, N, rfl⟩, hk2⟩; have hX2 := hk2.heap (heap_alloc_new _ _); have hA2 := hk2.heap (((Kept.refl u1).alloc _).heap hA))
          | (refine wpList_store_row rfl 75 _ _ rfl _ _ rfl rfl 75 _ hA2 (by kernel_rfl) rfl (line_one _ _ _) ?_))
        all_goals
          refine bodyPost_ret (results_cell_row rfl _ _ w.heap.size 75 _ (0, 0) _ rfl (setRow_heap _ _ _ _ _ _ hA2) Tryz.underlying75 rfl (by kernel_rfl)) rfl ⟨?_, ?_⟩
          · rw [Hv.out]; rfl
          · exact Kept.setRow ((hwK.alloc _).trans hk2) (Nat.le_refl _) _
  case rest =>
    obtain ⟨R, ok, hK, hX, hR0, hR, hok, hpar⟩ := hcut
    have hv : lineOf s = _ := lineOf_check s ⟨nm, R, ok⟩ hR0 hok hpar
    have Hv := Lib.hid hv
    have Hft := Lib.hid (show Line.fits ⟨nm, R, ok⟩ from ⟨by simp only; omega, by simp only; omega, by simp only; omega⟩)
    have HL := Lib.hid ((hL.kept hwK).kept hK)
    have HR := Lib.hid hR
    have hnm : nm.size ≤ maxLen := by unfold maxLen; omega
    clear hv hpar hok hR hR0
    have hA2 := hK.heap hA
    obtain ⟨g0, g1, g2⟩ := at3 hX
    obtain ⟨wd, hwd⟩ : ∃ b, isWord nm = b := ⟨_, rfl⟩
    have Hwd := Lib.hid hwd
    clear hwd
    cases wd with
    | false =>
      go_wp2_with (first
        | (go_at_call 60; refine (Word_any nm hnm _).mono ?_; rintro e w2 ⟨rfl, rfl⟩; rw [Hwd.out])
        | (refine wpList_store_row rfl 75 _ _ rfl _ _ rfl rfl 75 _ hA2 (by kernel_rfl) rfl (line_one _ _ _) ?_))
      refine bodyPost_ret (results_cell_row rfl _ _ w.heap.size 75 _ (0, 0) _ rfl (setRow_heap _ _ _ _ _ _ hA2) Tryz.underlying75 rfl (by kernel_rfl)) rfl ⟨?_, ?_⟩
      · rw [Hv.out, if_neg (fun h => by have := Hwd.out.symm.trans h.1; simp at this)]; rfl
      · exact Kept.setRow (hwK.trans hK) (Nat.le_refl _) _
    | true =>
      by_cases ht : Line.text ⟨nm, R, ok⟩ = s
      · have hb : ((Line.text ⟨nm, R, ok⟩).toList == s.toList) = true := by rw [toList_beq]; simp [ht]
        have Ht := Lib.hid ht
        clear ht
        go_wp2_with (first
          | (go_at_call 60; refine (Word_any nm hnm _).mono ?_; rintro e w2 ⟨rfl, rfl⟩; rw [Hwd.out])
          | (go_at_call 36; refine (line_any ⟨nm, R, ok⟩ Hft.out _ HL.out.pows).mono ?_; rintro e w2 ⟨rfl, hk2⟩; have hA3 := hk2.heap hA2; obtain ⟨q0, q1, q2⟩ := at3 (hk2.heap hX))
          | (refine wpList_store_row rfl 75 _ _ rfl _ _ rfl rfl 75 _ hA3 (by kernel_rfl) rfl (line_one _ _ _) ?_))
        refine bodyPost_ret (results_cell_row rfl _ _ w.heap.size 75 _ (0, 0) _ rfl (setRow_heap _ _ _ _ _ _ hA3) Tryz.underlying75 rfl (by kernel_rfl)) rfl ⟨?_, ?_⟩
        · rw [Hv.out, if_pos ⟨Hwd.out, HR.out, Ht.out⟩]; rfl
        · exact Kept.setRow ((hwK.trans hK).trans hk2) (Nat.le_refl _) _
      · have hb : ((Line.text ⟨nm, R, ok⟩).toList == s.toList) = false := by rw [toList_beq]; simp [ht]
        have Ht := Lib.hid ht
        clear ht
        go_wp2_with (first
          | (go_at_call 60; refine (Word_any nm hnm _).mono ?_; rintro e w2 ⟨rfl, rfl⟩; rw [Hwd.out])
          | (go_at_call 36; refine (line_any ⟨nm, R, ok⟩ Hft.out _ HL.out.pows).mono ?_; rintro e w2 ⟨rfl, hk2⟩; have hA3 := hk2.heap hA2; obtain ⟨q0, q1, q2⟩ := at3 (hk2.heap hX))
          | (refine wpList_store_row rfl 75 _ _ rfl _ _ rfl rfl 75 _ hA3 (by kernel_rfl) rfl (line_one _ _ _) ?_))
        refine bodyPost_ret (results_cell_row rfl _ _ w.heap.size 75 _ (0, 0) _ rfl (setRow_heap _ _ _ _ _ _ hA3) Tryz.underlying75 rfl (by kernel_rfl)) rfl ⟨?_, ?_⟩
        · rw [Hv.out, if_neg (fun h => Ht.out h.2.2)]; rfl
        · exact Kept.setRow ((hwK.trans hK).trans hk2) (Nat.le_refl _) _
end Go.Proofs.YtphdcoegkfmaeaaGreatDoor
