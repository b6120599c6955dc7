/- The text of one line: by the program and by the document. -/
import Derived.Test.YtphdcoegkfmaeaaGreatDoorDigits
import Derived.Test.YtphdcoegkfmaeaaGreatDoorLaid
import Derived.Lib.ItoaLen
import Derived.Lib.SmallJoins
import Derived.Lib.AppendIntMem
import Derived.Deep.RegionWith
set_option linter.unusedVariables false
set_option linter.unusedSimpArgs false
namespace Go.Proofs.YtphdcoegkfmaeaaGreatDoor
open Go.RowKit Go.Shelf

structure Line where
  name : ByteArray
  r : Int
  ok : Bool
def Line.cells (x : Line) : List Value := [.string x.name, .int .i64 x.r, .bool x.ok]
def Line.val (x : Line) : Value := .agg #[.string x.name, .int .i64 x.r, .bool x.ok]
/-- What a line says behind the name. -/
def Line.word (x : Line) : ByteArray := if x.ok then ⟨(Lib.itoa x.r).toArray⟩ else ⟨#[109, 105, 115, 115]⟩
def Line.text (x : Line) : ByteArray := x.name ++ ⟨#[32]⟩ ++ x.word ++ ⟨#[10]⟩
def Line.fits (x : Line) : Prop := x.name.size ≤ 1125899906842624 ∧ -9223372036854775808 ≤ x.r ∧ x.r ≤ 9223372036854775807

theorem itoa_size (n : Int) (h0 : -9223372036854775808 ≤ n) (h1 : n ≤ 9223372036854775807) : (⟨(Lib.itoa n).toArray⟩ : ByteArray).size ≤ 21 := by
  have := Lib.itoa_length_le n h0 h1
  show (Lib.itoa n).toArray.size ≤ 21
  simpa using this

/-- The table of powers is as it was laid. -/
def Pows (w : World) : Prop := Lib.TabIs Tryz.prog w "internal/strconv.uint64pow10" .u64 Lib.pow10Tab

theorem Kept.var {w w' : World} (h : Kept w w') {P : Program} {n : String} {cs : Array Value} (hv : w.var? P n = some cs) : w'.var? P n = some cs := by
  unfold World.var? at *
  cases hg : P.globalNamed n with
  | none => rw [hg] at hv; simp at hv
  | some g =>
    rw [hg] at hv
    simp only [Option.bind_some] at hv ⊢
    cases ho : w.heap[g]? with
    | none => rw [ho] at hv; simp at hv
    | some o => rw [h.heap ho]; rw [ho] at hv; exact hv
theorem Kept.grow {a w : World} (h : Kept a w) (k : Nat) (os : Array Obj) : Kept a (Go.Sort.grow (w.drewN k) os) := h.trans (Lib.below_grow _ w (Nat.le_refl _) k os)
theorem Pows.kept {w w' : World} (h : Pows w) (hk : Kept w w') : Pows w' := hk.var h
theorem FormatInt_any (n : Int) (h1 : -9223372036854775808 ≤ n) (h2 : n ≤ 9223372036854775807) (w : World) (hP : Pows w) :
    Calls Tryz.prog 29 #[.int .i64 n, .int .i64 10] w fun e w' => e = .returned (.string ⟨(Lib.itoa n).toArray⟩) ∧ Kept w w' := by
  refine (Tryz.strconv_FormatInt_10 n h1 h2 w hP).mono ?_
  rintro e w' ⟨rfl, k, os, rfl⟩
  exact ⟨rfl, (Kept.refl w).grow _ _⟩
theorem cells3_at (w : World) (a b c : Value) (T : TypeId) (k : Nat) : (w.alloc (.cells #[a, b, c] T)).cell? ⟨w.heap.size, k, none⟩ = #[a, b, c][k]? := World.cell?_alloc_mark w _ T (0, 0) k
theorem line_cells {w w' : World} {a b c : Value} {T : TypeId} (hk : Kept (w.alloc (.cells #[a, b, c] T)).drew w') : w'.cell? ⟨w.heap.size, 0, none⟩ = some a ∧ w'.cell? ⟨w.heap.size, 1, none⟩ = some b ∧ w'.cell? ⟨w.heap.size, 2, none⟩ = some c := by
  refine ⟨hk.cell ?_, hk.cell ?_, hk.cell ?_⟩
  · exact (cells3_at w a b c T 0)
  · exact (cells3_at w a b c T 1)
  · exact (cells3_at w a b c T 2)
theorem line_cells' {w w' : World} {a b c : Value} {T : TypeId} (hk : Kept (w.alloc (.cells #[a, b, c] T)) w') : w'.cell? ⟨w.heap.size, 0, none⟩ = some a ∧ w'.cell? ⟨w.heap.size, 1, none⟩ = some b ∧ w'.cell? ⟨w.heap.size, 2, none⟩ = some c := by
  refine ⟨hk.cell ?_, hk.cell ?_, hk.cell ?_⟩
  · exact (cells3_at w a b c T 0)
  · exact (cells3_at w a b c T 1)
  · exact (cells3_at w a b c T 2)
theorem text_ok (name : ByteArray) (r : Int) : Line.text ⟨name, r, true⟩ = name ++ ⟨#[32]⟩ ++ ⟨(Lib.itoa r).toArray⟩ ++ ⟨#[10]⟩ := rfl
theorem text_miss (name : ByteArray) (r : Int) : Line.text ⟨name, r, false⟩ = name ++ ⟨#[32]⟩ ++ ⟨#[109, 105, 115, 115]⟩ ++ ⟨#[10]⟩ := rfl
theorem text_miss' (name : ByteArray) (r : Int) : Line.text ⟨name, r, false⟩ = name ++ ⟨#[32, 109, 105, 115, 115]⟩ ++ ⟨#[10]⟩ := by
  rw [text_miss]; apply bytes_ext; simp only [Joins.data_append, List.append_assoc]; rfl
theorem conv_feed (w : World) (b : Nat) (hb : b = w.heap.size) : (convert 59 9 (.slice (some ⟨b, 0, none⟩) 1 1)).run Tryz.prog (w.alloc (.cells #[.int .u8 10] 5)) = .ok (.string ⟨#[10]⟩) (w.alloc (.cells #[.int .u8 10] 5)) := by
  subst hb; exact conv_one w 10 10 rfl

set_option maxHeartbeats 400000 in
theorem line_any (x : Line) (hx : x.fits) (w : World) (hP : Pows w) :
    Calls Tryz.prog 36 #[x.val] w fun e w' => e = .returned (.string x.text) ∧ Kept w w' := by
  obtain ⟨name, r, ok⟩ := x
  obtain ⟨hx1, hx2, hx3⟩ := hx
  simp only at hx1 hx2 hx3
  have hi := Lib.itoa_length_le r hx2 hx3
  unfold Line.val
  cases ok with
  | true =>
    go_enter Tryz.func36, Tryz.ntmps36
    go_wp2_with (go_at_call 29; refine (FormatInt_any r hx2 hx3 _ (hP.kept ((Kept.refl w).alloc _))).mono ?_; rintro e w' ⟨rfl, hk⟩; obtain ⟨g0, g1, g2⟩ := line_cells' hk)
    go_ret
    exact ⟨by rw [text_ok]; rfl, ((Kept.refl w).alloc _).trans hk⟩
  | false =>
    go_enter Tryz.func36, Tryz.ntmps36
    go_wp2
    go_ret
    refine ⟨by rw [text_miss]; rfl, (Kept.refl w).alloc _⟩
end Go.Proofs.YtphdcoegkfmaeaaGreatDoor
