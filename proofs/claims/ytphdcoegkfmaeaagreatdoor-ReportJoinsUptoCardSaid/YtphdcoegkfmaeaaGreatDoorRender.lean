/- A text of lines: by the program and by the document. -/
import Derived.Test.YtphdcoegkfmaeaaGreatDoorLine
import Derived.Test.YtphdcoegkfmaeaaGreatDoorBuilder
import Derived.Deep.MidRow
set_option linter.unusedVariables false
set_option linter.unusedSimpArgs false
namespace Go.Proofs.YtphdcoegkfmaeaaGreatDoor
open Go.RowKit Go.Shelf

def linesRow (w : World) (A : Option Addr) (l : List Line) : Prop := Row w A (l.flatMap Line.cells)
theorem linesRow.kept {w w' : World} {A : Option Addr} {l : List Line} (h : linesRow w A l) (hk : Kept w w') : linesRow w' A l := Row.kept h hk
theorem linesRow.range {w : World} {A : Option Addr} {l : List Line} (h : linesRow w A l) {k : Nat} {x : Line} (hx : l[k]? = some x) :
    ∃ b off, A = some ⟨b, off, none⟩ ∧ w.cell? ⟨b, off + k * 3, none⟩ = some (.string x.name) ∧ w.cell? ⟨b, off + k * 3 + 1, none⟩ = some (.int .i64 x.r) ∧ w.cell? ⟨b, off + k * 3 + 2, none⟩ = some (.bool x.ok) := by
  have hk : k < l.length := (List.getElem?_eq_some_iff.1 hx).1
  obtain ⟨b, off, e, hb, hc⟩ := h (by rw [flat_length (f := Line.cells) (size := 3) (fun _ => rfl)]; omega)
  have hat : ∀ j v, x.cells[j]? = some v → w.cell? ⟨b, off + k * 3 + j, none⟩ = some v := fun j v hj => by
    have hj3 : j < 3 := (List.getElem?_eq_some_iff.1 hj).1
    have := hc (k * 3 + j) v (by rw [flat_at (f := Line.cells) (size := 3) (fun _ => rfl) l k j x hx hj3]; exact hj)
    rw [← Nat.add_assoc] at this
    exact this
  exact ⟨b, off, e, hat 0 _ rfl, hat 1 _ rfl, hat 2 _ rfl⟩
/-- The text of lines. -/
def rendered (l : List Line) : List UInt8 := l.flatMap fun x => x.text.data.toList
theorem rendered_snoc (l : List Line) (x : Line) : rendered (l ++ [x]) = rendered l ++ x.text.data.toList := by simp [rendered]

theorem rendered_step (l : List Line) {k : Nat} {x : Line} (hx : l[k]? = some x) : rendered (l.take (k + 1)) = rendered (l.take k) ++ x.text.data.toList := by
  rw [List.take_add_one, hx]; exact rendered_snoc _ _
theorem rendered_take (l : List Line) (k : Nat) : (rendered (l.take k)).length ≤ (rendered l).length := by
  have : rendered l = rendered (l.take k) ++ rendered (l.drop k) := by unfold rendered; rw [← List.flatMap_append, List.take_append_drop]
  rw [this]; simp
theorem str_app (l : List UInt8) (s : ByteArray) : ((⟨l.toArray⟩ : ByteArray) ++ s) = ⟨(l ++ s.data.toList).toArray⟩ := by
  apply bytes_ext; rw [Joins.data_append]

theorem ownsRow_kept {w w' : World} {B : Nat} {e : TypeId} {size n : Nat} {v : Value} {xs : List Value} (h : w.ownsRow B e size v n xs) (hk : Kept w w') : w'.ownsRow B e size v n xs := by
  refine ⟨h.1, ?_⟩
  rcases h.2 with h2 | ⟨g, cap, cur, hv, hb, hh, h3⟩
  · exact .inl h2
  · exact .inr ⟨g, cap, cur, hv, hb, hk.heap hh, h3⟩
theorem builder_kept {T e : TypeId} {B b : Nat} {bs : List Value} {w w' : World} (h : Lib.IsBuilder T e B b bs w) (hk : Kept w w') : Lib.IsBuilder T e B b bs w' := by
  rcases h with ⟨hB, v, hb, ho, hn⟩ | ⟨hB, v, hb, ho, hn⟩
  · exact .inl ⟨hB, v, hk.heap hb, ownsRow_kept ho hk, hn⟩
  · exact .inr ⟨hB, v, hk.heap hb, ownsRow_kept ho hk, hn⟩
theorem Kept.trans' {a b c : World} (h : Kept a b) (k : Below a.heap.size b c) : Kept a c := Below.trans h k
theorem cells_of (l : List UInt8) (s : ByteArray) : Lib.byteCells l ++ Lib.strCells s = Lib.byteCells (l ++ s.data.toList) := by
  simp [Lib.byteCells, Lib.strCells]

set_option maxRecDepth 100000 in
set_option maxHeartbeats 400000 in
theorem put_any (x : Line) (hx : x.fits) (B b : Nat) (l : List UInt8) (w : World) (hP : Pows w) (hB : B ≤ w.heap.size) (hlen : l.length + x.text.size ≤ 140737488355328) (hb : Lib.IsBuilder 64 5 B b (Lib.byteCells l) w) :
    Calls Tryz.prog 35 #[x.val, .pointer (some ⟨b, 0, none⟩)] w fun e w' => e = .returned (.tuple #[]) ∧ Lib.IsBuilder 64 5 B b (Lib.byteCells (l ++ x.text.data.toList)) w' ∧ Below B w w' := by
  unfold Line.val
  go_enter Tryz.func35, Tryz.ntmps35
  go_wp2_with (first
    | (go_at_call 36; refine (line_any x hx _ (hP.kept ((Kept.refl w).alloc _))).mono ?_; rintro e w1 ⟨rfl, hk1⟩)
    | (go_at_call 26; refine (Builder_WriteString B b (Lib.byteCells l) x.text _ (builder_kept hb (((Kept.refl w).alloc _).trans hk1)) (by rw [Lib.byteCells_length]; omega) (Nat.le_trans hB (((Kept.refl w).alloc _).trans hk1).size)).mono ?_; rintro e w2 ⟨rfl, hb2, hk2⟩))
  go_end0
  refine ⟨rfl, .inr (by rw [← cells_of]; exact hb2), ?_⟩
  exact Below.trans ((((Kept.refl w).alloc _).trans hk1).mono hB) hk2

set_option maxRecDepth 100000 in
set_option maxHeartbeats 400000 in
theorem Render_any (l : List Line) (A : Option Addr) (cap : Nat) (w : World) (hP : Pows w) (hlen : l.length ≤ 1000000) (hfit : ∀ x ∈ l, x.fits) (hsum : (rendered l).length ≤ 140737488355328) (hrow : linesRow w A l) :
    Calls Tryz.prog 15 #[.slice A l.length cap] w fun e w' => e = .returned (.string ⟨(rendered l).toArray⟩) ∧ Kept w w' := by
  have ep : ∀ args w, (callFunc 35 args).run Tryz.prog w = .ok (.enter 35 args) w := enters_of Tryz.func35 (by kernel_rfl) rfl
  go_enter Tryz.func15, Tryz.ntmps15
  go_wp2
  go_loopw [10] (fun iv wr => ∃ k : Nat, k ≤ l.length ∧ iv = .int .i64 k ∧ Kept w wr ∧ Lib.IsBuilder 64 5 w.heap.size w.heap.size (Lib.byteCells (rendered (l.take k))) wr) (fun iv _ => l.length - (intOf iv).toNat)
  case atStart => exact ⟨0, by omega, rfl, (Kept.refl w).alloc _, Lib.fresh_isBuilder _ _ w⟩
  case round =>
    obtain ⟨k, hk, rfl, hK, hbld⟩ := hrel
    by_cases he : k = l.length
    · have hlt : ¬ ((k : Int) < l.length) := by omega
      rw [he, List.take_length] at hbld
      go_wp2_with (go_at_call 30; refine (Tryz.Builder_String_any _ _ _ _ hbld hK.size).mono ?_; rintro e w2 ⟨rfl, hk2⟩)
      go_ret
      exact ⟨rfl, hK.trans' hk2⟩
    · have hlt : ((k : Int) < l.length) := by omega
      obtain ⟨x, hx⟩ : ∃ x, l[k]? = some x := ⟨_, List.getElem?_eq_getElem (by omega)⟩
      obtain ⟨b, off, rfl, c0, c1, c2⟩ := (hrow.kept hK).range hx
      have hxl : x ∈ l := List.mem_of_getElem? hx
      have hfx := hfit x hxl
      have hsz := rendered_step l hx
      have htk := rendered_take l (k + 1)
      have hxt : x.text.data.toList.length = x.text.size := by simp
      have hadd : (rendered (l.take k)).length + x.text.size ≤ 140737488355328 := by rw [hsz, List.length_append, hxt] at htk; omega
      have Hsz := Lib.hid hsz
      clear hsz htk hxt
      go_wp2_with (go_at_call 35; refine (put_any x hfx w.heap.size w.heap.size _ _ (hP.kept (hK.alloc _)) (hK.alloc _).size hadd (builder_kept hbld ((Kept.refl wr).alloc _))).mono ?_; rintro e w' ⟨rfl, hb2, hk2⟩)
      go_roundw
      case rel => exact ⟨k + 1, by omega, by go_num, (hK.alloc _).trans' hk2, by rw [Hsz.out]; exact hb2⟩
      case measure => simp [intOf]; omega
end Go.Proofs.YtphdcoegkfmaeaaGreatDoor
