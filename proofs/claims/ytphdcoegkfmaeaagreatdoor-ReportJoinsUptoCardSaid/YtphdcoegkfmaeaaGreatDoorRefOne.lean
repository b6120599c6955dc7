/- The document's one: a row's line. -/
import Derived.Test.YtphdcoegkfmaeaaGreatDoorGood
import Derived.Test.YtphdcoegkfmaeaaGreatDoorRefThree
import Derived.Deep.RegionWith
import Derived.Deep.QuietTactic
import Derived.BigQuiet
import Derived.Deep.DeepCutAuto
set_option linter.unusedVariables false
set_option linter.unusedSimpArgs false
namespace Go.Proofs.YtphdcoegkfmaeaaGreatDoor
open Go.RowKit Go.Shelf

theorem at3 {w : World} {n : Nat} {a b c : Value} {T : TypeId} {fr : Nat × Nat} (h : w.heap[n]? = some (.cells #[a, b, c] T fr)) : w.cell? ⟨n, 0, none⟩ = some a ∧ w.cell? ⟨n, 1, none⟩ = some b ∧ w.cell? ⟨n, 2, none⟩ = some c := by
  refine ⟨?_, ?_, ?_⟩ <;> (rw [Lib.cell_of_heap h]; rfl)

theorem at3' {w : World} {n : Nat} {a b c : Value} {T : TypeId} {fr : Nat × Nat} (h : w.heap[n]? = some (.cells #[a, b, c] T fr)) : (∀ o, (w.alloc o).cell? ⟨n, 0, none⟩ = some a) ∧ (∀ o, (w.alloc o).cell? ⟨n, 1, none⟩ = some b) ∧ ∀ o, (w.alloc o).cell? ⟨n, 2, none⟩ = some c := by
  have h' : ∀ o, (w.alloc o).heap[n]? = some (.cells #[a, b, c] T fr) := fun o => ((Kept.refl w).alloc o).heap h
  exact ⟨fun o => (at3 (h' o)).1, fun o => (at3 (h' o)).2.1, fun o => (at3 (h' o)).2.2⟩
theorem line_one (a : ByteArray) (b : Int) (c : Bool) : (#[Value.string a, Value.int .i64 b, Value.bool c]).all (·.oneCell') = true := by simp [Value.oneCell']
theorem ofNat_byte {b : Nat} (h : b < 256) : (UInt8.ofNat b).toNat = b := by simp only [UInt8.toNat_ofNat']; exact Nat.mod_eq_of_lt h
theorem dig_step {l : List UInt8} {i b : Nat} (h : l[i]? = some (UInt8.ofNat b)) (hb : 48 ≤ b) (h256 : b < 256) : ((digVal 0 (l.take i) : Nat) : Int) * 10 + ((b : Int) - 48) = ((digVal 0 (l.take (i + 1)) : Nat) : Int) := by
  rw [List.take_add_one, h, digVal_append]
  show _ = ((digVal 0 (l.take i) * 10 + ((UInt8.ofNat b).toNat - 48) : Nat) : Int)
  rw [ofNat_byte h256]
  omega
theorem digs_step {l : List UInt8} {i b : Nat} (hd : Digs (l.take i)) (h : l[i]? = some (UInt8.ofNat b)) (hb : 48 ≤ b ∧ b ≤ 57) (h256 : b < 256) : Digs (l.take (i + 1)) := by
  rw [List.take_add_one, h]
  intro c hc
  rcases List.mem_append.1 hc with hc | hc
  · exact hd c hc
  · have : c = UInt8.ofNat b := by simpa using hc
    rw [this, ofNat_byte h256]; exact hb
theorem conv_at (W : World) (b : Nat) (h : W.cell? ⟨b, 0, none⟩ = some (.int .u8 10)) : (convert 59 9 (.slice (some ⟨b, 0, none⟩) 1 1)).run Tryz.prog W = .ok (.string ⟨#[10]⟩) W :=
  run_convert_bytes_back _ _ _ _ ⟨b, 0, none⟩ 1 [10] Tryz.underlying59 Tryz.underlying5 Tryz.underlying9 (fun j hj => by
    have : j = 0 := by simp at hj; omega
    subst this
    exact h)
end Go.Proofs.YtphdcoegkfmaeaaGreatDoor
