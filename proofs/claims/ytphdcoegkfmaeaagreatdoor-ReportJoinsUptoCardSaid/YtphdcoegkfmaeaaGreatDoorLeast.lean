/- The least number of ticks that is enough. -/
import Derived.Test.YtphdcoegkfmaeaaGreatDoorBound
namespace Go.Proofs.YtphdcoegkfmaeaaGreatDoor.Cad
section
variable {l : List Task} {i : Nat}

def lst (l : List Task) (i : Nat) : Nat → Int → Option Int
  | 0, _ => none
  | n + 1, w => if need l i w ≤ w then some w else lst l i n (w + 1)
/-- A task's bound, but for its jitter: the least number that is enough, if there is one. -/
def bnd (l : List Task) (i : Nat) : Option Int := lst l i ((tsk l i).d - (tsk l i).j).toNat 1

theorem lst_some : ∀ {n : Nat} {w r : Int}, lst l i n w = some r → w ≤ r ∧ r < w + n ∧ need l i r ≤ r ∧ ∀ y, w ≤ y → y < r → y < need l i y
  | 0, _, _, h => by simp [lst] at h
  | n + 1, w, r, h => by
    simp only [lst] at h
    split at h
    · rename_i hw
      injection h with h
      subst h
      exact ⟨by omega, by omega, hw, fun y h1 h2 => by omega⟩
    · rename_i hw
      obtain ⟨g1, g2, g3, g4⟩ := lst_some h
      refine ⟨by omega, by omega, g3, fun y h1 h2 => ?_⟩
      by_cases e : y = w
      · subst e; omega
      · exact g4 y (by omega) h2
theorem lst_none : ∀ {n : Nat} {w : Int}, lst l i n w = none → ∀ y, w ≤ y → y < w + n → y < need l i y
  | 0, _, _, y, h1, h2 => by omega
  | n + 1, w, h, y, h1, h2 => by
    simp only [lst] at h
    split at h
    · simp at h
    · rename_i hw
      by_cases e : y = w
      · subst e; omega
      · exact lst_none h y (by omega) (by omega)

theorem bnd_some {r : Int} (h : bnd l i = some r) : 1 ≤ r ∧ r ≤ (tsk l i).d - (tsk l i).j ∧ need l i r ≤ r ∧ ∀ y, 1 ≤ y → y < r → y < need l i y := by
  obtain ⟨h1, h2, h3, h4⟩ := lst_some h
  exact ⟨h1, by omega, h3, h4⟩
theorem bnd_none (h : bnd l i = none) : ∀ y, 1 ≤ y → y ≤ (tsk l i).d - (tsk l i).j → y < need l i y := fun y h1 h2 => lst_none h y h1 (by omega)
theorem bnd_of {r : Int} (h1 : 1 ≤ r) (h2 : r ≤ (tsk l i).d - (tsk l i).j) (h3 : need l i r ≤ r) (h4 : ∀ y, 1 ≤ y → y < r → y < need l i y) : bnd l i = some r := by
  cases h : bnd l i with
  | none => have := bnd_none h r h1 h2; omega
  | some r' =>
    obtain ⟨g1, g2, g3, g4⟩ := bnd_some h
    have : r = r' := by
      rcases Int.lt_or_le r r' with hl | hl
      · have := g4 r h1 hl; omega
      · rcases Int.lt_or_le r' r with hl' | hl'
        · have := h4 r' g1 hl'; omega
        · omega
    rw [this]
theorem bnd_not (h : ∀ y, 1 ≤ y → y ≤ (tsk l i).d - (tsk l i).j → y < need l i y) : bnd l i = none := by
  cases hb : bnd l i with
  | none => rfl
  | some r =>
    obtain ⟨h1, h2, h3, _⟩ := bnd_some hb
    have := h r h1 h2; omega

theorem need_pos (hv : Valid l) (hi : i < l.length) {w : Int} (hw : 0 ≤ w) : 1 ≤ need l i w := by
  have := higher_nonneg hv i hw
  have := block_nonneg l i
  have := (hv.ok i hi).c1
  unfold need; omega

/-- One step of the reckoning: nothing below the next number is enough. -/
theorem reckon_step (hv : Valid l) {w : Int} (h : ∀ y, 1 ≤ y → y < w → y < need l i y) (hne : w ≤ need l i w) : ∀ y, 1 ≤ y → y < need l i w → y < need l i y := by
  intro y h1 h2
  rcases Int.lt_or_le y w with hl | hl
  · exact h y h1 hl
  · have := need_mono hv i hl
    omega
theorem reckon_end (hv : Valid l) {w : Int} (h1 : 1 ≤ w) (h2 : w ≤ (tsk l i).d - (tsk l i).j) (h : ∀ y, 1 ≤ y → y < w → y < need l i y) (he : need l i w = w) : bnd l i = some w :=
  bnd_of h1 h2 (by omega) h
theorem reckon_miss {w : Int} (h2 : (tsk l i).d - (tsk l i).j < w) (h : ∀ y, 1 ≤ y → y < w → y < need l i y) : bnd l i = none :=
  bnd_not fun y h1 h3 => h y h1 (by omega)
end
end Go.Proofs.YtphdcoegkfmaeaaGreatDoor.Cad
