/- How long a job can take in the tick model: the bound is sound. -/
import Derived.Test.YtphdcoegkfmaeaaGreatDoorModel
namespace Go.Proofs.YtphdcoegkfmaeaaGreatDoor.Cad

/-- The greatest of some numbers, from 0 on. -/
def maxN (f : Nat → Int) : Nat → Int
  | 0 => 0
  | n + 1 => max (maxN f n) (f n)
theorem maxN_ge {f : Nat → Int} {n k : Nat} (hk : k < n) : f k ≤ maxN f n := by
  induction n with
  | zero => omega
  | succ n ih =>
    simp only [maxN]
    by_cases e : k = n
    · subst e; omega
    · have := ih (by omega); omega
theorem maxN_nonneg (f : Nat → Int) (n : Nat) : 0 ≤ maxN f n := by
  induction n with
  | zero => exact Int.le_refl _
  | succ n ih => simp only [maxN]; omega
theorem maxN_le {f : Nat → Int} {n : Nat} {b : Int} (h0 : 0 ≤ b) (h : ∀ k, k < n → f k ≤ b) : maxN f n ≤ b := by
  induction n with
  | zero => exact h0
  | succ n ih =>
    simp only [maxN]
    have := ih (fun k hk => h k (by omega))
    have := h n (by omega)
    omega
theorem maxN_congr {f g : Nat → Int} {n : Nat} (h : ∀ k, k < n → f k = g k) : maxN f n = maxN g n := by
  induction n with
  | zero => rfl
  | succ n ih => simp only [maxN]; rw [ih (fun k hk => h k (by omega)), h n (by omega)]
theorem maxN_att (f : Nat → Int) (n : Nat) : maxN f n = 0 ∨ ∃ k, k < n ∧ maxN f n = f k := by
  induction n with
  | zero => exact .inl rfl
  | succ n ih =>
    simp only [maxN]
    by_cases h : maxN f n ≤ f n
    · exact .inr ⟨n, by omega, by omega⟩
    · rcases ih with h0 | ⟨k, hk, h1⟩
      · exact .inl (by omega)
      · exact .inr ⟨k, by omega, by omega⟩

/-! ### The words of the chapters 13 and 14 -/
def block (l : List Task) (i : Nat) : Int := maxN (fun h => if (tsk l i).p < (tsk l h).p then (tsk l h).q - 1 else 0) l.length
/-- How often a task can be released in so many ticks, times its C. -/
def load1 (x : Task) (w : Int) : Int := cdiv (w + x.j) x.t * x.c
def higher (l : List Task) (i : Nat) (w : Int) : Int := sumN (fun h => if (tsk l h).p < (tsk l i).p then load1 (tsk l h) w else 0) l.length
/-- All of it, of w from 1 on. -/
def need (l : List Task) (i : Nat) (w : Int) : Int := (tsk l i).c + block l i + higher l i w

theorem load1_nonneg {x : Task} (h : TaskOk x) {w : Int} (hw : 0 ≤ w) : 0 ≤ load1 x w :=
  Int.mul_nonneg (cdiv_nonneg (by have := h.dt; have := h.cd; have := h.c1; have := h.j0; omega) (by have := h.j0; omega)) (by have := h.c1; omega)

theorem load1_mono {x : Task} (h : TaskOk x) {w w' : Int} (hw : w ≤ w') : load1 x w ≤ load1 x w' :=
  Int.mul_le_mul_of_nonneg_right (cdiv_mono (by have := h.dt; have := h.cd; have := h.c1; have := h.j0; omega) (by omega)) (by have := h.c1; omega)

theorem higher_mono {l : List Task} (hv : Valid l) (i : Nat) {w w' : Int} (hw : w ≤ w') : higher l i w ≤ higher l i w' :=
  sumN_le fun h hh => by
    split
    · exact load1_mono (hv.ok h hh) hw
    · exact Int.le_refl _
theorem need_mono {l : List Task} (hv : Valid l) (i : Nat) {w w' : Int} (hw : w ≤ w') : need l i w ≤ need l i w' := by
  have := higher_mono hv i hw
  unfold need; omega
theorem higher_nonneg {l : List Task} (hv : Valid l) (i : Nat) {w : Int} (hw : 0 ≤ w) : 0 ≤ higher l i w :=
  sumN_nonneg fun h hh => by
    split
    · exact load1_nonneg (hv.ok h hh) hw
    · exact Int.le_refl _
theorem block_nonneg (l : List Task) (i : Nat) : 0 ≤ block l i := maxN_nonneg _ _
theorem block_ge {l : List Task} {i h : Nat} (hh : h < l.length) (hp : (tsk l i).p < (tsk l h).p) : (tsk l h).q - 1 ≤ block l i := by
  have := maxN_ge (f := fun h => if (tsk l i).p < (tsk l h).p then (tsk l h).q - 1 else 0) hh
  simp only [hp, if_true] at this
  exact this

/-- The last instant up to r at which something is so. -/
theorem last_of {P : Nat → Prop} (h0 : P 0) : ∀ r : Nat, ∃ t0, t0 ≤ r ∧ P t0 ∧ ∀ t, t0 < t → t ≤ r → ¬ P t
  | 0 => ⟨0, by omega, h0, fun t _ _ => by omega⟩
  | r + 1 => by
    by_cases h : P (r + 1)
    · exact ⟨r + 1, by omega, h, fun t _ _ => by omega⟩
    · obtain ⟨t0, h1, h2, h3⟩ := last_of h0 r
      refine ⟨t0, by omega, h2, fun t ht1 ht2 => ?_⟩
      by_cases e : t = r + 1
      · subst e; exact h
      · exact h3 t ht1 (by omega)

section
variable {l : List Task} {J : List Job}

/-- A job of a task that is as urgent as task i, or more so. -/
def lev (l : List Task) (J : List Job) (i : Nat) (k : Nat) : Prop := prio l J k ≤ (tsk l i).p
instance (i k : Nat) : Decidable (lev l J i k) := inferInstanceAs (Decidable (_ ≤ _))

/-- All of them that were released ahead of t have ended. -/
def idle (l : List Task) (J : List Job) (i : Nat) (t : Nat) : Prop := ∀ k, k < J.length → lev l J i k → (job J k).release < t → dn l J t k = (job J k).work

/-- How much they have worked. -/
def amount (l : List Task) (J : List Job) (i : Nat) (t : Nat) : Int := sumN (fun k => if lev l J i k then dn l J t k else 0) J.length

theorem amount_succ (hl : Legal l J) (i t : Nat) : amount l J i (t + 1) = amount l J i t + (match ran l J t with | some r => if lev l J i r then 1 else 0 | none => 0) := by
  unfold amount
  cases hr : ran l J t with
  | none =>
    simp only [Int.add_zero]
    exact sumN_congr fun k _ => by rw [dn_succ, hr]; simp
  | some r =>
    have hs := next_spec hl (inv hl t) hr
    have e : sumN (fun k => if lev l J i k then dn l J (t + 1) k else 0) J.length = sumN (fun k => if k = r then (if lev l J i r then dn l J t r + 1 else 0) else (if lev l J i k then dn l J t k else 0)) J.length :=
      sumN_congr fun k _ => by
        rw [dn_succ, hr]
        by_cases e : k = r
        · subst e; simp
        · have e2 : ¬ (some r = some k) := fun h => e (by injection h with h; exact h.symm)
          simp only [e, e2, if_false]
    rw [e, sumN_upd hs.1]
    simp only
    split <;> omega

theorem amount_mono1 (i t : Nat) : amount l J i t ≤ amount l J i (t + 1) :=
  sumN_le fun k _ => by
    split
    · exact (dn_mono1 t k).1
    · exact Int.le_refl _

/-- Something of the level is ready: what runs, outside a section, is of the level. -/
theorem pick_lev {i t k : Nat} {done : Nat → Int} (hk : k < J.length) (hlev : lev l J i k) (hr : rdy J done t k = true) : ∃ r, pick l J done t J.length = some r ∧ lev l J i r := by
  cases hp : pick l J done t J.length with
  | none => have := pick_none hp k hk; rw [this] at hr; simp at hr
  | some r =>
    refine ⟨r, rfl, ?_⟩
    have := (pick_some hp).2.2 k hk hr
    unfold lev at *
    omega

/-- What ran at a tick of the level: at the next one too, if something of it is ready. -/
theorem ran_lev {i t k r : Nat} (hk : k < J.length) (hlev : lev l J i k) (hr : rdy J (tick l J t).done t k = true) (hrun : (tick l J t).run = some r) (h : lev l J i r ∨ within (job J r).cuts 0 (dn l J t r) = false) :
    ∃ r', ran l J t = some r' ∧ lev l J i r' := by
  rw [ran_eq]
  unfold nextRun
  rw [hrun]
  simp only
  split
  · rename_i hw
    rcases h with h | h
    · exact ⟨r, rfl, h⟩
    · unfold dn at h; rw [h] at hw; simp at hw
  · exact pick_lev hk hlev hr

/-- WITHIN A WINDOW IN WHICH SOMETHING OF THE LEVEL IS ALWAYS READY, but for at most as many ticks as one may be blocked, at its beginning, something of it runs. -/
theorem low_ticks (hl : Legal l J) (i t0 W : Nat) (hready : ∀ t, t0 ≤ t → t < t0 + W → ∃ k, k < J.length ∧ lev l J i k ∧ rdy J (tick l J t).done t k = true) :
    ∃ m : Nat, (m : Int) ≤ block l i ∧ ∀ t, t0 + m ≤ t → t < t0 + W → ∃ r, ran l J t = some r ∧ lev l J i r := by
  have spread : ∀ m : Nat, (t0 + m < t0 + W → ∃ r, ran l J (t0 + m) = some r ∧ lev l J i r) → ∀ t, t0 + m ≤ t → t < t0 + W → ∃ r, ran l J t = some r ∧ lev l J i r := by
    intro m hm t
    induction t with
    | zero =>
      intro h1 h2
      have : t0 + m = 0 := by omega
      have := hm (by omega)
      rwa [‹t0 + m = 0›] at this
    | succ t ih =>
      intro h1 h2
      by_cases e : t0 + m = t + 1
      · have := hm (by omega); rwa [e] at this
      · obtain ⟨r, hr, hlev⟩ := ih (by omega) (by omega)
        obtain ⟨k, hk, hkl, hkr⟩ := hready (t + 1) (by omega) h2
        exact ran_lev hk hkl hkr (show (tick l J (t + 1)).run = some r from hr) (.inl hlev)
  have now : ∀ (h : 0 < W), (∃ r, ran l J t0 = some r ∧ lev l J i r) ∨ ∃ r, (tick l J t0).run = some r ∧ ¬ lev l J i r ∧ within (job J r).cuts 0 (dn l J t0 r) = true := by
    intro h
    obtain ⟨k, hk, hkl, hkr⟩ := hready t0 (by omega) (by omega)
    cases hrun : (tick l J t0).run with
    | none =>
      left
      rw [ran_eq]; unfold nextRun; rw [hrun]
      exact pick_lev hk hkl hkr
    | some r =>
      by_cases hc : lev l J i r ∨ within (job J r).cuts 0 (dn l J t0 r) = false
      · exact .inl (ran_lev hk hkl hkr hrun hc)
      · refine .inr ⟨r, rfl, fun h => hc (.inl h), ?_⟩
        cases hw : within (job J r).cuts 0 (dn l J t0 r) with
        | true => rfl
        | false => exact absurd (.inr hw) hc
  by_cases hW : W = 0
  · exact ⟨0, by have := block_nonneg l i; omega, fun t h1 h2 => by omega⟩
  rcases now (by omega) with h | ⟨r, hrun, hnl, hw⟩
  · exact ⟨0, by have := block_nonneg l i; omega, spread 0 (fun _ => h)⟩
  · have hrn := ((inv hl t0).runs r hrun).1
    obtain ⟨a, c, g1, g2, g3, g4, g5, g6, g7, g8⟩ := within_spec (hl.ok r hrn).cuts hw
    have hstay : ∀ s : Nat, (s : Int) ≤ a + c - dn l J t0 r → (tick l J (t0 + s)).run = some r ∧ dn l J (t0 + s) r = dn l J t0 r + s := by
      intro s
      induction s with
      | zero => intro _; exact ⟨hrun, by simp⟩
      | succ s ih =>
        intro hs
        obtain ⟨h1, h2⟩ := ih (by omega)
        have hr : ran l J (t0 + s) = some r := by
          rw [ran_eq]; unfold nextRun; rw [h1]
          have : within (job J r).cuts 0 ((tick l J (t0 + s)).done r) = true := g7 _ (by unfold dn at h2; rw [h2]; unfold dn at *; omega) (by unfold dn at h2; rw [h2]; unfold dn at *; omega)
          simp [this]
        refine ⟨hr, ?_⟩
        have := dn_succ (l := l) (J := J) (t0 + s) r
        rw [hr, if_pos rfl] at this
        rw [← Nat.add_assoc, this, h2]; omega
    obtain ⟨m, hm⟩ : ∃ m : Nat, (m : Int) = a + c - dn l J t0 r := ⟨(a + c - dn l J t0 r).toNat, by omega⟩
    have hq : (tsk l (job J r).task.toNat).q - 1 ≤ block l i := by
      have hok := hl.ok r hrn
      refine block_ge (by have := hok.t0; have := hok.t1; omega) ?_
      unfold lev prio at hnl; omega
    refine ⟨m, by omega, spread m (fun hlt => ?_)⟩
    obtain ⟨h1, h2⟩ := hstay m (by omega)
    obtain ⟨k, hk, hkl, hkr⟩ := hready (t0 + m) (by omega) hlt
    refine ran_lev hk hkl hkr h1 (.inr ?_)
    rw [h2, hm, show dn l J t0 r + (a + c - dn l J t0 r) = a + c by omega]
    exact g8

theorem amount_grows (hl : Legal l J) {i t0 W m : Nat} (h : ∀ t, t0 + m ≤ t → t < t0 + W → ∃ r, ran l J t = some r ∧ lev l J i r) :
    ∀ s : Nat, s ≤ W → amount l J i t0 + (s : Int) - m ≤ amount l J i (t0 + s)
  | 0, _ => by simp; omega
  | s + 1, hs => by
    have ih := amount_grows hl h s (by omega)
    by_cases e : m ≤ s
    · obtain ⟨r, hr, hlev⟩ := h (t0 + s) (by omega) (by omega)
      have := amount_succ hl i (t0 + s)
      rw [hr] at this
      simp only [hlev, if_true] at this
      rw [← Nat.add_assoc, this]; omega
    · have := amount_mono1 (l := l) (J := J) i (t0 + s)
      have h0 : amount l J i t0 ≤ amount l J i (t0 + s) := by
        clear ih this
        induction s with
        | zero => exact Int.le_refl _
        | succ s ih =>
          have := ih (by omega) (by omega)
          have := amount_mono1 (l := l) (J := J) i (t0 + s)
          rw [← Nat.add_assoc]; omega
      rw [← Nat.add_assoc]; omega

/-! ### How many jobs of one task are released in a window -/
def win (J : List Job) (lo hi : Int) (h : Nat) (k : Nat) : Bool := decide ((job J k).task = h) && decide (lo ≤ (job J k).release) && decide ((job J k).release < hi)

theorem win_iff {lo hi : Int} {h k : Nat} : win J lo hi h k = true ↔ (job J k).task = h ∧ lo ≤ (job J k).release ∧ (job J k).release < hi := by
  simp [win, and_assoc]

theorem count_chain (hv : Valid l) (hl : Legal l J) {lo hi : Int} {h : Nat} (hh : h < l.length) : ∀ n, n ≤ J.length → 1 ≤ sumN (fun k => if win J lo hi h k then 1 else 0) n →
    ∃ k, k < n ∧ win J lo hi h k = true ∧ lo - (tsk l h).j + (sumN (fun k => if win J lo hi h k then 1 else 0) n - 1) * (tsk l h).t ≤ (job J k).arrive
  | 0, _, h1 => by simp [sumN] at h1
  | n + 1, hn, h1 => by
    have ht : 0 < (tsk l h).t := by have := hv.ok h hh; have := this.dt; have := (hv.ok h hh).cd; have := (hv.ok h hh).c1; have := (hv.ok h hh).j0; omega
    simp only [sumN] at h1 ⊢
    by_cases hw : win J lo hi h n = true
    · rw [if_pos hw] at h1 ⊢
      obtain ⟨e1, e2, e3⟩ := win_iff.1 hw
      have hok := hl.ok n (by omega)
      refine ⟨n, by omega, hw, ?_⟩
      by_cases h0 : 1 ≤ sumN (fun k => if win J lo hi h k then 1 else 0) n
      · obtain ⟨k, hk, hkw, hka⟩ := count_chain hv hl hh n (by omega) h0
        obtain ⟨f1, f2, f3⟩ := win_iff.1 hkw
        have hg := hl.gap k n hk (by omega) (by rw [e1, f1])
        rw [f1] at hg
        simp only [Int.toNat_natCast] at hg
        rw [show sumN (fun k => if win J lo hi h k then 1 else 0) n + 1 - 1 = (sumN (fun k => if win J lo hi h k then 1 else 0) n - 1) + 1 by omega, Int.add_mul, Int.one_mul]
        omega
      · have hz : 0 ≤ sumN (fun k => if win J lo hi h k then (1 : Int) else 0) n := sumN_nonneg fun k _ => by split <;> omega
        rw [show sumN (fun k => if win J lo hi h k then 1 else 0) n + 1 - 1 = 0 by omega, Int.zero_mul]
        have := hok.r1
        rw [e1] at this
        simp only [Int.toNat_natCast] at this
        omega
    · rw [if_neg hw, Int.add_zero] at h1 ⊢
      obtain ⟨k, hk, hkw, hka⟩ := count_chain hv hl hh n (by omega) h1
      exact ⟨k, by omega, hkw, hka⟩

theorem count_le (hv : Valid l) (hl : Legal l J) {lo : Int} {w : Int} {h : Nat} (hh : h < l.length) (hw : 0 ≤ w) :
    sumN (fun k => if win J lo (lo + w) h k then 1 else 0) J.length ≤ cdiv (w + (tsk l h).j) (tsk l h).t := by
  have hok := hv.ok h hh
  have ht : 0 < (tsk l h).t := by have := hok.dt; have := hok.cd; have := hok.c1; have := hok.j0; omega
  by_cases h1 : 1 ≤ sumN (fun k => if win J lo (lo + w) h k then (1 : Int) else 0) J.length
  · obtain ⟨k, hk, hkw, hka⟩ := count_chain hv hl hh J.length (Nat.le_refl _) h1
    refine le_cdiv ht ?_
    obtain ⟨f1, f2, f3⟩ := win_iff.1 hkw
    have := (hl.ok k hk).r0
    omega
  · have := cdiv_nonneg (a := w + (tsk l h).j) ht (by have := hok.j0; omega)
    omega

/-- All work of the level that is released in a window. -/
theorem work_le (hv : Valid l) (hl : Legal l J) {i : Nat} (hi : i < l.length) {lo w : Int} (hw : 1 ≤ w) (hwd : w ≤ (tsk l i).d - (tsk l i).j) :
    sumN (fun k => if lev l J i k ∧ lo ≤ (job J k).release ∧ (job J k).release < lo + w then (job J k).work else 0) J.length ≤ (tsk l i).c + higher l i w := by
  -- by tasks
  have e1 : sumN (fun k => if lev l J i k ∧ lo ≤ (job J k).release ∧ (job J k).release < lo + w then (job J k).work else 0) J.length ≤
      sumN (fun k => sumN (fun h => if (tsk l h).p ≤ (tsk l i).p ∧ win J lo (lo + w) h k then (tsk l h).c else 0) l.length) J.length := by
    refine sumN_le fun k hk => ?_
    have hok := hl.ok k hk
    obtain ⟨h, hh⟩ : ∃ h : Nat, (job J k).task = h := ⟨(job J k).task.toNat, by have := hok.t0; omega⟩
    have hlt : h < l.length := by have := hok.t1; omega
    split
    · rename_i hc
      obtain ⟨c1, c2, c3⟩ := hc
      have hwin : win J lo (lo + w) h k = true := win_iff.2 ⟨hh, c2, c3⟩
      have hpr : (tsk l h).p ≤ (tsk l i).p := by unfold lev prio at c1; rw [hh] at c1; simpa using c1
      have := sumN_le_term (f := fun h => if (tsk l h).p ≤ (tsk l i).p ∧ win J lo (lo + w) h k then (tsk l h).c else 0) hlt (fun h' hh' => by
        have := (hv.ok h' hh').c1
        split <;> omega)
      simp only [hpr, hwin, and_self, if_true] at this
      have hwc := hok.wc
      rw [hh] at hwc
      simp only [Int.toNat_natCast] at hwc
      omega
    · exact sumN_nonneg fun h' hh' => by
        have := (hv.ok h' hh').c1
        split <;> omega
  have e2 : sumN (fun k => sumN (fun h => if (tsk l h).p ≤ (tsk l i).p ∧ win J lo (lo + w) h k then (tsk l h).c else 0) l.length) J.length =
      sumN (fun h => if (tsk l h).p ≤ (tsk l i).p then sumN (fun k => if win J lo (lo + w) h k then 1 else 0) J.length * (tsk l h).c else 0) l.length := by
    rw [sumN_swap]
    refine sumN_congr fun h hh => ?_
    by_cases hp : (tsk l h).p ≤ (tsk l i).p
    · simp only [hp, true_and, if_true]
      rw [← sumN_mul]
      exact sumN_congr fun k _ => by split <;> simp
    · simp only [hp, false_and, if_false]
      exact sumN_zero _
  have e3 : sumN (fun h => if (tsk l h).p ≤ (tsk l i).p then sumN (fun k => if win J lo (lo + w) h k then 1 else 0) J.length * (tsk l h).c else 0) l.length ≤
      sumN (fun h => (if (tsk l h).p < (tsk l i).p then load1 (tsk l h) w else 0) + (if h = i then (tsk l i).c else 0)) l.length := by
    refine sumN_le fun h hh => ?_
    have hok := hv.ok h hh
    have hc := count_le hv hl (lo := lo) hh (show 0 ≤ w by omega)
    by_cases e : h = i
    · subst e
      rw [if_pos (Int.le_refl _), if_neg (by omega), if_pos rfl, Int.zero_add]
      have h1 : sumN (fun k => if win J lo (lo + w) h k then (1 : Int) else 0) J.length ≤ 1 := by
        refine Int.le_trans hc (cdiv_lt ?_ ?_)
        · have := hok.dt; have := hok.cd; have := hok.c1; have := hok.j0; omega
        · have := hok.dt; omega
      calc _ ≤ 1 * (tsk l h).c := Int.mul_le_mul_of_nonneg_right h1 (by have := hok.c1; omega)
        _ = _ := Int.one_mul _
    · by_cases hp : (tsk l h).p ≤ (tsk l i).p
      · have hne : (tsk l h).p ≠ (tsk l i).p := fun e' => e (hv.apart h i hh hi e')
        rw [if_pos hp, if_pos (by omega), if_neg e, Int.add_zero]
        exact Int.mul_le_mul_of_nonneg_right hc (by have := hok.c1; omega)
      · rw [if_neg hp, if_neg (by omega), if_neg e]; omega
  have e4 : sumN (fun h => (if (tsk l h).p < (tsk l i).p then load1 (tsk l h) w else 0) + (if h = i then (tsk l i).c else 0)) l.length = higher l i w + (tsk l i).c := by
    rw [sumN_add]
    have : sumN (fun h => if h = i then (tsk l i).c else 0) l.length = (tsk l i).c := by
      rw [sumN_one hi (fun k' _ hne => if_neg hne), if_pos rfl]
    rw [this]; rfl
  omega

/-- **THE BOUND IS SOUND:** a job of task i has ended w ticks behind its release, if w is enough. -/
theorem sound (hv : Valid l) (hl : Legal l J) {i : Nat} (hi : i < l.length) {W : Nat} (hw1 : 1 ≤ W) (hwd : (W : Int) ≤ (tsk l i).d - (tsk l i).j) (hn : need l i W ≤ W)
    {k r : Nat} (hk : k < J.length) (htask : (job J k).task = i) (hr : (job J k).release = r) : dn l J (r + W) k = (job J k).work := by
  have hinv := fun t => inv hl t
  obtain ⟨t0, ht0, hidle, hlast⟩ := last_of (P := idle l J i) (fun k hk _ h => by have := (hl.ok k hk).a0; have := (hl.ok k hk).r0; omega) r
  have hklev : lev l J i k := by unfold lev prio; rw [htask]; simp
  have finish : ∀ t1, r < t1 → t1 ≤ r + W → idle l J i t1 → dn l J (r + W) k = (job J k).work := by
    intro t1 h1 h2 h3
    have h4 := h3 k hk hklev (by omega)
    have h5 := dn_mono (l := l) (J := J) h2 k
    have h6 := (hinv (r + W)).high k hk
    omega
  by_cases hex : ∃ t1, t0 < t1 ∧ t1 ≤ t0 + W ∧ idle l J i t1
  · obtain ⟨t1, h1, h2, h3⟩ := hex
    have : r < t1 := by
      rcases Nat.lt_or_ge r t1 with h | h
      · exact h
      · exact absurd h3 (hlast t1 h1 h)
    exact finish t1 this (by omega) h3
  · exfalso
    have hnot : ∀ t, t0 < t → t ≤ t0 + W → ¬ idle l J i t := fun t h1 h2 h3 => hex ⟨t, h1, h2, h3⟩
    have hpend : ∀ t, t0 < t → t ≤ t0 + W → ∃ k', k' < J.length ∧ lev l J i k' ∧ (job J k').release < t ∧ dn l J t k' < (job J k').work := by
      intro t h1 h2
      have h3 := hnot t h1 h2
      unfold idle at h3
      simp only [Classical.not_forall] at h3
      obtain ⟨k', hk', hlev, hrel, hne⟩ := h3
      have := (hinv t).high k' hk'
      exact ⟨k', hk', hlev, hrel, by omega⟩
    have hready : ∀ t, t0 ≤ t → t < t0 + W → ∃ k', k' < J.length ∧ lev l J i k' ∧ rdy J (tick l J t).done t k' = true := by
      intro t h1 h2
      obtain ⟨k', hk', hlev, hrel, hlt⟩ := hpend (t + 1) (by omega) (by omega)
      have := (dn_mono1 (l := l) (J := J) t k').1
      exact ⟨k', hk', hlev, rdy_iff.2 ⟨by omega, by unfold dn at *; omega⟩⟩
    obtain ⟨m, hm, hruns⟩ := low_ticks hl i t0 W hready
    have hgrow := amount_grows hl hruns W (Nat.le_refl _)
    have hwork := work_le hv hl hi (lo := t0) (show (1 : Int) ≤ W by omega) hwd
    obtain ⟨k', hk', hlev, hrel, hlt⟩ := hpend (t0 + W) (by omega) (by omega)
    have hge : (t0 : Int) ≤ (job J k').release := by
      rcases Int.lt_or_le (job J k').release t0 with h | h
      · have h1 := hidle k' hk' hlev h
        have h2 := dn_mono (l := l) (J := J) (show t0 ≤ t0 + W by omega) k'
        omega
      · exact h
    have hless : sumN (fun k => if lev l J i k then dn l J (t0 + W) k else 0) J.length <
        sumN (fun k => (if lev l J i k then dn l J t0 k else 0) + (if lev l J i k ∧ (t0 : Int) ≤ (job J k).release ∧ (job J k).release < (t0 : Int) + W then (job J k).work else 0)) J.length := by
      refine sumN_lt hk' (fun x hx => ?_) ?_
      · by_cases hx1 : lev l J i x
        · simp only [hx1, true_and, if_true]
          have hhigh := (hinv (t0 + W)).high x hx
          have hlow0 := (hinv t0).low x
          by_cases hx2 : (t0 : Int) ≤ (job J x).release
          · by_cases hx3 : (job J x).release < (t0 : Int) + W
            · rw [if_pos ⟨hx2, hx3⟩]; omega
            · rw [if_neg (fun h => hx3 h.2)]
              have : dn l J (t0 + W) x = 0 := by
                have h1 := (hinv (t0 + W)).low x
                have h2 := (hinv (t0 + W)).begun x hx
                rcases Int.lt_or_le 0 (dn l J (t0 + W) x) with h | h
                · have := h2 h; omega
                · omega
              omega
          · rw [if_neg (fun h => hx2 h.1)]
            have := hidle x hx hx1 (by omega)
            omega
        · simp only [hx1, false_and, if_false]; omega
      · simp only [hlev, true_and, if_true]
        rw [if_pos ⟨hge, by omega⟩]
        have := (hinv t0).low k'
        omega
    rw [sumN_add] at hless
    unfold amount at hgrow
    unfold need at hn
    omega
end
end Go.Proofs.YtphdcoegkfmaeaaGreatDoor.Cad
