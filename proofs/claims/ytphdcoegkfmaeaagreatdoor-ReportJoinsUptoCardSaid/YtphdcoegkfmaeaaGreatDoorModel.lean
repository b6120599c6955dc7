/- The tick model of the executive: which job runs at each tick, and what follows of it. -/
import Derived.Test.YtphdcoegkfmaeaaGreatDoorTick
namespace Go.Proofs.YtphdcoegkfmaeaaGreatDoor.Cad

def tsk (l : List Task) (h : Nat) : Task := l.getD h default
def job (J : List Job) (k : Nat) : Job := J.getD k default
/-- How urgent a job's task is. -/
def prio (l : List Task) (J : List Job) (k : Nat) : Int := (tsk l (job J k).task.toNat).p

/-- Is a job that has worked so much within a section? -/
def within : List Int → Int → Int → Bool
  | [], _, _ => false
  | c :: cs, at_, done => (decide (at_ < done) && decide (done < at_ + c)) || within cs (at_ + c) done

def CutsOk (q : Int) : List Int → Int → Prop
  | [], _ => True
  | c :: cs, left => 1 ≤ c ∧ c ≤ q ∧ c ≤ left ∧ CutsOk q cs (left - c)

structure TaskOk (t : Task) : Prop where
  c1 : 1 ≤ t.c
  q1 : 1 ≤ t.q
  qc : t.q ≤ t.c
  j0 : 0 ≤ t.j
  cd : t.c + t.j ≤ t.d
  dt : t.d ≤ t.t
  tm : t.t ≤ 2147483647
  p1 : 1 ≤ t.p
  pm : t.p ≤ 1048576

structure Valid (l : List Task) : Prop where
  some : 0 < l.length
  many : l.length ≤ 1024
  ok : ∀ h, h < l.length → TaskOk (tsk l h)
  apart : ∀ h h', h < l.length → h' < l.length → (tsk l h).p = (tsk l h').p → h = h'

structure JobOk (l : List Task) (x : Job) : Prop where
  t0 : 0 ≤ x.task
  t1 : x.task < l.length
  a0 : 0 ≤ x.arrive
  r0 : x.arrive ≤ x.release
  r1 : x.release ≤ x.arrive + (tsk l x.task.toNat).j
  w1 : 1 ≤ x.work
  wc : x.work ≤ (tsk l x.task.toNat).c
  cuts : CutsOk (tsk l x.task.toNat).q x.cuts x.work

structure Legal (l : List Task) (J : List Job) : Prop where
  ok : ∀ k, k < J.length → JobOk l (job J k)
  gap : ∀ k k', k < k' → k' < J.length → (job J k).task = (job J k').task → (job J k).arrive + (tsk l (job J k).task.toNat).t ≤ (job J k').arrive

theorem within_low {q : Int} : ∀ {cs : List Int} {at_ left done : Int}, CutsOk q cs left → done ≤ at_ → within cs at_ done = false
  | [], _, _, _, _, _ => rfl
  | c :: cs, at_, left, done, h, hd => by
    obtain ⟨h1, _, _, h4⟩ := h
    simp only [within, Bool.or_eq_false_iff, Bool.and_eq_false_iff, decide_eq_false_iff_not]
    exact ⟨.inl (by omega), within_low h4 (by omega)⟩

theorem within_spec {q : Int} : ∀ {cs : List Int} {at_ left done : Int}, CutsOk q cs left → within cs at_ done = true →
    ∃ a c, at_ ≤ a ∧ a < done ∧ done < a + c ∧ 1 ≤ c ∧ c ≤ q ∧ a + c ≤ at_ + left ∧ (∀ d, a < d → d < a + c → within cs at_ d = true) ∧ within cs at_ (a + c) = false
  | [], _, _, _, _, h => by simp [within] at h
  | c :: cs, at_, left, done, h, hw => by
    obtain ⟨h1, h2, h3, h4⟩ := h
    by_cases hf : at_ < done ∧ done < at_ + c
    · refine ⟨at_, c, by omega, hf.1, hf.2, h1, h2, by omega, ?_, ?_⟩
      · intro d hd1 hd2
        simp [within, hd1, hd2]
      · simp only [within, Bool.or_eq_false_iff, Bool.and_eq_false_iff, decide_eq_false_iff_not]
        exact ⟨.inr (by omega), within_low h4 (by omega)⟩
    · have hw' : within cs (at_ + c) done = true := by
        simp only [within, Bool.or_eq_true, Bool.and_eq_true, decide_eq_true_eq] at hw
        rcases hw with hw | hw
        · exact absurd hw hf
        · exact hw
      obtain ⟨a, c', g1, g2, g3, g4, g5, g6, g7, g8⟩ := within_spec h4 hw'
      refine ⟨a, c', by omega, g2, g3, g4, g5, by omega, ?_, ?_⟩
      · intro d hd1 hd2
        simp only [within, Bool.or_eq_true]
        exact .inr (g7 d hd1 hd2)
      · simp only [within, Bool.or_eq_false_iff, Bool.and_eq_false_iff, decide_eq_false_iff_not]
        exact ⟨.inr (by omega), g8⟩

/-! ### Which job runs -/
def rdy (J : List Job) (done : Nat → Int) (t : Nat) (k : Nat) : Bool := decide ((job J k).release ≤ t) && decide (done k < (job J k).work)

theorem rdy_iff {J : List Job} {done : Nat → Int} {t k : Nat} : rdy J done t k = true ↔ (job J k).release ≤ t ∧ done k < (job J k).work := by
  simp [rdy]

def pick (l : List Task) (J : List Job) (done : Nat → Int) (t : Nat) : Nat → Option Nat
  | 0 => none
  | k + 1 => match pick l J done t k with
    | none => if rdy J done t k then some k else none
    | some b => if rdy J done t k && decide (prio l J k < prio l J b) then some k else some b

theorem pick_none {l : List Task} {J : List Job} {done : Nat → Int} {t : Nat} : ∀ {n : Nat}, pick l J done t n = none → ∀ k, k < n → rdy J done t k = false
  | 0, _, _, hk => by omega
  | n + 1, h, k, hk => by
    simp only [pick] at h
    cases hp : pick l J done t n with
    | none =>
      rw [hp] at h
      by_cases e : k = n
      · subst e
        cases hr : rdy J done t k with
        | false => rfl
        | true => simp [hr] at h
      · exact pick_none hp k (by omega)
    | some b =>
      rw [hp] at h
      simp only at h
      split at h <;> simp at h

theorem pick_some {l : List Task} {J : List Job} {done : Nat → Int} {t : Nat} : ∀ {n b : Nat}, pick l J done t n = some b →
    b < n ∧ rdy J done t b = true ∧ ∀ k, k < n → rdy J done t k = true → prio l J b < prio l J k ∨ (prio l J b = prio l J k ∧ b ≤ k)
  | 0, _, h => by simp [pick] at h
  | n + 1, b, h => by
    simp only [pick] at h
    cases hp : pick l J done t n with
    | none =>
      rw [hp] at h
      cases hr : rdy J done t n with
      | false => simp [hr] at h
      | true =>
        simp [hr] at h
        subst h
        refine ⟨by omega, hr, fun k hk hk' => ?_⟩
        by_cases e : k = n
        · subst e; exact .inr ⟨rfl, by omega⟩
        · have := pick_none hp k (by omega)
          rw [this] at hk'; simp at hk'
    | some b' =>
      obtain ⟨h1, h2, h3⟩ := pick_some hp
      rw [hp] at h
      simp only at h
      split at h
      · rename_i hc
        simp only [Bool.and_eq_true, decide_eq_true_eq] at hc
        injection h with h
        subst h
        refine ⟨by omega, hc.1, fun k hk hk' => ?_⟩
        by_cases e : k = n
        · subst e; exact .inr ⟨rfl, by omega⟩
        · rcases h3 k (by omega) hk' with h | h
          · exact .inl (by omega)
          · exact .inl (by omega)
      · rename_i hc
        simp only [Bool.and_eq_true, decide_eq_true_eq, not_and, Int.not_lt] at hc
        injection h with h
        subst h
        refine ⟨by omega, h2, fun k hk hk' => ?_⟩
        by_cases e : k = n
        · subst e
          have := hc hk'
          by_cases e2 : prio l J b' = prio l J k
          · exact .inr ⟨e2, by omega⟩
          · exact .inl (by omega)
        · exact h3 k (by omega) hk'

/-- Where a run stands ahead of a tick: how much each job has worked; which one ran at the tick ahead. -/
structure TS where
  done : Nat → Int
  run : Option Nat

def nextRun (l : List Task) (J : List Job) (s : TS) (t : Nat) : Option Nat :=
  match s.run with
  | some r => if within (job J r).cuts 0 (s.done r) then some r else pick l J s.done t J.length
  | none => pick l J s.done t J.length

def step (l : List Task) (J : List Job) (s : TS) (t : Nat) : TS :=
  { run := nextRun l J s t, done := fun k => if nextRun l J s t = some k then s.done k + 1 else s.done k }

def tick (l : List Task) (J : List Job) : Nat → TS
  | 0 => { done := fun _ => 0, run := none }
  | t + 1 => step l J (tick l J t) t

/-- How much a job has worked by then; which one runs at a tick. -/
def dn (l : List Task) (J : List Job) (t k : Nat) : Int := (tick l J t).done k
def ran (l : List Task) (J : List Job) (t : Nat) : Option Nat := (tick l J (t + 1)).run

section
variable {l : List Task} {J : List Job}

theorem ran_eq (t : Nat) : ran l J t = nextRun l J (tick l J t) t := rfl
theorem dn_zero (k : Nat) : dn l J 0 k = 0 := rfl
theorem dn_succ (t k : Nat) : dn l J (t + 1) k = if ran l J t = some k then dn l J t k + 1 else dn l J t k := rfl

theorem dn_mono1 (t k : Nat) : dn l J t k ≤ dn l J (t + 1) k ∧ dn l J (t + 1) k ≤ dn l J t k + 1 := by
  rw [dn_succ]; split <;> omega

theorem dn_mono {t t' : Nat} (h : t ≤ t') (k : Nat) : dn l J t k ≤ dn l J t' k := by
  induction t' with
  | zero => have : t = 0 := by omega
            subst this; exact Int.le_refl _
  | succ t' ih =>
    by_cases e : t = t' + 1
    · subst e; exact Int.le_refl _
    · have := ih (by omega)
      have := (dn_mono1 (l := l) (J := J) t' k).1
      omega

/-- What holds of each instant of a run of legal jobs. -/
structure Inv (l : List Task) (J : List Job) (t : Nat) : Prop where
  low : ∀ k, 0 ≤ dn l J t k
  high : ∀ k, k < J.length → dn l J t k ≤ (job J k).work
  begun : ∀ k, k < J.length → 0 < dn l J t k → (job J k).release < t
  runs : ∀ r, (tick l J t).run = some r → r < J.length ∧ 0 < dn l J t r

theorem within_work (hl : Legal l J) {k : Nat} (hk : k < J.length) {d : Int} (h : within (job J k).cuts 0 d = true) : 0 < d ∧ d < (job J k).work := by
  obtain ⟨a, c, h1, h2, h3, _, _, h6, _⟩ := within_spec (hl.ok k hk).cuts h
  omega

theorem next_spec (hl : Legal l J) {t : Nat} (hi : Inv l J t) {r : Nat} (h : ran l J t = some r) : r < J.length ∧ (job J r).release ≤ t ∧ dn l J t r < (job J r).work := by
  rw [ran_eq] at h
  unfold nextRun at h
  have hpick : pick l J (tick l J t).done t J.length = some r → r < J.length ∧ (job J r).release ≤ t ∧ dn l J t r < (job J r).work := by
    intro hp
    obtain ⟨h1, h2, _⟩ := pick_some hp
    rw [rdy_iff] at h2
    exact ⟨h1, h2⟩
  cases hr : (tick l J t).run with
  | none => rw [hr] at h; exact hpick h
  | some r' =>
    rw [hr] at h
    simp only at h
    split at h
    · rename_i hw
      injection h with h
      subst h
      obtain ⟨g1, g2⟩ := hi.runs r' hr
      have h1 := within_work hl g1 hw
      have h2 := hi.begun r' g1 g2
      exact ⟨g1, by omega, h1.2⟩
    · exact hpick h

theorem inv (hl : Legal l J) : ∀ t, Inv l J t
  | 0 => ⟨fun k => by rw [dn_zero]; omega, fun k hk => by rw [dn_zero]; have := (hl.ok k hk).w1; omega, fun k _ h => by rw [dn_zero] at h; omega, fun r h => by simp [tick] at h⟩
  | t + 1 => by
    have ih := inv hl t
    refine ⟨fun k => ?_, fun k hk => ?_, fun k hk h => ?_, fun r h => ?_⟩
    · have := ih.low k
      have := (dn_mono1 (l := l) (J := J) t k).1
      omega
    · rw [dn_succ]
      split
      · rename_i h
        have := (next_spec hl ih h).2.2
        omega
      · exact ih.high k hk
    · rw [dn_succ] at h
      split at h
      · rename_i h'
        have := (next_spec hl ih h').2.1
        omega
      · have := ih.begun k hk h
        omega
    · have h' : ran l J t = some r := h
      have hs := next_spec hl ih h'
      refine ⟨hs.1, ?_⟩
      rw [dn_succ, if_pos h']
      have := ih.low r
      omega
end
end Go.Proofs.YtphdcoegkfmaeaaGreatDoor.Cad
