/- The tick model of the executive, and how long a job can take in it: plain Lean, no program in sight. -/
namespace Go.Proofs.YtphdcoegkfmaeaaGreatDoor.Cad

structure Task where
  name : ByteArray
  c : Int
  t : Int
  d : Int
  j : Int
  q : Int
  p : Int

structure Job where
  task : Int
  arrive : Int
  release : Int
  work : Int
  cuts : List Int

instance : Inhabited Task := ⟨⟨ByteArray.empty, 0, 0, 0, 0, 0, 0⟩⟩
instance : Inhabited Job := ⟨⟨0, 0, 0, 0, []⟩⟩

/-! ### Sums -/
def sumN (f : Nat → Int) : Nat → Int
  | 0 => 0
  | n + 1 => sumN f n + f n

theorem sumN_congr {f g : Nat → Int} {n : Nat} (h : ∀ k, k < n → f k = g k) : sumN f n = sumN g n := by
  induction n with
  | zero => rfl
  | succ n ih => simp only [sumN]; rw [ih (fun k hk => h k (by omega)), h n (by omega)]

theorem sumN_le {f g : Nat → Int} {n : Nat} (h : ∀ k, k < n → f k ≤ g k) : sumN f n ≤ sumN g n := by
  induction n with
  | zero => exact Int.le_refl _
  | succ n ih =>
    simp only [sumN]
    have h1 := ih (fun k hk => h k (by omega))
    have h2 := h n (by omega)
    omega

theorem sumN_lt {f g : Nat → Int} {n k : Nat} (hk : k < n) (h : ∀ k, k < n → f k ≤ g k) (hs : f k < g k) : sumN f n < sumN g n := by
  induction n with
  | zero => omega
  | succ n ih =>
    simp only [sumN]
    have h2 := h n (by omega)
    by_cases e : k = n
    · subst e
      have h1 := sumN_le (fun k' hk' => h k' (Nat.lt_succ_of_lt hk'))
      omega
    · have h1 := ih (by omega) (fun k hk => h k (by omega))
      omega

theorem sumN_add (f g : Nat → Int) (n : Nat) : sumN (fun k => f k + g k) n = sumN f n + sumN g n := by
  induction n with
  | zero => rfl
  | succ n ih => simp only [sumN]; omega

theorem sumN_zero (n : Nat) : sumN (fun _ => 0) n = 0 := by
  induction n with
  | zero => rfl
  | succ n ih => simp only [sumN]; omega

theorem sumN_nonneg {f : Nat → Int} {n : Nat} (h : ∀ k, k < n → 0 ≤ f k) : 0 ≤ sumN f n := by
  rw [← sumN_zero n]; exact sumN_le h

/-- A sum of one term. -/
theorem sumN_one {f : Nat → Int} {n k : Nat} (hk : k < n) (h : ∀ k', k' < n → k' ≠ k → f k' = 0) : sumN f n = f k := by
  induction n with
  | zero => omega
  | succ n ih =>
    simp only [sumN]
    by_cases e : k = n
    · subst e
      have : sumN f k = 0 := by rw [← sumN_zero k]; exact sumN_congr (fun k' hk' => h k' (by omega) (by omega))
      omega
    · have := ih (by omega) (fun k' hk' hne => h k' (by omega) hne)
      have := h n (by omega) (by omega)
      omega

theorem sumN_swap (f : Nat → Nat → Int) (n m : Nat) : sumN (fun k => sumN (fun h => f k h) m) n = sumN (fun h => sumN (fun k => f k h) n) m := by
  induction n with
  | zero => simp only [sumN]; rw [sumN_zero]
  | succ n ih =>
    simp only [sumN]
    rw [ih, ← sumN_add]

theorem sumN_mul (f : Nat → Int) (c : Int) (n : Nat) : sumN (fun k => f k * c) n = sumN f n * c := by
  induction n with
  | zero => simp [sumN]
  | succ n ih => simp only [sumN]; rw [ih, Int.add_mul]

theorem sumN_le_term {f : Nat → Int} {n k : Nat} (hk : k < n) (h : ∀ k, k < n → 0 ≤ f k) : f k ≤ sumN f n := by
  induction n with
  | zero => omega
  | succ n ih =>
    simp only [sumN]
    by_cases e : k = n
    · subst e
      have := sumN_nonneg (fun k' hk' => h k' (Nat.lt_succ_of_lt hk'))
      omega
    · have := ih (by omega) (fun k hk => h k (by omega))
      have := h n (by omega)
      omega

/-- The sum with one term turned. -/
theorem sumN_upd {f : Nat → Int} {n k : Nat} (hk : k < n) (v : Int) : sumN (fun i => if i = k then v else f i) n = sumN f n - f k + v := by
  induction n with
  | zero => omega
  | succ n ih =>
    simp only [sumN]
    by_cases e : k = n
    · subst e
      have : sumN (fun i => if i = k then v else f i) k = sumN f k := sumN_congr (fun i hi => by rw [if_neg (by omega)])
      rw [this, if_pos rfl]; omega
    · rw [ih (by omega), if_neg (by omega : ¬ n = k)]; omega

/-! ### Quotients from above -/
def cdiv (a b : Int) : Int := (a + b - 1) / b

theorem le_cdiv {c a b : Int} (hb : 0 < b) (h : (c - 1) * b < a) : c ≤ cdiv a b := by
  unfold cdiv
  rw [Int.le_ediv_iff_mul_le hb]
  have : (c - 1) * b = c * b - b := by rw [Int.sub_mul]; omega
  omega

theorem cdiv_lt {c a b : Int} (hb : 0 < b) (h : a ≤ c * b) : cdiv a b ≤ c := by
  unfold cdiv
  have : (a + b - 1) / b < c + 1 := by
    rw [Int.ediv_lt_iff_lt_mul hb, Int.add_mul]
    omega
  omega

theorem cdiv_mono {a a' b : Int} (hb : 0 < b) (h : a ≤ a') : cdiv a b ≤ cdiv a' b := by
  unfold cdiv
  exact Int.ediv_le_ediv hb (by omega)

theorem cdiv_pos {a b : Int} (hb : 0 < b) (h : 0 < a) : 1 ≤ cdiv a b := le_cdiv hb (by simpa using h)

theorem cdiv_nonneg {a b : Int} (hb : 0 < b) (h : 0 ≤ a) : 0 ≤ cdiv a b := by
  unfold cdiv
  exact Int.ediv_nonneg (by omega) (by omega)

end Go.Proofs.YtphdcoegkfmaeaaGreatDoor.Cad
