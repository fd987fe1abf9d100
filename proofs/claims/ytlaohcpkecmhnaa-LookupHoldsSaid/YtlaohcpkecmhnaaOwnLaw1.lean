/-
The plain law of the lookup, first part: the little fields; Lagrange's polynomials at the points.
-/
import Derived.Test.YtlaohcpkecmhnaaOwnHolds
import Derived.Test.YtlaohcpkecmhnaaOwnPrime

set_option linter.all false

namespace Go.Sg

theorem prime_s (s : Int) (hs : Sort01 s) : IsPrime (pr s) := by
  rcases hs with rfl | rfl
  · exact prime_0
  · exact prime_1

/-! ### The arithmetic -/
theorem sub_zero_of {p a b : Nat} (hp : 0 < p) (h : a % p = b % p) : subF p a b = 0 := by
  unfold subF addF negF
  rw [h]
  have hb := Nat.mod_lt b hp
  by_cases h0 : b % p = 0
  · simp [h0]
  · rw [Nat.mod_eq_of_lt (show p - b % p < p by omega), Nat.mod_eq_of_lt (show p - b % p < p by omega), show b % p + (p - b % p) = p by omega, Nat.mod_self]
theorem of_sub_zero {p a b : Nat} (hp : 0 < p) (h : subF p a b = 0) : a % p = b % p := by
  unfold subF addF negF at h
  have ha := Nat.mod_lt a hp
  have hb := Nat.mod_lt b hp
  by_cases h0 : b % p = 0
  · rw [h0] at h ⊢
    simpa using h
  · rw [Nat.mod_eq_of_lt (show p - b % p < p by omega), Nat.mod_eq_of_lt (show p - b % p < p by omega)] at h
    have hd := Nat.dvd_of_mod_eq_zero h
    obtain ⟨c, hc⟩ := hd
    have : c = 1 := by
      rcases Nat.lt_trichotomy c 1 with h1 | h1 | h1
      · obtain rfl : c = 0 := by omega
        simp at hc; omega
      · exact h1
      · have : p * 2 ≤ p * c := Nat.mul_le_mul_left p h1
        omega
    subst this
    omega
theorem subF_mod {p a b : Nat} (hp : 0 < p) : subF p a b < p := Nat.mod_lt _ hp
theorem mul_zero_l (p x : Nat) : mulF p 0 x = 0 := by simp [mulF]
theorem mul_zero_r (p x : Nat) : mulF p x 0 = 0 := by simp [mulF]

/-! ### The points -/
theorem pw_pow {p : Nat} (h1 : 1 < p) (w : Nat) : ∀ j, pw p 1 w j = w ^ j % p
  | 0 => by simp [pw, Nat.mod_eq_of_lt h1]
  | j + 1 => by
    simp only [pw, mulF]
    rw [pw_pow h1 w j, Nat.pow_succ, Nat.mod_mul_mod]

/-- 2^k divides p - 1, k up to 9. -/
theorem pow_dvd (s : Int) (hs : Sort01 s) (k : Nat) (hk : k ≤ 9) : 2 ^ k ∣ pr s - 1 := by
  have h9 : 2 ^ 9 ∣ pr s - 1 := by rcases hs with rfl | rfl <;> decide
  exact Nat.dvd_trans (Nat.pow_dvd_pow 2 hk) h9

theorem five (s : Int) (hs : Sort01 s) : ¬ pr s ∣ 5 := by
  intro h
  have := Nat.le_of_dvd (by decide) h
  rcases hs with rfl | rfl <;> exact absurd this (by decide)

theorem root_pow (s : Int) (hs : Sort01 s) (k : Nat) (hk : k ≤ 9) : rootF s k ^ (2 ^ k) % pr s = 1 := by
  unfold rootF expF
  rw [← Nat.pow_mod, ← Nat.pow_mul, Nat.div_mul_cancel (pow_dvd s hs k hk)]
  exact (prime_s s hs).fermat (five s hs)

theorem five_half (s : Int) (hs : Sort01 s) : Nat.beq (5 ^ ((pr s - 1) / 2) % pr s) 1 = false := by
  rcases hs with rfl | rfl
  · decide +kernel
  · decide +kernel

theorem beq_ne {a b : Nat} (h : Nat.beq a b = false) : a ≠ b := fun e => by subst e; rw [Nat.beq_refl] at h; cases h

theorem root_half (s : Int) (hs : Sort01 s) (k : Nat) (hk : k ≤ 9) (h0 : 0 < k) : rootF s k ^ (2 ^ (k - 1)) % pr s ≠ 1 := by
  obtain ⟨c, hc⟩ := pow_dvd s hs k hk
  have e1 : (pr s - 1) / 2 ^ k = c := by rw [hc]; exact Nat.mul_div_cancel_left c (Nat.pow_pos (by decide))
  have e2 : c * 2 ^ (k - 1) = (pr s - 1) / 2 := by
    obtain ⟨m, rfl⟩ : ∃ m, k = m + 1 := ⟨k - 1, by omega⟩
    rw [hc, Nat.pow_succ, Nat.add_sub_cancel]
    have : 2 ^ m * 2 * c = 2 * (c * 2 ^ m) := by rw [Nat.mul_comm (2 ^ m) 2, Nat.mul_assoc, Nat.mul_comm c]
    rw [this, Nat.mul_div_cancel_left _ (by decide)]
  unfold rootF expF
  rw [← Nat.pow_mod, ← Nat.pow_mul, e1, e2]
  exact beq_ne (five_half s hs)

theorem half_mult : ∀ k : Nat, 3 ≤ k → k ≤ 5 → ∀ m, m < 2 ^ k → 0 < m → ∃ t, t < 2 ^ k ∧ m * t % 2 ^ k = 2 ^ (k - 1) := by
  intro k h1 h2
  rcases (show k = 3 ∨ k = 4 ∨ k = 5 by omega) with rfl | rfl | rfl <;> decide

theorem root_order (s : Int) (hs : Sort01 s) (k : Nat) (hk : 3 ≤ k) (hk2 : k ≤ 5) (m : Nat) (hm : m < 2 ^ k) (h0 : 0 < m) : rootF s k ^ m % pr s ≠ 1 := by
  intro h
  obtain ⟨t, _, ht⟩ := half_mult k hk hk2 m hm h0
  refine root_half s hs k (by omega) (by omega) ?_
  have h1 := (prime_s s hs).two
  have e : m * t = 2 ^ k * (m * t / 2 ^ k) + 2 ^ (k - 1) := by rw [← ht]; exact (Nat.div_add_mod _ _).symm
  have e1 : rootF s k ^ (m * t) % pr s = 1 := by rw [Nat.pow_mul, Nat.pow_mod, h, Nat.one_pow, Nat.mod_eq_of_lt (by omega)]
  rw [e, Nat.pow_add, Nat.pow_mul, Nat.mul_mod, Nat.pow_mod, root_pow s hs k (by omega), Nat.one_pow, Nat.mod_eq_of_lt (show 1 < pr s by omega), Nat.one_mul, Nat.mod_mod] at e1
  exact e1

theorem pt_pow (s : Int) (hs : Sort01 s) (k j : Nat) : ptF s k j = rootF s k ^ j % pr s := by
  have h1 := (prime_s s hs).two
  exact pw_pow (by omega) _ _

theorem pt_ne (s : Int) (hs : Sort01 s) (k : Nat) (hk : 3 ≤ k) (hk2 : k ≤ 5) (j r : Nat) (hj : j < r) (hr : r < 2 ^ k) : ptF s k j ≠ ptF s k r := by
  intro h
  rw [pt_pow s hs, pt_pow s hs] at h
  have hp := prime_s s hs
  have h2 := hp.two
  have hd := dvd_sub_of_mod h.symm
  have e : rootF s k ^ r - rootF s k ^ j = rootF s k ^ j * (rootF s k ^ (r - j) - 1) := by
    rw [Nat.mul_sub, Nat.mul_one, ← Nat.pow_add, show j + (r - j) = r by omega]
  rw [e] at hd
  have hw : ¬ pr s ∣ rootF s k ^ j := by
    intro hdv
    have hx : rootF s k ^ (2 ^ k) % pr s = 0 := by
      rw [show 2 ^ k = j + (2 ^ k - j) by omega, Nat.pow_add, Nat.mul_mod, Nat.mod_eq_zero_of_dvd hdv, Nat.zero_mul, Nat.zero_mod]
    rw [root_pow s hs k (by omega)] at hx
    cases hx
  rcases hp.dvd_mul hd with h3 | h3
  · exact hw h3
  · refine root_order s hs k hk hk2 (r - j) (by omega) (by omega) ?_
    obtain ⟨c, hc⟩ := h3
    have hpos : 0 < rootF s k ^ (r - j) := by
      refine Nat.pos_of_ne_zero fun h0 => ?_
      rw [h0] at hc
      have hz : rootF s k ^ r = 0 := by rw [show r = j + (r - j) by omega, Nat.pow_add, h0, Nat.mul_zero]
      exact hw (by
        have : rootF s k = 0 := by
          rcases Nat.eq_zero_or_pos (rootF s k) with h4 | h4
          · exact h4
          · exact absurd h0 (Nat.ne_of_gt (Nat.pow_pos h4))
        have h1 := root_pow s hs k (by omega)
        rw [this, Nat.zero_pow (Nat.pow_pos (by decide)), Nat.zero_mod] at h1
        cases h1)
    have : rootF s k ^ (r - j) = pr s * c + 1 := by omega
    rw [this, Nat.mul_add_mod, Nat.mod_eq_of_lt (by omega)]

theorem pt_mod (s : Int) (hs : Sort01 s) (k j : Nat) : ptF s k j % pr s = ptF s k j := by
  have h1 := (prime_s s hs).two
  rw [pt_pow s hs, Nat.mod_mod]

/-! ### Lagrange's polynomials at the points -/
theorem den_zero (s : Int) (hs : Sort01 s) (k : Nat) (hk2 : k ≤ 5) (j x : Nat) : denF s k j x % pr s = 0 ↔ x % pr s = ptF s k j % pr s := by
  have hp := prime_s s hs
  have h2 := hp.two
  have hpos : 0 < pr s := by omega
  unfold denF mulF
  rw [Nat.mod_mod]
  constructor
  · intro h
    rcases hp.dvd_mul (Nat.dvd_of_mod_eq_zero h) with h3 | h3
    · exfalso
      unfold addF at h3
      rw [Nat.zero_mod, Nat.add_zero, Nat.mod_mod] at h3
      have h4 : (2 ^ k) % pr s = 0 := by
        have := Nat.mod_eq_zero_of_dvd h3
        rwa [Nat.mod_mod] at this
      have h5 : pr s ≤ 2 ^ k := Nat.le_of_dvd (Nat.pow_pos (by decide)) (Nat.dvd_of_mod_eq_zero h4)
      have h6 : 2 ^ k ≤ 2 ^ 5 := Nat.pow_le_pow_right (by decide) hk2
      have h7 : 64 ≤ pr s := by rcases hs with rfl | rfl <;> decide
      omega
    · refine of_sub_zero hpos ?_
      have := Nat.mod_eq_zero_of_dvd h3
      rwa [Nat.mod_eq_of_lt (subF_mod hpos)] at this
  · intro h
    rw [sub_zero_of hpos h, Nat.mul_zero, Nat.zero_mod]

theorem van_zero (s : Int) (hs : Sort01 s) (k : Nat) (hk2 : k ≤ 9) (r : Nat) : vanF s k (ptF s k r) = 0 := by
  have h2 := (prime_s s hs).two
  unfold vanF
  refine sub_zero_of (by omega) ?_
  unfold expF
  rw [Nat.mod_mod, pt_pow s hs, ← Nat.pow_mod, ← Nat.pow_mul, Nat.mul_comm r, Nat.pow_mul, Nat.pow_mod, root_pow s hs k hk2, Nat.one_pow]

theorem lag_at (s : Int) (hs : Sort01 s) (k : Nat) (hk : 3 ≤ k) (hk2 : k ≤ 5) (j r : Nat) (hj : j < 2 ^ k) (hr : r < 2 ^ k) : lagF s k j (ptF s k r) = if j = r then 1 else 0 := by
  unfold lagF
  by_cases h : j = r
  · subst h
    rw [if_pos ((den_zero s hs k hk2 j _).2 rfl), if_pos rfl]
  · rw [if_neg h, if_neg]
    · rw [van_zero s hs k (by omega), mul_zero_r, mul_zero_l]
    · rw [den_zero s hs k hk2]
      rw [pt_mod s hs, pt_mod s hs]
      rcases Nat.lt_or_gt_of_ne h with h1 | h1
      · exact (pt_ne s hs k hk hk2 j r h1 hr).symm
      · exact pt_ne s hs k hk hk2 r j h1 hj

theorem us_at (s : Int) (hs : Sort01 s) (k : Nat) (hk : 3 ≤ k) (hk2 : k ≤ 5) (r : Nat) (hr : r < 2 ^ k) : ∀ u, u ≤ 2 ^ k → usF s k (ptF s k r) u = if r < u then 1 else 0
  | 0, _ => by simp [usF]
  | u + 1, hu => by
    have h2 := (prime_s s hs).two
    simp only [usF]
    rw [us_at s hs k hk hk2 r hr u (by omega), lag_at s hs k hk hk2 u r (by omega) hr]
    unfold addF
    by_cases h : r < u
    · rw [if_pos h, if_neg (by omega), if_pos (by omega), Nat.zero_mod, Nat.add_zero, Nat.mod_mod, Nat.mod_eq_of_lt (by omega)]
    · by_cases h3 : u = r
      · rw [if_neg h, if_pos h3, if_pos (by omega), Nat.zero_mod, Nat.zero_add, Nat.mod_mod, Nat.mod_eq_of_lt (by omega)]
      · rw [if_neg h, if_neg h3, if_neg (by omega)]
        simp

end Go.Sg
