/-
Numbers of 256 bits as four words, and the contracts of package word.
-/
import Derived.Test.YtlaohcpkecmhnaaOwnNames
import Derived.Shelf.Spec.BitsCarry

set_option linter.all false

namespace Go.Sg
open Go Go.Own
open Go.Own (V D Wy)

abbrev B : Nat := 18446744073709551616
def u (n : Nat) : D := .int .u64 n
def i (n : Int) : D := .int .i64 n
def limb (j x : Nat) : Nat := x / B ^ j % B
def elem (x : Nat) : D := .agg [u (limb 0 x), u (limb 1 x), u (limb 2 x), u (limb 3 x)]
def ve (x : Nat) : V := .d (elem x)
def vu (x : Nat) : V := .d (u x)
def vi (x : Int) : V := .d (i x)
def vb (b : Bool) : V := .d (.bool b)

/-! ### Limbs -/
theorem limb_lt (j x : Nat) : limb j x < B := Nat.mod_lt _ (by decide)

def carry (j a b : Nat) : Nat := (a % B ^ j + b % B ^ j) / B ^ j
def borrow (j a b : Nat) : Nat := if a % B ^ j < b % B ^ j then 1 else 0

theorem mod_succ (x j : Nat) : x % B ^ (j + 1) = limb j x * B ^ j + x % B ^ j := by
  unfold limb
  rw [Nat.pow_succ, Nat.mod_mul, Nat.mul_comm, Nat.add_comm]

theorem carry_le (j a b : Nat) : carry j a b ≤ 1 := by
  unfold carry
  have hp : 0 < B ^ j := Nat.pow_pos (by decide)
  have h1 := Nat.mod_lt a hp
  have h2 := Nat.mod_lt b hp
  have : (a % B ^ j + b % B ^ j) / B ^ j < 2 := by rw [Nat.div_lt_iff_lt_mul hp]; omega
  omega

theorem carry_succ (j a b : Nat) : carry (j + 1) a b = (limb j a + limb j b + carry j a b) / B := by
  have hp : 0 < B ^ j := Nat.pow_pos (by decide)
  unfold carry
  rw [mod_succ, mod_succ]
  rw [show limb j a * B ^ j + a % B ^ j + (limb j b * B ^ j + b % B ^ j) = (a % B ^ j + b % B ^ j) + (limb j a + limb j b) * B ^ j by rw [Nat.add_mul]; omega]
  rw [Nat.pow_succ, ← Nat.div_div_eq_div_mul, Nat.add_mul_div_right _ _ hp, Nat.add_comm]

theorem limb_add (j a b : Nat) : limb j (a + b) = (limb j a + limb j b + carry j a b) % B := by
  have hp : 0 < B ^ j := Nat.pow_pos (by decide)
  unfold limb carry
  have e : (a + b) / B ^ j = a / B ^ j + b / B ^ j + (a % B ^ j + b % B ^ j) / B ^ j := by
    conv => lhs; rw [← Nat.div_add_mod a (B ^ j), ← Nat.div_add_mod b (B ^ j)]
    rw [show B ^ j * (a / B ^ j) + a % B ^ j + (B ^ j * (b / B ^ j) + b % B ^ j) = (a % B ^ j + b % B ^ j) + B ^ j * (a / B ^ j + b / B ^ j) by rw [Nat.mul_add]; omega]
    rw [Nat.add_mul_div_left _ _ hp, Nat.add_comm]
  rw [e]
  simp only [B]
  omega

theorem borrow_le (j a b : Nat) : borrow j a b ≤ 1 := by unfold borrow; split <;> omega

theorem borrow_succ (j a b : Nat) : borrow (j + 1) a b = if limb j a < limb j b + borrow j a b then 1 else 0 := by
  have hp : 0 < B ^ j := Nat.pow_pos (by decide)
  unfold borrow
  rw [mod_succ a j, mod_succ b j]
  have h1 := Nat.mod_lt a hp
  have h2 := Nat.mod_lt b hp
  generalize a % B ^ j = r at h1 ⊢
  generalize b % B ^ j = q at h2 ⊢
  have key : (limb j a * B ^ j + r < limb j b * B ^ j + q) ↔ (limb j a < limb j b + if r < q then 1 else 0) := by
    constructor
    · intro h
      rcases Nat.lt_trichotomy (limb j a) (limb j b) with h3 | h3 | h3
      · omega
      · rw [h3] at h ⊢
        rw [if_pos (by omega)]; omega
      · exfalso
        have : (limb j b + 1) * B ^ j ≤ limb j a * B ^ j := Nat.mul_le_mul_right _ h3
        rw [Nat.add_mul, Nat.one_mul] at this
        omega
    · intro h
      by_cases h3 : limb j a < limb j b
      · have : (limb j a + 1) * B ^ j ≤ limb j b * B ^ j := Nat.mul_le_mul_right _ h3
        rw [Nat.add_mul, Nat.one_mul] at this
        omega
      · split at h
        · have : limb j a = limb j b := by omega
          rw [this]; omega
        · omega
  by_cases h : limb j a * B ^ j + r < limb j b * B ^ j + q
  · rw [if_pos h, if_pos (key.1 h)]
  · rw [if_neg h, if_neg (fun h' => h (key.2 h'))]

theorem limb_mod (j x : Nat) (hj : j < 4) : limb j (x % B ^ 4) = limb j x := by
  unfold limb
  have : B ^ 4 = B ^ j * B ^ (4 - j) := by rw [← Nat.pow_add]; congr 1; omega
  rw [this, Nat.mod_mul_right_div_self]
  obtain ⟨m, hm⟩ : ∃ m, 4 - j = m + 1 := ⟨3 - j, by omega⟩
  rw [hm, Nat.pow_succ, Nat.mul_comm (B ^ m) B]
  exact Nat.mod_mul_right_mod _ _ _

theorem elem_mod (x : Nat) : elem (x % B ^ 4) = elem x := by
  unfold elem
  rw [limb_mod 0 x (by omega), limb_mod 1 x (by omega), limb_mod 2 x (by omega), limb_mod 3 x (by omega)]

theorem elem_num (x : Nat) : x % B ^ 4 = limb 0 x + limb 1 x * B + limb 2 x * B ^ 2 + limb 3 x * B ^ 3 := by
  rw [mod_succ x 3, mod_succ x 2, mod_succ x 1, mod_succ x 0]
  simp only [Nat.pow_zero, Nat.pow_one, Nat.mod_one, Nat.mul_one]
  omega

theorem u_inj {a b : Nat} (h : u a = u b) : a = b := by
  unfold u at h
  simp only [D.int.injEq, true_and] at h
  omega

theorem elem_inj {x y : Nat} (hx : x < B ^ 4) (hy : y < B ^ 4) (h : elem x = elem y) : x = y := by
  unfold elem at h
  simp only [D.agg.injEq, List.cons.injEq, and_true] at h
  obtain ⟨h0, h1, h2, h3⟩ := h
  have e1 := elem_num x
  have e2 := elem_num y
  rw [Nat.mod_eq_of_lt hx] at e1
  rw [Nat.mod_eq_of_lt hy] at e2
  rw [e1, e2, u_inj h0, u_inj h1, u_inj h2, u_inj h3]

end Go.Sg
