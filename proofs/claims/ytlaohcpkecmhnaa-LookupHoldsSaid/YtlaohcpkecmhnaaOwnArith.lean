/-
The machine's arithmetic on numbers that fit.
-/
import Derived.Test.YtlaohcpkecmhnaaOwnWord2
import Derived.Laws.BitsLemmas
import Derived.Laws.Bits64

set_option linter.all false

namespace Go.Sg
open Go Go.Own
open Go.Own (V D Wy)

theorem wrapU (n : Nat) : IntKind.u64.wrap (n : Int) = ((n % B : Nat) : Int) := by
  rw [IntKind.wrap_u64]; simp only [B]; omega
theorem wrapU_lt (n : Nat) (h : n < B) : IntKind.u64.wrap (n : Int) = (n : Int) := by
  rw [wrapU, Nat.mod_eq_of_lt h]
theorem wrapI (n : Int) (h0 : -9223372036854775808 ≤ n) (h1 : n ≤ 9223372036854775807) : IntKind.i64.wrap n = n := by
  rw [IntKind.wrap_i64]; omega

theorem ofInt_nat (n : Nat) (h : n < B) : (BitVec.ofInt 64 (n : Int)).toNat = n := by
  rw [BitVec.toNat_ofInt]
  simp only [B] at h
  omega

theorem wor (x y : Nat) (hx : x < B) (hy : y < B) : IntKind.u64.wrap (((BitVec.ofInt 64 (x : Int) ||| BitVec.ofInt 64 (y : Int)).toNat : Nat) : Int) = ((x ||| y : Nat) : Int) := by
  rw [BitVec.toNat_or, ofInt_nat x hx, ofInt_nat y hy, wrapU_lt]
  exact Nat.or_lt_two_pow (n := 64) hx hy

theorem wand (x y : Nat) (hx : x < B) (hy : y < B) : IntKind.u64.wrap (((BitVec.ofInt 64 (x : Int) &&& BitVec.ofInt 64 (y : Int)).toNat : Nat) : Int) = ((x &&& y : Nat) : Int) := by
  rw [BitVec.toNat_and, ofInt_nat x hx, ofInt_nat y hy, wrapU_lt]
  exact Nat.and_lt_two_pow (n := 64) _ hy

theorem or_lt (x y : Nat) (hx : x < B) (hy : y < B) : x ||| y < B := Nat.or_lt_two_pow (n := 64) hx hy
theorem or_zero (x y : Nat) : x ||| y = 0 ↔ x = 0 ∧ y = 0 := by
  constructor
  · intro h
    exact ⟨Nat.le_zero.1 (h ▸ Nat.left_le_or), Nat.le_zero.1 (h ▸ Nat.right_le_or)⟩
  · rintro ⟨rfl, rfl⟩; rfl

theorem tmodN (x p : Nat) : (x : Int).tmod (p : Int) = ((x % p : Nat) : Int) := rfl
theorem beqN (x y : Nat) : ((x : Int) == (y : Int)) = decide (x = y) := by
  by_cases h : x = y
  · subst h; simp
  · have : (x : Int) ≠ y := by omega
    simp [h, this]
theorem bneN (x y : Nat) : ((x : Int) != (y : Int)) = decide (x ≠ y) := by
  by_cases h : x = y
  · subst h; simp
  · have : (x : Int) ≠ y := by omega
    simp [h, this]

theorem vbool {b c : Bool} (h : b = c) : V.d (D.bool b) = V.d (D.bool c) := by rw [h]

theorem limb_small (x : Nat) (h : x < B) : limb 0 x = x ∧ limb 1 x = 0 ∧ limb 2 x = 0 ∧ limb 3 x = 0 := by
  have h0 : limb 0 x = x := by unfold limb; rw [Nat.pow_zero, Nat.div_one, Nat.mod_eq_of_lt h]
  have hk : ∀ j, 1 ≤ j → limb j x = 0 := by
    intro j hj
    unfold limb
    rw [Nat.div_eq_of_lt, Nat.zero_mod]
    exact Nat.lt_of_lt_of_le h (Nat.le_self_pow (by omega) B)
  exact ⟨h0, hk 1 (by omega), hk 2 (by omega), hk 3 (by omega)⟩

theorem elem_small (x : Nat) (h : x < B) : elem x = .agg [u x, u 0, u 0, u 0] := by
  obtain ⟨h0, h1, h2, h3⟩ := limb_small x h
  unfold elem
  rw [h0, h1, h2, h3]

theorem high_zero (a : Nat) (ha : a < B ^ 4) : (limb 1 a ||| limb 2 a ||| limb 3 a) = 0 ↔ a < B := by
  rw [or_zero, or_zero]
  have e := elem_num a
  rw [Nat.mod_eq_of_lt ha] at e
  have h0 := limb_lt 0 a
  constructor
  · rintro ⟨⟨h1, h2⟩, h3⟩
    rw [h1, h2, h3] at e
    omega
  · intro h
    obtain ⟨_, h1, h2, h3⟩ := limb_small a h
    exact ⟨⟨h1, h2⟩, h3⟩

end Go.Sg
