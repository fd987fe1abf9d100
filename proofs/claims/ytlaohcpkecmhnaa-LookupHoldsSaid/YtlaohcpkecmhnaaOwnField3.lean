/-
Contracts: half, halves, Exp. (Laid by wip/tools/fill.py out of a text of our own.)
-/
import Derived.Test.YtlaohcpkecmhnaaOwnField2

set_option linter.all false

namespace Go.Sg
open Go Go.Own
open Go.Own (V D Wy)

theorem half_w (x y : Nat) (hx : x < B) (hy : y < B) : IntKind.u64.wrap (((BitVec.ofInt 64 ((x : Int).fdiv (Int.ofNat 2)) ||| BitVec.ofInt 64 (IntKind.u64.wrap ((y : Int) * Int.ofNat 9223372036854775808))).toNat : Nat) : Int) = ((x / 2 + y % 2 * 9223372036854775808 : Nat) : Int) := by
  have e1 : (x : Int).fdiv (Int.ofNat 2) = ((x / 2 : Nat) : Int) := by rw [show Int.ofNat 2 = (2 : Int) from rfl, Int.fdiv_eq_ediv_of_nonneg _ (by omega)]; omega
  have e2 : IntKind.u64.wrap ((y : Int) * Int.ofNat 9223372036854775808) = ((9223372036854775808 * (y % 2) : Nat) : Int) := by
    rw [IntKind.wrap_u64, show Int.ofNat 9223372036854775808 = (9223372036854775808 : Int) from rfl]; omega
  rw [e1, e2, wor _ _ (by simp only [B] at *; omega) (by simp only [B]; omega), Nat.or_comm]
  have := Nat.two_pow_add_eq_or_of_lt (i := 63) (b := x / 2) (by simp only [B] at hx; omega) (y % 2)
  rw [show (9223372036854775808 : Nat) = 2 ^ 63 from rfl, ← this, Nat.add_comm, Nat.mul_comm]

theorem half1_w (x : Nat) : (x : Int).fdiv (Int.ofNat 2) = ((x / 2 : Nat) : Int) := by
  rw [show Int.ofNat 2 = (2 : Int) from rfl, Int.fdiv_eq_ediv_of_nonneg _ (by omega)]; omega

theorem limb_half (j a : Nat) : limb j (a / 2) = limb j a / 2 + limb (j + 1) a % 2 * 9223372036854775808 := by
  unfold limb
  rw [Nat.div_div_eq_div_mul, Nat.mul_comm, ← Nat.div_div_eq_div_mul, Nat.pow_succ, ← Nat.div_div_eq_div_mul a (B ^ j) B]
  generalize a / B ^ j = z
  simp only [B]
  omega

theorem limb4 (a : Nat) (ha : a < B ^ 4) : limb 4 a = 0 := by
  unfold limb
  rw [Nat.div_eq_of_lt ha, Nat.zero_mod]

def halfX (x y : Nat) : D := .int .u64 (IntKind.u64.wrap (((BitVec.ofInt 64 ((x : Int).fdiv (Int.ofNat 2)) ||| BitVec.ofInt 64 (IntKind.u64.wrap ((y : Int) * Int.ofNat 9223372036854775808))).toNat : Nat) : Int))

theorem half_elem (a : Nat) (ha : a < B ^ 4) : DLe (.agg [halfX (limb 0 a) (limb 1 a), halfX (limb 1 a) (limb 2 a), halfX (limb 2 a) (limb 3 a), .int .u64 ((limb 3 a : Int).fdiv (Int.ofNat 2))]) (elem (a / 2)) := by
  refine DLe.of_eq ?_
  unfold elem halfX
  rw [half_w _ _ (limb_lt 0 a) (limb_lt 1 a), half_w _ _ (limb_lt 1 a) (limb_lt 2 a), half_w _ _ (limb_lt 2 a) (limb_lt 3 a), half1_w, limb_half 0, limb_half 1, limb_half 2, limb_half 3, limb4 a ha]
  rfl

theorem half_ok (a : Nat) (ha : a < B ^ 4) : FnOk PP n_field_half [ve a] [] (.ret (ve (a / 2))) [] :=
  FnOk.by at_field_half (by kernel_rfl) ({}) {} [ve (a / 2)] rfl (
    pf (by decide : Int.ofNat (0 : Nat) ≤ Int.ofNat (0 : Nat) ∧ Int.ofNat (0 : Nat) < Int.ofNat (4 : Nat)) <|
    pf (by decide : Int.ofNat (0 : Nat) ≤ Int.ofNat (1 : Nat)) <|
    pf (by decide : Int.ofNat (0 : Nat) ≤ Int.ofNat (1 : Nat) ∧ Int.ofNat (1 : Nat) < Int.ofNat (4 : Nat)) <|
    pf (by decide : Int.ofNat (0 : Nat) ≤ Int.ofNat (63 : Nat)) <|
    pf (by decide : Int.ofNat (0 : Nat) ≤ Int.ofNat (1 : Nat) ∧ Int.ofNat (1 : Nat) < Int.ofNat (4 : Nat)) <|
    pf (by decide : Int.ofNat (0 : Nat) ≤ Int.ofNat (1 : Nat)) <|
    pf (by decide : Int.ofNat (0 : Nat) ≤ Int.ofNat (2 : Nat) ∧ Int.ofNat (2 : Nat) < Int.ofNat (4 : Nat)) <|
    pf (by decide : Int.ofNat (0 : Nat) ≤ Int.ofNat (63 : Nat)) <|
    pf (by decide : Int.ofNat (0 : Nat) ≤ Int.ofNat (2 : Nat) ∧ Int.ofNat (2 : Nat) < Int.ofNat (4 : Nat)) <|
    pf (by decide : Int.ofNat (0 : Nat) ≤ Int.ofNat (1 : Nat)) <|
    pf (by decide : Int.ofNat (0 : Nat) ≤ Int.ofNat (3 : Nat) ∧ Int.ofNat (3 : Nat) < Int.ofNat (4 : Nat)) <|
    pf (by decide : Int.ofNat (0 : Nat) ≤ Int.ofNat (63 : Nat)) <|
    pf (by decide : Int.ofNat (0 : Nat) ≤ Int.ofNat (3 : Nat) ∧ Int.ofNat (3 : Nat) < Int.ofNat (4 : Nat)) <|
    pf (by decide : Int.ofNat (0 : Nat) ≤ Int.ofNat (1 : Nat)) <|
    pf (by decide : (4 : Nat) ≤ (4 : Nat)) <|
    pf (half_elem a ha) <|
    pz) (by kernel_rfl)

def limbs (x : Nat) : List D := [u (limb 0 x), u (limb 1 x), u (limb 2 x), u (limb 3 x)]
def numsV (p ad : Nat) : List V := [vu (limb 0 p), vu (limb 1 p), vu (limb 2 p), vu (limb 3 p), vi ad, vu p, vu 0, vu 0, vu 0, vu 0, vu 0]

def expSt (p ad b e o : Nat) : Own.St := { t := [(4, .ptr 4 0 0), (5, .ptr 5 0 0), (6, .ptr 6 0 0), (7, .ptr 7 0 0), (9, .ptr 9 0 0)], h := [(4, .row 1 (limbs b)), (5, .row 1 (limbs e)), (6, .row 1 (limbs 0)), (7, .box (numsV p ad)), (9, .row 1 (limbs o))] }

theorem limbs_zero (e : Nat) (he : e < B ^ 4) : (((limb 0 e : Int) == Int.ofNat 0) && (((limb 1 e : Int) == Int.ofNat 0) && (((limb 2 e : Int) == Int.ofNat 0) && (((limb 3 e : Int) == Int.ofNat 0) && true)))) = decide (e = 0) := by
  have h := elem_num e
  rw [Nat.mod_eq_of_lt he] at h
  rw [show Int.ofNat 0 = ((0 : Nat) : Int) from rfl, beqN, beqN, beqN, beqN, Bool.and_true, ← Bool.decide_and, ← Bool.decide_and, ← Bool.decide_and]
  apply decide_eq_decide.2
  constructor
  · rintro ⟨h0, h1, h2, h3⟩
    rw [h, h0, h1, h2, h3]
    rfl
  · rintro rfl
    simp [limb]

theorem ne_zero (e : Nat) (he : e < B ^ 4) (b : Bool) (h : decide (e = 0) = !b) : V.d (.bool (!(((limb 0 e : Int) == Int.ofNat 0) && (((limb 1 e : Int) == Int.ofNat 0) && (((limb 2 e : Int) == Int.ofNat 0) && (((limb 3 e : Int) == Int.ofNat 0) && true)))))) = V.d (.bool b) := by
  rw [limbs_zero e he, h, Bool.not_not]

theorem odd_test (e : Nat) (b : Bool) (h : decide (e % 2 = 1) = b) : V.d (.bool (IntKind.u64.wrap (((BitVec.ofInt 64 (limb 0 e : Int) &&& BitVec.ofInt 64 (Int.ofNat 1)).toNat : Nat) : Int) == Int.ofNat 1)) = V.d (.bool b) := by
  refine vbool ?_
  rw [show Int.ofNat 1 = ((1 : Nat) : Int) from rfl, wand _ _ (limb_lt 0 e) (by decide), beqN, ← h]
  apply decide_eq_decide.2
  rw [Nat.and_one_is_mod]
  have : limb 0 e % 2 = e % 2 := by unfold limb; rw [Nat.pow_zero, Nat.div_one]; simp only [B]; omega
  rw [this]

theorem exp_odd {p : Nat} (l : Little p) (ad b e o : Nat) (hb : b < B ^ 4) (he : e < B ^ 4) (ho : o < B ^ 4) (h0 : e ≠ 0) (h1 : e % 2 = 1) : T PP f_field_Exp.ntmps (loopOf f_field_Exp 0) (expSt p ad b e o) .normal (expSt p ad (mulF p b b) (e / 2) (mulF p o b)) :=
  T.by ({ o := { br := [(24, true), (28, true)], call := [(32, callV (ve (mulF p o b))), (36, callV (ve (mulF p b b))), (38, callV (ve (e / 2)))] } }) 0 {} (
    pf (ne_zero e he true (by simp [h0])) <|
    pf (by decide : Int.ofNat (0 : Nat) ≤ Int.ofNat (0 : Nat) ∧ Int.ofNat (0 : Nat) < Int.ofNat (4 : Nat)) <|
    pf (odd_test e true (by simp [h1])) <|
    pf (numbers_mul_ok l ad o b ho hb) <|
    pf (by decide : (4 : Nat) ≤ (4 : Nat)) <|
    pf (numbers_mul_ok l ad b b hb hb) <|
    pf (by decide : (4 : Nat) ≤ (4 : Nat)) <|
    pf (half_ok e he) <|
    pf (by decide : (4 : Nat) ≤ (4 : Nat)) <|
    pf (Eq.refl ((1 : Nat))) <|
    pf (Eq.refl ([D.int IntKind.u64 ↑(limb (0 : Nat) (mulF p b b)), D.int IntKind.u64 ↑(limb (1 : Nat) (mulF p b b)),
  D.int IntKind.u64 ↑(limb (2 : Nat) (mulF p b b)), D.int IntKind.u64 ↑(limb (3 : Nat) (mulF p b b))])) <|
    pf (Eq.refl ((1 : Nat))) <|
    pf (Eq.refl ([D.int IntKind.u64 ↑(limb (0 : Nat) (e / (2 : Nat))),
  D.int IntKind.u64 ↑(limb (1 : Nat) (e / (2 : Nat))), D.int IntKind.u64 ↑(limb (2 : Nat) (e / (2 : Nat))),
  D.int IntKind.u64 ↑(limb (3 : Nat) (e / (2 : Nat)))])) <|
    pf (Eq.refl ((1 : Nat))) <|
    pf (Eq.refl ([D.int IntKind.u64 (Int.ofNat (0 : Nat)), D.int IntKind.u64 (Int.ofNat (0 : Nat)),
  D.int IntKind.u64 (Int.ofNat (0 : Nat)), D.int IntKind.u64 (Int.ofNat (0 : Nat))])) <|
    pf (DLe.r (D.int IntKind.u64 ↑(limb (0 : Nat) p))) <|
    pf (DLe.r (D.int IntKind.u64 ↑(limb (1 : Nat) p))) <|
    pf (DLe.r (D.int IntKind.u64 ↑(limb (2 : Nat) p))) <|
    pf (DLe.r (D.int IntKind.u64 ↑(limb (3 : Nat) p))) <|
    pf (DLe.r (D.int IntKind.i64 ↑ad)) <|
    pf (DLe.r (D.int IntKind.u64 ↑p)) <|
    pf (DLe.r (D.int IntKind.u64 (Int.ofNat (0 : Nat)))) <|
    pf (DLe.r (D.int IntKind.u64 (Int.ofNat (0 : Nat)))) <|
    pf (DLe.r (D.int IntKind.u64 (Int.ofNat (0 : Nat)))) <|
    pf (DLe.r (D.int IntKind.u64 (Int.ofNat (0 : Nat)))) <|
    pf (DLe.r (D.int IntKind.u64 (Int.ofNat (0 : Nat)))) <|
    pf (Eq.refl ((1 : Nat))) <|
    pf (Eq.refl ([D.int IntKind.u64 ↑(limb (0 : Nat) (mulF p o b)), D.int IntKind.u64 ↑(limb (1 : Nat) (mulF p o b)),
  D.int IntKind.u64 ↑(limb (2 : Nat) (mulF p o b)), D.int IntKind.u64 ↑(limb (3 : Nat) (mulF p o b))])) <|
    pf (Eq.refl ((0 : Nat))) <|
    pf (Eq.refl ((0 : Nat))) <|
    pf (Eq.refl ((0 : Nat))) <|
    pf (Eq.refl ((0 : Nat))) <|
    pf (Eq.refl ((0 : Nat))) <|
    pf (Eq.refl ((0 : Nat))) <|
    pf (Eq.refl ((0 : Nat))) <|
    pf (Eq.refl ((0 : Nat))) <|
    pf (Eq.refl ((0 : Nat))) <|
    pf (Eq.refl ((0 : Nat))) <|
    pz) (by kernel_rfl)

theorem exp_even {p : Nat} (l : Little p) (ad b e o : Nat) (hb : b < B ^ 4) (he : e < B ^ 4) (h0 : e ≠ 0) (h1 : e % 2 ≠ 1) : T PP f_field_Exp.ntmps (loopOf f_field_Exp 0) (expSt p ad b e o) .normal (expSt p ad (mulF p b b) (e / 2) o) :=
  T.by ({ o := { br := [(24, true), (28, false)], call := [(36, callV (ve (mulF p b b))), (38, callV (ve (e / 2)))] } }) 0 {} (
    pf (ne_zero e he true (by simp [h0])) <|
    pf (by decide : Int.ofNat (0 : Nat) ≤ Int.ofNat (0 : Nat) ∧ Int.ofNat (0 : Nat) < Int.ofNat (4 : Nat)) <|
    pf (odd_test e false (by simp [h1])) <|
    pf (numbers_mul_ok l ad b b hb hb) <|
    pf (by decide : (4 : Nat) ≤ (4 : Nat)) <|
    pf (half_ok e he) <|
    pf (by decide : (4 : Nat) ≤ (4 : Nat)) <|
    pf (Eq.refl ((1 : Nat))) <|
    pf (Eq.refl ([D.int IntKind.u64 ↑(limb (0 : Nat) (mulF p b b)), D.int IntKind.u64 ↑(limb (1 : Nat) (mulF p b b)),
  D.int IntKind.u64 ↑(limb (2 : Nat) (mulF p b b)), D.int IntKind.u64 ↑(limb (3 : Nat) (mulF p b b))])) <|
    pf (Eq.refl ((1 : Nat))) <|
    pf (Eq.refl ([D.int IntKind.u64 ↑(limb (0 : Nat) (e / (2 : Nat))),
  D.int IntKind.u64 ↑(limb (1 : Nat) (e / (2 : Nat))), D.int IntKind.u64 ↑(limb (2 : Nat) (e / (2 : Nat))),
  D.int IntKind.u64 ↑(limb (3 : Nat) (e / (2 : Nat)))])) <|
    pf (Eq.refl ((1 : Nat))) <|
    pf (Eq.refl ([D.int IntKind.u64 (Int.ofNat (0 : Nat)), D.int IntKind.u64 (Int.ofNat (0 : Nat)),
  D.int IntKind.u64 (Int.ofNat (0 : Nat)), D.int IntKind.u64 (Int.ofNat (0 : Nat))])) <|
    pf (DLe.r (D.int IntKind.u64 ↑(limb (0 : Nat) p))) <|
    pf (DLe.r (D.int IntKind.u64 ↑(limb (1 : Nat) p))) <|
    pf (DLe.r (D.int IntKind.u64 ↑(limb (2 : Nat) p))) <|
    pf (DLe.r (D.int IntKind.u64 ↑(limb (3 : Nat) p))) <|
    pf (DLe.r (D.int IntKind.i64 ↑ad)) <|
    pf (DLe.r (D.int IntKind.u64 ↑p)) <|
    pf (DLe.r (D.int IntKind.u64 (Int.ofNat (0 : Nat)))) <|
    pf (DLe.r (D.int IntKind.u64 (Int.ofNat (0 : Nat)))) <|
    pf (DLe.r (D.int IntKind.u64 (Int.ofNat (0 : Nat)))) <|
    pf (DLe.r (D.int IntKind.u64 (Int.ofNat (0 : Nat)))) <|
    pf (DLe.r (D.int IntKind.u64 (Int.ofNat (0 : Nat)))) <|
    pf (Eq.refl ((1 : Nat))) <|
    pf (Eq.refl ([D.int IntKind.u64 ↑(limb (0 : Nat) o), D.int IntKind.u64 ↑(limb (1 : Nat) o),
  D.int IntKind.u64 ↑(limb (2 : Nat) o), D.int IntKind.u64 ↑(limb (3 : Nat) o)])) <|
    pf (Eq.refl ((0 : Nat))) <|
    pf (Eq.refl ((0 : Nat))) <|
    pf (Eq.refl ((0 : Nat))) <|
    pf (Eq.refl ((0 : Nat))) <|
    pf (Eq.refl ((0 : Nat))) <|
    pf (Eq.refl ((0 : Nat))) <|
    pf (Eq.refl ((0 : Nat))) <|
    pf (Eq.refl ((0 : Nat))) <|
    pf (Eq.refl ((0 : Nat))) <|
    pf (Eq.refl ((0 : Nat))) <|
    pz) (by kernel_rfl)

theorem exp_end (p ad b o : Nat) : T PP f_field_Exp.ntmps (loopOf f_field_Exp 0) (expSt p ad b 0 o) (.exit 0) (expSt p ad b 0 o) :=
  T.by ({ o := { br := [(24, false)] } }) 0 {} (
    pf (Eq.refl (V.d (D.bool false))) <|
    pf (Eq.refl ((1 : Nat))) <|
    pf (Eq.refl ([D.int IntKind.u64 ↑(limb (0 : Nat) b), D.int IntKind.u64 ↑(limb (1 : Nat) b),
  D.int IntKind.u64 ↑(limb (2 : Nat) b), D.int IntKind.u64 ↑(limb (3 : Nat) b)])) <|
    pf (Eq.refl ((1 : Nat))) <|
    pf (Eq.refl ([D.int IntKind.u64 (Int.ofNat (0 : Nat)), D.int IntKind.u64 (Int.ofNat (0 : Nat)),
  D.int IntKind.u64 (Int.ofNat (0 : Nat)), D.int IntKind.u64 (Int.ofNat (0 : Nat))])) <|
    pf (Eq.refl ((1 : Nat))) <|
    pf (Eq.refl ([D.int IntKind.u64 (Int.ofNat (0 : Nat)), D.int IntKind.u64 (Int.ofNat (0 : Nat)),
  D.int IntKind.u64 (Int.ofNat (0 : Nat)), D.int IntKind.u64 (Int.ofNat (0 : Nat))])) <|
    pf (DLe.r (D.int IntKind.u64 ↑(limb (0 : Nat) p))) <|
    pf (DLe.r (D.int IntKind.u64 ↑(limb (1 : Nat) p))) <|
    pf (DLe.r (D.int IntKind.u64 ↑(limb (2 : Nat) p))) <|
    pf (DLe.r (D.int IntKind.u64 ↑(limb (3 : Nat) p))) <|
    pf (DLe.r (D.int IntKind.i64 ↑ad)) <|
    pf (DLe.r (D.int IntKind.u64 ↑p)) <|
    pf (DLe.r (D.int IntKind.u64 (Int.ofNat (0 : Nat)))) <|
    pf (DLe.r (D.int IntKind.u64 (Int.ofNat (0 : Nat)))) <|
    pf (DLe.r (D.int IntKind.u64 (Int.ofNat (0 : Nat)))) <|
    pf (DLe.r (D.int IntKind.u64 (Int.ofNat (0 : Nat)))) <|
    pf (DLe.r (D.int IntKind.u64 (Int.ofNat (0 : Nat)))) <|
    pf (Eq.refl ((1 : Nat))) <|
    pf (Eq.refl ([D.int IntKind.u64 ↑(limb (0 : Nat) o), D.int IntKind.u64 ↑(limb (1 : Nat) o),
  D.int IntKind.u64 ↑(limb (2 : Nat) o), D.int IntKind.u64 ↑(limb (3 : Nat) o)])) <|
    pf (Eq.refl ((0 : Nat))) <|
    pf (Eq.refl ((0 : Nat))) <|
    pf (Eq.refl ((0 : Nat))) <|
    pf (Eq.refl ((0 : Nat))) <|
    pf (Eq.refl ((0 : Nat))) <|
    pf (Eq.refl ((0 : Nat))) <|
    pf (Eq.refl ((0 : Nat))) <|
    pf (Eq.refl ((0 : Nat))) <|
    pf (Eq.refl ((0 : Nat))) <|
    pf (Eq.refl ((0 : Nat))) <|
    pz) (by kernel_rfl)

/-- Exp: a to the power e, by the way of the code. -/
def expF (p a e : Nat) : Nat := a ^ e % p

theorem mulF_pow (p a : Nat) (k : Nat) : mulF p (a ^ k % p) (a ^ k % p) = a ^ (2 * k) % p := by
  unfold mulF
  rw [← Nat.mul_mod, ← Nat.pow_add, show k + k = 2 * k by omega]

/-- The loop, from any place. -/
theorem exp_loop {p : Nat} (l : Little p) (ad : Nat) : ∀ (e b o : Nat), e < B ^ 4 → b < B ^ 4 → o < B ^ 4 → ∃ b' d, b' < B ^ 4 ∧
    Un PP f_field_Exp.ntmps (loopOf f_field_Exp 0) (.exit 0) (expSt p ad b' 0 (if e = 0 then o else o * b ^ e % p)) d (expSt p ad b e o) := by
  intro e
  induction e using Nat.strongRecOn with
  | _ e ih =>
    intro b o he hb ho
    by_cases h0 : e = 0
    · subst h0
      refine ⟨b, 0, hb, ?_⟩
      rw [if_pos rfl]
      exact .last (by simp) (exp_end p ad b o)
    · have hhalf : e / 2 < e := by omega
      have h4 : e / 2 < B ^ 4 := Nat.lt_trans hhalf he
      rw [if_neg h0]
      by_cases h1 : e % 2 = 1
      · obtain ⟨b', d, hb', t⟩ := ih (e / 2) hhalf (mulF p b b) (mulF p o b) h4 (mulF_lt l b b) (mulF_lt l o b)
        refine ⟨b', d + 1, hb', ?_⟩
        have t2 := Un.step (exp_odd l ad b e o hb he ho h0 h1) t
        have e1 : (if e / 2 = 0 then mulF p o b else mulF p o b * (mulF p b b) ^ (e / 2) % p) = o * b ^ e % p := by
          have e2 : b ^ e = b * (b * b) ^ (e / 2) := by
            rw [← Nat.pow_two, ← Nat.pow_mul, ← Nat.pow_succ', show (2 * (e / 2)).succ = e by omega]
          rw [e2]
          split
          · rename_i hz
            rw [hz, Nat.pow_zero, Nat.mul_one]
            rfl
          · unfold mulF
            rw [Nat.mul_mod, Nat.mod_mod, Nat.pow_mod, Nat.mod_mod, ← Nat.pow_mod, ← Nat.mul_mod, Nat.mul_assoc]
        rw [e1] at t2
        exact t2
      · obtain ⟨b', d, hb', t⟩ := ih (e / 2) hhalf (mulF p b b) o h4 (mulF_lt l b b) ho
        refine ⟨b', d + 1, hb', ?_⟩
        have t2 := Un.step (exp_even l ad b e o hb he h0 h1) t
        have e1 : (if e / 2 = 0 then o else o * (mulF p b b) ^ (e / 2) % p) = o * b ^ e % p := by
          have hz : e / 2 ≠ 0 := by omega
          rw [if_neg hz]
          have e2 : b ^ e = (b * b) ^ (e / 2) := by
            rw [← Nat.pow_two, ← Nat.pow_mul, show 2 * (e / 2) = e by omega]
          rw [e2]
          unfold mulF
          rw [Nat.mul_mod, Nat.pow_mod, Nat.mod_mod, ← Nat.pow_mod, ← Nat.mul_mod]
        rw [e1] at t2
        exact t2

theorem exp_loop' {p : Nat} (l : Little p) (h1 : 1 < p) (ad a e : Nat) (he : e < B ^ 4) : ∃ b', T PP f_field_Exp.ntmps (.loop (loopOf f_field_Exp 0)) (expSt p ad (a % p) e 1) (.exit 0) (expSt p ad b' 0 (expF p a e)) := by
  obtain ⟨b', d, _, h⟩ := exp_loop l ad e (a % p) 1 he (l.mod4 a) (by decide)
  refine ⟨b', ?_⟩
  have e1 : (if e = 0 then 1 else 1 * (a % p) ^ e % p) = expF p a e := by
    unfold expF
    split
    · rename_i h0
      rw [h0, Nat.pow_zero, Nat.mod_eq_of_lt h1]
    · rw [Nat.one_mul, ← Nat.pow_mod]
  rw [e1] at h
  exact h.loop

theorem Exp_of (s : Int) (hs : Sort01 s) (a e b' : Nat) (ha : a < B ^ 4) (t : T PP f_field_Exp.ntmps (.loop (loopOf f_field_Exp 0)) (expSt (pr s) (ad s) (a % pr s) e 1) (.exit 0) (expSt (pr s) (ad s) b' 0 (expF (pr s) a e))) : FnOk PP n_field_Exp [vi s, ve a, ve e] [] (.ret (ve (expF (pr s) a e))) [] :=
  FnOk.by at_field_Exp (by kernel_rfl) ({ o := { call := [(12, ofCall s), (21, callV (ve (a % pr s)))] }, loop := [(0, { pre := expSt (pr s) (ad s) (a % pr s) e 1, e := .exit 0, post := expSt (pr s) (ad s) b' 0 (expF (pr s) a e) })] }) {} [ve (expF (pr s) a e)] rfl (
    pf (of_ok s hs) <|
    pf (by decide : (4 : Nat) ≤ (4 : Nat)) <|
    pf (reduce_ok (little s hs) (ad s) a ha) <|
    pf (by decide : (4 : Nat) ≤ (4 : Nat)) <|
    pf (Eq.refl ((1 : Nat))) <|
    pf (Eq.refl ([D.int IntKind.u64 ↑(limb (0 : Nat) (a % pr s)), D.int IntKind.u64 ↑(limb (1 : Nat) (a % pr s)),
  D.int IntKind.u64 ↑(limb (2 : Nat) (a % pr s)), D.int IntKind.u64 ↑(limb (3 : Nat) (a % pr s))])) <|
    pf (Eq.refl ((1 : Nat))) <|
    pf (Eq.refl ([D.int IntKind.u64 ↑(limb (0 : Nat) e), D.int IntKind.u64 ↑(limb (1 : Nat) e),
  D.int IntKind.u64 ↑(limb (2 : Nat) e), D.int IntKind.u64 ↑(limb (3 : Nat) e)])) <|
    pf (Eq.refl ((1 : Nat))) <|
    pf (Eq.refl ([D.int IntKind.u64 (Int.ofNat (0 : Nat)), D.int IntKind.u64 (Int.ofNat (0 : Nat)),
  D.int IntKind.u64 (Int.ofNat (0 : Nat)), D.int IntKind.u64 (Int.ofNat (0 : Nat))])) <|
    pf (DLe.r (D.int IntKind.u64 ↑(limb (0 : Nat) (pr s)))) <|
    pf (DLe.r (D.int IntKind.u64 ↑(limb (1 : Nat) (pr s)))) <|
    pf (DLe.r (D.int IntKind.u64 ↑(limb (2 : Nat) (pr s)))) <|
    pf (DLe.r (D.int IntKind.u64 ↑(limb (3 : Nat) (pr s)))) <|
    pf (DLe.r (D.int IntKind.i64 ↑(ad s))) <|
    pf (DLe.r (D.int IntKind.u64 ↑(pr s))) <|
    pf (DLe.r (D.int IntKind.u64 (Int.ofNat (0 : Nat)))) <|
    pf (DLe.r (D.int IntKind.u64 (Int.ofNat (0 : Nat)))) <|
    pf (DLe.r (D.int IntKind.u64 (Int.ofNat (0 : Nat)))) <|
    pf (DLe.r (D.int IntKind.u64 (Int.ofNat (0 : Nat)))) <|
    pf (DLe.r (D.int IntKind.u64 (Int.ofNat (0 : Nat)))) <|
    pf (Eq.refl ((1 : Nat))) <|
    pf (Eq.refl ([D.int IntKind.u64 (Int.ofNat (1 : Nat)), D.int IntKind.u64 (Int.ofNat (0 : Nat)),
  D.int IntKind.u64 (Int.ofNat (0 : Nat)), D.int IntKind.u64 (Int.ofNat (0 : Nat))])) <|
    pf (Eq.refl ((0 : Nat))) <|
    pf (Eq.refl ((0 : Nat))) <|
    pf (Eq.refl ((0 : Nat))) <|
    pf (Eq.refl ((0 : Nat))) <|
    pf (Eq.refl ((0 : Nat))) <|
    pf (Eq.refl ((0 : Nat))) <|
    pf (Eq.refl ((0 : Nat))) <|
    pf (Eq.refl ((0 : Nat))) <|
    pf (Eq.refl ((0 : Nat))) <|
    pf (Eq.refl ((0 : Nat))) <|
    pf (t) <|
    pf (by decide : (4 : Nat) ≤ (4 : Nat)) <|
    pf (DLe.r (D.agg
  [D.int IntKind.u64 ↑(limb (0 : Nat) (expF (pr s) a e)), D.int IntKind.u64 ↑(limb (1 : Nat) (expF (pr s) a e)),
    D.int IntKind.u64 ↑(limb (2 : Nat) (expF (pr s) a e)), D.int IntKind.u64 ↑(limb (3 : Nat) (expF (pr s) a e))])) <|
    pz) (by kernel_rfl)

theorem pr_gt (s : Int) : 1 < pr s := by
  unfold pr
  split <;> decide

theorem Exp_ok (s : Int) (hs : Sort01 s) (a e : Nat) (ha : a < B ^ 4) (he : e < B ^ 4) : FnOk PP n_field_Exp [vi s, ve a, ve e] [] (.ret (ve (expF (pr s) a e))) [] := by
  obtain ⟨b', t⟩ := exp_loop' (little s hs) (pr_gt s) (ad s) a e he
  exact Exp_of s hs a e b' ha t

end Go.Sg
