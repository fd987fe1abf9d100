/-
Tests and sums on numbers, told the way the walks meet them.
-/
import Derived.Test.YtlaohcpkecmhnaaOwnPermute

set_option linter.all false

namespace Go.Sg
open Go Go.Own
open Go.Own (V D Wy)

def callP (x : V) : CallO := { hin := [], res := x, hout := [], pure := true }

theorem t_lt (x y : Nat) (h : x < y) : V.d (.bool (decide ((x : Int) < (y : Int)))) = V.d (.bool true) := vbool (decide_eq_true (by omega))
theorem f_lt (x y : Nat) (h : y ≤ x) : V.d (.bool (decide ((x : Int) < (y : Int)))) = V.d (.bool false) := vbool (decide_eq_false (by omega))
theorem t_le (x y : Nat) (h : x ≤ y) : V.d (.bool (decide ((x : Int) ≤ (y : Int)))) = V.d (.bool true) := vbool (decide_eq_true (by omega))
theorem f_le (x y : Nat) (h : y < x) : V.d (.bool (decide ((x : Int) ≤ (y : Int)))) = V.d (.bool false) := vbool (decide_eq_false (by omega))
theorem t_gt (x y : Nat) (h : y < x) : V.d (.bool (decide ((x : Int) > (y : Int)))) = V.d (.bool true) := vbool (decide_eq_true (by omega))
theorem f_gt (x y : Nat) (h : x ≤ y) : V.d (.bool (decide ((x : Int) > (y : Int)))) = V.d (.bool false) := vbool (decide_eq_false (by omega))
theorem t_ge (x y : Nat) (h : y ≤ x) : V.d (.bool (decide ((x : Int) ≥ (y : Int)))) = V.d (.bool true) := vbool (decide_eq_true (by omega))
theorem f_ge (x y : Nat) (h : x < y) : V.d (.bool (decide ((x : Int) ≥ (y : Int)))) = V.d (.bool false) := vbool (decide_eq_false (by omega))
theorem t_eq (x y : Nat) (h : x = y) : V.d (.bool ((x : Int) == (y : Int))) = V.d (.bool true) := by rw [beqN]; exact vbool (decide_eq_true h)
theorem f_eq (x y : Nat) (h : x ≠ y) : V.d (.bool ((x : Int) == (y : Int))) = V.d (.bool false) := by rw [beqN]; exact vbool (decide_eq_false h)
theorem t_ne (x y : Nat) (h : x ≠ y) : V.d (.bool ((x : Int) != (y : Int))) = V.d (.bool true) := by rw [bneN]; exact vbool (decide_eq_true h)
theorem f_ne (x y : Nat) (h : x = y) : V.d (.bool ((x : Int) != (y : Int))) = V.d (.bool false) := by rw [bneN]; exact vbool (decide_eq_false (by simp [h]))

/-! The same on integers. -/
theorem ti_lt (x y : Int) (h : x < y) : V.d (.bool (decide (x < y))) = V.d (.bool true) := vbool (decide_eq_true h)
theorem fi_lt (x y : Int) (h : y ≤ x) : V.d (.bool (decide (x < y))) = V.d (.bool false) := vbool (decide_eq_false (by omega))
theorem ti_le (x y : Int) (h : x ≤ y) : V.d (.bool (decide (x ≤ y))) = V.d (.bool true) := vbool (decide_eq_true h)
theorem fi_le (x y : Int) (h : y < x) : V.d (.bool (decide (x ≤ y))) = V.d (.bool false) := vbool (decide_eq_false (by omega))
theorem ti_gt (x y : Int) (h : y < x) : V.d (.bool (decide (x > y))) = V.d (.bool true) := vbool (decide_eq_true h)
theorem fi_gt (x y : Int) (h : x ≤ y) : V.d (.bool (decide (x > y))) = V.d (.bool false) := vbool (decide_eq_false (by omega))
theorem ti_ge (x y : Int) (h : y ≤ x) : V.d (.bool (decide (x ≥ y))) = V.d (.bool true) := vbool (decide_eq_true h)
theorem fi_ge (x y : Int) (h : x < y) : V.d (.bool (decide (x ≥ y))) = V.d (.bool false) := vbool (decide_eq_false (by omega))
theorem ti_eq (x y : Int) (h : x = y) : V.d (.bool (x == y)) = V.d (.bool true) := by subst h; exact vbool (by simp)
theorem fi_eq (x y : Int) (h : x ≠ y) : V.d (.bool (x == y)) = V.d (.bool false) := vbool (by simpa using h)
theorem ti_ne (x y : Int) (h : x ≠ y) : V.d (.bool (x != y)) = V.d (.bool true) := vbool (by simpa using h)
theorem fi_ne (x y : Int) (h : x = y) : V.d (.bool (x != y)) = V.d (.bool false) := by subst h; exact vbool (by simp)

/-! Elements. -/
theorem limbs_ext (x y : Nat) (hx : x < B ^ 4) (hy : y < B ^ 4) (h0 : limb 0 x = limb 0 y) (h1 : limb 1 x = limb 1 y) (h2 : limb 2 x = limb 2 y) (h3 : limb 3 x = limb 3 y) : x = y := by
  have e1 := elem_num x
  have e2 := elem_num y
  rw [Nat.mod_eq_of_lt hx] at e1
  rw [Nat.mod_eq_of_lt hy] at e2
  rw [e1, e2, h0, h1, h2, h3]

theorem t_eqE (x y : Nat) (h : x = y) : V.d (.bool (((limb 0 x : Int) == (limb 0 y : Int)) && (((limb 1 x : Int) == (limb 1 y : Int)) && (((limb 2 x : Int) == (limb 2 y : Int)) && (((limb 3 x : Int) == (limb 3 y : Int)) && true))))) = V.d (.bool true) := by
  subst h; exact vbool (by simp)
theorem f_eqE (x y : Nat) (hx : x < B ^ 4) (hy : y < B ^ 4) (h : x ≠ y) : V.d (.bool (((limb 0 x : Int) == (limb 0 y : Int)) && (((limb 1 x : Int) == (limb 1 y : Int)) && (((limb 2 x : Int) == (limb 2 y : Int)) && (((limb 3 x : Int) == (limb 3 y : Int)) && true))))) = V.d (.bool false) := by
  refine vbool ?_
  rw [beqN, beqN, beqN, beqN]
  by_cases h0 : limb 0 x = limb 0 y <;> by_cases h1 : limb 1 x = limb 1 y <;> by_cases h2 : limb 2 x = limb 2 y <;> by_cases h3 : limb 3 x = limb 3 y <;> simp only [h0, h1, h2, h3, decide_true, decide_false, Bool.true_and, Bool.false_and]
  exact absurd (limbs_ext x y hx hy h0 h1 h2 h3) h

theorem eqC (x c : Nat) (hx : x < B ^ 4) (hc : c < B) : (((limb 0 x : Int) == (c : Int)) && (((limb 1 x : Int) == ((0 : Nat) : Int)) && (((limb 2 x : Int) == ((0 : Nat) : Int)) && (((limb 3 x : Int) == ((0 : Nat) : Int)) && true)))) = decide (x = c) := by
  obtain ⟨c0, c1, c2, c3⟩ := limb_small c hc
  rw [beqN, beqN, beqN, beqN]
  by_cases h : x = c
  · subst h
    simp [c0, c1, c2, c3]
  · rw [decide_eq_false h]
    by_cases h0 : limb 0 x = c <;> by_cases h1 : limb 1 x = 0 <;> by_cases h2 : limb 2 x = 0 <;> by_cases h3 : limb 3 x = 0 <;> simp only [h0, h1, h2, h3, decide_true, decide_false, Bool.true_and, Bool.false_and]
    exact absurd (limbs_ext x c hx (Nat.lt_trans hc (by decide)) (by rw [h0, c0]) (by rw [h1, c1]) (by rw [h2, c2]) (by rw [h3, c3])) h
theorem t_eqC (x c : Nat) (hx : x < B ^ 4) (hc : c < B) (h : x = c) : V.d (.bool (((limb 0 x : Int) == (c : Int)) && (((limb 1 x : Int) == ((0 : Nat) : Int)) && (((limb 2 x : Int) == ((0 : Nat) : Int)) && (((limb 3 x : Int) == ((0 : Nat) : Int)) && true))))) = V.d (.bool true) := by
  rw [eqC x c hx hc]; exact vbool (decide_eq_true h)
theorem f_eqC (x c : Nat) (hx : x < B ^ 4) (hc : c < B) (h : x ≠ c) : V.d (.bool (((limb 0 x : Int) == (c : Int)) && (((limb 1 x : Int) == ((0 : Nat) : Int)) && (((limb 2 x : Int) == ((0 : Nat) : Int)) && (((limb 3 x : Int) == ((0 : Nat) : Int)) && true))))) = V.d (.bool false) := by
  rw [eqC x c hx hc]; exact vbool (decide_eq_false h)

theorem t_not {b : Bool} (h : V.d (.bool b) = V.d (.bool false)) : V.d (.bool (!b)) = V.d (.bool true) := by
  simp only [V.d.injEq, D.bool.injEq] at h; subst h; rfl
theorem f_not {b : Bool} (h : V.d (.bool b) = V.d (.bool true)) : V.d (.bool (!b)) = V.d (.bool false) := by
  simp only [V.d.injEq, D.bool.injEq] at h; subst h; rfl

/-! Sums. -/
theorem i_add (a b : Nat) (h : a + b < 9223372036854775808) : DLe (.int .i64 (IntKind.i64.wrap ((a : Int) + (b : Int)))) (i ((a + b : Nat) : Int)) := iLe (by rw [wrapI _ (by omega) (by omega)]; omega)
theorem i_sub (a b : Nat) (h : b ≤ a) (ha : a < 9223372036854775808) : DLe (.int .i64 (IntKind.i64.wrap ((a : Int) - (b : Int)))) (i ((a - b : Nat) : Int)) := iLe (by rw [wrapI _ (by omega) (by omega)]; omega)
theorem i_mul (a b : Nat) (h : a * b < 9223372036854775808) : DLe (.int .i64 (IntKind.i64.wrap ((a : Int) * (b : Int)))) (i ((a * b : Nat) : Int)) := iLe (by rw [wrapI _ (by omega) (by omega)]; simp)
theorem i_shl1 (k : Nat) (h : k ≤ 9) : DLe (.int .i64 (IntKind.i64.wrap (((1 : Nat) : Int) * ((2 : Nat) : Int) ^ min ((k : Int).toNat) 64))) (i ((2 ^ k : Nat) : Int)) := iLe (shl1 k h)
theorem i_shl1' (k : Nat) (h : k ≤ 9) : DLe (.int .i64 (IntKind.i64.wrap (((1 : Nat) : Int) * ((2 : Nat) : Int) ^ min k 64))) (i ((2 ^ k : Nat) : Int)) := by
  have := shl1 k h
  rw [Int.toNat_natCast] at this
  exact iLe this
theorem u_add (a b : Nat) (h : a + b < 18446744073709551616) : DLe (.int .u64 (IntKind.u64.wrap ((a : Int) + (b : Int)))) (u (a + b)) := by
  rw [← Int.natCast_add, wrapU_lt _ h]; exact DLe.r _
theorem u_mul (a b : Nat) (h : a * b < 18446744073709551616) : DLe (.int .u64 (IntKind.u64.wrap ((a : Int) * (b : Int)))) (u (a * b)) := by
  rw [← Int.natCast_mul, wrapU_lt _ h]; exact DLe.r _
theorem u_of_i (a : Nat) (h : a < 18446744073709551616) : DLe (.int .u64 (IntKind.u64.wrap (a : Int))) (u a) := by rw [wrapU_lt _ h]; exact DLe.r _
theorem i_of_u (a : Nat) (h : a < 9223372036854775808) : DLe (.int .i64 (IntKind.i64.wrap (a : Int))) (i (a : Int)) := by rw [wrapI _ (by omega) (by omega)]; exact DLe.r _
theorem i_wrap (a : Int) (h0 : -9223372036854775808 ≤ a) (h : a < 9223372036854775808) : DLe (.int .i64 (IntKind.i64.wrap a)) (i a) := by rw [wrapI _ (by omega) (by omega)]; exact DLe.r _

theorem fdivN (a b : Nat) : (a : Int).fdiv (b : Int) = ((a / b : Nat) : Int) := by
  rw [Int.fdiv_eq_ediv_of_nonneg _ (by omega)]; rfl
theorem i_half (a b : Nat) (h : a / b < 9223372036854775808) : DLe (.int .i64 (IntKind.i64.wrap ((a : Int).fdiv (b : Int)))) (i ((a / b : Nat) : Int)) := by
  rw [fdivN]
  generalize a / b = c at h ⊢
  exact iLe (wrapI _ (by omega) (by omega))

theorem bool_le {b c : Bool} (h : V.d (D.bool b) = V.d (D.bool c)) : DLe (.bool b) (.bool c) := by
  simp only [V.d.injEq, D.bool.injEq] at h; subst h; exact DLe.r _

theorem i_mod (a b : Nat) : DLe (.int .i64 ((a : Int).tmod (b : Int))) (i ((a % b : Nat) : Int)) := DLe.r _
theorem i_quo (a b : Nat) : DLe (.int .i64 ((a : Int).tdiv (b : Int))) (i ((a / b : Nat) : Int)) := DLe.r _
theorem i_quo_w (a b : Nat) (h : a / b < 9223372036854775808) : DLe (.int .i64 (IntKind.i64.wrap ((a : Int).tdiv (b : Int)))) (i ((a / b : Nat) : Int)) := by
  have e : (a : Int).tdiv (b : Int) = ((a / b : Nat) : Int) := rfl
  rw [e]
  generalize a / b = c at h ⊢
  exact iLe (wrapI _ (by omega) (by omega))

/-! Within bounds. -/
theorem in_vc (j n : Nat) (h : j < n) : (((0 : Nat) : Int) ≤ (j : Int)) ∧ (j : Int) < (n : Int) := ⟨by omega, by omega⟩
theorem nn_le (j : Nat) : ((0 : Nat) : Int) ≤ (j : Int) := by omega

theorem flat_d (x : D) (h : x.flat = true) : FlatOut (.d x) [] := ⟨h, fun p hp => by cases hp⟩

theorem flat_t2 (x y : D) (h : x.flat = true) (h2 : y.flat = true) : FlatOut (.tup [.d x, .d y]) [] := ⟨by simp [V.flat, V.flatL, h, h2], fun p hp => by cases hp⟩

theorem small4 (a : Nat) (h : a < 4294967296) : a < B ^ 4 := Nat.lt_trans h (by decide)

theorem nil_sl (n : Nat) : NilLe (.sl n []) := NilLe.sl n
theorem nil_plain : PlainE [] := fun e he => by cases he

theorem bnd_no (n : Nat) : bndP none none none n := ⟨by simp, by simp, by simp, by simp, fun _ => rfl⟩
theorem bnd_lo (a n : Nat) (h : a ≤ n) : bndP (some (a : Int)) none none n := ⟨by simp, by simp; omega, by simp, by simp, fun _ => rfl⟩
theorem bnd_hi (b n : Nat) (h : b ≤ n) : bndP none (some (b : Int)) none n := ⟨by simp, by simp, by simp; omega, by simp, fun h => by cases h⟩
theorem bnd_lohi (a b n : Nat) (h : a ≤ b) (h2 : b ≤ n) : bndP (some (a : Int)) (some (b : Int)) none n := ⟨by simp, by simp; omega, by simp; omega, by simp, fun h => by cases h⟩
theorem bnd_all (a b c n : Nat) (h : a ≤ b) (h2 : b ≤ c) (h3 : c ≤ n) : bndP (some (a : Int)) (some (b : Int)) (some (c : Int)) n := ⟨by simp, by simp; omega, by simp; omega, by simp; omega, fun h => by cases h⟩

theorem t_dec (p : Prop) [Decidable p] (h : p) : V.d (.bool (decide p)) = V.d (.bool true) := vbool (decide_eq_true h)
theorem f_dec (p : Prop) [Decidable p] (h : ¬ p) : V.d (.bool (decide p)) = V.d (.bool false) := vbool (decide_eq_false h)

/-! A loop over a list. -/
theorem T_fold {n : Nat} {c : Code} {e : AExit} (he : e ≠ .normal) {α β : Type} (xs : List α) (f : β → α → β) (I : β → Prop) (st : β → Nat → Own.St) (post : β → Own.St) (b0 : β) (h0 : I b0)
    (hI : ∀ b x, I b → x ∈ xs → I (f b x)) (round : ∀ (j : Nat) (x : α) (b : β), xs[j]? = some x → I b → T PP n c (st b j) .normal (st (f b x) (j + 1))) (last : ∀ b, I b → T PP n c (st b xs.length) e (post b)) :
    T PP n (.loop c) (st b0 0) e (post (xs.foldl f b0)) := by
  have hI' : ∀ j, j ≤ xs.length → I ((xs.take j).foldl f b0) := by
    intro j
    induction j with
    | zero => intro _; simpa using h0
    | succ j ih =>
      intro hj
      have hx : xs[j]? = some xs[j] := List.getElem?_eq_getElem (by omega)
      rw [List.take_add_one, hx, Option.toList_some, List.foldl_append]
      exact hI _ _ (ih (by omega)) (List.getElem_mem _)
  have t := T.loopN (P := PP) (n := n) (c := c) he (s' := post (xs.foldl f b0)) (fun j => st ((xs.take j).foldl f b0) j) xs.length (fun j hj => ?_) ?_
  · simpa using t
  · have hx : xs[j]? = some xs[j] := List.getElem?_eq_getElem hj
    have := round j xs[j] _ hx (hI' j (by omega))
    rw [List.take_add_one, hx, Option.toList_some, List.foldl_append]
    exact this
  · rw [List.take_length]
    have := hI' xs.length (Nat.le_refl _)
    rw [List.take_length] at this
    exact last _ this

end Go.Sg
