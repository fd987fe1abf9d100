/-
Contracts of package domain: the little fields. (Laid by wip/tools/fill.py out of a text of our own.)
-/
import Derived.Test.YtlaohcpkecmhnaaOwnField4

set_option linter.all false

namespace Go.Sg
open Go Go.Own
open Go.Own (V D Wy)

theorem gt9_test (k : Nat) (h : k ≤ 9) : V.d (.bool (decide ((k : Int) > Int.ofNat 9))) = V.d (.bool false) := by
  refine vbool (decide_eq_false ?_)
  have : Int.ofNat 9 = (9 : Int) := rfl
  omega

theorem check_ok (s : Int) (hs : Sort01 s) (k : Nat) (hk : k ≤ 9) : FnOk PP n_domain_check [vi s, vi k] [] (.ret (vi 0)) [] :=
  FnOk.by at_domain_check (by kernel_rfl) ({ o := { br := [(16, false), (17, false), (20, false)], call := [(9, callV (.tup [ve (pr s), vi 0]))] } }) {} [vi 0] rfl (
    pf (Modulus_ok s hs) <|
    pf (by decide : (4 : Nat) ≤ (4 : Nat)) <|
    pf (lt0_test k) <|
    pf (lt0_test k) <|
    pf (lt0_test k) <|
    pf (gt9_test k hk) <|
    pf (DLe.r (D.int IntKind.i64 (Int.ofNat (0 : Nat)))) <|
    pz) (by kernel_rfl)

/-- The powers of x times a, as the code makes them. -/
def pw (p a x : Nat) : Nat → Nat
  | 0 => a
  | j + 1 => mulF p (pw p a x j) x

def pws (p a x n : Nat) : List D := (List.range n).map fun j => elem (pw p a x j)

theorem pw_lt {p : Nat} (l : Little p) (a x : Nat) (ha : a < B ^ 4) (j : Nat) : pw p a x j < B ^ 4 := by
  cases j with
  | zero => exact ha
  | succ j => exact mulF_lt l _ _

def pwSt (s : Int) (a x n j : Nat) : Own.St := { t := [(0, vi s), (5, .ptr 5 0 0), (6, .ptr 6 0 0), (9, .ref 12 0 (some n) (some n)), (14, vi n), (15, vi j)], h := [(5, .row 1 (limbs (pw (pr s) a x j))), (6, .row 1 (limbs x)), (12, .row 4 (pws (pr s) a x j ++ List.replicate (n - j) (elem 0)))] }

theorem pws_len (p a x n : Nat) : (pws p a x n).length = n := by simp [pws]

theorem pws_set (p a x n j : Nat) (hj : j < n) : (pws p a x j ++ List.replicate (n - j) (elem 0)).set (j : Int).toNat (elem (pw p a x j)) = pws p a x (j + 1) ++ List.replicate (n - (j + 1)) (elem 0) := by
  have e : n - j = (n - (j + 1)) + 1 := by omega
  rw [Int.toNat_natCast, e, List.replicate_succ]
  rw [List.set_append_right _ _ (by rw [pws_len]; omega), pws_len, Nat.sub_self, List.set_cons_zero]
  unfold pws
  rw [List.range_succ, List.map_append, List.append_assoc]
  rfl

theorem pws_in (p a x n j : Nat) (hj : j < n) : (j : Int).toNat < (pws p a x j ++ List.replicate (n - j) (elem 0)).length := by
  rw [List.length_append, pws_len, List.length_replicate, Int.toNat_natCast]
  omega

theorem in_n (j n : Nat) (h : j < n) : (Int.ofNat 0 ≤ (j : Int)) ∧ (j : Int) < (n : Int) := ⟨Int.natCast_nonneg j, by omega⟩

theorem pw_round (s : Int) (hs : Sort01 s) (a x n j : Nat) (ha : a < B ^ 4) (hx : x < B ^ 4) (hj : j < n) (hn : n ≤ 9223372036854775807) : T PP f_domain_powers.ntmps (loopOf f_domain_powers 0) (pwSt s a x n j) .normal (pwSt s a x n (j + 1)) :=
  T.by ({ o := { br := [(16, true)], call := [(25, callV (ve (pw (pr s) a x (j + 1))))] } }) 0 {} (
    pf (lt_test j n true (decide_eq_true hj)) <|
    pf (in_n j n hj) <|
    pf (pws_in (pr s) a x n j hj) <|
    pf (Mul_ok s hs (pw (pr s) a x j) x (pw_lt (little s hs) a x ha j) hx) <|
    pf (by decide : (4 : Nat) ≤ (4 : Nat)) <|
    pf (Eq.refl ((1 : Nat))) <|
    pf (Eq.refl ([D.int IntKind.u64 (↑(limb (0 : Nat) (pw (pr s) a x (j + (1 : Nat)))) : Int),
  D.int IntKind.u64 (↑(limb (1 : Nat) (pw (pr s) a x (j + (1 : Nat)))) : Int),
  D.int IntKind.u64 (↑(limb (2 : Nat) (pw (pr s) a x (j + (1 : Nat)))) : Int),
  D.int IntKind.u64 (↑(limb (3 : Nat) (pw (pr s) a x (j + (1 : Nat)))) : Int)])) <|
    pf (Eq.refl ((1 : Nat))) <|
    pf (Eq.refl ([D.int IntKind.u64 (↑(limb (0 : Nat) x) : Int), D.int IntKind.u64 (↑(limb (1 : Nat) x) : Int),
  D.int IntKind.u64 (↑(limb (2 : Nat) x) : Int), D.int IntKind.u64 (↑(limb (3 : Nat) x) : Int)])) <|
    pf (Eq.refl ((4 : Nat))) <|
    pf (pws_set (pr s) a x n j hj) <|
    pf (DLe.r (D.int IntKind.i64 s)) <|
    pf (Eq.refl ((0 : Nat))) <|
    pf (Eq.refl ((0 : Nat))) <|
    pf (Eq.refl ((0 : Nat))) <|
    pf (Eq.refl ((0 : Nat))) <|
    pf (Eq.refl ((0 : Nat))) <|
    pf (Eq.refl (n)) <|
    pf (Eq.refl (n)) <|
    pf (DLe.r (D.int IntKind.i64 (↑n : Int))) <|
    pf (iLe (succ_i j (by omega))) <|
    pz) (by kernel_rfl)

theorem pw_end (s : Int) (a x n : Nat) : T PP f_domain_powers.ntmps (loopOf f_domain_powers 0) (pwSt s a x n n) (.exit 0) (pwSt s a x n n) :=
  T.by ({ o := { br := [(16, false)] } }) 0 {} (
    pf (lt_test n n false (by simp)) <|
    pf (Eq.refl ((1 : Nat))) <|
    pf (Eq.refl ([D.int IntKind.u64 (↑(limb (0 : Nat) (pw (pr s) a x n)) : Int),
  D.int IntKind.u64 (↑(limb (1 : Nat) (pw (pr s) a x n)) : Int),
  D.int IntKind.u64 (↑(limb (2 : Nat) (pw (pr s) a x n)) : Int),
  D.int IntKind.u64 (↑(limb (3 : Nat) (pw (pr s) a x n)) : Int)])) <|
    pf (Eq.refl ((1 : Nat))) <|
    pf (Eq.refl ([D.int IntKind.u64 (↑(limb (0 : Nat) x) : Int), D.int IntKind.u64 (↑(limb (1 : Nat) x) : Int),
  D.int IntKind.u64 (↑(limb (2 : Nat) x) : Int), D.int IntKind.u64 (↑(limb (3 : Nat) x) : Int)])) <|
    pf (Eq.refl ((4 : Nat))) <|
    pf (Eq.refl (pws (pr s) a x n ++
  List.replicate (n - n)
    (D.agg
      [D.int IntKind.u64 (Int.ofNat (0 : Nat)), D.int IntKind.u64 (Int.ofNat (0 : Nat)),
        D.int IntKind.u64 (Int.ofNat (0 : Nat)), D.int IntKind.u64 (Int.ofNat (0 : Nat))]))) <|
    pf (DLe.r (D.int IntKind.i64 s)) <|
    pf (Eq.refl ((0 : Nat))) <|
    pf (Eq.refl ((0 : Nat))) <|
    pf (Eq.refl ((0 : Nat))) <|
    pf (Eq.refl ((0 : Nat))) <|
    pf (Eq.refl ((0 : Nat))) <|
    pf (Eq.refl (n)) <|
    pf (Eq.refl (n)) <|
    pf (DLe.r (D.int IntKind.i64 (↑n : Int))) <|
    pf (DLe.r (D.int IntKind.i64 (↑n : Int))) <|
    pz) (by kernel_rfl)


theorem pw_loop (s : Int) (hs : Sort01 s) (a x n : Nat) (ha : a < B ^ 4) (hx : x < B ^ 4) (hn : n ≤ 9223372036854775807) : T PP f_domain_powers.ntmps (.loop (loopOf f_domain_powers 0)) (pwSt s a x n 0) (.exit 0) (pwSt s a x n n) :=
  T.loopN (by simp) (pwSt s a x n) n (fun j hj => pw_round s hs a x n j ha hx hj hn) (pw_end s a x n)

theorem mk_n (n : Nat) (h : n ≤ 1000) : Int.ofNat 0 ≤ (n : Int) ∧ (n : Int) * Int.ofNat 32 ≤ Int.ofNat 281474976710656 := by
  have e1 : Int.ofNat 0 = (0 : Int) := rfl
  have e2 : Int.ofNat 32 = (32 : Int) := rfl
  have e3 : Int.ofNat 281474976710656 = (281474976710656 : Int) := rfl
  rw [e1, e2, e3]
  omega
theorem rp0 (p a x n : Nat) : List.replicate (n : Int).toNat (elem 0) = pws p a x 0 ++ List.replicate (n - 0) (elem 0) := by
  rw [Int.toNat_natCast, Nat.sub_zero]
  rfl
theorem rp_len (n : Nat) : (List.replicate (n : Int).toNat (elem 0)).length - 0 = n := by simp
theorem rp_len' (n : Nat) : (((List.replicate (n : Int).toNat (elem 0)).length : Nat) : Int) = (n : Int) := by simp
theorem pws_take (p a x n : Nat) : (pws p a x n ++ List.replicate (n - n) (elem 0)).take n = pws p a x n := by
  rw [Nat.sub_self, List.replicate_zero, List.append_nil, List.take_of_length_le (by rw [pws_len]; exact Nat.le_refl _)]

theorem powers_ok (s : Int) (hs : Sort01 s) (a x n : Nat) (ha : a < B ^ 4) (hx : x < B ^ 4) (hn : n ≤ 1000) : FnOk PP n_domain_powers [vi s, ve a, ve x, vi n] [] (.ret (.d (.sl 4 (pws (pr s) a x n)))) [] :=
  FnOk.by at_domain_powers (by kernel_rfl) ({ loop := [(0, { pre := pwSt s a x n 0, e := .exit 0, post := pwSt s a x n n })] }) {} [.d (.sl 4 (pws (pr s) a x n))] rfl (
    pf (Eq.refl ((↑n : Int))) <|
    pf (mk_n n hn) <|
    pf (Eq.refl ((1 : Nat))) <|
    pf ((rfl : limbs a = limbs (pw (pr s) a x 0))) <|
    pf (Eq.refl ((1 : Nat))) <|
    pf (Eq.refl ([D.int IntKind.u64 (↑(limb (0 : Nat) x) : Int), D.int IntKind.u64 (↑(limb (1 : Nat) x) : Int),
  D.int IntKind.u64 (↑(limb (2 : Nat) x) : Int), D.int IntKind.u64 (↑(limb (3 : Nat) x) : Int)])) <|
    pf (Eq.refl ((4 : Nat))) <|
    pf (rp0 (pr s) a x n) <|
    pf (DLe.r (D.int IntKind.i64 s)) <|
    pf (Eq.refl ((0 : Nat))) <|
    pf (Eq.refl ((0 : Nat))) <|
    pf (Eq.refl ((0 : Nat))) <|
    pf (Eq.refl ((0 : Nat))) <|
    pf (Eq.refl ((0 : Nat))) <|
    pf (rp_len n) <|
    pf (Int.toNat_natCast n) <|
    pf (iLe (rp_len' n)) <|
    pf (DLe.r (D.int IntKind.i64 (Int.ofNat (0 : Nat)))) <|
    pf (pw_loop s hs a x n ha hx (by omega)) <|
    pf (DLe.of_eq (congrArg (D.sl 4) (pws_take (pr s) a x n))) <|
    pz) (by kernel_rfl)

/-- The root of order 2^k. -/
def rootF (s : Int) (k : Nat) : Nat := expF (pr s) 5 ((pr s - 1) / 2 ^ k)
def pts (s : Int) (k : Nat) : List D := pws (pr s) 1 (rootF s k) (2 ^ k)

theorem ad_ge (s : Int) : 9 ≤ ad s := by unfold ad; split <;> decide

theorem two_le (k : Nat) (hk : k ≤ 9) : 2 ^ k ≤ 512 := Nat.pow_le_pow_right (by decide) hk

theorem powers1 (s : Int) (hs : Sort01 s) (k : Nat) (hk : k ≤ 9) (m : Int) (hm : m = ((2 ^ k : Nat) : Int)) : FnOk PP n_domain_powers [vi s, .d (.agg [u 1, u 0, u 0, u 0]), ve (rootF s k), vi m] [] (.ret (.d (.sl 4 (pts s k)))) [] := by
  rw [elem_u 1 (by decide), hm]
  exact powers_ok s hs 1 (rootF s k) (2 ^ k) (by decide) ((little s hs).mod4 _) (Nat.le_trans (two_le k hk) (by decide))

theorem shl1 (k : Nat) (hk : k ≤ 9) : IntKind.i64.wrap (Int.ofNat 1 * Int.ofNat 2 ^ min (k : Int).toNat 64) = ((2 ^ k : Nat) : Int) := by
  have h := two_le k hk
  rw [Int.toNat_natCast, Nat.min_eq_left (by omega), show Int.ofNat 1 = (1 : Int) from rfl, show Int.ofNat 2 = (2 : Int) from rfl, Int.one_mul]
  have e : (2 : Int) ^ k = ((2 ^ k : Nat) : Int) := by simp
  rw [e]
  generalize (2 ^ k : Nat) = m at h ⊢
  exact wrapI _ (by omega) (by omega)

theorem Points_ok (s : Int) (hs : Sort01 s) (k : Nat) (hk : k ≤ 9) : FnOk PP n_domain_Points [vi s, vi k] [] (.ret (.tup [.d (.sl 4 (pts s k)), vi 0])) [] :=
  FnOk.by at_domain_Points (by kernel_rfl) ({ o := { call := [(11, callV (vi 0)), (18, callV (.tup [ve (rootF s k), vi 0])), (26, callV (.d (.sl 4 (pts s k))))] } }) {} [.d (.sl 4 (pts s k)), vi 0] rfl (
    pf (check_ok s hs k hk) <|
    pf (Root_ok s hs k (Nat.le_trans hk (ad_ge s)) (by omega)) <|
    pf (by decide : (4 : Nat) ≤ (4 : Nat)) <|
    pf PP_mixed <|
    pf ((Int.natCast_nonneg k : Int.ofNat 0 ≤ (k : Int))) <|
    pf (powers1 s hs k hk _ (shl1 k hk)) <|
    pf (DLe.r (D.sl (4 : Nat) (pts s k))) <|
    pf (DLe.r (D.int IntKind.i64 (Int.ofNat (0 : Nat)))) <|
    pz) (by kernel_rfl)

/-- x^(2^k) - 1. -/
def vanF (s : Int) (k x : Nat) : Nat := subF (pr s) (expF (pr s) x (2 ^ k)) 1

theorem shl1u (k : Nat) (hk : k ≤ 9) : IntKind.u64.wrap (Int.ofNat 1 * Int.ofNat 2 ^ min (k : Int).toNat 64) = ((2 ^ k : Nat) : Int) := by
  have h := two_le k hk
  rw [Int.toNat_natCast, Nat.min_eq_left (by omega), show Int.ofNat 1 = (1 : Int) from rfl, show Int.ofNat 2 = (2 : Int) from rfl, Int.one_mul]
  have e : (2 : Int) ^ k = ((2 ^ k : Nat) : Int) := by simp
  rw [e]
  exact wrapU_lt _ (Nat.lt_of_le_of_lt h (by decide))

theorem exp_sh (s : Int) (hs : Sort01 s) (x k : Nat) (hx : x < B ^ 4) (hk : k ≤ 9) (m : Int) (hm : m = ((2 ^ k : Nat) : Int)) : FnOk PP n_field_Exp [vi s, ve x, .d (.agg [.int .u64 m, u 0, u 0, u 0])] [] (.ret (ve (expF (pr s) x (2 ^ k)))) [] := by
  subst hm
  have hb : 2 ^ k < B := Nat.lt_of_le_of_lt (two_le k hk) (by decide)
  have := Exp_ok s hs x (2 ^ k) hx (Nat.lt_trans hb (by decide))
  unfold ve at this
  rw [← elem_u _ hb] at this
  exact this

theorem sub_one (s : Int) (hs : Sort01 s) (a : Nat) (ha : a < B ^ 4) : FnOk PP n_field_Sub [vi s, ve a, .d (.agg [u 1, u 0, u 0, u 0])] [] (.ret (ve (subF (pr s) a 1))) [] := by
  rw [elem_u 1 (by decide)]
  exact Sub_ok s hs a 1 ha (by decide)

theorem Vanish_ok (s : Int) (hs : Sort01 s) (k x : Nat) (hk : k ≤ 9) (hx : x < B ^ 4) : FnOk PP n_domain_Vanish [vi s, vi k, ve x] [] (.ret (.tup [ve (vanF s k x), vi 0])) [] :=
  FnOk.by at_domain_Vanish (by kernel_rfl) ({ o := { call := [(11, callV (vi 0)), (22, callV (ve (expF (pr s) x (2 ^ k)))), (24, callV (ve (vanF s k x)))] } }) {} [ve (vanF s k x), vi 0] rfl (
    pf (check_ok s hs k hk) <|
    pf PP_mixed <|
    pf ((Int.natCast_nonneg k : Int.ofNat 0 ≤ (k : Int))) <|
    pf (exp_sh s hs x k hx hk _ (shl1u k hk)) <|
    pf (sub_one s hs (expF (pr s) x (2 ^ k)) ((little s hs).mod4 _)) <|
    pf (by decide : (4 : Nat) ≤ (4 : Nat)) <|
    pf (DLe.r (D.agg
  [D.int IntKind.u64 (↑(limb (0 : Nat) (vanF s k x)) : Int), D.int IntKind.u64 (↑(limb (1 : Nat) (vanF s k x)) : Int),
    D.int IntKind.u64 (↑(limb (2 : Nat) (vanF s k x)) : Int),
    D.int IntKind.u64 (↑(limb (3 : Nat) (vanF s k x)) : Int)])) <|
    pf (DLe.r (D.int IntKind.i64 (Int.ofNat (0 : Nat)))) <|
    pz) (by kernel_rfl)

end Go.Sg
