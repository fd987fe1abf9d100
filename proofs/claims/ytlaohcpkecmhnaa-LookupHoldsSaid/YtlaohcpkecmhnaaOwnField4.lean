/-
Contracts: halves, Inv, Root. (Laid by wip/tools/fill.py out of a text of our own.)
-/
import Derived.Test.YtlaohcpkecmhnaaOwnField3

set_option linter.all false

namespace Go.Sg
open Go Go.Own
open Go.Own (V D Wy)

def hvSt (a k j : Nat) : Own.St := { t := [(2, .ptr 2 0 0), (4, .ptr 4 0 0), (5, vi k), (6, vi j)], h := [(2, .row 1 (limbs (a / 2 ^ j))), (4, .row 1 (limbs 0))] }

theorem half_pow (a j : Nat) (ha : a < B ^ 4) : FnOk PP n_field_half [ve (a / 2 ^ j)] [] (.ret (ve (a / 2 ^ (j + 1)))) [] := by
  have := half_ok (a / 2 ^ j) (Nat.lt_of_le_of_lt (Nat.div_le_self _ _) ha)
  rw [Nat.div_div_eq_div_mul, ← Nat.pow_succ] at this
  exact this

theorem lt_test (x y : Nat) (b : Bool) (h : decide (x < y) = b) : V.d (.bool (decide ((x : Int) < (y : Int)))) = V.d (.bool b) := by
  refine vbool ?_
  rw [← h]
  exact decide_eq_decide.2 (by omega)

theorem iLe {x : Int} {y : Int} (h : x = y) : DLe (.int .i64 x) (i y) := by subst h; exact DLe.r _

theorem succ_i (j : Nat) (h : j < 9223372036854775807) : IntKind.i64.wrap ((j : Int) + Int.ofNat 1) = ((j + 1 : Nat) : Int) := by
  rw [show Int.ofNat 1 = (1 : Int) from rfl, wrapI _ (by omega) (by omega)]
  omega

theorem hv_round (a k j : Nat) (ha : a < B ^ 4) (hj : j < k) (hk : k ≤ 9223372036854775807) : T PP f_field_halves.ntmps (loopOf f_field_halves 0) (hvSt a k j) .normal (hvSt a k (j + 1)) :=
  T.by ({ o := { br := [(7, true)], call := [(9, callV (ve (a / 2 ^ (j + 1))))] } }) 0 {} (
    pf (lt_test j k true (decide_eq_true hj)) <|
    pf (half_pow a j ha) <|
    pf (by decide : (4 : Nat) ≤ (4 : Nat)) <|
    pf (Eq.refl ((1 : Nat))) <|
    pf (Eq.refl ([D.int IntKind.u64 ↑(limb (0 : Nat) (a / (2 : Nat) ^ (j + (1 : Nat)))),
  D.int IntKind.u64 ↑(limb (1 : Nat) (a / (2 : Nat) ^ (j + (1 : Nat)))),
  D.int IntKind.u64 ↑(limb (2 : Nat) (a / (2 : Nat) ^ (j + (1 : Nat)))),
  D.int IntKind.u64 ↑(limb (3 : Nat) (a / (2 : Nat) ^ (j + (1 : Nat))))])) <|
    pf (Eq.refl ((1 : Nat))) <|
    pf (Eq.refl ([D.int IntKind.u64 (Int.ofNat (0 : Nat)), D.int IntKind.u64 (Int.ofNat (0 : Nat)),
  D.int IntKind.u64 (Int.ofNat (0 : Nat)), D.int IntKind.u64 (Int.ofNat (0 : Nat))])) <|
    pf (Eq.refl ((0 : Nat))) <|
    pf (Eq.refl ((0 : Nat))) <|
    pf (Eq.refl ((0 : Nat))) <|
    pf (Eq.refl ((0 : Nat))) <|
    pf (DLe.r (D.int IntKind.i64 ↑k)) <|
    pf (iLe (succ_i j (by omega))) <|
    pz) (by kernel_rfl)

theorem hv_end (a k : Nat) : T PP f_field_halves.ntmps (loopOf f_field_halves 0) (hvSt a k k) (.exit 0) (hvSt a k k) :=
  T.by ({ o := { br := [(7, false)] } }) 0 {} (
    pf (lt_test k k false (by simp)) <|
    pf (Eq.refl ((1 : Nat))) <|
    pf (Eq.refl ([D.int IntKind.u64 ↑(limb (0 : Nat) (a / (2 : Nat) ^ k)),
  D.int IntKind.u64 ↑(limb (1 : Nat) (a / (2 : Nat) ^ k)), D.int IntKind.u64 ↑(limb (2 : Nat) (a / (2 : Nat) ^ k)),
  D.int IntKind.u64 ↑(limb (3 : Nat) (a / (2 : Nat) ^ k))])) <|
    pf (Eq.refl ((1 : Nat))) <|
    pf (Eq.refl ([D.int IntKind.u64 (Int.ofNat (0 : Nat)), D.int IntKind.u64 (Int.ofNat (0 : Nat)),
  D.int IntKind.u64 (Int.ofNat (0 : Nat)), D.int IntKind.u64 (Int.ofNat (0 : Nat))])) <|
    pf (Eq.refl ((0 : Nat))) <|
    pf (Eq.refl ((0 : Nat))) <|
    pf (Eq.refl ((0 : Nat))) <|
    pf (Eq.refl ((0 : Nat))) <|
    pf (DLe.r (D.int IntKind.i64 ↑k)) <|
    pf (DLe.r (D.int IntKind.i64 ↑k)) <|
    pz) (by kernel_rfl)

theorem hv_loop (a k : Nat) (ha : a < B ^ 4) (hk : k ≤ 9223372036854775807) : T PP f_field_halves.ntmps (.loop (loopOf f_field_halves 0)) (hvSt a k 0) (.exit 0) (hvSt a k k) :=
  T.loopN (by simp) (hvSt a k) k (fun j hj => hv_round a k j ha hj hk) (hv_end a k)

theorem halves_ok (a k : Nat) (ha : a < B ^ 4) (hk : k ≤ 9223372036854775807) : FnOk PP n_field_halves [ve a, vi k] [] (.ret (ve (a / 2 ^ k))) [] :=
  FnOk.by at_field_halves (by kernel_rfl) ({ loop := [(0, { pre := hvSt a k 0, e := .exit 0, post := hvSt a k k })] }) {} [ve (a / 2 ^ k)] rfl (
    pf (Eq.refl ((1 : Nat))) <|
    pf (congrArg limbs (by rw [Nat.pow_zero, Nat.div_one] : a = a / 2 ^ 0)) <|
    pf (Eq.refl ((1 : Nat))) <|
    pf (Eq.refl ([D.int IntKind.u64 (Int.ofNat (0 : Nat)), D.int IntKind.u64 (Int.ofNat (0 : Nat)),
  D.int IntKind.u64 (Int.ofNat (0 : Nat)), D.int IntKind.u64 (Int.ofNat (0 : Nat))])) <|
    pf (Eq.refl ((0 : Nat))) <|
    pf (Eq.refl ((0 : Nat))) <|
    pf (Eq.refl ((0 : Nat))) <|
    pf (Eq.refl ((0 : Nat))) <|
    pf (DLe.r (D.int IntKind.i64 ↑k)) <|
    pf (DLe.r (D.int IntKind.i64 (Int.ofNat (0 : Nat)))) <|
    pf (hv_loop a k ha hk) <|
    pf (by decide : (4 : Nat) ≤ (4 : Nat)) <|
    pf (DLe.r (D.agg
  [D.int IntKind.u64 ↑(limb (0 : Nat) (a / (2 : Nat) ^ k)), D.int IntKind.u64 ↑(limb (1 : Nat) (a / (2 : Nat) ^ k)),
    D.int IntKind.u64 ↑(limb (2 : Nat) (a / (2 : Nat) ^ k)),
    D.int IntKind.u64 ↑(limb (3 : Nat) (a / (2 : Nat) ^ k))])) <|
    pz) (by kernel_rfl)

def z4 (x y : Nat) : Bool := (((limb 0 x : Int) == (limb 0 y : Int)) && (((limb 1 x : Int) == (limb 1 y : Int)) && (((limb 2 x : Int) == (limb 2 y : Int)) && (((limb 3 x : Int) == (limb 3 y : Int)) && true))))

theorem is_zero (e : Nat) (he : e < B ^ 4) (b : Bool) (h : decide (e = 0) = b) : V.d (.bool (((limb 0 e : Int) == Int.ofNat 0) && (((limb 1 e : Int) == Int.ofNat 0) && (((limb 2 e : Int) == Int.ofNat 0) && (((limb 3 e : Int) == Int.ofNat 0) && true))))) = V.d (.bool b) := by
  rw [limbs_zero e he, h]

theorem sub_small (p c : Nat) (hp : p < B ^ 4) (hc : c < B) (h : c ≤ p) : FnOk PP n_word_Sub [ve p, .d (.agg [u c, u 0, u 0, u 0])] [] (.ret (.tup [ve (p - c), vb false])) [] := by
  rw [elem_u c hc]
  exact word_Sub_le p c hp h

theorem Inv_zero (s : Int) (hs : Sort01 s) (a : Nat) (ha : a < B ^ 4) (h : a % pr s = 0) : FnOk PP n_field_Inv [vi s, ve a] [] (.ret (.tup [ve 0, vi 10])) [] :=
  FnOk.by at_field_Inv (by kernel_rfl) ({ o := { br := [(23, true)], call := [(12, ofCall s), (21, callV (ve (a % pr s)))] } }) {} [ve 0, vi 10] rfl (
    pf (of_ok s hs) <|
    pf (reduce_ok (little s hs) (ad s) a ha) <|
    pf (is_zero (a % pr s) ((little s hs).mod4 a) true (by simp [h])) <|
    pf (by decide : (4 : Nat) ≤ (4 : Nat)) <|
    pf (DLe.r (D.agg
  [D.int IntKind.u64 (Int.ofNat (0 : Nat)), D.int IntKind.u64 (Int.ofNat (0 : Nat)),
    D.int IntKind.u64 (Int.ofNat (0 : Nat)), D.int IntKind.u64 (Int.ofNat (0 : Nat))])) <|
    pf (DLe.r (D.int IntKind.i64 (Int.ofNat (10 : Nat)))) <|
    pz) (by kernel_rfl)

theorem pr_gt2 (s : Int) : 2 ≤ pr s := by
  unfold pr
  split <;> decide

theorem Inv_ok (s : Int) (hs : Sort01 s) (a : Nat) (ha : a < B ^ 4) (h : a % pr s ≠ 0) : FnOk PP n_field_Inv [vi s, ve a] [] (.ret (.tup [ve (expF (pr s) a (pr s - 2)), vi 0])) [] :=
  FnOk.by at_field_Inv (by kernel_rfl) ({ o := { br := [(23, false)], call := [(12, ofCall s), (21, callV (ve (a % pr s))), (29, callV (.tup [ve (pr s - 2), vb false])), (35, callV (ve (expF (pr s) a (pr s - 2))))] } }) {} [ve (expF (pr s) a (pr s - 2)), vi 0] rfl (
    pf (of_ok s hs) <|
    pf (reduce_ok (little s hs) (ad s) a ha) <|
    pf (is_zero (a % pr s) ((little s hs).mod4 a) false (by simp [h])) <|
    pf (sub_small (pr s) 2 (little s hs).lt4 (by decide) (pr_gt2 s)) <|
    pf (by decide : (4 : Nat) ≤ (4 : Nat)) <|
    pf (Exp_ok s hs a (pr s - 2) ha (Nat.lt_of_le_of_lt (Nat.sub_le _ _) (little s hs).lt4)) <|
    pf (by decide : (4 : Nat) ≤ (4 : Nat)) <|
    pf (DLe.r (D.agg
  [D.int IntKind.u64 ↑(limb (0 : Nat) (expF (pr s) a (pr s - (2 : Nat)))),
    D.int IntKind.u64 ↑(limb (1 : Nat) (expF (pr s) a (pr s - (2 : Nat)))),
    D.int IntKind.u64 ↑(limb (2 : Nat) (expF (pr s) a (pr s - (2 : Nat)))),
    D.int IntKind.u64 ↑(limb (3 : Nat) (expF (pr s) a (pr s - (2 : Nat))))])) <|
    pf (DLe.r (D.int IntKind.i64 (Int.ofNat (0 : Nat)))) <|
    pz) (by kernel_rfl)

theorem exp5 (s : Int) (hs : Sort01 s) (e : Nat) (he : e < B ^ 4) : FnOk PP n_field_Exp [vi s, .d (.agg [u 5, u 0, u 0, u 0]), ve e] [] (.ret (ve (expF (pr s) 5 e))) [] := by
  rw [elem_u 5 (by decide)]
  exact Exp_ok s hs 5 e (by decide) he

theorem lt0_test (k : Nat) : V.d (.bool (decide ((k : Int) < Int.ofNat 0))) = V.d (.bool false) := by
  refine vbool (decide_eq_false ?_)
  have : Int.ofNat 0 = (0 : Int) := rfl
  omega

theorem gt_test (k m : Nat) (h : k ≤ m) : V.d (.bool (decide ((k : Int) > (m : Int)))) = V.d (.bool false) :=
  vbool (decide_eq_false (by omega))

theorem Root_ok (s : Int) (hs : Sort01 s) (k : Nat) (hk : k ≤ ad s) (hk2 : k ≤ 100) : FnOk PP n_field_Root [vi s, vi k] [] (.ret (.tup [ve (expF (pr s) 5 ((pr s - 1) / 2 ^ k)), vi 0])) [] :=
  FnOk.by at_field_Root (by kernel_rfl) ({ o := { br := [(20, false), (21, false), (26, false)], call := [(12, ofCall s), (32, callV (.tup [ve (pr s - 1), vb false])), (39, callV (ve ((pr s - 1) / 2 ^ k))), (40, callV (ve (expF (pr s) 5 ((pr s - 1) / 2 ^ k))))] } }) {} [ve (expF (pr s) 5 ((pr s - 1) / 2 ^ k)), vi 0] rfl (
    pf (of_ok s hs) <|
    pf (lt0_test k) <|
    pf (lt0_test k) <|
    pf (lt0_test k) <|
    pf (lt0_test k) <|
    pf (lt0_test k) <|
    pf (gt_test k (ad s) hk) <|
    pf (sub_small (pr s) 1 (little s hs).lt4 (by decide) (Nat.le_of_lt (pr_gt s))) <|
    pf (by decide : (4 : Nat) ≤ (4 : Nat)) <|
    pf (halves_ok (pr s - 1) k (Nat.lt_of_le_of_lt (Nat.sub_le _ _) (little s hs).lt4) (by omega)) <|
    pf (exp5 s hs ((pr s - 1) / 2 ^ k) (Nat.lt_of_le_of_lt (Nat.div_le_self _ _) (Nat.lt_of_le_of_lt (Nat.sub_le _ _) (little s hs).lt4))) <|
    pf (by decide : (4 : Nat) ≤ (4 : Nat)) <|
    pf (DLe.r (D.agg
  [D.int IntKind.u64 ↑(limb (0 : Nat) (expF (pr s) (5 : Nat) ((pr s - (1 : Nat)) / (2 : Nat) ^ k))),
    D.int IntKind.u64 ↑(limb (1 : Nat) (expF (pr s) (5 : Nat) ((pr s - (1 : Nat)) / (2 : Nat) ^ k))),
    D.int IntKind.u64 ↑(limb (2 : Nat) (expF (pr s) (5 : Nat) ((pr s - (1 : Nat)) / (2 : Nat) ^ k))),
    D.int IntKind.u64 ↑(limb (3 : Nat) (expF (pr s) (5 : Nat) ((pr s - (1 : Nat)) / (2 : Nat) ^ k)))])) <|
    pf (DLe.r (D.int IntKind.i64 (Int.ofNat (0 : Nat)))) <|
    pz) (by kernel_rfl)

end Go.Sg
