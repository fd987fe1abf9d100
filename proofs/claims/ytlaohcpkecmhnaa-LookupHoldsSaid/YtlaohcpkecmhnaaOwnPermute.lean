/-
Contracts of package permute: the little fields. (Laid by wip/tools/fill.py out of a text of our own.)
-/
import Derived.Test.YtlaohcpkecmhnaaOwnLagrange

set_option linter.all false

namespace Go.Sg
open Go Go.Own
open Go.Own (V D Wy)

theorem lt3_test (k : Nat) (h : 3 ≤ k) : V.d (.bool (decide ((k : Int) < Int.ofNat 3))) = V.d (.bool false) := by
  refine vbool (decide_eq_false ?_)
  have : Int.ofNat 3 = (3 : Int) := rfl
  omega
theorem gt5_test (k : Nat) (h : k ≤ 5) : V.d (.bool (decide ((k : Int) > Int.ofNat 5))) = V.d (.bool false) := by
  refine vbool (decide_eq_false ?_)
  have : Int.ofNat 5 = (5 : Int) := rfl
  omega

theorem size_ok (s : Int) (hs : Sort01 s) (k : Nat) (hk : 3 ≤ k) (hk2 : k ≤ 5) : FnOk PP n_permute_size [vi s, vi k] [] (.ret (vi 0)) [] :=
  FnOk.by at_permute_size (by kernel_rfl) ({ o := { br := [(16, false), (17, false), (20, false)], call := [(9, callV (.tup [ve (pr s), vi 0]))] } }) {} [vi 0] rfl (
    pf (Modulus_ok s hs) <|
    pf (by decide : (4 : Nat) ≤ (4 : Nat)) <|
    pf (lt3_test k hk) <|
    pf (lt3_test k hk) <|
    pf (lt3_test k hk) <|
    pf (gt5_test k hk2) <|
    pf (DLe.r (D.int IntKind.i64 (Int.ofNat (0 : Nat)))) <|
    pz) (by kernel_rfl)

/-! ### Place -/
def spotL (x f l w : Nat) : List D := [u (limb 0 x), u (limb 1 x), u (limb 2 x), u (limb 3 x), u (limb 0 f), u (limb 1 f), u (limb 2 f), u (limb 3 f), u (limb 0 l), u (limb 1 l), u (limb 2 l), u (limb 3 l), u (limb 0 w), u (limb 1 w), u (limb 2 w), u (limb 3 w)]
def vspot (x f l w : Nat) : V := .d (.agg (spotL x f l w))
def spotV (x f l w : Nat) : List V := [vu (limb 0 x), vu (limb 1 x), vu (limb 2 x), vu (limb 3 x), vu (limb 0 f), vu (limb 1 f), vu (limb 2 f), vu (limb 3 f), vu (limb 0 l), vu (limb 1 l), vu (limb 2 l), vu (limb 3 l), vu (limb 0 w), vu (limb 1 w), vu (limb 2 w), vu (limb 3 w)]

def plSt (s : Int) (k q x j y f l w : Nat) : Own.St := { t := [(0, vi s), (1, vi k), (5, .ptr 5 0 0), (6, .ptr 6 0 0), (9, vi q), (10, .ptr 10 0 0), (30, vi (q + 1 : Nat)), (31, vi j)], h := [(5, .row 1 (limbs x)), (6, .box (spotV 0 0 0 0)), (10, .box (spotV y f l w))] }

theorem eq_test (x y : Nat) (b : Bool) (h : decide (x = y) = b) : V.d (.bool ((x : Int) == (y : Int))) = V.d (.bool b) := by
  rw [beqN, h]
theorem lagF_lt (s : Int) (hs : Sort01 s) (k j x : Nat) : lagF s k j x < B ^ 4 := by
  unfold lagF
  split
  · decide
  · exact mulF_lt (little s hs) _ _

theorem pl_round0 (s : Int) (hs : Sort01 s) (k q x y f l w : Nat) (hk : k ≤ 9) (hx : x < B ^ 4) (hw : w < B ^ 4) (hq : 0 < q) (hq2 : q < 2 ^ k) : T PP f_permute_Place.ntmps (loopOf f_permute_Place 0) (plSt s k q x 0 y f l w) .normal (plSt s k q x 1 y (lagF s k 0 x) l (addF (pr s) w (lagF s k 0 x))) :=
  T.by ({ o := { br := [(32, true), (43, true), (48, false)], call := [(39, callV (.tup [ve (lagF s k 0 x), vi 0])), (55, callV (ve (addF (pr s) w (lagF s k 0 x))))] } }) 0 {} (
    pf (lt_test 0 (q + 1) true (decide_eq_true (by omega))) <|
    pf (Lagrange_ok s hs k 0 x hk (by omega) hx) <|
    pf (by decide : (4 : Nat) ≤ (4 : Nat)) <|
    pf (Eq.refl (V.d (D.bool true))) <|
    pf (eq_test 0 q false (decide_eq_false (by omega))) <|
    pf (Add_ok s hs w (lagF s k 0 x) hw (lagF_lt s hs k 0 x)) <|
    pf (Eq.refl ((1 : Nat))) <|
    pf (Eq.refl ([D.int IntKind.u64 (↑(limb (0 : Nat) x) : Int), D.int IntKind.u64 (↑(limb (1 : Nat) x) : Int),
  D.int IntKind.u64 (↑(limb (2 : Nat) x) : Int), D.int IntKind.u64 (↑(limb (3 : Nat) x) : Int)])) <|
    pf (DLe.r (D.int IntKind.u64 (Int.ofNat (0 : Nat)))) <|
    pf (DLe.r (D.int IntKind.u64 (Int.ofNat (0 : Nat)))) <|
    pf (DLe.r (D.int IntKind.u64 (Int.ofNat (0 : Nat)))) <|
    pf (DLe.r (D.int IntKind.u64 (Int.ofNat (0 : Nat)))) <|
    pf (DLe.r (D.int IntKind.u64 (Int.ofNat (0 : Nat)))) <|
    pf (DLe.r (D.int IntKind.u64 (Int.ofNat (0 : Nat)))) <|
    pf (DLe.r (D.int IntKind.u64 (Int.ofNat (0 : Nat)))) <|
    pf (DLe.r (D.int IntKind.u64 (Int.ofNat (0 : Nat)))) <|
    pf (DLe.r (D.int IntKind.u64 (Int.ofNat (0 : Nat)))) <|
    pf (DLe.r (D.int IntKind.u64 (Int.ofNat (0 : Nat)))) <|
    pf (DLe.r (D.int IntKind.u64 (Int.ofNat (0 : Nat)))) <|
    pf (DLe.r (D.int IntKind.u64 (Int.ofNat (0 : Nat)))) <|
    pf (DLe.r (D.int IntKind.u64 (Int.ofNat (0 : Nat)))) <|
    pf (DLe.r (D.int IntKind.u64 (Int.ofNat (0 : Nat)))) <|
    pf (DLe.r (D.int IntKind.u64 (Int.ofNat (0 : Nat)))) <|
    pf (DLe.r (D.int IntKind.u64 (Int.ofNat (0 : Nat)))) <|
    pf (DLe.r (D.int IntKind.u64 (↑(limb (0 : Nat) y) : Int))) <|
    pf (DLe.r (D.int IntKind.u64 (↑(limb (1 : Nat) y) : Int))) <|
    pf (DLe.r (D.int IntKind.u64 (↑(limb (2 : Nat) y) : Int))) <|
    pf (DLe.r (D.int IntKind.u64 (↑(limb (3 : Nat) y) : Int))) <|
    pf (DLe.r (D.int IntKind.u64 (↑(limb (0 : Nat) (lagF s k (0 : Nat) x)) : Int))) <|
    pf (DLe.r (D.int IntKind.u64 (↑(limb (1 : Nat) (lagF s k (0 : Nat) x)) : Int))) <|
    pf (DLe.r (D.int IntKind.u64 (↑(limb (2 : Nat) (lagF s k (0 : Nat) x)) : Int))) <|
    pf (DLe.r (D.int IntKind.u64 (↑(limb (3 : Nat) (lagF s k (0 : Nat) x)) : Int))) <|
    pf (DLe.r (D.int IntKind.u64 (↑(limb (0 : Nat) l) : Int))) <|
    pf (DLe.r (D.int IntKind.u64 (↑(limb (1 : Nat) l) : Int))) <|
    pf (DLe.r (D.int IntKind.u64 (↑(limb (2 : Nat) l) : Int))) <|
    pf (DLe.r (D.int IntKind.u64 (↑(limb (3 : Nat) l) : Int))) <|
    pf (DLe.r (D.int IntKind.u64 (↑(limb (0 : Nat) (addF (pr s) w (lagF s k (0 : Nat) x))) : Int))) <|
    pf (DLe.r (D.int IntKind.u64 (↑(limb (1 : Nat) (addF (pr s) w (lagF s k (0 : Nat) x))) : Int))) <|
    pf (DLe.r (D.int IntKind.u64 (↑(limb (2 : Nat) (addF (pr s) w (lagF s k (0 : Nat) x))) : Int))) <|
    pf (DLe.r (D.int IntKind.u64 (↑(limb (3 : Nat) (addF (pr s) w (lagF s k (0 : Nat) x))) : Int))) <|
    pf (DLe.r (D.int IntKind.i64 s)) <|
    pf (DLe.r (D.int IntKind.i64 (↑k : Int))) <|
    pf (Eq.refl ((0 : Nat))) <|
    pf (Eq.refl ((0 : Nat))) <|
    pf (Eq.refl ((0 : Nat))) <|
    pf (Eq.refl ((0 : Nat))) <|
    pf (DLe.r (D.int IntKind.i64 (↑q : Int))) <|
    pf (Eq.refl ((0 : Nat))) <|
    pf (Eq.refl ((0 : Nat))) <|
    pf (DLe.r (D.int IntKind.i64 (↑(q + (1 : Nat)) : Int))) <|
    pf (DLe.r (D.int IntKind.i64 (Int.ofNat (1 : Nat)))) <|
    pz) (by kernel_rfl)

theorem pl_round (s : Int) (hs : Sort01 s) (k q x j y f l w : Nat) (hk : k ≤ 9) (hx : x < B ^ 4) (hw : w < B ^ 4) (h0 : 0 < j) (hq : j < q) (hq2 : q < 2 ^ k) (hb : q ≤ 1000) : T PP f_permute_Place.ntmps (loopOf f_permute_Place 0) (plSt s k q x j y f l w) .normal (plSt s k q x (j + 1) y f l (addF (pr s) w (lagF s k j x))) :=
  T.by ({ o := { br := [(32, true), (43, false), (48, false)], call := [(39, callV (.tup [ve (lagF s k j x), vi 0])), (55, callV (ve (addF (pr s) w (lagF s k j x))))] } }) 0 {} (
    pf (lt_test j (q + 1) true (decide_eq_true (by omega))) <|
    pf (Lagrange_ok s hs k j x hk (by omega) hx) <|
    pf (by decide : (4 : Nat) ≤ (4 : Nat)) <|
    pf (eq_test j 0 false (decide_eq_false (by omega))) <|
    pf (eq_test j q false (decide_eq_false (by omega))) <|
    pf (Add_ok s hs w (lagF s k j x) hw (lagF_lt s hs k j x)) <|
    pf (Eq.refl ((1 : Nat))) <|
    pf (Eq.refl ([D.int IntKind.u64 (↑(limb (0 : Nat) x) : Int), D.int IntKind.u64 (↑(limb (1 : Nat) x) : Int),
  D.int IntKind.u64 (↑(limb (2 : Nat) x) : Int), D.int IntKind.u64 (↑(limb (3 : Nat) x) : Int)])) <|
    pf (DLe.r (D.int IntKind.u64 (Int.ofNat (0 : Nat)))) <|
    pf (DLe.r (D.int IntKind.u64 (Int.ofNat (0 : Nat)))) <|
    pf (DLe.r (D.int IntKind.u64 (Int.ofNat (0 : Nat)))) <|
    pf (DLe.r (D.int IntKind.u64 (Int.ofNat (0 : Nat)))) <|
    pf (DLe.r (D.int IntKind.u64 (Int.ofNat (0 : Nat)))) <|
    pf (DLe.r (D.int IntKind.u64 (Int.ofNat (0 : Nat)))) <|
    pf (DLe.r (D.int IntKind.u64 (Int.ofNat (0 : Nat)))) <|
    pf (DLe.r (D.int IntKind.u64 (Int.ofNat (0 : Nat)))) <|
    pf (DLe.r (D.int IntKind.u64 (Int.ofNat (0 : Nat)))) <|
    pf (DLe.r (D.int IntKind.u64 (Int.ofNat (0 : Nat)))) <|
    pf (DLe.r (D.int IntKind.u64 (Int.ofNat (0 : Nat)))) <|
    pf (DLe.r (D.int IntKind.u64 (Int.ofNat (0 : Nat)))) <|
    pf (DLe.r (D.int IntKind.u64 (Int.ofNat (0 : Nat)))) <|
    pf (DLe.r (D.int IntKind.u64 (Int.ofNat (0 : Nat)))) <|
    pf (DLe.r (D.int IntKind.u64 (Int.ofNat (0 : Nat)))) <|
    pf (DLe.r (D.int IntKind.u64 (Int.ofNat (0 : Nat)))) <|
    pf (DLe.r (D.int IntKind.u64 (↑(limb (0 : Nat) y) : Int))) <|
    pf (DLe.r (D.int IntKind.u64 (↑(limb (1 : Nat) y) : Int))) <|
    pf (DLe.r (D.int IntKind.u64 (↑(limb (2 : Nat) y) : Int))) <|
    pf (DLe.r (D.int IntKind.u64 (↑(limb (3 : Nat) y) : Int))) <|
    pf (DLe.r (D.int IntKind.u64 (↑(limb (0 : Nat) f) : Int))) <|
    pf (DLe.r (D.int IntKind.u64 (↑(limb (1 : Nat) f) : Int))) <|
    pf (DLe.r (D.int IntKind.u64 (↑(limb (2 : Nat) f) : Int))) <|
    pf (DLe.r (D.int IntKind.u64 (↑(limb (3 : Nat) f) : Int))) <|
    pf (DLe.r (D.int IntKind.u64 (↑(limb (0 : Nat) l) : Int))) <|
    pf (DLe.r (D.int IntKind.u64 (↑(limb (1 : Nat) l) : Int))) <|
    pf (DLe.r (D.int IntKind.u64 (↑(limb (2 : Nat) l) : Int))) <|
    pf (DLe.r (D.int IntKind.u64 (↑(limb (3 : Nat) l) : Int))) <|
    pf (DLe.r (D.int IntKind.u64 (↑(limb (0 : Nat) (addF (pr s) w (lagF s k j x))) : Int))) <|
    pf (DLe.r (D.int IntKind.u64 (↑(limb (1 : Nat) (addF (pr s) w (lagF s k j x))) : Int))) <|
    pf (DLe.r (D.int IntKind.u64 (↑(limb (2 : Nat) (addF (pr s) w (lagF s k j x))) : Int))) <|
    pf (DLe.r (D.int IntKind.u64 (↑(limb (3 : Nat) (addF (pr s) w (lagF s k j x))) : Int))) <|
    pf (DLe.r (D.int IntKind.i64 s)) <|
    pf (DLe.r (D.int IntKind.i64 (↑k : Int))) <|
    pf (Eq.refl ((0 : Nat))) <|
    pf (Eq.refl ((0 : Nat))) <|
    pf (Eq.refl ((0 : Nat))) <|
    pf (Eq.refl ((0 : Nat))) <|
    pf (DLe.r (D.int IntKind.i64 (↑q : Int))) <|
    pf (Eq.refl ((0 : Nat))) <|
    pf (Eq.refl ((0 : Nat))) <|
    pf (DLe.r (D.int IntKind.i64 (↑(q + (1 : Nat)) : Int))) <|
    pf (iLe (succ_i j (by omega))) <|
    pz) (by kernel_rfl)

theorem pl_last (s : Int) (hs : Sort01 s) (k q x y f l w : Nat) (hk : k ≤ 9) (hx : x < B ^ 4) (hq : 0 < q) (hq2 : q < 2 ^ k) : T PP f_permute_Place.ntmps (loopOf f_permute_Place 0) (plSt s k q x q y f l w) (.exit 0) (plSt s k q x q y f (lagF s k q x) w) :=
  T.by ({ o := { br := [(32, true), (43, false), (48, true)], call := [(39, callV (.tup [ve (lagF s k q x), vi 0]))] } }) 0 {} (
    pf (lt_test q (q + 1) true (decide_eq_true (by omega))) <|
    pf (Lagrange_ok s hs k q x hk hq2 hx) <|
    pf (by decide : (4 : Nat) ≤ (4 : Nat)) <|
    pf (eq_test q 0 false (decide_eq_false (by omega))) <|
    pf (eq_test q q true (decide_eq_true rfl)) <|
    pf (Eq.refl ((1 : Nat))) <|
    pf (Eq.refl ([D.int IntKind.u64 (↑(limb (0 : Nat) x) : Int), D.int IntKind.u64 (↑(limb (1 : Nat) x) : Int),
  D.int IntKind.u64 (↑(limb (2 : Nat) x) : Int), D.int IntKind.u64 (↑(limb (3 : Nat) x) : Int)])) <|
    pf (DLe.r (D.int IntKind.u64 (Int.ofNat (0 : Nat)))) <|
    pf (DLe.r (D.int IntKind.u64 (Int.ofNat (0 : Nat)))) <|
    pf (DLe.r (D.int IntKind.u64 (Int.ofNat (0 : Nat)))) <|
    pf (DLe.r (D.int IntKind.u64 (Int.ofNat (0 : Nat)))) <|
    pf (DLe.r (D.int IntKind.u64 (Int.ofNat (0 : Nat)))) <|
    pf (DLe.r (D.int IntKind.u64 (Int.ofNat (0 : Nat)))) <|
    pf (DLe.r (D.int IntKind.u64 (Int.ofNat (0 : Nat)))) <|
    pf (DLe.r (D.int IntKind.u64 (Int.ofNat (0 : Nat)))) <|
    pf (DLe.r (D.int IntKind.u64 (Int.ofNat (0 : Nat)))) <|
    pf (DLe.r (D.int IntKind.u64 (Int.ofNat (0 : Nat)))) <|
    pf (DLe.r (D.int IntKind.u64 (Int.ofNat (0 : Nat)))) <|
    pf (DLe.r (D.int IntKind.u64 (Int.ofNat (0 : Nat)))) <|
    pf (DLe.r (D.int IntKind.u64 (Int.ofNat (0 : Nat)))) <|
    pf (DLe.r (D.int IntKind.u64 (Int.ofNat (0 : Nat)))) <|
    pf (DLe.r (D.int IntKind.u64 (Int.ofNat (0 : Nat)))) <|
    pf (DLe.r (D.int IntKind.u64 (Int.ofNat (0 : Nat)))) <|
    pf (DLe.r (D.int IntKind.u64 (↑(limb (0 : Nat) y) : Int))) <|
    pf (DLe.r (D.int IntKind.u64 (↑(limb (1 : Nat) y) : Int))) <|
    pf (DLe.r (D.int IntKind.u64 (↑(limb (2 : Nat) y) : Int))) <|
    pf (DLe.r (D.int IntKind.u64 (↑(limb (3 : Nat) y) : Int))) <|
    pf (DLe.r (D.int IntKind.u64 (↑(limb (0 : Nat) f) : Int))) <|
    pf (DLe.r (D.int IntKind.u64 (↑(limb (1 : Nat) f) : Int))) <|
    pf (DLe.r (D.int IntKind.u64 (↑(limb (2 : Nat) f) : Int))) <|
    pf (DLe.r (D.int IntKind.u64 (↑(limb (3 : Nat) f) : Int))) <|
    pf (DLe.r (D.int IntKind.u64 (↑(limb (0 : Nat) (lagF s k q x)) : Int))) <|
    pf (DLe.r (D.int IntKind.u64 (↑(limb (1 : Nat) (lagF s k q x)) : Int))) <|
    pf (DLe.r (D.int IntKind.u64 (↑(limb (2 : Nat) (lagF s k q x)) : Int))) <|
    pf (DLe.r (D.int IntKind.u64 (↑(limb (3 : Nat) (lagF s k q x)) : Int))) <|
    pf (DLe.r (D.int IntKind.u64 (↑(limb (0 : Nat) w) : Int))) <|
    pf (DLe.r (D.int IntKind.u64 (↑(limb (1 : Nat) w) : Int))) <|
    pf (DLe.r (D.int IntKind.u64 (↑(limb (2 : Nat) w) : Int))) <|
    pf (DLe.r (D.int IntKind.u64 (↑(limb (3 : Nat) w) : Int))) <|
    pf (DLe.r (D.int IntKind.i64 s)) <|
    pf (DLe.r (D.int IntKind.i64 (↑k : Int))) <|
    pf (Eq.refl ((0 : Nat))) <|
    pf (Eq.refl ((0 : Nat))) <|
    pf (Eq.refl ((0 : Nat))) <|
    pf (Eq.refl ((0 : Nat))) <|
    pf (DLe.r (D.int IntKind.i64 (↑q : Int))) <|
    pf (Eq.refl ((0 : Nat))) <|
    pf (Eq.refl ((0 : Nat))) <|
    pf (DLe.r (D.int IntKind.i64 (↑(q + (1 : Nat)) : Int))) <|
    pf (DLe.r (D.int IntKind.i64 (↑q : Int))) <|
    pz) (by kernel_rfl)

/-- The usable rows' sum. -/
def usF (s : Int) (k x : Nat) : Nat → Nat
  | 0 => 0
  | j + 1 => addF (pr s) (usF s k x j) (lagF s k j x)

def fiF (s : Int) (k x : Nat) : Nat → Nat
  | 0 => 0
  | _ + 1 => lagF s k 0 x

theorem usF_lt (s : Int) (hs : Sort01 s) (k x j : Nat) : usF s k x j < B ^ 4 := by
  cases j with
  | zero => exact (by decide : 0 < B ^ 4)
  | succ j => exact addF_lt (little s hs) _ _

theorem pl_loop (s : Int) (hs : Sort01 s) (k q x y : Nat) (hk : k ≤ 9) (hx : x < B ^ 4) (hq : 0 < q) (hq2 : q < 2 ^ k) (hb : q ≤ 1000) :
    T PP f_permute_Place.ntmps (.loop (loopOf f_permute_Place 0)) (plSt s k q x 0 y 0 0 0) (.exit 0) (plSt s k q x q y (fiF s k x q) (lagF s k q x) (usF s k x q)) := by
  refine T.loopN (by simp) (fun j => plSt s k q x j y (fiF s k x j) 0 (usF s k x j)) q (fun j hj => ?_) (pl_last s hs k q x y _ _ _ hk hx hq hq2)
  cases j with
  | zero => exact pl_round0 s hs k q x y 0 0 0 hk hx (by decide) hq hq2
  | succ j => exact pl_round s hs k q x (j + 1) y _ _ _ hk hx (usF_lt s hs k x (j + 1)) (by omega) hj hq2 hb

/-- The spot that Place answers. -/
def placeF (s : Int) (k x : Nat) : V := vspot (addF (pr s) x 0) (lagF s k 0 x) (lagF s k (2 ^ k - 4) x) (usF s k x (2 ^ k - 4))

theorem add_zero' (s : Int) (hs : Sort01 s) (x : Nat) (hx : x < B ^ 4) : FnOk PP n_field_Add [vi s, ve x, .d (.agg [u 0, u 0, u 0, u 0])] [] (.ret (ve (addF (pr s) x 0))) [] := by
  rw [elem_0]
  exact Add_ok s hs x 0 hx (by decide)

theorem four_le (k : Nat) (hk : 3 ≤ k) (hk2 : k ≤ 9) : 8 ≤ 2 ^ k ∧ 2 ^ k ≤ 512 := ⟨Nat.pow_le_pow_right (n := 2) (by decide) hk, two_le k hk2⟩

theorem pl_u (k : Nat) (hk : 3 ≤ k) (hk2 : k ≤ 9) : IntKind.i64.wrap (IntKind.i64.wrap (Int.ofNat 1 * Int.ofNat 2 ^ min (k : Int).toNat 64) - Int.ofNat 4) = ((2 ^ k - 4 : Nat) : Int) := by
  rw [shl1 k hk2, show Int.ofNat 4 = (4 : Int) from rfl]
  have h := four_le k hk hk2
  generalize (2 ^ k : Nat) = m at h ⊢
  rw [wrapI _ (by omega) (by omega)]
  omega

theorem pl_u1 (k : Nat) (hk : 3 ≤ k) (hk2 : k ≤ 9) : IntKind.i64.wrap (IntKind.i64.wrap (IntKind.i64.wrap (Int.ofNat 1 * Int.ofNat 2 ^ min (k : Int).toNat 64) - Int.ofNat 4) + Int.ofNat 1) = ((2 ^ k - 4 + 1 : Nat) : Int) := by
  rw [pl_u k hk hk2, show Int.ofNat 1 = (1 : Int) from rfl]
  have h := four_le k hk hk2
  generalize (2 ^ k : Nat) = m at h ⊢
  rw [wrapI _ (by omega) (by omega)]
  omega

theorem Place_of (s : Int) (hs : Sort01 s) (k x : Nat) (hk : 3 ≤ k) (hk2 : k ≤ 5) (hx : x < B ^ 4) : FnOk PP n_permute_Place [vi s, vi k, ve x] [] (.ret (.tup [vspot (addF (pr s) x 0) (fiF s k x (2 ^ k - 4)) (lagF s k (2 ^ k - 4) x) (usF s k x (2 ^ k - 4)), vi 0])) [] :=
  FnOk.by at_permute_Place (by kernel_rfl) ({ o := { call := [(16, callV (vi 0)), (27, callV (ve (addF (pr s) x 0)))] }, loop := [(0, { pre := plSt s k (2 ^ k - 4) x 0 (addF (pr s) x 0) 0 0 0, e := .exit 0, post := plSt s k (2 ^ k - 4) x (2 ^ k - 4) (addF (pr s) x 0) (fiF s k x (2 ^ k - 4)) (lagF s k (2 ^ k - 4) x) (usF s k x (2 ^ k - 4)) })] }) {} [vspot (addF (pr s) x 0) (fiF s k x (2 ^ k - 4)) (lagF s k (2 ^ k - 4) x) (usF s k x (2 ^ k - 4)), vi 0] rfl (
    pf (size_ok s hs k hk hk2) <|
    pf ((Int.natCast_nonneg k : Int.ofNat 0 ≤ (k : Int))) <|
    pf (add_zero' s hs x hx) <|
    pf (Eq.refl ((1 : Nat))) <|
    pf (Eq.refl ([D.int IntKind.u64 (↑(limb (0 : Nat) x) : Int), D.int IntKind.u64 (↑(limb (1 : Nat) x) : Int),
  D.int IntKind.u64 (↑(limb (2 : Nat) x) : Int), D.int IntKind.u64 (↑(limb (3 : Nat) x) : Int)])) <|
    pf (DLe.r (D.int IntKind.u64 (Int.ofNat (0 : Nat)))) <|
    pf (DLe.r (D.int IntKind.u64 (Int.ofNat (0 : Nat)))) <|
    pf (DLe.r (D.int IntKind.u64 (Int.ofNat (0 : Nat)))) <|
    pf (DLe.r (D.int IntKind.u64 (Int.ofNat (0 : Nat)))) <|
    pf (DLe.r (D.int IntKind.u64 (Int.ofNat (0 : Nat)))) <|
    pf (DLe.r (D.int IntKind.u64 (Int.ofNat (0 : Nat)))) <|
    pf (DLe.r (D.int IntKind.u64 (Int.ofNat (0 : Nat)))) <|
    pf (DLe.r (D.int IntKind.u64 (Int.ofNat (0 : Nat)))) <|
    pf (DLe.r (D.int IntKind.u64 (Int.ofNat (0 : Nat)))) <|
    pf (DLe.r (D.int IntKind.u64 (Int.ofNat (0 : Nat)))) <|
    pf (DLe.r (D.int IntKind.u64 (Int.ofNat (0 : Nat)))) <|
    pf (DLe.r (D.int IntKind.u64 (Int.ofNat (0 : Nat)))) <|
    pf (DLe.r (D.int IntKind.u64 (Int.ofNat (0 : Nat)))) <|
    pf (DLe.r (D.int IntKind.u64 (Int.ofNat (0 : Nat)))) <|
    pf (DLe.r (D.int IntKind.u64 (Int.ofNat (0 : Nat)))) <|
    pf (DLe.r (D.int IntKind.u64 (Int.ofNat (0 : Nat)))) <|
    pf (DLe.r (D.int IntKind.u64 (↑(limb (0 : Nat) (addF (pr s) x (0 : Nat))) : Int))) <|
    pf (DLe.r (D.int IntKind.u64 (↑(limb (1 : Nat) (addF (pr s) x (0 : Nat))) : Int))) <|
    pf (DLe.r (D.int IntKind.u64 (↑(limb (2 : Nat) (addF (pr s) x (0 : Nat))) : Int))) <|
    pf (DLe.r (D.int IntKind.u64 (↑(limb (3 : Nat) (addF (pr s) x (0 : Nat))) : Int))) <|
    pf (DLe.r (D.int IntKind.u64 (Int.ofNat (0 : Nat)))) <|
    pf (DLe.r (D.int IntKind.u64 (Int.ofNat (0 : Nat)))) <|
    pf (DLe.r (D.int IntKind.u64 (Int.ofNat (0 : Nat)))) <|
    pf (DLe.r (D.int IntKind.u64 (Int.ofNat (0 : Nat)))) <|
    pf (DLe.r (D.int IntKind.u64 (Int.ofNat (0 : Nat)))) <|
    pf (DLe.r (D.int IntKind.u64 (Int.ofNat (0 : Nat)))) <|
    pf (DLe.r (D.int IntKind.u64 (Int.ofNat (0 : Nat)))) <|
    pf (DLe.r (D.int IntKind.u64 (Int.ofNat (0 : Nat)))) <|
    pf (DLe.r (D.int IntKind.u64 (Int.ofNat (0 : Nat)))) <|
    pf (DLe.r (D.int IntKind.u64 (Int.ofNat (0 : Nat)))) <|
    pf (DLe.r (D.int IntKind.u64 (Int.ofNat (0 : Nat)))) <|
    pf (DLe.r (D.int IntKind.u64 (Int.ofNat (0 : Nat)))) <|
    pf (DLe.r (D.int IntKind.i64 s)) <|
    pf (DLe.r (D.int IntKind.i64 (↑k : Int))) <|
    pf (Eq.refl ((0 : Nat))) <|
    pf (Eq.refl ((0 : Nat))) <|
    pf (Eq.refl ((0 : Nat))) <|
    pf (Eq.refl ((0 : Nat))) <|
    pf (iLe (pl_u k hk (by omega))) <|
    pf (Eq.refl ((0 : Nat))) <|
    pf (Eq.refl ((0 : Nat))) <|
    pf (iLe (pl_u1 k hk (by omega))) <|
    pf (DLe.r (D.int IntKind.i64 (Int.ofNat (0 : Nat)))) <|
    pf (pl_loop s hs k (2 ^ k - 4) x (addF (pr s) x 0) (by omega) hx (by have := four_le k hk (by omega); omega) (by have := four_le k hk (by omega); omega) (by have := four_le k hk (by omega); omega)) <|
    pf (DLe.r (D.agg
  [D.int IntKind.u64 (↑(limb (0 : Nat) (addF (pr s) x (0 : Nat))) : Int),
    D.int IntKind.u64 (↑(limb (1 : Nat) (addF (pr s) x (0 : Nat))) : Int),
    D.int IntKind.u64 (↑(limb (2 : Nat) (addF (pr s) x (0 : Nat))) : Int),
    D.int IntKind.u64 (↑(limb (3 : Nat) (addF (pr s) x (0 : Nat))) : Int),
    D.int IntKind.u64 (↑(limb (0 : Nat) (fiF s k x ((2 : Nat) ^ k - (4 : Nat)))) : Int),
    D.int IntKind.u64 (↑(limb (1 : Nat) (fiF s k x ((2 : Nat) ^ k - (4 : Nat)))) : Int),
    D.int IntKind.u64 (↑(limb (2 : Nat) (fiF s k x ((2 : Nat) ^ k - (4 : Nat)))) : Int),
    D.int IntKind.u64 (↑(limb (3 : Nat) (fiF s k x ((2 : Nat) ^ k - (4 : Nat)))) : Int),
    D.int IntKind.u64 (↑(limb (0 : Nat) (lagF s k ((2 : Nat) ^ k - (4 : Nat)) x)) : Int),
    D.int IntKind.u64 (↑(limb (1 : Nat) (lagF s k ((2 : Nat) ^ k - (4 : Nat)) x)) : Int),
    D.int IntKind.u64 (↑(limb (2 : Nat) (lagF s k ((2 : Nat) ^ k - (4 : Nat)) x)) : Int),
    D.int IntKind.u64 (↑(limb (3 : Nat) (lagF s k ((2 : Nat) ^ k - (4 : Nat)) x)) : Int),
    D.int IntKind.u64 (↑(limb (0 : Nat) (usF s k x ((2 : Nat) ^ k - (4 : Nat)))) : Int),
    D.int IntKind.u64 (↑(limb (1 : Nat) (usF s k x ((2 : Nat) ^ k - (4 : Nat)))) : Int),
    D.int IntKind.u64 (↑(limb (2 : Nat) (usF s k x ((2 : Nat) ^ k - (4 : Nat)))) : Int),
    D.int IntKind.u64 (↑(limb (3 : Nat) (usF s k x ((2 : Nat) ^ k - (4 : Nat)))) : Int)])) <|
    pf (DLe.r (D.int IntKind.i64 (Int.ofNat (0 : Nat)))) <|
    pz) (by kernel_rfl)

theorem Place_ok (s : Int) (hs : Sort01 s) (k x : Nat) (hk : 3 ≤ k) (hk2 : k ≤ 5) (hx : x < B ^ 4) : FnOk PP n_permute_Place [vi s, vi k, ve x] [] (.ret (.tup [placeF s k x, vi 0])) [] := by
  have := Place_of s hs k x hk hk2 hx
  have h := four_le k hk (by omega)
  have e : fiF s k x (2 ^ k - 4) = lagF s k 0 x := by
    obtain ⟨m, hm⟩ : ∃ m, 2 ^ k - 4 = m + 1 := ⟨2 ^ k - 5, by omega⟩
    rw [hm]
    rfl
  rw [e] at this
  exact this

end Go.Sg
