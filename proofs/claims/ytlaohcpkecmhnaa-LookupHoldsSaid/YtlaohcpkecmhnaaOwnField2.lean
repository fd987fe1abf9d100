/-
Contracts of package field's exported functions: the little fields. (Laid by wip/tools/fill.py out of a text of our own.)
-/
import Derived.Test.YtlaohcpkecmhnaaOwnField

set_option linter.all false

namespace Go.Sg
open Go Go.Own
open Go.Own (V D Wy)

abbrev Sort01 (s : Int) : Prop := s = 0 ∨ s = 1

def addF (p a b : Nat) : Nat := (a % p + b % p) % p
def negF (p a : Nat) : Nat := (p - a % p) % p
def subF (p a b : Nat) : Nat := addF p a (negF p b)
def mulF (p a b : Nat) : Nat := a * b % p

theorem addF_lt {p : Nat} (l : Little p) (a b : Nat) : addF p a b < B ^ 4 := l.mod4 _
theorem negF_lt {p : Nat} (l : Little p) (a : Nat) : negF p a < B ^ 4 := l.mod4 _
theorem subF_lt {p : Nat} (l : Little p) (a b : Nat) : subF p a b < B ^ 4 := l.mod4 _
theorem mulF_lt {p : Nat} (l : Little p) (a b : Nat) : mulF p a b < B ^ 4 := l.mod4 _

def ofCall (s : Int) : Own.CallO := { hin := [], res := .tup [.d (nums (pr s) (ad s)), vi 0], hout := [], pure := false }
def callV (x : V) : Own.CallO := { hin := [], res := x, hout := [], pure := false }

theorem Add_ok (s : Int) (hs : Sort01 s) (a b : Nat) (ha : a < B ^ 4) (hb : b < B ^ 4) : FnOk PP n_field_Add [vi s, ve a, ve b] [] (.ret (ve (addF (pr s) a b))) [] :=
  FnOk.by at_field_Add (by kernel_rfl) ({ o := { call := [(11, ofCall s), (20, callV (ve (addF (pr s) a b)))] } }) {} [ve (addF (pr s) a b)] rfl (
    pf (of_ok s hs) <|
    pf (numbers_add_ok (little s hs) (ad s) a b ha hb) <|
    pf (by decide : (4 : Nat) ≤ (4 : Nat)) <|
    pf (DLe.r (D.agg
  [D.int IntKind.u64 ↑(limb (0 : Nat) (addF (pr s) a b)), D.int IntKind.u64 ↑(limb (1 : Nat) (addF (pr s) a b)),
    D.int IntKind.u64 ↑(limb (2 : Nat) (addF (pr s) a b)), D.int IntKind.u64 ↑(limb (3 : Nat) (addF (pr s) a b))])) <|
    pz) (by kernel_rfl)

theorem Mul_ok (s : Int) (hs : Sort01 s) (a b : Nat) (ha : a < B ^ 4) (hb : b < B ^ 4) : FnOk PP n_field_Mul [vi s, ve a, ve b] [] (.ret (ve (mulF (pr s) a b))) [] :=
  FnOk.by at_field_Mul (by kernel_rfl) ({ o := { call := [(11, ofCall s), (20, callV (ve (mulF (pr s) a b)))] } }) {} [ve (mulF (pr s) a b)] rfl (
    pf (of_ok s hs) <|
    pf (numbers_mul_ok (little s hs) (ad s) a b ha hb) <|
    pf (by decide : (4 : Nat) ≤ (4 : Nat)) <|
    pf (DLe.r (D.agg
  [D.int IntKind.u64 ↑(limb (0 : Nat) (mulF (pr s) a b)), D.int IntKind.u64 ↑(limb (1 : Nat) (mulF (pr s) a b)),
    D.int IntKind.u64 ↑(limb (2 : Nat) (mulF (pr s) a b)), D.int IntKind.u64 ↑(limb (3 : Nat) (mulF (pr s) a b))])) <|
    pz) (by kernel_rfl)

theorem Neg_ok (s : Int) (hs : Sort01 s) (a : Nat) (ha : a < B ^ 4) : FnOk PP n_field_Neg [vi s, ve a] [] (.ret (ve (negF (pr s) a))) [] :=
  FnOk.by at_field_Neg (by kernel_rfl) ({ o := { call := [(9, ofCall s), (17, callV (ve (negF (pr s) a)))] } }) {} [ve (negF (pr s) a)] rfl (
    pf (of_ok s hs) <|
    pf (numbers_neg0_ok (little s hs) (ad s) a ha) <|
    pf (by decide : (4 : Nat) ≤ (4 : Nat)) <|
    pf (DLe.r (D.agg
  [D.int IntKind.u64 ↑(limb (0 : Nat) (negF (pr s) a)), D.int IntKind.u64 ↑(limb (1 : Nat) (negF (pr s) a)),
    D.int IntKind.u64 ↑(limb (2 : Nat) (negF (pr s) a)), D.int IntKind.u64 ↑(limb (3 : Nat) (negF (pr s) a))])) <|
    pz) (by kernel_rfl)

theorem Sub_ok (s : Int) (hs : Sort01 s) (a b : Nat) (ha : a < B ^ 4) (hb : b < B ^ 4) : FnOk PP n_field_Sub [vi s, ve a, ve b] [] (.ret (ve (subF (pr s) a b))) [] :=
  FnOk.by at_field_Sub (by kernel_rfl) ({ o := { call := [(11, callV (ve (negF (pr s) b))), (12, callV (ve (subF (pr s) a b)))] } }) {} [ve (subF (pr s) a b)] rfl (
    pf PP_mixed <|
    pf (Neg_ok s hs b hb) <|
    pf (Add_ok s hs a (negF (pr s) b) ha (negF_lt (little s hs) b)) <|
    pf (by decide : (4 : Nat) ≤ (4 : Nat)) <|
    pf (DLe.r (D.agg
  [D.int IntKind.u64 ↑(limb (0 : Nat) (subF (pr s) a b)), D.int IntKind.u64 ↑(limb (1 : Nat) (subF (pr s) a b)),
    D.int IntKind.u64 ↑(limb (2 : Nat) (subF (pr s) a b)), D.int IntKind.u64 ↑(limb (3 : Nat) (subF (pr s) a b))])) <|
    pz) (by kernel_rfl)

theorem Modulus_ok (s : Int) (hs : Sort01 s) : FnOk PP n_field_Modulus [vi s] [] (.ret (.tup [ve (pr s), vi 0])) [] :=
  FnOk.by at_field_Modulus (by kernel_rfl) ({ o := { call := [(8, ofCall s)] } }) {} [ve (pr s), vi 0] rfl (
    pf (of_ok s hs) <|
    pf (by decide : (4 : Nat) ≤ (4 : Nat)) <|
    pf (DLe.r (D.agg
  [D.int IntKind.u64 ↑(limb (0 : Nat) (pr s)), D.int IntKind.u64 ↑(limb (1 : Nat) (pr s)),
    D.int IntKind.u64 ↑(limb (2 : Nat) (pr s)), D.int IntKind.u64 ↑(limb (3 : Nat) (pr s))])) <|
    pf (DLe.r (D.int IntKind.i64 (Int.ofNat (0 : Nat)))) <|
    pz) (by kernel_rfl)

theorem elem_u (n : Nat) (h : n < B) : D.agg [u n, u 0, u 0, u 0] = elem n := (elem_small n h).symm
theorem elem_0 : D.agg [u 0, u 0, u 0, u 0] = elem 0 := (elem_small 0 (by decide)).symm

theorem Add_int (s : Int) (hs : Sort01 s) (n : Int) (h0 : 0 ≤ n) (h1 : n ≤ 9223372036854775807) : FnOk PP n_field_Add [vi s, .d (.agg [.int .u64 (IntKind.u64.wrap n), u 0, u 0, u 0]), .d (.agg [u 0, u 0, u 0, u 0])] [] (.ret (ve (addF (pr s) n.toNat 0))) [] := by
  have e : IntKind.u64.wrap n = ((n.toNat : Nat) : Int) := by rw [IntKind.wrap_u64]; omega
  have hb : n.toNat < B := by simp only [B]; omega
  have := Add_ok s hs n.toNat 0 (Nat.lt_trans hb (by decide)) (by decide)
  unfold ve at this
  rw [← elem_u n.toNat hb, ← elem_0] at this
  rw [e]
  exact this

theorem i_lt (n : Int) (b : Bool) (h : decide (n < 0) = b) : V.d (.bool (decide (n < Int.ofNat 0))) = V.d (.bool b) := by
  refine vbool ?_
  rw [← h]
  rfl

theorem Int_ok (s : Int) (hs : Sort01 s) (n : Int) (h0 : 0 ≤ n) (h1 : n ≤ 9223372036854775807) : FnOk PP n_field_Int [vi s, vi n] [] (.ret (ve (addF (pr s) n.toNat 0))) [] :=
  FnOk.by at_field_Int (by kernel_rfl) ({ o := { br := [(6, false)], call := [(18, callV (ve (addF (pr s) n.toNat 0)))] } }) {} [ve (addF (pr s) n.toNat 0)] rfl (
    pf (i_lt n false (decide_eq_false (by omega))) <|
    pf (Add_int s hs n h0 h1) <|
    pf (by decide : (4 : Nat) ≤ (4 : Nat)) <|
    pf (DLe.r (D.agg
  [D.int IntKind.u64 ↑(limb (0 : Nat) (addF (pr s) n.toNat (0 : Nat))),
    D.int IntKind.u64 ↑(limb (1 : Nat) (addF (pr s) n.toNat (0 : Nat))),
    D.int IntKind.u64 ↑(limb (2 : Nat) (addF (pr s) n.toNat (0 : Nat))),
    D.int IntKind.u64 ↑(limb (3 : Nat) (addF (pr s) n.toNat (0 : Nat)))])) <|
    pz) (by kernel_rfl)

end Go.Sg
