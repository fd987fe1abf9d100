/-
Contract of domain.Lagrange: the little fields. (Laid by wip/tools/fill.py out of a text of our own.)
-/
import Derived.Test.YtlaohcpkecmhnaaOwnDomain

set_option linter.all false

namespace Go.Sg
open Go Go.Own
open Go.Own (V D Wy)

def ptF (s : Int) (k j : Nat) : Nat := pw (pr s) 1 (rootF s k) j
def denF (s : Int) (k j x : Nat) : Nat := mulF (pr s) (addF (pr s) (2 ^ k) 0) (subF (pr s) x (ptF s k j))
def lagF (s : Int) (k j x : Nat) : Nat := if denF s k j x % pr s = 0 then 1 else mulF (pr s) (mulF (pr s) (ptF s k j) (vanF s k x)) (expF (pr s) (denF s k j x) (pr s - 2))

theorem ptF_lt (s : Int) (hs : Sort01 s) (k j : Nat) : ptF s k j < B ^ 4 := pw_lt (little s hs) _ _ (by decide) j

theorem pts_len (s : Int) (k : Nat) : (pts s k).length = 2 ^ k := pws_len _ _ _ _

theorem pts_at (s : Int) (k j : Nat) (hj : j < 2 ^ k) : (pts s k)[(j : Int).toNat]? = some (elem (ptF s k j)) := by
  rw [Int.toNat_natCast]
  unfold pts pws ptF
  rw [List.getElem?_map, List.getElem?_range hj]
  rfl

theorem ge_len (s : Int) (k j : Nat) (hj : j < 2 ^ k) : V.d (.bool (decide ((j : Int) ≥ ((pts s k).length : Int)))) = V.d (.bool false) := by
  rw [pts_len]
  generalize (2 ^ k : Nat) = m at hj
  exact vbool (decide_eq_false (by omega))

theorem int_len (s : Int) (hs : Sort01 s) (k : Nat) (hk : k ≤ 9) : FnOk PP n_field_Int [vi s, vi ((pts s k).length : Int)] [] (.ret (ve (addF (pr s) (2 ^ k) 0))) [] := by
  rw [pts_len]
  have h := two_le k hk
  generalize (2 ^ k : Nat) = m at h
  exact Int_ok s hs (m : Int) (by omega) (by omega)

theorem Lagrange_pt (s : Int) (hs : Sort01 s) (k j x : Nat) (hk : k ≤ 9) (hj : j < 2 ^ k) (hx : x < B ^ 4) (h0 : denF s k j x % pr s = 0) : FnOk PP n_domain_Lagrange [vi s, vi k, vi j, ve x] [] (.ret (.tup [ve 1, vi 0])) [] :=
  FnOk.by at_domain_Lagrange (by kernel_rfl) ({ o := { br := [(27, false), (28, false), (33, false)], val := [(37, elem (ptF s k j)), (38, elem (ptF s k j))], call := [(19, callV (.tup [.d (.sl 4 (pts s k)), vi 0])), (45, callV (ve (addF (pr s) (2 ^ k) 0))), (49, callV (ve (subF (pr s) x (ptF s k j)))), (50, callV (ve (denF s k j x))), (51, callV (.tup [ve 0, vi 10]))] } }) {} [ve 1, vi 0] rfl (
    pf (Points_ok s hs k hk) <|
    pf (lt0_test j) <|
    pf (lt0_test j) <|
    pf (lt0_test j) <|
    pf (lt0_test j) <|
    pf (lt0_test j) <|
    pf (ge_len s k j hj) <|
    pf ((Int.natCast_nonneg j : Int.ofNat 0 ≤ (j : Int))) <|
    pf (pts_at s k j hj) <|
    pf (by decide : (4 : Nat) ≤ (4 : Nat)) <|
    pf PP_mixed <|
    pf (int_len s hs k hk) <|
    pf (Sub_ok s hs x (ptF s k j) hx (ptF_lt s hs k j)) <|
    pf (Mul_ok s hs (addF (pr s) (2 ^ k) 0) (subF (pr s) x (ptF s k j)) (addF_lt (little s hs) _ _) (subF_lt (little s hs) _ _)) <|
    pf (Inv_zero s hs (denF s k j x) (mulF_lt (little s hs) _ _) h0) <|
    pf (by decide : (4 : Nat) ≤ (4 : Nat)) <|
    pf (by decide : (4 : Nat) ≤ (4 : Nat)) <|
    pf (DLe.r (D.agg
  [D.int IntKind.u64 (Int.ofNat (1 : Nat)), D.int IntKind.u64 (Int.ofNat (0 : Nat)),
    D.int IntKind.u64 (Int.ofNat (0 : Nat)), D.int IntKind.u64 (Int.ofNat (0 : Nat))])) <|
    pf (DLe.r (D.int IntKind.i64 (Int.ofNat (0 : Nat)))) <|
    pz) (by kernel_rfl)

theorem Lagrange_no (s : Int) (hs : Sort01 s) (k j x : Nat) (hk : k ≤ 9) (hj : j < 2 ^ k) (hx : x < B ^ 4) (h0 : denF s k j x % pr s ≠ 0) : FnOk PP n_domain_Lagrange [vi s, vi k, vi j, ve x] [] (.ret (.tup [ve (mulF (pr s) (mulF (pr s) (ptF s k j) (vanF s k x)) (expF (pr s) (denF s k j x) (pr s - 2))), vi 0])) [] :=
  FnOk.by at_domain_Lagrange (by kernel_rfl) ({ o := { br := [(27, false), (28, false), (33, false)], val := [(37, elem (ptF s k j)), (38, elem (ptF s k j))], call := [(19, callV (.tup [.d (.sl 4 (pts s k)), vi 0])), (45, callV (ve (addF (pr s) (2 ^ k) 0))), (49, callV (ve (subF (pr s) x (ptF s k j)))), (50, callV (ve (denF s k j x))), (51, callV (.tup [ve (expF (pr s) (denF s k j x) (pr s - 2)), vi 0])), (61, callV (.tup [ve (vanF s k x), vi 0])), (68, callV (ve (mulF (pr s) (ptF s k j) (vanF s k x)))), (70, callV (ve (mulF (pr s) (mulF (pr s) (ptF s k j) (vanF s k x)) (expF (pr s) (denF s k j x) (pr s - 2)))))] } }) {} [ve (mulF (pr s) (mulF (pr s) (ptF s k j) (vanF s k x)) (expF (pr s) (denF s k j x) (pr s - 2))), vi 0] rfl (
    pf (Points_ok s hs k hk) <|
    pf (lt0_test j) <|
    pf (lt0_test j) <|
    pf (lt0_test j) <|
    pf (lt0_test j) <|
    pf (lt0_test j) <|
    pf (ge_len s k j hj) <|
    pf ((Int.natCast_nonneg j : Int.ofNat 0 ≤ (j : Int))) <|
    pf (pts_at s k j hj) <|
    pf (by decide : (4 : Nat) ≤ (4 : Nat)) <|
    pf PP_mixed <|
    pf (int_len s hs k hk) <|
    pf (Sub_ok s hs x (ptF s k j) hx (ptF_lt s hs k j)) <|
    pf (Mul_ok s hs (addF (pr s) (2 ^ k) 0) (subF (pr s) x (ptF s k j)) (addF_lt (little s hs) _ _) (subF_lt (little s hs) _ _)) <|
    pf (Inv_ok s hs (denF s k j x) (mulF_lt (little s hs) _ _) h0) <|
    pf (by decide : (4 : Nat) ≤ (4 : Nat)) <|
    pf (Vanish_ok s hs k x hk hx) <|
    pf (by decide : (4 : Nat) ≤ (4 : Nat)) <|
    pf PP_mixed <|
    pf (Mul_ok s hs (ptF s k j) (vanF s k x) (ptF_lt s hs k j) (subF_lt (little s hs) _ _)) <|
    pf (Mul_ok s hs (mulF (pr s) (ptF s k j) (vanF s k x)) (expF (pr s) (denF s k j x) (pr s - 2)) (mulF_lt (little s hs) _ _) ((little s hs).mod4 _)) <|
    pf (by decide : (4 : Nat) ≤ (4 : Nat)) <|
    pf (DLe.r (D.agg
  [D.int IntKind.u64
      (↑(limb (0 : Nat)
            (mulF (pr s) (mulF (pr s) (ptF s k j) (vanF s k x)) (expF (pr s) (denF s k j x) (pr s - (2 : Nat))))) :
        Int),
    D.int IntKind.u64
      (↑(limb (1 : Nat)
            (mulF (pr s) (mulF (pr s) (ptF s k j) (vanF s k x)) (expF (pr s) (denF s k j x) (pr s - (2 : Nat))))) :
        Int),
    D.int IntKind.u64
      (↑(limb (2 : Nat)
            (mulF (pr s) (mulF (pr s) (ptF s k j) (vanF s k x)) (expF (pr s) (denF s k j x) (pr s - (2 : Nat))))) :
        Int),
    D.int IntKind.u64
      (↑(limb (3 : Nat)
            (mulF (pr s) (mulF (pr s) (ptF s k j) (vanF s k x)) (expF (pr s) (denF s k j x) (pr s - (2 : Nat))))) :
        Int)])) <|
    pf (DLe.r (D.int IntKind.i64 (Int.ofNat (0 : Nat)))) <|
    pz) (by kernel_rfl)

theorem Lagrange_ok (s : Int) (hs : Sort01 s) (k j x : Nat) (hk : k ≤ 9) (hj : j < 2 ^ k) (hx : x < B ^ 4) : FnOk PP n_domain_Lagrange [vi s, vi k, vi j, ve x] [] (.ret (.tup [ve (lagF s k j x), vi 0])) [] := by
  unfold lagF
  split
  · rename_i h; exact Lagrange_pt s hs k j x hk hj hx h
  · rename_i h; exact Lagrange_no s hs k j x hk hj hx h

end Go.Sg
