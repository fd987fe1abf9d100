/-
Contracts of package lookup. (Laid by wip/tools/fill2.py out of a text of our own.)
-/
import Derived.Test.YtlaohcpkecmhnaaOwnLists

set_option linter.all false

namespace Go.Sg
open Go Go.Own
open Go.Own (V D Wy)

theorem at_lt {α : Type} {xs : List α} {j : Nat} {x : α} (h : xs[j]? = some x) : j < xs.length := (List.getElem?_eq_some_iff.1 h).1
theorem nums_at {xs : List Nat} (hx : Nums xs) {j x : Nat} (h : xs[j]? = some x) : x < B ^ 4 := hx x (List.mem_of_getElem? h)

/-! ### Compress -/
def cmSt (s : Int) (th : Nat) (xs : List Nat) (o j : Nat) : Own.St := { t := [(12, vi (j : Int)), (11, vi ((es xs).length : Int)), (10, vl xs), (7, .ptr 7 0 0), (6, .ptr 6 0 0), (4, .ptr 4 0 0), (0, vi s)], h := [(7, .row 1 (limbs o)), (6, .row 1 (limbs 0)), (4, .row 1 (limbs th))] }
def cmF (p th o x : Nat) : Nat := addF p (mulF p o th) x
theorem cmF_lt {p : Nat} (l : Little p) (th o x : Nat) : cmF p th o x < B ^ 4 := addF_lt l _ _

theorem cm_round (s : Int) (hs : Sort01 s) (th : Nat) (hth : th < B ^ 4) (xs : List Nat) (o j x : Nat) (ho : o < B ^ 4) (hj : j < (es xs).length) (hb : j < 140737488355328) (hx : xs[j]? = some x) (hx4 : x < B ^ 4) : T PP f_lookup_Compress.ntmps (loopOf f_lookup_Compress 0) (cmSt s th xs o j) .normal (cmSt s th xs (cmF (pr s) th o x) (j + 1)) :=
  T.by ({ o := { val := [(14, elem x)], br := [(13, true)], call := [(20, callV (ve (mulF (pr s) o th))), (22, callV (ve (addF (pr s) (mulF (pr s) o th) x)))], set := [(23, i (↑(j + (1 : Nat)) : Int))] } }) 0 {} (
    pf (t_gt ((es xs).length) j hj) <|
    pf (nn_le j) <|
    pf (es_get xs j x hx) <|
    pf (by decide : (4 : Nat) ≤ (4 : Nat)) <|
    pf PP_mixed <|
    pf (Mul_ok s hs o th ho hth) <|
    pf (Add_ok s hs (mulF (pr s) o th) x (mulF_lt (little s hs) o th) hx4) <|
    pf (by decide : (4 : Nat) ≤ (4 : Nat)) <|
    pf (i_add j ((1 : Nat)) (by omega)) <|
    pf (Eq.refl ((1 : Nat) : Nat)) <|
    pf (rfl : [u (limb (0 : Nat) (addF (pr s) (mulF (pr s) o th) x)), u (limb (1 : Nat) (addF (pr s) (mulF (pr s) o th) x)), u (limb (2 : Nat) (addF (pr s) (mulF (pr s) o th) x)), u (limb (3 : Nat) (addF (pr s) (mulF (pr s) o th) x))] = [u (limb (0 : Nat) (cmF (pr s) th o x)), u (limb (1 : Nat) (cmF (pr s) th o x)), u (limb (2 : Nat) (cmF (pr s) th o x)), u (limb (3 : Nat) (cmF (pr s) th o x))]) <|
    pf (Eq.refl ((1 : Nat) : Nat)) <|
    pf (Eq.refl ([u (0 : Nat), u (0 : Nat), u (0 : Nat), u (0 : Nat)] : List D)) <|
    pf (Eq.refl ((1 : Nat) : Nat)) <|
    pf (Eq.refl ([u (limb (0 : Nat) th), u (limb (1 : Nat) th), u (limb (2 : Nat) th), u (limb (3 : Nat) th)] : List D)) <|
    pf (DLe.r (i (↑(j + (1 : Nat)) : Int))) <|
    pf (DLe.r (i (↑(es xs).length : Int))) <|
    pf (DLe.r (D.sl (4 : Nat) (es xs))) <|
    pf (Eq.refl ((0 : Nat) : Nat)) <|
    pf (Eq.refl ((0 : Nat) : Nat)) <|
    pf (Eq.refl ((0 : Nat) : Nat)) <|
    pf (Eq.refl ((0 : Nat) : Nat)) <|
    pf (Eq.refl ((0 : Nat) : Nat)) <|
    pf (Eq.refl ((0 : Nat) : Nat)) <|
    pf (DLe.r (i s)) <|
    pz) (by kernel_rfl)

theorem cm_end (s : Int) (th : Nat) (xs : List Nat) (o : Nat) : T PP f_lookup_Compress.ntmps (loopOf f_lookup_Compress 0) (cmSt s th xs o xs.length) (.exit 0) (cmSt s th xs o xs.length) :=
  T.by ({ o := { br := [(13, false)] } }) 0 {} (
    pf (gt_test ((es xs).length) xs.length (by simp)) <|
    pf (Eq.refl ((1 : Nat) : Nat)) <|
    pf (Eq.refl ([u (limb (0 : Nat) o), u (limb (1 : Nat) o), u (limb (2 : Nat) o), u (limb (3 : Nat) o)] : List D)) <|
    pf (Eq.refl ((1 : Nat) : Nat)) <|
    pf (Eq.refl ([u (0 : Nat), u (0 : Nat), u (0 : Nat), u (0 : Nat)] : List D)) <|
    pf (Eq.refl ((1 : Nat) : Nat)) <|
    pf (Eq.refl ([u (limb (0 : Nat) th), u (limb (1 : Nat) th), u (limb (2 : Nat) th), u (limb (3 : Nat) th)] : List D)) <|
    pf (DLe.r (i (↑xs.length : Int))) <|
    pf (DLe.r (i (↑(es xs).length : Int))) <|
    pf (DLe.r (D.sl (4 : Nat) (es xs))) <|
    pf (Eq.refl ((0 : Nat) : Nat)) <|
    pf (Eq.refl ((0 : Nat) : Nat)) <|
    pf (Eq.refl ((0 : Nat) : Nat)) <|
    pf (Eq.refl ((0 : Nat) : Nat)) <|
    pf (Eq.refl ((0 : Nat) : Nat)) <|
    pf (Eq.refl ((0 : Nat) : Nat)) <|
    pf (DLe.r (i s)) <|
    pz) (by kernel_rfl)

def compF (p th : Nat) (xs : List Nat) : Nat := xs.foldl (cmF p th) 0
theorem compF_lt {p : Nat} (l : Little p) (th : Nat) (xs : List Nat) : compF p th xs < B ^ 4 := by
  unfold compF
  rcases List.eq_nil_or_concat xs with rfl | ⟨ys, y, rfl⟩
  · exact (by decide : 0 < B ^ 4)
  · rw [List.concat_eq_append, List.foldl_append]; exact cmF_lt l _ _ _

theorem cm_loop (s : Int) (hs : Sort01 s) (th : Nat) (hth : th < B ^ 4) (xs : List Nat) (hx : Nums xs) (hf : Fits xs) : T PP f_lookup_Compress.ntmps (.loop (loopOf f_lookup_Compress 0)) (cmSt s th xs 0 0) (.exit 0) (cmSt s th xs (compF (pr s) th xs) xs.length) :=
  T_fold (by simp) xs (cmF (pr s) th) (· < B ^ 4) (cmSt s th xs) (fun b => cmSt s th xs b xs.length) 0 (by decide) (fun _ _ _ _ => cmF_lt (little s hs) _ _ _)
    (fun j x b h1 h2 => cm_round s hs th hth xs b j x h2 (by have := at_lt h1; rw [es_len]; exact this) (by have := at_lt h1; unfold Fits at hf; omega) h1 (nums_at hx h1)) (fun b _ => cm_end s th xs b)

theorem Compress_ok (s : Int) (hs : Sort01 s) (th : Nat) (hth : th < B ^ 4) (xs : List Nat) (hx : Nums xs) (hf : Fits xs) : FnOk PP n_lookup_Compress [vi s, ve th, vl xs] [] (.ret (ve (compF (pr s) th xs))) [] :=
  FnOk.by at_lookup_Compress (by kernel_rfl) ({ loop := [(0, { pre := cmSt s th xs (0 : Nat) (0 : Nat), e := AExit.exit (0 : Nat), post := cmSt s th xs (compF (pr s) th xs) xs.length })] }) {} [ve (compF (pr s) th xs)] rfl (
    pf (Eq.refl ((1 : Nat) : Nat)) <|
    pf (Eq.refl ([u (0 : Nat), u (0 : Nat), u (0 : Nat), u (0 : Nat)] : List D)) <|
    pf (Eq.refl ((1 : Nat) : Nat)) <|
    pf (Eq.refl ([u (0 : Nat), u (0 : Nat), u (0 : Nat), u (0 : Nat)] : List D)) <|
    pf (Eq.refl ((1 : Nat) : Nat)) <|
    pf (Eq.refl ([u (limb (0 : Nat) th), u (limb (1 : Nat) th), u (limb (2 : Nat) th), u (limb (3 : Nat) th)] : List D)) <|
    pf (DLe.r (i (↑(0 : Nat) : Int))) <|
    pf (DLe.r (i (↑(es xs).length : Int))) <|
    pf (DLe.r (D.sl (4 : Nat) (es xs))) <|
    pf (Eq.refl ((0 : Nat) : Nat)) <|
    pf (Eq.refl ((0 : Nat) : Nat)) <|
    pf (Eq.refl ((0 : Nat) : Nat)) <|
    pf (Eq.refl ((0 : Nat) : Nat)) <|
    pf (Eq.refl ((0 : Nat) : Nat)) <|
    pf (Eq.refl ((0 : Nat) : Nat)) <|
    pf (DLe.r (i s)) <|
    pf (cm_loop s hs th hth xs hx hf) <|
    pf (by decide : (4 : Nat) ≤ (4 : Nat)) <|
    pf (DLe.r (elem (compF (pr s) th xs))) <|
    pz) (by kernel_rfl)

/-! ### SameElems -/
def seSt (xs ys : List Nat) (j : Nat) : Own.St := { t := [(5, vi (j : Int)), (4, vb false), (0, vl xs), (1, vl ys)], h := [] }

theorem se_round (xs ys : List Nat) (j x : Nat) (hj : j < (es xs).length) (hb : j < 140737488355328) (hx : xs[j]? = some x) (hy : ys[j]? = some x) : T PP f_sigilref00_SameElems.ntmps (loopOf f_sigilref00_SameElems 0) (seSt xs ys j) .normal (seSt xs ys (j + 1)) :=
  T.by ({ o := { val := [(19, elem x), (23, elem x)], br := [(14, true), (25, false)], set := [(16, i (↑(j + (1 : Nat)) : Int))] } }) 0 {} (
    pf (t_gt ((es xs).length) j hj) <|
    pf PP_mixed <|
    pf (nn_le j) <|
    pf (es_get xs j x hx) <|
    pf (nn_le j) <|
    pf (es_get ys j x hy) <|
    pf (f_not (t_eqE x x (by omega))) <|
    pf (i_add j ((1 : Nat)) (by omega)) <|
    pf (DLe.r (i (↑(j + (1 : Nat)) : Int))) <|
    pf (DLe.r (D.bool false)) <|
    pf (DLe.r (D.sl (4 : Nat) (es xs))) <|
    pf (DLe.r (D.sl (4 : Nat) (es ys))) <|
    pz) (by kernel_rfl)

theorem se_diff (xs ys : List Nat) (j x y : Nat) (hj : j < (es xs).length) (hx : xs[j]? = some x) (hy : ys[j]? = some y) (hx4 : x < B ^ 4) (hy4 : y < B ^ 4) (hne : x ≠ y) : T PP f_sigilref00_SameElems.ntmps (loopOf f_sigilref00_SameElems 0) (seSt xs ys j) .ret { t := [(4, vb false)], h := [] } :=
  T.by ({ o := { val := [(19, elem x), (23, elem y)], br := [(14, true), (25, true)] } }) 0 {} (
    pf (t_gt ((es xs).length) j hj) <|
    pf PP_mixed <|
    pf (nn_le j) <|
    pf (es_get xs j x hx) <|
    pf (nn_le j) <|
    pf (es_get ys j y hy) <|
    pf (t_not (f_eqE x y hx4 hy4 hne)) <|
    pf (DLe.r (D.bool false)) <|
    pz) (by kernel_rfl)

theorem se_end (xs ys : List Nat) : T PP f_sigilref00_SameElems.ntmps (loopOf f_sigilref00_SameElems 0) (seSt xs ys xs.length) (.exit 0) (seSt xs ys xs.length) :=
  T.by ({ o := { br := [(14, false)] } }) 0 {} (
    pf (gt_test ((es xs).length) xs.length (by simp)) <|
    pf (DLe.r (i (↑xs.length : Int))) <|
    pf (DLe.r (D.bool false)) <|
    pf (DLe.r (D.sl (4 : Nat) (es xs))) <|
    pf (DLe.r (D.sl (4 : Nat) (es ys))) <|
    pz) (by kernel_rfl)

theorem se_loop (xs : List Nat) (hf : Fits xs) : T PP f_sigilref00_SameElems.ntmps (.loop (loopOf f_sigilref00_SameElems 0)) (seSt xs xs 0) (.exit 0) (seSt xs xs xs.length) :=
  T.loopN (by simp) (seSt xs xs) xs.length (fun j hj => se_round xs xs j xs[j] (by rw [es_len]; exact hj) (by unfold Fits at hf; omega) (List.getElem?_eq_getElem hj) (List.getElem?_eq_getElem hj)) (se_end xs xs)

theorem SameElems_eq (xs : List Nat) (hf : Fits xs) : FnOk PP n_sigilref00_SameElems [vl xs, vl xs] [] (.ret (vb true)) [] :=
  FnOk.by at_sigilref00_SameElems (by kernel_rfl) ({ o := { br := [(10, false)] }, loop := [(0, { pre := seSt xs xs (0 : Nat), e := AExit.exit (0 : Nat), post := seSt xs xs xs.length })] }) {} [vb true] rfl (
    pf (f_ne ((es xs).length) ((es xs).length) (by omega)) <|
    pf (DLe.r (i (↑(0 : Nat) : Int))) <|
    pf (DLe.r (D.bool false)) <|
    pf (DLe.r (D.sl (4 : Nat) (es xs))) <|
    pf (DLe.r (D.sl (4 : Nat) (es xs))) <|
    pf (se_loop xs hf) <|
    pf (DLe.r (D.bool true)) <|
    pz) (by kernel_rfl)

theorem row_len (ys : List Nat) (n j : Nat) (h : ys.length = j) (hj : j < n) : (es ys ++ List.replicate (n - j) (elem 0)).length = n := by
  rw [List.length_append, es_len, List.length_replicate]; omega
theorem row_in_vc (ys : List Nat) (n j : Nat) (h : ys.length = j) (hj : j < n) : (((0 : Nat) : Int) ≤ (j : Int)) ∧ (j : Int) < (((es ys ++ List.replicate (n - j) (elem 0)).length - 0 : Nat) : Int) := by
  rw [row_len ys n j h hj]; omega
theorem row_at_lt (ys : List Nat) (n j : Nat) (h : ys.length = j) (hj : j < n) : j < (es ys ++ List.replicate (n - j) (elem 0)).length := by
  rw [row_len ys n j h hj]; exact hj
theorem row_set (ys : List Nat) (n j y : Nat) (h : ys.length = j) (hj : j < n) : (es ys ++ List.replicate (n - j) (elem 0)).set j (elem y) = es (ys ++ [y]) ++ List.replicate (n - (j + 1)) (elem 0) := by
  have e : n - j = (n - (j + 1)) + 1 := by omega
  rw [e, List.replicate_succ, List.set_append_right _ _ (by rw [es_len]; omega), es_len, h, Nat.sub_self, List.set_cons_zero]
  unfold es
  rw [List.map_append, List.append_assoc]
  rfl

/-! ### rising: ahead of the sort -/
def riSt (s : Int) (xs ys : List Nat) (j : Nat) : Own.St := { t := [(13, vi (j : Int)), (12, vi ((es xs).length : Int)), (11, vl xs), (5, .ref 10 0 none (some (es xs).length)), (0, vi s)], h := [(10, .row 4 (es ys ++ List.replicate (xs.length - j) (elem 0)))] }

theorem ri_round (s : Int) (hs : Sort01 s) (xs ys : List Nat) (j x : Nat) (hj : j < (es xs).length) (hb : j < 140737488355328) (hx : xs[j]? = some x) (hx4 : x < B ^ 4) (hy : ys.length = j) (hj' : j < xs.length) : T PP f_lookup_rising.ntmps (loopOf f_lookup_rising 0) (riSt s xs ys j) .normal (riSt s xs (ys ++ [addF (pr s) x 0]) (j + 1)) :=
  T.by ({ o := { val := [(16, elem x)], br := [(14, true)], call := [(23, callV (ve (addF (pr s) x (0 : Nat))))], set := [(25, i (↑(j + (1 : Nat)) : Int))] } }) 0 {} (
    pf (t_gt ((es xs).length) j hj) <|
    pf (nn_le j) <|
    pf (es_get xs j x hx) <|
    pf (by decide : (4 : Nat) ≤ (4 : Nat)) <|
    pf (add_zero' s hs x hx4) <|
    pf (row_in_vc ys xs.length j hy hj') <|
    pf (by simp; omega : j < (es ys ++ List.replicate (xs.length - j) (elem (0 : Nat))).length) <|
    pf (i_add j ((1 : Nat)) (by omega)) <|
    pf (Eq.refl ((4 : Nat) : Nat)) <|
    pf (row_set ys xs.length j (addF (pr s) x (0 : Nat)) hy hj') <|
    pf (DLe.r (i (↑(j + (1 : Nat)) : Int))) <|
    pf (DLe.r (i (↑(es xs).length : Int))) <|
    pf (DLe.r (D.sl (4 : Nat) (es xs))) <|
    pf (Eq.refl ((0 : Nat) : Nat)) <|
    pf (Eq.refl ((es xs).length : Nat)) <|
    pf (DLe.r (i s)) <|
    pz) (by kernel_rfl)

def riEn (s : Int) (xs ys : List Nat) : Own.St := { t := [(5, .ref 10 0 none (some (es xs).length)), (0, vi s)], h := [(10, .row 4 (es ys))] }
theorem row_full (ys : List Nat) (n : Nat) : es ys ++ List.replicate (n - n) (elem 0) = es ys := by rw [Nat.sub_self, List.replicate_zero, List.append_nil]

theorem ri_end (s : Int) (xs ys : List Nat) : T PP f_lookup_rising.ntmps (loopOf f_lookup_rising 0) (riSt s xs ys xs.length) (.exit 0) (riEn s xs ys) :=
  T.by ({ o := { br := [(14, false)] } }) 0 {} (
    pf (gt_test ((es xs).length) xs.length (by simp)) <|
    pf (Eq.refl ((4 : Nat) : Nat)) <|
    pf (row_full ys xs.length) <|
    pf (Eq.refl ((0 : Nat) : Nat)) <|
    pf (Eq.refl ((es xs).length : Nat)) <|
    pf (DLe.r (i s)) <|
    pz) (by kernel_rfl)

end Go.Sg
