/-
Contracts: lists of elements: sigilref00, tape, law17.at, lookup.Compress. (Laid by wip/tools/fill2.py out of a text of our own.)
-/
import Derived.Test.YtlaohcpkecmhnaaOwnTests

set_option linter.all false

namespace Go.Sg
open Go Go.Own
open Go.Own (V D Wy)

def es (xs : List Nat) : List D := xs.map elem
def vl (xs : List Nat) : V := .d (.sl 4 (es xs))

/-- Numbers of 256 bits. -/
def Nums (xs : List Nat) : Prop := ∀ x ∈ xs, x < B ^ 4

theorem es_get (xs : List Nat) (r v : Nat) (hr : xs[r]? = some v) : (es xs)[r]? = some (elem v) := by
  unfold es
  rw [List.getElem?_map, hr]
  rfl

theorem at_in (s : Int) (xs : List Nat) (r v : Nat) (hr : xs[r]? = some v) (hl : r < (es xs).length) : FnOk PP n_sigillaw17_at [vi s, vl xs, vi r] [] (.ret (ve v)) [] :=
  FnOk.by at_sigillaw17_at (by kernel_rfl) ({ o := { val := [(13, elem v)], br := [(10, true)] } }) {} [ve v] rfl (
    pf (t_gt ((es xs).length) r hl) <|
    pf (nn_le r) <|
    pf (es_get xs r v hr) <|
    pf (by decide : (4 : Nat) ≤ (4 : Nat)) <|
    pf (DLe.r (elem v)) <|
    pz) (by kernel_rfl)

theorem at_out (s : Int) (hs : Sort01 s) (xs : List Nat) (r : Nat) (hr : (es xs).length ≤ r) (hb : r ≤ 1000) : FnOk PP n_sigillaw17_at [vi s, vl xs, vi r] [] (.ret (ve (addF (pr s) (7 * r + 3) 0))) [] :=
  FnOk.by at_sigillaw17_at (by kernel_rfl) ({ o := { br := [(10, false)], call := [(19, callV (ve (addF (pr s) (↑((7 : Nat) * r + (3 : Nat)) : Int).toNat (0 : Nat))))], set := [(17, i (↑((7 : Nat) * r) : Int)), (18, i (↑((7 : Nat) * r + (3 : Nat)) : Int))] } }) {} [ve (addF (pr s) (7 * r + 3) 0)] rfl (
    pf (gt_test ((es xs).length) r hr) <|
    pf (i_mul ((7 : Nat)) r (by omega)) <|
    pf (i_add ((7 : Nat) * r) ((3 : Nat)) (by omega)) <|
    pf (Int_ok s hs ((↑((7 : Nat) * r + (3 : Nat)) : Int)) (by omega) (by omega)) <|
    pf (by decide : (4 : Nat) ≤ (4 : Nat)) <|
    pf (DLe.r (elem (addF (pr s) ((7 : Nat) * r + (3 : Nat)) (0 : Nat)))) <|
    pz) (by kernel_rfl)

@[simp] theorem es_len (xs : List Nat) : (es xs).length = xs.length := List.length_map _
/-- A list that came in is of less than 2^47 bytes. -/
def Fits (xs : List Nat) : Prop := xs.length * 32 ≤ 140737488355328

theorem es_plain (xs : List Nat) : PlainE (es xs) := by
  intro e he
  simp only [es, List.mem_map] at he
  obtain ⟨x, _, rfl⟩ := he
  rfl

theorem es_fits_le (xs : List Nat) (h : Fits xs) : ((0 : Nat) + (es xs).length) * (32 : Nat) ≤ (140737488355328 : Nat) := by
  rw [es_len, Nat.zero_add]; exact h
theorem es_tail (x : Nat) (xs : List Nat) : DLe (.sl 4 (List.drop 1 (es (x :: xs)))) (.sl 4 (es xs)) := DLe.r _
theorem es_ne_vc (x : Nat) (xs : List Nat) : es (x :: xs) ≠ [] := fun h => by cases h
theorem es_nil_app (xs : List Nat) : DLe (.sl 4 ([] ++ es xs)) (.sl 4 (es xs)) := DLe.r _

theorem CopyElems_ok (xs : List Nat) (h : Fits xs) : FnOk PP n_sigilref00_CopyElems [vl xs] [] (.ret (vl xs)) [] :=
  FnOk.by at_sigilref00_CopyElems (by kernel_rfl) ({}) {} [vl xs] rfl (
    pf (es_plain xs) <|
    pf (es_fits_le xs h) <|
    pf (DLe.r (D.sl (4 : Nat) (es xs))) <|
    pz) (by kernel_rfl)

theorem Clone_cons (x : Nat) (xs : List Nat) (h : Fits (x :: xs)) : FnOk PP n_slices_Clone [vl (x :: xs)] [] (.ret (vl (x :: xs))) [] :=
  FnOk.by at_slices_Clone (by kernel_rfl) ({}) {} [vl (x :: xs)] rfl (
    pf (es_ne_vc x xs) <|
    pf (es_plain (x :: xs)) <|
    pf (es_fits_le (x :: xs) h) <|
    pf (DLe.r (D.sl (4 : Nat) (es (x :: xs)))) <|
    pz) (by kernel_rfl)

theorem Clone_nil  : FnOk PP n_slices_Clone [.nilx true] [] (.ret (vl [])) [] :=
  FnOk.by at_slices_Clone (by kernel_rfl) ({}) {} [vl []] rfl (
    pf (nil_sl ((4 : Nat))) <|
    pz) (by kernel_rfl)

theorem Clone_emp  : FnOk PP n_slices_Clone [.nilx false] [] (.ret (vl [])) [] :=
  FnOk.by at_slices_Clone (by kernel_rfl) ({ weak := [(3, { s := { t := [(0, vl [])], h := [] } })] }) {} [vl []] rfl (
    pf (Eq.refl ([] : List D)) <|
    pf nil_plain <|
    pf (by decide : (0 : Nat) ≤ (140737488355328 : Nat)) <|
    pf (DLe.r (D.sl (4 : Nat) [])) <|
    pz) (by kernel_rfl)

theorem Clone_ok (xs : List Nat) (h : Fits xs) : FnOk PP n_slices_Clone [vl xs] [] (.ret (vl xs)) [] := by
  cases xs with
  | nil => exact FnOk.splitNil [] [] Clone_nil Clone_emp
  | cons x xs => exact Clone_cons x xs h

theorem Purse_ok (xs : List Nat) (h : Fits xs) : FnOk PP n_tape_Purse [vl xs] [] (.ret (.ptr 6 0 0)) [(6, .box [vl xs])] :=
  FnOk.by at_tape_Purse (by kernel_rfl) ({ o := { call := [(4, callV (vl xs))] } }) {} [.ptr 6 0 0] rfl (
    pf (Clone_ok xs h) <|
    pf (DLe.r (D.sl (4 : Nat) (es xs))) <|
    pf (Eq.refl ((0 : Nat) : Nat)) <|
    pf (Eq.refl ((0 : Nat) : Nat)) <|
    pz) (by kernel_rfl)

theorem Next_ok (x : Nat) (xs : List Nat) : FnOk PP n_tape_Coins_Next [.ptr 100000 0 0] [(100000, .box [vl (x :: xs)])] (.ret (.tup [ve x, vi 0])) [(100000, .box [vl xs])] :=
  FnOk.by at_tape_Coins_Next (by kernel_rfl) ({}) {} [ve x, vi 0] rfl (
    pf (by decide : (↑(0 : Nat) : Int) ≤ (↑(0 : Nat) : Int)) <|
    pf (by decide : (4 : Nat) ≤ (4 : Nat)) <|
    pf (bnd_lo ((1 : Nat)) ((es (x :: xs)).length) (by simp)) <|
    pf (by decide : (4 : Nat) ≤ (4 : Nat)) <|
    pf (es_tail x xs) <|
    pf (DLe.r (elem x)) <|
    pf (DLe.r (i (↑(0 : Nat) : Int))) <|
    pz) (by kernel_rfl)

theorem Next_no  : FnOk PP n_tape_Coins_Next [.ptr 100000 0 0] [(100000, .box [vl []])] (.ret (.tup [ve 0, vi 81])) [(100000, .box [vl []])] :=
  FnOk.by at_tape_Coins_Next (by kernel_rfl) ({}) {} [ve 0, vi 81] rfl (
    pf (by decide : (4 : Nat) ≤ (4 : Nat)) <|
    pf (DLe.r (D.sl (4 : Nat) [])) <|
    pf (DLe.r (D.agg [u (0 : Nat), u (0 : Nat), u (0 : Nat), u (0 : Nat)])) <|
    pf (DLe.r (i (↑(81 : Nat) : Int))) <|
    pz) (by kernel_rfl)

theorem SameElems_len (xs ys : List Nat) (h : xs.length ≠ ys.length) : FnOk PP n_sigilref00_SameElems [vl xs, vl ys] [] (.ret (vb false)) [] :=
  FnOk.by at_sigilref00_SameElems (by kernel_rfl) ({ o := { br := [(10, true)] } }) {} [vb false] rfl (
    pf (t_ne ((es xs).length) ((es ys).length) (by simp; omega)) <|
    pf (DLe.r (D.bool false)) <|
    pz) (by kernel_rfl)

theorem pair_of_ok (s : Int) (hs : Sort01 s) (be ga a b : Nat) (hbe : be < B ^ 4) (hga : ga < B ^ 4) (ha : a < B ^ 4) (hb : b < B ^ 4) : FnOk PP n_lookup_pair_of [.d (.agg [i s, u (limb 0 be), u (limb 1 be), u (limb 2 be), u (limb 3 be), u (limb 0 ga), u (limb 1 ga), u (limb 2 ga), u (limb 3 ga)]), ve a, ve b] [] (.ret (ve (mulF (pr s) (addF (pr s) a be) (addF (pr s) b ga)))) [] :=
  FnOk.by at_lookup_pair_of (by kernel_rfl) ({ o := { call := [(14, callV (ve (addF (pr s) a be))), (20, callV (ve (addF (pr s) b ga))), (21, callV (ve (mulF (pr s) (addF (pr s) a be) (addF (pr s) b ga))))] } }) {} [ve (mulF (pr s) (addF (pr s) a be) (addF (pr s) b ga))] rfl (
    pf PP_mixed <|
    pf (Add_ok s hs a be ha hbe) <|
    pf (Add_ok s hs b ga hb hga) <|
    pf (Mul_ok s hs (addF (pr s) a be) (addF (pr s) b ga) (addF_lt (little s hs) a be) (addF_lt (little s hs) b ga)) <|
    pf (by decide : (4 : Nat) ≤ (4 : Nat)) <|
    pf (DLe.r (elem (mulF (pr s) (addF (pr s) a be) (addF (pr s) b ga)))) <|
    pz) (by kernel_rfl)

theorem compare_lt (a b : Nat) (ha : a < B ^ 4) (hb : b < B ^ 4) (h : a < b) : FnOk PP n_lookup_compare [ve a, ve b] [] (.ret (vi (-1))) [] :=
  FnOk.by at_lookup_compare (by kernel_rfl) ({ o := { br := [(5, true)], call := [(8, callV (vb (decide (a < b))))] } }) {} [vi (-1)] rfl (
    pf (word_Less_ok a b ha hb) <|
    pf (t_dec (a < b) h) <|
    pf (DLe.r (i (-(↑(1 : Nat) : Int)))) <|
    pz) (by kernel_rfl)

theorem compare_gt (a b : Nat) (ha : a < B ^ 4) (hb : b < B ^ 4) (h : b < a) : FnOk PP n_lookup_compare [ve a, ve b] [] (.ret (vi 1)) [] :=
  FnOk.by at_lookup_compare (by kernel_rfl) ({ o := { br := [(5, false), (9, true)], call := [(8, callV (vb (decide (a < b)))), (12, callV (vb (decide (b < a))))] } }) {} [vi 1] rfl (
    pf (word_Less_ok a b ha hb) <|
    pf (f_dec (a < b) (by omega)) <|
    pf (word_Less_ok b a hb ha) <|
    pf (t_dec (b < a) h) <|
    pf (DLe.r (i (↑(1 : Nat) : Int))) <|
    pz) (by kernel_rfl)

theorem compare_eq (a : Nat) (ha : a < B ^ 4) : FnOk PP n_lookup_compare [ve a, ve a] [] (.ret (vi 0)) [] :=
  FnOk.by at_lookup_compare (by kernel_rfl) ({ o := { br := [(5, false), (9, false)], call := [(8, callV (vb (decide (a < a)))), (12, callV (vb (decide (a < a))))] } }) {} [vi 0] rfl (
    pf (word_Less_ok a a ha ha) <|
    pf (f_dec (a < a) (by omega)) <|
    pf (word_Less_ok a a ha ha) <|
    pf (f_dec (a < a) (by omega)) <|
    pf (DLe.r (i (↑(0 : Nat) : Int))) <|
    pz) (by kernel_rfl)

end Go.Sg
