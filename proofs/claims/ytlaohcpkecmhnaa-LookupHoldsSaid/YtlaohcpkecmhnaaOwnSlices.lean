/-
Contracts: slices.Delete, slices.BinarySearchFunc at elements. (Laid by wip/tools/fill2.py out of a text of our own.)
-/
import Derived.Test.YtlaohcpkecmhnaaOwnLook

set_option linter.all false

namespace Go.Sg
open Go Go.Own
open Go.Own (V D Wy)

def rowZ (xs : List Nat) (d : Nat) : List D := es xs ++ List.replicate d (elem 0)

theorem elem_plain (x : Nat) : D.plainL (elem x).cells = true := rfl
theorem rowZ_len (xs : List Nat) (d : Nat) : (rowZ xs d).length = xs.length + d := by simp [rowZ]
theorem rowZ_0 (xs : List Nat) : es xs = rowZ xs 0 := by simp [rowZ]
theorem rowZ_ne (xs : List Nat) (d : Nat) (h : 0 < xs.length) : rowZ xs d ≠ [] := fun e => by
  have := rowZ_len xs d
  rw [e] at this; simp at this; omega
def dN (xs : List Nat) (d i : Nat) : List D := List.take (xs.length - (i + 1)) (List.drop (i + 1) (rowZ xs d))
theorem dN_eq (xs : List Nat) (d i : Nat) (hi : i < xs.length) : dN xs d i = es (xs.drop (i + 1)) := by
  unfold dN rowZ
  rw [List.drop_append_of_le_length (by rw [es_len]; omega), List.take_append_of_le_length (by rw [List.length_drop, es_len]; omega)]
  unfold es
  rw [← List.map_drop, List.take_of_length_le (by simp)]
theorem dN_len (xs : List Nat) (d i : Nat) (hi : i < xs.length) : (dN xs d i).length = xs.length - (i + 1) := by rw [dN_eq xs d i hi, es_len, List.length_drop]
theorem dN_plain (xs : List Nat) (d i : Nat) (hi : i < xs.length) : PlainE (dN xs d i) := by rw [dN_eq xs d i hi]; exact es_plain _
theorem rep_plain (n x : Nat) : PlainE (List.replicate n (elem x)) := fun e he => by rw [(List.mem_replicate.1 he).2]; rfl

def dR (xs : List Nat) (d i : Nat) : List D := List.take (0 + i) (rowZ xs d) ++ dN xs d i ++ List.drop (0 + i + (dN xs d i).length) (rowZ xs d)
theorem dR_len (xs : List Nat) (d i : Nat) (hi : i < xs.length) : (dR xs d i).length = xs.length + d := by
  unfold dR
  simp only [List.length_append, List.length_take, List.length_drop, dN_len xs d i hi, rowZ_len]
  omega
theorem d_1 (xs : List Nat) (d i : Nat) (hi : i < xs.length) : 0 + i + (dN xs d i).length ≤ (rowZ xs d).length := by
  rw [dN_len xs d i hi, rowZ_len]; omega
theorem d_2 (xs : List Nat) (d i : Nat) (hi : i < xs.length) : ((0 : Nat) : Int) ≤ ((i + (dN xs d i).length : Nat) : Int) ∧ ((i + (dN xs d i).length : Nat) : Int) ≤ (xs.length : Int) ∧ (xs.length : Int) ≤ ((xs.length + d : Nat) : Int) ∧ 0 + xs.length ≤ (dR xs d i).length ∧ dR xs d i ≠ [] := by
  rw [dN_len xs d i hi]
  refine ⟨by omega, by omega, by omega, by rw [dR_len xs d i hi]; omega, fun e => ?_⟩
  have := dR_len xs d i hi
  rw [e] at this; simp at this; omega
theorem d_3 (xs : List Nat) (d i : Nat) (hi : i < xs.length) : i + (dN xs d i).length + (xs.length - (i + (dN xs d i).length)) ≤ (dR xs d i).length := by
  rw [dN_len xs d i hi, dR_len xs d i hi]; omega
theorem d_4 (xs : List Nat) (d i : Nat) (hi : i < xs.length) : List.take (i + (dN xs d i).length) (dR xs d i) ++ List.replicate (xs.length - (i + (dN xs d i).length)) (elem 0) ++ List.drop (i + (dN xs d i).length + (xs.length - (i + (dN xs d i).length))) (dR xs d i) = rowZ (xs.eraseIdx i) (d + 1) := by
  have hl := dN_len xs d i hi
  have e1 : dR xs d i = es (xs.eraseIdx i) ++ (elem (xs.getD (xs.length - 1) 0) :: List.replicate d (elem 0)) := by
    unfold dR
    rw [hl, dN_eq xs d i hi, Nat.zero_add]
    have h1 : List.take i (rowZ xs d) = es (xs.take i) := by
      unfold rowZ
      rw [List.take_append_of_le_length (by rw [es_len]; omega)]
      unfold es
      rw [List.map_take]
    have h2 : List.drop (i + (xs.length - (i + 1))) (rowZ xs d) = elem (xs.getD (xs.length - 1) 0) :: List.replicate d (elem 0) := by
      unfold rowZ
      rw [show i + (xs.length - (i + 1)) = xs.length - 1 by omega, List.drop_append_of_le_length (by rw [es_len]; omega)]
      unfold es
      rw [← List.map_drop, List.drop_eq_getElem_cons (by omega), List.map_cons, show xs.length - 1 + 1 = xs.length by omega, List.drop_length]
      simp [List.getD_eq_getElem?_getD, List.getElem?_eq_getElem (show xs.length - 1 < xs.length by omega)]
    rw [h1, h2, List.eraseIdx_eq_take_drop_succ]
    unfold es
    rw [List.map_append]
  have e2 : (es (xs.eraseIdx i)).length = i + (dN xs d i).length := by rw [es_len, List.length_eraseIdx, if_pos hi, hl]; omega
  have e3 : xs.length - (i + (dN xs d i).length) = 1 := by rw [hl]; omega
  rw [e3, e1, ← e2, List.take_left, List.drop_append, List.drop_eq_nil_of_le (by omega), Nat.add_sub_cancel_left, List.nil_append, List.drop_succ_cons, List.drop_zero]
  unfold rowZ
  rw [List.append_assoc, List.replicate_succ]
  rfl
theorem d_5 (xs : List Nat) (d i : Nat) (hi : i < xs.length) : i + (dN xs d i).length = xs.length - 1 := by rw [dN_len xs d i hi]; omega

theorem Delete_of (xs : List Nat) (d i : Nat) (hi : i < xs.length) (hb : xs.length + d ≤ 1000) : FnOk PP n_slices_Delete [.ref 100000 0 (some xs.length) (some (xs.length + d)), vi i, vi (i + 1 : Nat)] [(100000, .row 4 (rowZ xs d))] (.ret (.ref 100000 0 (some (xs.length - 1)) (some (xs.length + d)))) [(100000, .row 4 (rowZ (xs.eraseIdx i) (d + 1)))] :=
  FnOk.by at_slices_Delete (by kernel_rfl) ({ o := { br := [(16, false)], fit := [26, 31] } }) {} [.ref 100000 0 (some (xs.length - 1)) (some (xs.length + d))] rfl (
    pf (bnd_all i (i + (1 : Nat)) xs.length xs.length (by omega) (by omega) (by omega)) <|
    pf (f_eq i (i + (1 : Nat)) (by omega)) <|
    pf PP_mixed <|
    pf (bnd_hi i xs.length (by omega)) <|
    pf (bnd_lo (i + (1 : Nat)) xs.length (by omega)) <|
    pf (dN_plain xs d i hi) <|
    pf (by simp; omega : (some i).getD ((rowZ xs d).length - (0 : Nat)) + (List.take (xs.length - (i + (1 : Nat))) (List.drop (i + (1 : Nat)) (rowZ xs d))).length ≤ xs.length + d) <|
    pf (d_1 xs d i hi) <|
    pf (by omega : (0 : Nat) < xs.length + d) <|
    pf (rowZ_ne xs d (by omega)) <|
    pf (d_2 xs d i hi) <|
    pf (by simp; omega : (0 : Nat) < xs.length - ((some i).getD ((rowZ xs d).length - (0 : Nat)) + (List.take (xs.length - (i + (1 : Nat))) (List.drop (i + (1 : Nat)) (rowZ xs d))).length)) <|
    pf (d_3 xs d i hi) <|
    pf (rep_plain (xs.length - ((some i).getD ((rowZ xs d).length - (0 : Nat)) + (List.take (xs.length - (i + (1 : Nat))) (List.drop (i + (1 : Nat)) (rowZ xs d))).length)) ((0 : Nat))) <|
    pf (Eq.refl ((4 : Nat) : Nat)) <|
    pf (d_4 xs d i hi) <|
    pf (Eq.refl ((0 : Nat) : Nat)) <|
    pf (d_5 xs d i hi) <|
    pf (Eq.refl (xs.length + d : Nat)) <|
    pz) (by kernel_rfl)

theorem Delete_ok (xs : List Nat) (d i m c : Nat) (hm : xs.length = m) (hc : m + d = c) (hi : i < m) (hb : c ≤ 1000) : FnOk PP n_slices_Delete [.ref 100000 0 (some m) (some c), vi i, vi (i + 1 : Nat)] [(100000, .row 4 (rowZ xs d))]
    (.ret (.ref 100000 0 (some (m - 1)) (some c))) [(100000, .row 4 (rowZ (xs.eraseIdx i) (d + 1)))] := by
  subst hm hc
  exact Delete_of xs d i hi hb

theorem CloneR_cons (x : Nat) (xs : List Nat) (h : Fits (x :: xs)) : FnOk PP n_slices_Clone [vl (x :: xs)] [] (.ret (.ref 7 0 none none)) [(7, .row 4 (es (x :: xs)))] :=
  FnOk.by at_slices_Clone (by kernel_rfl) ({}) {} [.ref 7 0 none none] rfl (
    pf (es_ne_vc x xs) <|
    pf (es_plain (x :: xs)) <|
    pf (es_fits_le (x :: xs) h) <|
    pf (Eq.refl ((4 : Nat) : Nat)) <|
    pf (Eq.refl (es (x :: xs))) <|
    pf (Eq.refl ((0 : Nat) : Nat)) <|
    pz) (by kernel_rfl)

theorem CloneR_nil  : FnOk PP n_slices_Clone [.nilx true] [] (.ret (.ref 7 0 none none)) [(7, .row 4 [])] :=
  FnOk.by at_slices_Clone (by kernel_rfl) ({}) { virt := [7] } [.ref 7 0 none none] rfl (
    pf (Eq.refl ([] : List D)) <|
    pf (Eq.refl ([] : List D)) <|
    pf (Eq.refl ((0 : Nat) : Nat)) <|
    pz) (by kernel_rfl)

theorem CloneR_emp  : FnOk PP n_slices_Clone [.nilx false] [] (.ret (.ref 7 0 none none)) [(7, .row 4 [])] :=
  FnOk.by at_slices_Clone (by kernel_rfl) ({ weak := [(3, { s := { t := [(0, vl [])], h := [] } })] }) {} [.ref 7 0 none none] rfl (
    pf (Eq.refl ([] : List D)) <|
    pf nil_plain <|
    pf (by decide : (0 : Nat) ≤ (140737488355328 : Nat)) <|
    pf (Eq.refl ((4 : Nat) : Nat)) <|
    pf (Eq.refl ([] : List D)) <|
    pf (Eq.refl ((0 : Nat) : Nat)) <|
    pz) (by kernel_rfl)

theorem CloneR_ok (xs : List Nat) (h : Fits xs) : FnOk PP n_slices_Clone [vl xs] [] (.ret (.ref 7 0 none none)) [(7, .row 4 (es xs))] := by
  cases xs with
  | nil => exact FnOk.splitNil [] [] CloneR_nil CloneR_emp
  | cons x xs => exact CloneR_cons x xs h

end Go.Sg
