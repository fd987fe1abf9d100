/-
Contract of sigillaw17.alive. (Laid by wip/tools/fill2.py out of a text of our own.)
-/
import Derived.Test.YtlaohcpkecmhnaaOwnCheck

set_option linter.all false

namespace Go.Sg
open Go Go.Own
open Go.Own (V D Wy)

theorem al3 : sortF [3, 1, 3] = [1, 3, 3] := by simp [sortF, List.mergeSort, List.MergeSort.Internal.splitInTwo, List.splitAt, List.splitAt.go]
theorem al4 : sortF [1, 2, 3] = [1, 2, 3] := by simp [sortF, List.mergeSort, List.MergeSort.Internal.splitInTwo, List.splitAt, List.splitAt.go]
theorem al_nums1 : Nums [3, 1, 3] := by intro x hx; simp at hx; rcases hx with rfl | rfl | rfl <;> decide
theorem al_nums2 : Nums [1, 2, 3] := by intro x hx; simp at hx; rcases hx with rfl | rfl | rfl <;> decide
theorem al_perm : permF 0 [3, 1, 3] [1, 2, 3] = some ([1, 3, 3], [1, 3, 2]) := by
  have e1 : riseF 0 [3, 1, 3] = [1, 3, 3] := al3
  have e2 : riseF 0 [1, 2, 3] = [1, 2, 3] := al4
  unfold permF
  rw [e1, e2]
  decide
theorem Permute_alive : FnOk PP n_lookup_Permute [vi 0, vl [3, 1, 3], vl [1, 2, 3]] [] (.ret (.tup [vl [1, 3, 3], vl [1, 3, 2], vi 0])) [] :=
  (Permute_ok 0 (.inl rfl) [3, 1, 3] [1, 2, 3] al_nums1 al_nums2 rfl (by decide)).1 _ _ al_perm
theorem Compress_alive : FnOk PP n_lookup_Compress [vi 0, ve 10, vl [1, 2, 3]] [] (.ret (ve 123)) [] :=
  Compress_ok 0 (.inl rfl) 10 (by decide) [1, 2, 3] al_nums2 (by unfold Fits; decide)

theorem alive_ok  : FnOk PP n_sigillaw17_alive [] [] (.ret (vb true)) [] :=
  FnOk.by at_sigillaw17_alive (by kernel_rfl) ({ o := { call := [(13, callV (V.tup [vl [(1 : Nat), (3 : Nat), (3 : Nat)], vl [(1 : Nat), (3 : Nat), (2 : Nat)], vi (0 : Int)])), (25, callV (vb true)), (33, callV (vb true)), (41, callV (ve (123 : Nat)))], give := [8, 12, 24, 32, 40] } }) {} [vb true] rfl (
    pf Permute_alive <|
    pf (SameElems_eq [(1 : Nat), (3 : Nat), (3 : Nat)] (fits_small [(1 : Nat), (3 : Nat), (3 : Nat)] (by decide))) <|
    pf (SameElems_eq [(1 : Nat), (3 : Nat), (2 : Nat)] (fits_small [(1 : Nat), (3 : Nat), (2 : Nat)] (by decide))) <|
    pf Compress_alive <|
    pf (DLe.r (D.bool true)) <|
    pz) (by kernel_rfl)

end Go.Sg
