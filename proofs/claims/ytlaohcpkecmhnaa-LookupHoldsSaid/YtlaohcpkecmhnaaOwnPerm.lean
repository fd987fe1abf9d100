/-
Contract of lookup.Permute. (Laid by wip/tools/fill2.py out of a text of our own.)
-/
import Derived.Test.YtlaohcpkecmhnaaOwnRise

set_option linter.all false

namespace Go.Sg
open Go Go.Own
open Go.Own (V D Wy)

/-- Whole numbers, as data. -/
def iis (ks : List Nat) : List D := ks.map fun k => i ((k : Nat) : Int)
@[simp] theorem iis_len (ks : List Nat) : (iis ks).length = ks.length := by simp [iis]
theorem iis_get (ks : List Nat) (j k : Nat) (h : ks[j]? = some k) : (iis ks)[j]? = some (i (k : Int)) := by
  unfold iis
  rw [List.getElem?_map, h]
  rfl
theorem iis_plain (ks : List Nat) : PlainE (iis ks) := by
  intro e he
  simp only [iis, List.mem_map] at he
  obtain ⟨x, _, rfl⟩ := he
  rfl
theorem one_plain (k : Int) : PlainE [D.int .i64 k] := by
  intro e he
  simp only [List.mem_singleton] at he
  subst he
  rfl
theorem iis_snoc (ks : List Nat) (k : Nat) : iis ks ++ [i (k : Int)] = iis (ks ++ [k]) := by
  unfold iis
  rw [List.map_append]
  rfl

/-- Ahead of round j: what is left of the tables, the places of repeated values. -/
def pmSt (s : Int) (a left : List Nat) (n d : Nat) (again : List Nat) (j : Nat) : Own.St := { t := [(49, vi (j : Int)), (48, vi ((es a).length : Int)), (47, vl a), (14, .ref 14 0 none none), (13, .ref 20368 0 none none), (12, .ref 20352 0 (some left.length) (some n)), (11, vl a), (8, vi 0), (7, .nils), (6, .nils)], h := [(20368, .row 4 (es a)), (20352, .row 4 (rowZ left d)), (14, .row 1 (iis again))] }

theorem pm_again (s : Int) (a left : List Nat) (n d : Nat) (again : List Nat) (j v : Nat) (hj : j < (es a).length) (hb : j ≤ 1000) (h0 : 0 < j) (hv : a[j]? = some v) (hv2 : a[j - 1]? = some v) (hg : again.length ≤ 1000) : T PP f_lookup_Permute.ntmps (loopOf f_lookup_Permute 0) (pmSt s a left n d again j) .normal (pmSt s a left n d (again ++ [j]) (j + 1)) :=
  T.by ({ o := { val := [(52, elem v), (61, elem v)], br := [(50, true), (56, true), (64, true)], set := [(60, i (↑(j - (1 : Nat)) : Int)), (82, i (↑(j + (1 : Nat)) : Int))] } }) 0 { σ := [(14, 68)] } (
    pf (t_gt ((es a).length) j hj) <|
    pf (nn_le j) <|
    pf (es_get a j v hv) <|
    pf (by decide : (4 : Nat) ≤ (4 : Nat)) <|
    pf PP_mixed <|
    pf (t_gt j ((0 : Nat)) h0) <|
    pf (t_gt j ((0 : Nat)) h0) <|
    pf (t_gt j ((0 : Nat)) h0) <|
    pf (t_gt j ((0 : Nat)) h0) <|
    pf (i_sub j ((1 : Nat)) (by omega) (by omega)) <|
    pf (t_gt j ((0 : Nat)) h0) <|
    pf (nn_le (j - (1 : Nat))) <|
    pf (es_get a (j - (1 : Nat)) v hv2) <|
    pf (t_gt j ((0 : Nat)) h0) <|
    pf (t_gt j ((0 : Nat)) h0) <|
    pf (t_gt j ((0 : Nat)) h0) <|
    pf (t_eqE v v (by omega)) <|
    pf (one_plain ((↑j : Int))) <|
    pf (by simp; omega : ((iis again).length + (1 : Nat)) * (8 : Nat) ≤ (140737488355328 : Nat)) <|
    pf (i_add j ((1 : Nat)) (by omega)) <|
    pf (Eq.refl ((4 : Nat) : Nat)) <|
    pf (Eq.refl (es a : List D)) <|
    pf (Eq.refl ((4 : Nat) : Nat)) <|
    pf (Eq.refl (rowZ left d : List D)) <|
    pf (Eq.refl ((1 : Nat) : Nat)) <|
    pf (iis_snoc again j) <|
    pf (DLe.r (i (↑(j + (1 : Nat)) : Int))) <|
    pf (DLe.r (i (↑(es a).length : Int))) <|
    pf (DLe.r (D.sl (4 : Nat) (es a))) <|
    pf (Eq.refl ((0 : Nat) : Nat)) <|
    pf (Eq.refl ((0 : Nat) : Nat)) <|
    pf (Eq.refl ((0 : Nat) : Nat)) <|
    pf (Eq.refl (left.length : Nat)) <|
    pf (Eq.refl (n : Nat)) <|
    pf (DLe.r (D.sl (4 : Nat) (es a))) <|
    pf (DLe.r (i (↑(0 : Nat) : Int))) <|
    pz) (by kernel_rfl)

theorem take_rowZ (xs : List Nat) (d : Nat) : List.take xs.length (rowZ xs d) = es xs := by
  unfold rowZ
  rw [List.take_append_of_le_length (by rw [es_len]; exact Nat.le_refl _), List.take_of_length_le (by rw [es_len]; exact Nat.le_refl _)]
theorem SearchZ_ok (xs : List Nat) (d : Nat) (hr : Rises xs) (hx : Nums xs) (hl : xs.length ≤ 1000) (v : Nat) (hv : v < B ^ 4) : FnOk PP n_slices_BinarySearchFunc [.d (.sl 4 (List.take xs.length (rowZ xs d))), ve v, .d (.fn (.func n_lookup_compare) [] [])] [] (.ret (.tup [vi (rankF xs v), vb (foundF xs v)])) [] := by
  rw [take_rowZ]
  exact Search_ok xs hr hx hl v hv
theorem t_found (xs : List Nat) (v : Nat) (h : foundF xs v = true) : V.d (.bool (foundF xs v)) = V.d (.bool true) := by rw [h]
theorem f_found (xs : List Nat) (v : Nat) (h : foundF xs v = false) : V.d (.bool (foundF xs v)) = V.d (.bool false) := by rw [h]
@[simp] theorem erase_len (xs : List Nat) (k : Nat) (h : k < xs.length) : (xs.eraseIdx k).length = xs.length - 1 := by rw [List.length_eraseIdx, if_pos h]

theorem erase_vc (xs : List Nat) (k : Nat) (h : k < xs.length) : xs.length - 1 = (xs.eraseIdx k).length := (erase_len xs k h).symm

theorem pm_del0 (s : Int) (a left : List Nat) (n d : Nat) (again : List Nat) (v : Nat) (hj : 0 < (es a).length) (hv : a[0]? = some v) (hv4 : v < B ^ 4) (hr : Rises left) (hx : Nums left) (hn : left.length + d = n) (hn2 : n ≤ 1000) (hin : foundF left v = true) (hk : rankF left v < left.length) : T PP f_lookup_Permute.ntmps (loopOf f_lookup_Permute 0) (pmSt s a left n d again 0) .normal (pmSt s a (left.eraseIdx (rankF left v)) n (d + 1) again 1) :=
  T.by ({ o := { val := [(52, elem v)], br := [(50, true), (76, false)], call := [(72, callV (V.tup [vi (↑(rankF left v) : Int), vb (foundF left v)])), (81, { hin := [(20352 : Nat)], res := V.ref (20352 : Nat) (0 : Nat) (some (left.length - (1 : Nat))) (some n), hout := [((20352 : Nat), Blk.row (4 : Nat) (rowZ (left.eraseIdx (rankF left v)) (d + (1 : Nat))))], pure := false })], set := [(80, i (↑(rankF left v + (1 : Nat)) : Int))] } }) 0 {} (
    pf (t_gt ((es a).length) ((0 : Nat)) hj) <|
    pf (by decide : (↑(0 : Nat) : Int) ≤ (↑(0 : Nat) : Int)) <|
    pf (es_get a ((0 : Nat)) v hv) <|
    pf (by decide : (4 : Nat) ≤ (4 : Nat)) <|
    pf PP_mixed <|
    pf (SearchZ_ok left d hr hx (by omega) v hv4) <|
    pf (flat_t2 (i (↑(rankF left v) : Int)) (D.bool (foundF left v)) (rfl) (rfl)) <|
    pf (f_not (t_found left v hin)) <|
    pf (i_add (rankF left v) ((1 : Nat)) (by omega)) <|
    pf (FnOk.ren [((100000 : Nat), (20352 : Nat))] (Delete_ok left d (rankF left v) left.length n (by omega) hn hk hn2)) <|
    pf (Eq.refl ((4 : Nat) : Nat)) <|
    pf (Eq.refl (es a : List D)) <|
    pf (Eq.refl ((4 : Nat) : Nat)) <|
    pf (Eq.refl (rowZ (left.eraseIdx (rankF left v)) (d + (1 : Nat)) : List D)) <|
    pf (Eq.refl ((1 : Nat) : Nat)) <|
    pf (Eq.refl (iis again : List D)) <|
    pf (DLe.r (i (↑(1 : Nat) : Int))) <|
    pf (DLe.r (i (↑(es a).length : Int))) <|
    pf (DLe.r (D.sl (4 : Nat) (es a))) <|
    pf (Eq.refl ((0 : Nat) : Nat)) <|
    pf (Eq.refl ((0 : Nat) : Nat)) <|
    pf (Eq.refl ((0 : Nat) : Nat)) <|
    pf (erase_vc left (rankF left v) hk) <|
    pf (Eq.refl (n : Nat)) <|
    pf (DLe.r (D.sl (4 : Nat) (es a))) <|
    pf (DLe.r (i (↑(0 : Nat) : Int))) <|
    pz) (by kernel_rfl)

theorem pm_del (s : Int) (a left : List Nat) (n d : Nat) (again : List Nat) (j v v' : Nat) (hj : j < (es a).length) (hb : j ≤ 1000) (h0 : 0 < j) (hv : a[j]? = some v) (hv4 : v < B ^ 4) (hv2 : a[j - 1]? = some v') (hv4' : v' < B ^ 4) (hne : v ≠ v') (hr : Rises left) (hx : Nums left) (hn : left.length + d = n) (hn2 : n ≤ 1000) (hin : foundF left v = true) (hk : rankF left v < left.length) : T PP f_lookup_Permute.ntmps (loopOf f_lookup_Permute 0) (pmSt s a left n d again j) .normal (pmSt s a (left.eraseIdx (rankF left v)) n (d + 1) again (j + 1)) :=
  T.by ({ o := { val := [(52, elem v), (61, elem v')], br := [(50, true), (56, true), (64, false), (76, false)], call := [(72, callV (V.tup [vi (↑(rankF left v) : Int), vb (foundF left v)])), (81, { hin := [(20352 : Nat)], res := V.ref (20352 : Nat) (0 : Nat) (some (left.length - (1 : Nat))) (some n), hout := [((20352 : Nat), Blk.row (4 : Nat) (rowZ (left.eraseIdx (rankF left v)) (d + (1 : Nat))))], pure := false })], set := [(60, i (↑(j - (1 : Nat)) : Int)), (80, i (↑(rankF left v + (1 : Nat)) : Int)), (82, i (↑(j + (1 : Nat)) : Int))] } }) 0 {} (
    pf (t_gt ((es a).length) j hj) <|
    pf (nn_le j) <|
    pf (es_get a j v hv) <|
    pf (by decide : (4 : Nat) ≤ (4 : Nat)) <|
    pf PP_mixed <|
    pf (t_gt j ((0 : Nat)) h0) <|
    pf (t_gt j ((0 : Nat)) h0) <|
    pf (t_gt j ((0 : Nat)) h0) <|
    pf (t_gt j ((0 : Nat)) h0) <|
    pf (i_sub j ((1 : Nat)) (by omega) (by omega)) <|
    pf (t_gt j ((0 : Nat)) h0) <|
    pf (nn_le (j - (1 : Nat))) <|
    pf (es_get a (j - (1 : Nat)) v' hv2) <|
    pf (t_gt j ((0 : Nat)) h0) <|
    pf (t_gt j ((0 : Nat)) h0) <|
    pf (t_gt j ((0 : Nat)) h0) <|
    pf (f_eqE v v' hv4 hv4' hne) <|
    pf (SearchZ_ok left d hr hx (by omega) v hv4) <|
    pf (flat_t2 (i (↑(rankF left v) : Int)) (D.bool (foundF left v)) (rfl) (rfl)) <|
    pf (f_not (t_found left v hin)) <|
    pf (i_add (rankF left v) ((1 : Nat)) (by omega)) <|
    pf (FnOk.ren [((100000 : Nat), (20352 : Nat))] (Delete_ok left d (rankF left v) left.length n (by omega) hn hk hn2)) <|
    pf (i_add j ((1 : Nat)) (by omega)) <|
    pf (Eq.refl ((4 : Nat) : Nat)) <|
    pf (Eq.refl (es a : List D)) <|
    pf (Eq.refl ((4 : Nat) : Nat)) <|
    pf (Eq.refl (rowZ (left.eraseIdx (rankF left v)) (d + (1 : Nat)) : List D)) <|
    pf (Eq.refl ((1 : Nat) : Nat)) <|
    pf (Eq.refl (iis again : List D)) <|
    pf (DLe.r (i (↑(j + (1 : Nat)) : Int))) <|
    pf (DLe.r (i (↑(es a).length : Int))) <|
    pf (DLe.r (D.sl (4 : Nat) (es a))) <|
    pf (Eq.refl ((0 : Nat) : Nat)) <|
    pf (Eq.refl ((0 : Nat) : Nat)) <|
    pf (Eq.refl ((0 : Nat) : Nat)) <|
    pf (erase_vc left (rankF left v) hk) <|
    pf (Eq.refl (n : Nat)) <|
    pf (DLe.r (D.sl (4 : Nat) (es a))) <|
    pf (DLe.r (i (↑(0 : Nat) : Int))) <|
    pz) (by kernel_rfl)

def pmNo : Own.St := { t := [(8, vi 200), (7, .nils), (6, .nils)], h := [] }

theorem pm_no0 (s : Int) (a left : List Nat) (n d : Nat) (again : List Nat) (v : Nat) (hj : 0 < (es a).length) (hv : a[0]? = some v) (hv4 : v < B ^ 4) (hr : Rises left) (hx : Nums left) (hn : left.length + d = n) (hn2 : n ≤ 1000) (hin : foundF left v = false) : T PP f_lookup_Permute.ntmps (loopOf f_lookup_Permute 0) (pmSt s a left n d again 0) .ret pmNo :=
  T.by ({ o := { val := [(52, elem v)], br := [(50, true), (76, true)], call := [(72, callV (V.tup [vi (↑(rankF left v) : Int), vb (foundF left v)]))] } }) 0 {} (
    pf (t_gt ((es a).length) ((0 : Nat)) hj) <|
    pf (by decide : (↑(0 : Nat) : Int) ≤ (↑(0 : Nat) : Int)) <|
    pf (es_get a ((0 : Nat)) v hv) <|
    pf (by decide : (4 : Nat) ≤ (4 : Nat)) <|
    pf PP_mixed <|
    pf (SearchZ_ok left d hr hx (by omega) v hv4) <|
    pf (flat_t2 (i (↑(rankF left v) : Int)) (D.bool (foundF left v)) (rfl) (rfl)) <|
    pf (t_not (f_found left v hin)) <|
    pf (DLe.r (i (↑(200 : Nat) : Int))) <|
    pz) (by kernel_rfl)

theorem pm_no (s : Int) (a left : List Nat) (n d : Nat) (again : List Nat) (j v v' : Nat) (hj : j < (es a).length) (hb : j ≤ 1000) (h0 : 0 < j) (hv : a[j]? = some v) (hv4 : v < B ^ 4) (hv2 : a[j - 1]? = some v') (hv4' : v' < B ^ 4) (hne : v ≠ v') (hr : Rises left) (hx : Nums left) (hn : left.length + d = n) (hn2 : n ≤ 1000) (hin : foundF left v = false) : T PP f_lookup_Permute.ntmps (loopOf f_lookup_Permute 0) (pmSt s a left n d again j) .ret pmNo :=
  T.by ({ o := { val := [(52, elem v), (61, elem v')], br := [(50, true), (56, true), (64, false), (76, true)], call := [(72, callV (V.tup [vi (↑(rankF left v) : Int), vb (foundF left v)]))], set := [(60, i (↑(j - (1 : Nat)) : Int))] } }) 0 {} (
    pf (t_gt ((es a).length) j hj) <|
    pf (nn_le j) <|
    pf (es_get a j v hv) <|
    pf (by decide : (4 : Nat) ≤ (4 : Nat)) <|
    pf PP_mixed <|
    pf (t_gt j ((0 : Nat)) h0) <|
    pf (t_gt j ((0 : Nat)) h0) <|
    pf (t_gt j ((0 : Nat)) h0) <|
    pf (t_gt j ((0 : Nat)) h0) <|
    pf (i_sub j ((1 : Nat)) (by omega) (by omega)) <|
    pf (t_gt j ((0 : Nat)) h0) <|
    pf (nn_le (j - (1 : Nat))) <|
    pf (es_get a (j - (1 : Nat)) v' hv2) <|
    pf (t_gt j ((0 : Nat)) h0) <|
    pf (t_gt j ((0 : Nat)) h0) <|
    pf (t_gt j ((0 : Nat)) h0) <|
    pf (f_eqE v v' hv4 hv4' hne) <|
    pf (SearchZ_ok left d hr hx (by omega) v hv4) <|
    pf (flat_t2 (i (↑(rankF left v) : Int)) (D.bool (foundF left v)) (rfl) (rfl)) <|
    pf (t_not (f_found left v hin)) <|
    pf (DLe.r (i (↑(200 : Nat) : Int))) <|
    pz) (by kernel_rfl)

theorem pm_end (s : Int) (a left : List Nat) (n d : Nat) (again : List Nat) : T PP f_lookup_Permute.ntmps (loopOf f_lookup_Permute 0) (pmSt s a left n d again a.length) (.exit 0) (pmSt s a left n d again a.length) :=
  T.by ({ o := { br := [(50, false)] } }) 0 {} (
    pf (gt_test ((es a).length) a.length (by simp)) <|
    pf (Eq.refl ((4 : Nat) : Nat)) <|
    pf (Eq.refl (es a : List D)) <|
    pf (Eq.refl ((4 : Nat) : Nat)) <|
    pf (Eq.refl (rowZ left d : List D)) <|
    pf (Eq.refl ((1 : Nat) : Nat)) <|
    pf (Eq.refl (iis again : List D)) <|
    pf (DLe.r (i (↑a.length : Int))) <|
    pf (DLe.r (i (↑(es a).length : Int))) <|
    pf (DLe.r (D.sl (4 : Nat) (es a))) <|
    pf (Eq.refl ((0 : Nat) : Nat)) <|
    pf (Eq.refl ((0 : Nat) : Nat)) <|
    pf (Eq.refl ((0 : Nat) : Nat)) <|
    pf (Eq.refl (left.length : Nat)) <|
    pf (Eq.refl (n : Nat)) <|
    pf (DLe.r (D.sl (4 : Nat) (es a))) <|
    pf (DLe.r (i (↑(0 : Nat) : Int))) <|
    pz) (by kernel_rfl)

/-! ### The whole first loop -/
/-- What is left and the places of repeated values, ahead of round j. -/
def pmF (a l : List Nat) : Nat → Option (List Nat × List Nat)
  | 0 => some (l, [])
  | j + 1 => match pmF a l j with
    | none => none
    | some (left, again) => if 0 < j ∧ a[j - 1]? = a[j]? then some (left, again ++ [j]) else
      if foundF left (a.getD j 0) = true then some (left.eraseIdx (rankF left (a.getD j 0)), again) else none

theorem pmF_inv (a l : List Nat) (hr : Rises l) (hx : Nums l) : ∀ (j : Nat) (left again : List Nat), pmF a l j = some (left, again) → Rises left ∧ Nums left ∧ left.length + j = l.length + again.length ∧ (∀ k ∈ again, k < j) ∧ again.length ≤ j
  | 0, left, again, h => by
    simp only [pmF, Option.some.injEq, Prod.mk.injEq] at h
    obtain ⟨rfl, rfl⟩ := h
    exact ⟨hr, hx, by simp, by simp, by simp⟩
  | j + 1, left, again, h => by
    simp only [pmF] at h
    split at h
    · cases h
    rename_i left0 again0 h0
    obtain ⟨i1, i2, i3, i4, i5⟩ := pmF_inv a l hr hx j left0 again0 h0
    split at h
    · simp only [Option.some.injEq, Prod.mk.injEq] at h
      obtain ⟨rfl, rfl⟩ := h
      refine ⟨i1, i2, by simp; omega, fun k hk => ?_, by simp; omega⟩
      rcases List.mem_append.1 hk with hk | hk
      · have := i4 k hk; omega
      · simp at hk; omega
    · split at h
      · rename_i hf
        simp only [Option.some.injEq, Prod.mk.injEq] at h
        obtain ⟨rfl, rfl⟩ := h
        have hk := at_lt (found_at i1 (of_decide_eq_true hf))
        refine ⟨List.Pairwise.sublist (List.eraseIdx_sublist _ _) i1, fun x hx' => i2 x (List.mem_of_mem_eraseIdx hx'), ?_, fun k hk => ?_, by omega⟩
        · rw [List.length_eraseIdx, if_pos hk]; omega
        · have := i4 k hk; omega
      · cases h

theorem pmF_none (a l : List Nat) {j : Nat} (h : pmF a l j = none) : ∀ n, j ≤ n → pmF a l n = none := by
  intro n hn
  induction n with
  | zero =>
      obtain rfl : j = 0 := by omega
      exact h
  | succ n ih =>
    by_cases e : j = n + 1
    · rw [← e]; exact h
    · simp only [pmF, ih (by omega)]

theorem pm_walk (s : Int) (a l : List Nat) (n : Nat) (hn : l.length = n) (hn2 : n ≤ 1000) (ha : Nums a) (han : a.length = n) (hr : Rises l) (hx : Nums l) : ∀ (k j : Nat) (left again : List Nat) (d : Nat), n - j = k → j ≤ n → left.length + d = n → pmF a l j = some (left, again) →
    (∀ left' again', pmF a l n = some (left', again') → ∃ m d', left'.length + d' = n ∧ Un PP f_lookup_Permute.ntmps (loopOf f_lookup_Permute 0) (.exit 0) (pmSt s a left' n d' again' a.length) m (pmSt s a left n d again j)) ∧
    (pmF a l n = none → ∃ m, Un PP f_lookup_Permute.ntmps (loopOf f_lookup_Permute 0) .ret pmNo m (pmSt s a left n d again j))
  | 0, j, left, again, d, hk, hj, hd, h => by
    obtain rfl : j = n := by omega
    refine ⟨fun left' again' h' => ?_, fun h' => by rw [h] at h'; cases h'⟩
    rw [h] at h'
    simp only [Option.some.injEq, Prod.mk.injEq] at h'
    obtain ⟨rfl, rfl⟩ := h'
    refine ⟨0, d, hd, .last (by simp) ?_⟩
    have := pm_end s a left j d again
    rw [han] at this ⊢
    exact this
  | k + 1, j, left, again, d, hk, hj, hd, h => by
    obtain ⟨i1, i2, i3, i4, i5⟩ := pmF_inv a l hr hx j left again h
    have hj' : j < n := by omega
    have hja : j < a.length := by omega
    have hat : a[j]? = some a[j] := List.getElem?_eq_getElem hja
    have hv4 := nums_at ha hat
    have hes : j < (es a).length := by rw [es_len]; exact hja
    have hg : a.getD j 0 = a[j] := by rw [List.getD_eq_getElem?_getD, hat]; rfl
    have step := fun (left1 again1 : List Nat) (d1 : Nat) (hd1 : left1.length + d1 = n) (e : pmF a l (j + 1) = some (left1, again1)) => pm_walk s a l n hn hn2 ha han hr hx k (j + 1) left1 again1 d1 (by omega) (by omega) hd1 e
    have key : ∀ (left1 again1 : List Nat) (d1 : Nat), left1.length + d1 = n → pmF a l (j + 1) = some (left1, again1) → T PP f_lookup_Permute.ntmps (loopOf f_lookup_Permute 0) (pmSt s a left n d again j) .normal (pmSt s a left1 n d1 again1 (j + 1)) →
        (∀ left' again', pmF a l n = some (left', again') → ∃ m d', left'.length + d' = n ∧ Un PP f_lookup_Permute.ntmps (loopOf f_lookup_Permute 0) (.exit 0) (pmSt s a left' n d' again' a.length) m (pmSt s a left n d again j)) ∧
        (pmF a l n = none → ∃ m, Un PP f_lookup_Permute.ntmps (loopOf f_lookup_Permute 0) .ret pmNo m (pmSt s a left n d again j)) := by
      intro left1 again1 d1 hd1 e t
      obtain ⟨s1, s2⟩ := step left1 again1 d1 hd1 e
      refine ⟨fun left' again' h' => ?_, fun h' => ?_⟩
      · obtain ⟨m, d', e1, e2⟩ := s1 left' again' h'
        exact ⟨m + 1, d', e1, .step t e2⟩
      · obtain ⟨m, e2⟩ := s2 h'
        exact ⟨m + 1, .step t e2⟩
    by_cases hrep : 0 < j ∧ a[j - 1]? = a[j]?
    · have e : pmF a l (j + 1) = some (left, again ++ [j]) := by simp only [pmF, h, if_pos hrep]
      exact key _ _ d hd e (pm_again s a left n d again j a[j] hes (by omega) hrep.1 hat (by rw [hrep.2, hat]) (by omega))
    · have hprev : 0 < j → ∃ v', a[j - 1]? = some v' ∧ v' < B ^ 4 ∧ a[j] ≠ v' := by
        intro h0
        have h1 : a[j - 1]? = some a[j - 1] := List.getElem?_eq_getElem (by omega)
        refine ⟨_, h1, nums_at ha h1, fun e => hrep ⟨h0, ?_⟩⟩
        rw [h1, hat, ← e]
      cases hf : foundF left a[j] with
      | true =>
        have e : pmF a l (j + 1) = some (left.eraseIdx (rankF left a[j]), again) := by simp only [pmF, h, if_neg hrep, hg, if_pos hf]
        have hk := at_lt (found_at i1 (of_decide_eq_true hf))
        have hd1 : (left.eraseIdx (rankF left a[j])).length + (d + 1) = n := by rw [List.length_eraseIdx, if_pos hk]; omega
        refine key _ _ (d + 1) hd1 e ?_
        by_cases h0 : 0 < j
        · obtain ⟨v', h1, h2, h3⟩ := hprev h0
          exact pm_del s a left n d again j a[j] v' hes (by omega) h0 hat hv4 h1 h2 h3 i1 i2 hd hn2 hf hk
        · obtain rfl : j = 0 := by omega
          exact pm_del0 s a left n d again a[0] hes hat hv4 i1 i2 hd hn2 hf hk
      | false =>
        have e : pmF a l (j + 1) = none := by simp only [pmF, h, if_neg hrep, hg]; rw [if_neg (by rw [hf]; simp)]
        have en := pmF_none a l e n (by omega)
        refine ⟨fun left' again' h' => (by rw [en] at h'; cases h'), fun _ => ?_⟩
        by_cases h0 : 0 < j
        · obtain ⟨v', h1, h2, h3⟩ := hprev h0
          exact ⟨0, .last (by simp) (pm_no s a left n d again j a[j] v' hes (by omega) h0 hat hv4 h1 h2 h3 i1 i2 hd hn2 hf)⟩
        · obtain rfl : j = 0 := by omega
          exact ⟨0, .last (by simp) (pm_no0 s a left n d again a[0] hes hat hv4 i1 i2 hd hn2 hf)⟩

end Go.Sg
