/-
Contract of sigillaw17.LookupHolds. (Laid by wip/tools/fill2.py out of a text of our own.)
-/
import Derived.Test.YtlaohcpkecmhnaaOwnAlive

set_option linter.all false

namespace Go.Sg
open Go Go.Own
open Go.Own (V D Wy)

theorem LH_s0 (s k : Int) (xs ts cs : List Nat) (be ga : Nat) (h : s < 0) : FnOk PP n_sigillaw17_LookupHolds [vi s, vi k, vl xs, vl ts, ve be, ve ga, vl cs] [] (.ret (vb true)) [] :=
  FnOk.by at_sigillaw17_LookupHolds (by kernel_rfl) ({ o := { br := [(35, true)], call := [(31, callV (vb true))] } }) {} [vb true] rfl (
    pf alive_ok <|
    pf (i_lt s true (by simp; omega)) <|
    pf (i_lt s true (by simp; omega)) <|
    pf (i_lt s true (by simp; omega)) <|
    pf (DLe.r (D.bool true)) <|
    pz) (by kernel_rfl)

theorem LH_s1 (s k : Int) (xs ts cs : List Nat) (be ga : Nat) (h : 1 < s) : FnOk PP n_sigillaw17_LookupHolds [vi s, vi k, vl xs, vl ts, ve be, ve ga, vl cs] [] (.ret (vb true)) [] :=
  FnOk.by at_sigillaw17_LookupHolds (by kernel_rfl) ({ o := { br := [(35, false), (39, true)], call := [(31, callV (vb true))] } }) {} [vb true] rfl (
    pf alive_ok <|
    pf (i_lt s false (by simp; omega)) <|
    pf (i_lt s false (by simp; omega)) <|
    pf (i_lt s false (by simp; omega)) <|
    pf (ti_gt s ((↑(1 : Nat) : Int)) (by omega)) <|
    pf (ti_gt s ((↑(1 : Nat) : Int)) (by omega)) <|
    pf (ti_gt s ((↑(1 : Nat) : Int)) (by omega)) <|
    pf (DLe.r (D.bool true)) <|
    pz) (by kernel_rfl)

theorem LH_k0 (s k : Int) (xs ts cs : List Nat) (be ga : Nat) (h : 0 ≤ s) (h1 : s ≤ 1) (h2 : k < 3) : FnOk PP n_sigillaw17_LookupHolds [vi s, vi k, vl xs, vl ts, ve be, ve ga, vl cs] [] (.ret (vb true)) [] :=
  FnOk.by at_sigillaw17_LookupHolds (by kernel_rfl) ({ o := { br := [(35, false), (39, false), (43, true)], call := [(31, callV (vb true))] } }) {} [vb true] rfl (
    pf alive_ok <|
    pf (i_lt s false (by simp; omega)) <|
    pf (i_lt s false (by simp; omega)) <|
    pf (i_lt s false (by simp; omega)) <|
    pf (fi_gt s ((↑(1 : Nat) : Int)) (by omega)) <|
    pf (fi_gt s ((↑(1 : Nat) : Int)) (by omega)) <|
    pf (fi_gt s ((↑(1 : Nat) : Int)) (by omega)) <|
    pf (ti_gt ((↑(3 : Nat) : Int)) k (by omega)) <|
    pf (ti_gt ((↑(3 : Nat) : Int)) k (by omega)) <|
    pf (ti_gt ((↑(3 : Nat) : Int)) k (by omega)) <|
    pf (DLe.r (D.bool true)) <|
    pz) (by kernel_rfl)

theorem LH_k1 (s k : Int) (xs ts cs : List Nat) (be ga : Nat) (h : 0 ≤ s) (h1 : s ≤ 1) (h2 : 5 < k) : FnOk PP n_sigillaw17_LookupHolds [vi s, vi k, vl xs, vl ts, ve be, ve ga, vl cs] [] (.ret (vb true)) [] :=
  FnOk.by at_sigillaw17_LookupHolds (by kernel_rfl) ({ o := { br := [(35, false), (39, false), (43, false), (47, true)], call := [(31, callV (vb true))] } }) {} [vb true] rfl (
    pf alive_ok <|
    pf (i_lt s false (by simp; omega)) <|
    pf (i_lt s false (by simp; omega)) <|
    pf (i_lt s false (by simp; omega)) <|
    pf (fi_gt s ((↑(1 : Nat) : Int)) (by omega)) <|
    pf (fi_gt s ((↑(1 : Nat) : Int)) (by omega)) <|
    pf (fi_gt s ((↑(1 : Nat) : Int)) (by omega)) <|
    pf (fi_gt ((↑(3 : Nat) : Int)) k (by omega)) <|
    pf (fi_gt ((↑(3 : Nat) : Int)) k (by omega)) <|
    pf (fi_gt ((↑(3 : Nat) : Int)) k (by omega)) <|
    pf (ti_gt k ((↑(5 : Nat) : Int)) (by omega)) <|
    pf (ti_gt k ((↑(5 : Nat) : Int)) (by omega)) <|
    pf (ti_gt k ((↑(5 : Nat) : Int)) (by omega)) <|
    pf (ti_gt k ((↑(5 : Nat) : Int)) (by omega)) <|
    pf (DLe.r (D.bool true)) <|
    pz) (by kernel_rfl)

theorem LH_x (s k : Int) (xs ts cs : List Nat) (be ga : Nat) (h : 0 ≤ s) (h1 : s ≤ 1) (h2 : 3 ≤ k) (h3 : k ≤ 5) (h4 : 100 < (es xs).length) : FnOk PP n_sigillaw17_LookupHolds [vi s, vi k, vl xs, vl ts, ve be, ve ga, vl cs] [] (.ret (vb true)) [] :=
  FnOk.by at_sigillaw17_LookupHolds (by kernel_rfl) ({ o := { br := [(35, false), (39, false), (43, false), (47, false), (52, true)], call := [(31, callV (vb true))] } }) {} [vb true] rfl (
    pf alive_ok <|
    pf (i_lt s false (by simp; omega)) <|
    pf (i_lt s false (by simp; omega)) <|
    pf (i_lt s false (by simp; omega)) <|
    pf (fi_gt s ((↑(1 : Nat) : Int)) (by omega)) <|
    pf (fi_gt s ((↑(1 : Nat) : Int)) (by omega)) <|
    pf (fi_gt s ((↑(1 : Nat) : Int)) (by omega)) <|
    pf (fi_gt ((↑(3 : Nat) : Int)) k (by omega)) <|
    pf (fi_gt ((↑(3 : Nat) : Int)) k (by omega)) <|
    pf (fi_gt ((↑(3 : Nat) : Int)) k (by omega)) <|
    pf (fi_gt k ((↑(5 : Nat) : Int)) (by omega)) <|
    pf (fi_gt k ((↑(5 : Nat) : Int)) (by omega)) <|
    pf (fi_gt k ((↑(5 : Nat) : Int)) (by omega)) <|
    pf (fi_gt k ((↑(5 : Nat) : Int)) (by omega)) <|
    pf (t_gt ((es xs).length) ((100 : Nat)) h4) <|
    pf (t_gt ((es xs).length) ((100 : Nat)) h4) <|
    pf (t_gt ((es xs).length) ((100 : Nat)) h4) <|
    pf (t_gt ((es xs).length) ((100 : Nat)) h4) <|
    pf (DLe.r (D.bool true)) <|
    pz) (by kernel_rfl)

theorem LH_t (s k : Int) (xs ts cs : List Nat) (be ga : Nat) (h : 0 ≤ s) (h1 : s ≤ 1) (h2 : 3 ≤ k) (h3 : k ≤ 5) (h4 : (es xs).length ≤ 100) (h5 : 100 < (es ts).length) : FnOk PP n_sigillaw17_LookupHolds [vi s, vi k, vl xs, vl ts, ve be, ve ga, vl cs] [] (.ret (vb true)) [] :=
  FnOk.by at_sigillaw17_LookupHolds (by kernel_rfl) ({ o := { br := [(35, false), (39, false), (43, false), (47, false), (52, false), (56, true)], call := [(31, callV (vb true))] } }) {} [vb true] rfl (
    pf alive_ok <|
    pf (i_lt s false (by simp; omega)) <|
    pf (i_lt s false (by simp; omega)) <|
    pf (i_lt s false (by simp; omega)) <|
    pf (fi_gt s ((↑(1 : Nat) : Int)) (by omega)) <|
    pf (fi_gt s ((↑(1 : Nat) : Int)) (by omega)) <|
    pf (fi_gt s ((↑(1 : Nat) : Int)) (by omega)) <|
    pf (fi_gt ((↑(3 : Nat) : Int)) k (by omega)) <|
    pf (fi_gt ((↑(3 : Nat) : Int)) k (by omega)) <|
    pf (fi_gt ((↑(3 : Nat) : Int)) k (by omega)) <|
    pf (fi_gt k ((↑(5 : Nat) : Int)) (by omega)) <|
    pf (fi_gt k ((↑(5 : Nat) : Int)) (by omega)) <|
    pf (fi_gt k ((↑(5 : Nat) : Int)) (by omega)) <|
    pf (fi_gt k ((↑(5 : Nat) : Int)) (by omega)) <|
    pf (gt_test ((es xs).length) ((100 : Nat)) h4) <|
    pf (gt_test ((es xs).length) ((100 : Nat)) h4) <|
    pf (gt_test ((es xs).length) ((100 : Nat)) h4) <|
    pf (gt_test ((es xs).length) ((100 : Nat)) h4) <|
    pf (t_gt ((es ts).length) ((100 : Nat)) h5) <|
    pf (DLe.r (D.bool true)) <|
    pz) (by kernel_rfl)

theorem s01_lo {s : Int} (h : Sort01 s) : 0 ≤ s := by rcases h with rfl | rfl <;> decide
theorem s01_hi {s : Int} (h : Sort01 s) : s ≤ 1 := by rcases h with rfl | rfl <;> decide

theorem LH_len (s : Int) (k : Nat) (xs ts cs : List Nat) (be ga : Nat) (hs : Sort01 s) (h : 0 ≤ s) (h1 : s ≤ 1) (h2 : 3 ≤ k) (h3 : k ≤ 5) (h4 : (es xs).length ≤ 100) (h5 : (es ts).length ≤ 100) (fx : Fits xs) (ft : Fits ts) (f4 : 4 ≤ 2 ^ k) (f5 : 2 ^ k ≤ 512) (e : FnOk PP n_lookup_Permute [vi s, vl xs, vl ts] [] (.ret (.tup [.nils, .nils, vi 50])) []) : FnOk PP n_sigillaw17_LookupHolds [vi s, vi k, vl xs, vl ts, ve be, ve ga, vl cs] [] (.ret (vb true)) [] :=
  FnOk.by at_sigillaw17_LookupHolds (by kernel_rfl) ({ o := { br := [(35, false), (39, false), (43, false), (47, false), (52, false), (56, false)], call := [(31, callV (vb true)), (65, callV (vl xs)), (67, callV (vl ts)), (68, callV (V.tup [V.nils, V.nils, vi (50 : Int)]))], set := [(58, u k), (59, i (↑((2 : Nat) ^ k) : Int)), (61, i (↑((2 : Nat) ^ k - (4 : Nat)) : Int))] } }) {} [vb true] rfl (
    pf alive_ok <|
    pf (i_lt s false (by simp; omega)) <|
    pf (i_lt s false (by simp; omega)) <|
    pf (i_lt s false (by simp; omega)) <|
    pf (fi_gt s ((↑(1 : Nat) : Int)) (by omega)) <|
    pf (fi_gt s ((↑(1 : Nat) : Int)) (by omega)) <|
    pf (fi_gt s ((↑(1 : Nat) : Int)) (by omega)) <|
    pf (gt_test ((3 : Nat)) k h2) <|
    pf (gt_test ((3 : Nat)) k h2) <|
    pf (gt_test ((3 : Nat)) k h2) <|
    pf (gt5_test k h3) <|
    pf (gt5_test k h3) <|
    pf (gt5_test k h3) <|
    pf (gt5_test k h3) <|
    pf (gt_test ((es xs).length) ((100 : Nat)) h4) <|
    pf (gt_test ((es xs).length) ((100 : Nat)) h4) <|
    pf (gt_test ((es xs).length) ((100 : Nat)) h4) <|
    pf (gt_test ((es xs).length) ((100 : Nat)) h4) <|
    pf (gt_test ((es ts).length) ((100 : Nat)) h5) <|
    pf (u_of_i k (by omega)) <|
    pf (nn_le k) <|
    pf (i_shl1' k (by omega)) <|
    pf (i_sub ((2 : Nat) ^ k) ((4 : Nat)) f4 (by omega)) <|
    pf (CopyElems_ok xs fx) <|
    pf (CopyElems_ok ts ft) <|
    pf e <|
    pf (DLe.r (D.bool true)) <|
    pz) (by kernel_rfl)

theorem LH_no (s : Int) (k : Nat) (xs ts cs : List Nat) (be ga : Nat) (hs : Sort01 s) (h : 0 ≤ s) (h1 : s ≤ 1) (h2 : 3 ≤ k) (h3 : k ≤ 5) (h4 : (es xs).length ≤ 100) (h5 : (es ts).length ≤ 100) (fx : Fits xs) (ft : Fits ts) (f4 : 4 ≤ 2 ^ k) (f5 : 2 ^ k ≤ 512) (e : FnOk PP n_lookup_Permute [vi s, vl xs, vl ts] [] (.ret (.tup [.nils, .nils, vi 200])) []) : FnOk PP n_sigillaw17_LookupHolds [vi s, vi k, vl xs, vl ts, ve be, ve ga, vl cs] [] (.ret (vb true)) [] :=
  FnOk.by at_sigillaw17_LookupHolds (by kernel_rfl) ({ o := { br := [(35, false), (39, false), (43, false), (47, false), (52, false), (56, false)], call := [(31, callV (vb true)), (65, callV (vl xs)), (67, callV (vl ts)), (68, callV (V.tup [V.nils, V.nils, vi (200 : Int)]))], set := [(58, u k), (59, i (↑((2 : Nat) ^ k) : Int)), (61, i (↑((2 : Nat) ^ k - (4 : Nat)) : Int))] } }) {} [vb true] rfl (
    pf alive_ok <|
    pf (i_lt s false (by simp; omega)) <|
    pf (i_lt s false (by simp; omega)) <|
    pf (i_lt s false (by simp; omega)) <|
    pf (fi_gt s ((↑(1 : Nat) : Int)) (by omega)) <|
    pf (fi_gt s ((↑(1 : Nat) : Int)) (by omega)) <|
    pf (fi_gt s ((↑(1 : Nat) : Int)) (by omega)) <|
    pf (gt_test ((3 : Nat)) k h2) <|
    pf (gt_test ((3 : Nat)) k h2) <|
    pf (gt_test ((3 : Nat)) k h2) <|
    pf (gt5_test k h3) <|
    pf (gt5_test k h3) <|
    pf (gt5_test k h3) <|
    pf (gt5_test k h3) <|
    pf (gt_test ((es xs).length) ((100 : Nat)) h4) <|
    pf (gt_test ((es xs).length) ((100 : Nat)) h4) <|
    pf (gt_test ((es xs).length) ((100 : Nat)) h4) <|
    pf (gt_test ((es xs).length) ((100 : Nat)) h4) <|
    pf (gt_test ((es ts).length) ((100 : Nat)) h5) <|
    pf (u_of_i k (by omega)) <|
    pf (nn_le k) <|
    pf (i_shl1' k (by omega)) <|
    pf (i_sub ((2 : Nat) ^ k) ((4 : Nat)) f4 (by omega)) <|
    pf (CopyElems_ok xs fx) <|
    pf (CopyElems_ok ts ft) <|
    pf e <|
    pf (DLe.r (D.bool true)) <|
    pz) (by kernel_rfl)

theorem LH_u (s : Int) (k : Nat) (xs ts cs a b : List Nat) (be ga : Nat) (hs : Sort01 s) (h : 0 ≤ s) (h1 : s ≤ 1) (h2 : 3 ≤ k) (h3 : k ≤ 5) (h4 : (es xs).length ≤ 100) (h5 : (es ts).length ≤ 100) (fx : Fits xs) (ft : Fits ts) (f4 : 4 ≤ 2 ^ k) (f5 : 2 ^ k ≤ 512) (e : FnOk PP n_lookup_Permute [vi s, vl xs, vl ts] [] (.ret (.tup [vl a, vl b, vi 0])) []) (hu : (es xs).length ≠ 2 ^ k - 4) : FnOk PP n_sigillaw17_LookupHolds [vi s, vi k, vl xs, vl ts, ve be, ve ga, vl cs] [] (.ret (vb true)) [] :=
  FnOk.by at_sigillaw17_LookupHolds (by kernel_rfl) ({ o := { br := [(35, false), (39, false), (43, false), (47, false), (52, false), (56, false), (79, true)], call := [(31, callV (vb true)), (65, callV (vl xs)), (67, callV (vl ts)), (68, callV (V.tup [vl a, vl b, vi (0 : Int)]))], set := [(58, u k), (59, i (↑((2 : Nat) ^ k) : Int)), (61, i (↑((2 : Nat) ^ k - (4 : Nat)) : Int))] } }) {} [vb true] rfl (
    pf alive_ok <|
    pf (i_lt s false (by simp; omega)) <|
    pf (i_lt s false (by simp; omega)) <|
    pf (i_lt s false (by simp; omega)) <|
    pf (fi_gt s ((↑(1 : Nat) : Int)) (by omega)) <|
    pf (fi_gt s ((↑(1 : Nat) : Int)) (by omega)) <|
    pf (fi_gt s ((↑(1 : Nat) : Int)) (by omega)) <|
    pf (gt_test ((3 : Nat)) k h2) <|
    pf (gt_test ((3 : Nat)) k h2) <|
    pf (gt_test ((3 : Nat)) k h2) <|
    pf (gt5_test k h3) <|
    pf (gt5_test k h3) <|
    pf (gt5_test k h3) <|
    pf (gt5_test k h3) <|
    pf (gt_test ((es xs).length) ((100 : Nat)) h4) <|
    pf (gt_test ((es xs).length) ((100 : Nat)) h4) <|
    pf (gt_test ((es xs).length) ((100 : Nat)) h4) <|
    pf (gt_test ((es xs).length) ((100 : Nat)) h4) <|
    pf (gt_test ((es ts).length) ((100 : Nat)) h5) <|
    pf (u_of_i k (by omega)) <|
    pf (nn_le k) <|
    pf (i_shl1' k (by omega)) <|
    pf (i_sub ((2 : Nat) ^ k) ((4 : Nat)) f4 (by omega)) <|
    pf (CopyElems_ok xs fx) <|
    pf (CopyElems_ok ts ft) <|
    pf e <|
    pf (t_ne ((es xs).length) ((2 : Nat) ^ k - (4 : Nat)) hu) <|
    pf (DLe.r (D.bool true)) <|
    pz) (by kernel_rfl)

/-- An element of a list, or some other one behind its end. -/
def atF (s : Int) (xs : List Nat) (r : Nat) : Nat := if r < xs.length then xs.getD r 0 else addF (pr s) (7 * r + 3) 0
theorem at_ok (s : Int) (hs : Sort01 s) (xs : List Nat) (r : Nat) (hb : r ≤ 1000) : FnOk PP n_sigillaw17_at [vi s, vl xs, vi r] [] (.ret (ve (atF s xs r))) [] := by
  unfold atF
  by_cases h : r < xs.length
  · rw [if_pos h]
    exact at_in s xs r _ (at_of h) (by rw [es_len]; exact h)
  · rw [if_neg h]
    exact at_out s hs xs r (by rw [es_len]; omega) hb

theorem LH_deg (s : Int) (k : Nat) (xs ts cs a b : List Nat) (be ga : Nat) (hs : Sort01 s) (h : 0 ≤ s) (h1 : s ≤ 1) (h2 : 3 ≤ k) (h3 : k ≤ 5) (h4 : (es xs).length ≤ 100) (h5 : (es ts).length ≤ 100) (fx : Fits xs) (ft : Fits ts) (fc : Fits cs) (f4 : 4 ≤ 2 ^ k) (f5 : 2 ^ k ≤ 512) (e : FnOk PP n_lookup_Permute [vi s, vl xs, vl ts] [] (.ret (.tup [vl a, vl b, vi 0])) []) (hu : (es xs).length = 2 ^ k - 4) (e2 : FnOk PP n_lookup_Product [vi s, vi k, vl xs, vl ts, vl a, vl b, ve be, ve ga, .ptr 100000 0 0] [(100000, .box [vl cs])] (.ret (.tup [.nils, vi 100])) [(100000, .box [vl cs])]) : FnOk PP n_sigillaw17_LookupHolds [vi s, vi k, vl xs, vl ts, ve be, ve ga, vl cs] [] (.ret (vb true)) [] :=
  FnOk.by at_sigillaw17_LookupHolds (by kernel_rfl) ({ o := { br := [(35, false), (39, false), (43, false), (47, false), (52, false), (56, false), (79, false)], call := [(31, callV (vb true)), (65, callV (vl xs)), (67, callV (vl ts)), (68, callV (V.tup [vl a, vl b, vi (0 : Int)])), (81, callV (vl cs)), (82, { hin := [], res := V.ptr (20656 : Nat) (0 : Nat) (0 : Nat), hout := [((20656 : Nat), Blk.box [V.d (D.sl (4 : Nat) (es cs))])], pure := false }), (87, callV (vl xs)), (89, callV (vl ts)), (95, { hin := [(20656 : Nat)], res := V.tup [V.nils, vi (100 : Int)], hout := [((20656 : Nat), Blk.box [V.d (D.sl (4 : Nat) (es cs))])], pure := false })], set := [(58, u k), (59, i (↑((2 : Nat) ^ k) : Int)), (61, i (↑((2 : Nat) ^ k - (4 : Nat)) : Int))] } }) {} [vb true] rfl (
    pf alive_ok <|
    pf (i_lt s false (by simp; omega)) <|
    pf (i_lt s false (by simp; omega)) <|
    pf (i_lt s false (by simp; omega)) <|
    pf (fi_gt s ((↑(1 : Nat) : Int)) (by omega)) <|
    pf (fi_gt s ((↑(1 : Nat) : Int)) (by omega)) <|
    pf (fi_gt s ((↑(1 : Nat) : Int)) (by omega)) <|
    pf (gt_test ((3 : Nat)) k h2) <|
    pf (gt_test ((3 : Nat)) k h2) <|
    pf (gt_test ((3 : Nat)) k h2) <|
    pf (gt5_test k h3) <|
    pf (gt5_test k h3) <|
    pf (gt5_test k h3) <|
    pf (gt5_test k h3) <|
    pf (gt_test ((es xs).length) ((100 : Nat)) h4) <|
    pf (gt_test ((es xs).length) ((100 : Nat)) h4) <|
    pf (gt_test ((es xs).length) ((100 : Nat)) h4) <|
    pf (gt_test ((es xs).length) ((100 : Nat)) h4) <|
    pf (gt_test ((es ts).length) ((100 : Nat)) h5) <|
    pf (u_of_i k (by omega)) <|
    pf (nn_le k) <|
    pf (i_shl1' k (by omega)) <|
    pf (i_sub ((2 : Nat) ^ k) ((4 : Nat)) f4 (by omega)) <|
    pf (CopyElems_ok xs fx) <|
    pf (CopyElems_ok ts ft) <|
    pf e <|
    pf (f_ne ((es xs).length) ((2 : Nat) ^ k - (4 : Nat)) hu) <|
    pf (CopyElems_ok cs fc) <|
    pf (FnOk.ren [((6 : Nat), (20656 : Nat))] (Purse_ok cs fc)) <|
    pf PP_mixed <|
    pf (CopyElems_ok xs fx) <|
    pf (CopyElems_ok ts ft) <|
    pf (FnOk.ren [((100000 : Nat), (20656 : Nat))] e2) <|
    pf (DLe.r (D.bool true)) <|
    pz) (by kernel_rfl)

theorem LH_tape (s : Int) (k : Nat) (xs ts cs a b : List Nat) (be ga : Nat) (hs : Sort01 s) (h : 0 ≤ s) (h1 : s ≤ 1) (h2 : 3 ≤ k) (h3 : k ≤ 5) (h4 : (es xs).length ≤ 100) (h5 : (es ts).length ≤ 100) (fx : Fits xs) (ft : Fits ts) (fc : Fits cs) (f4 : 4 ≤ 2 ^ k) (f5 : 2 ^ k ≤ 512) (e : FnOk PP n_lookup_Permute [vi s, vl xs, vl ts] [] (.ret (.tup [vl a, vl b, vi 0])) []) (hu : (es xs).length = 2 ^ k - 4) (e2 : FnOk PP n_lookup_Product [vi s, vi k, vl xs, vl ts, vl a, vl b, ve be, ve ga, .ptr 100000 0 0] [(100000, .box [vl cs])] (.ret (.tup [.nils, vi 81])) [(100000, .box [vl []])]) : FnOk PP n_sigillaw17_LookupHolds [vi s, vi k, vl xs, vl ts, ve be, ve ga, vl cs] [] (.ret (vb true)) [] :=
  FnOk.by at_sigillaw17_LookupHolds (by kernel_rfl) ({ o := { br := [(35, false), (39, false), (43, false), (47, false), (52, false), (56, false), (79, false)], call := [(31, callV (vb true)), (65, callV (vl xs)), (67, callV (vl ts)), (68, callV (V.tup [vl a, vl b, vi (0 : Int)])), (81, callV (vl cs)), (82, { hin := [], res := V.ptr (20656 : Nat) (0 : Nat) (0 : Nat), hout := [((20656 : Nat), Blk.box [V.d (D.sl (4 : Nat) (es cs))])], pure := false }), (87, callV (vl xs)), (89, callV (vl ts)), (95, { hin := [(20656 : Nat)], res := V.tup [V.nils, vi (81 : Int)], hout := [((20656 : Nat), Blk.box [V.d (D.sl (4 : Nat) [])])], pure := false })], set := [(58, u k), (59, i (↑((2 : Nat) ^ k) : Int)), (61, i (↑((2 : Nat) ^ k - (4 : Nat)) : Int))] } }) {} [vb true] rfl (
    pf alive_ok <|
    pf (i_lt s false (by simp; omega)) <|
    pf (i_lt s false (by simp; omega)) <|
    pf (i_lt s false (by simp; omega)) <|
    pf (fi_gt s ((↑(1 : Nat) : Int)) (by omega)) <|
    pf (fi_gt s ((↑(1 : Nat) : Int)) (by omega)) <|
    pf (fi_gt s ((↑(1 : Nat) : Int)) (by omega)) <|
    pf (gt_test ((3 : Nat)) k h2) <|
    pf (gt_test ((3 : Nat)) k h2) <|
    pf (gt_test ((3 : Nat)) k h2) <|
    pf (gt5_test k h3) <|
    pf (gt5_test k h3) <|
    pf (gt5_test k h3) <|
    pf (gt5_test k h3) <|
    pf (gt_test ((es xs).length) ((100 : Nat)) h4) <|
    pf (gt_test ((es xs).length) ((100 : Nat)) h4) <|
    pf (gt_test ((es xs).length) ((100 : Nat)) h4) <|
    pf (gt_test ((es xs).length) ((100 : Nat)) h4) <|
    pf (gt_test ((es ts).length) ((100 : Nat)) h5) <|
    pf (u_of_i k (by omega)) <|
    pf (nn_le k) <|
    pf (i_shl1' k (by omega)) <|
    pf (i_sub ((2 : Nat) ^ k) ((4 : Nat)) f4 (by omega)) <|
    pf (CopyElems_ok xs fx) <|
    pf (CopyElems_ok ts ft) <|
    pf e <|
    pf (f_ne ((es xs).length) ((2 : Nat) ^ k - (4 : Nat)) hu) <|
    pf (CopyElems_ok cs fc) <|
    pf (FnOk.ren [((6 : Nat), (20656 : Nat))] (Purse_ok cs fc)) <|
    pf PP_mixed <|
    pf (CopyElems_ok xs fx) <|
    pf (CopyElems_ok ts ft) <|
    pf (FnOk.ren [((100000 : Nat), (20656 : Nat))] e2) <|
    pf (DLe.r (D.bool true)) <|
    pz) (by kernel_rfl)

def lhSt (s : Int) (k : Nat) (xs ts a b zs : List Nat) (be ga : Nat) (r : Nat) : Own.St := { t := [(25, vi (r : Int)), (23, .d (.sl 4 (pts s k))), (22, .ptr 22 0 0), (21, vl zs), (18, vl b), (17, vl a), (15, vi ((2 ^ k : Nat) : Int)), (14, vb false), (12, .ptr 12 0 0), (11, .ptr 11 0 0), (0, vi s), (1, vi (k : Int)), (2, vl xs), (3, vl ts)], h := [(22, .row 1 (limbs 0)), (12, .row 1 (limbs ga)), (11, .row 1 (limbs be))] }

theorem pts_get (s : Int) (k j : Nat) (hj : j < 2 ^ k) : (pts s k)[j]? = some (elem (ptF s k j)) := pts_at s k j hj
theorem ptF4_lt (s : Int) (hs : Sort01 s) (k j : Nat) : ptF s k j < B ^ 4 := ptF_lt s hs k j

def spotOf (s : Int) (k r : Nat) : V := .d (.agg (spotL (addF (pr s) (ptF s k r) 0) (lagF s k 0 (ptF s k r)) (lagF s k (2 ^ k - 4) (ptF s k r)) (usF s k (ptF s k r) (2 ^ k - 4))))
theorem PlaceP_ok (s : Int) (hs : Sort01 s) (k r : Nat) (hk : 3 ≤ k) (hk2 : k ≤ 5) : FnOk PP n_permute_Place [vi s, vi k, ve (ptF s k r)] [] (.ret (.tup [spotOf s k r, vi 0])) [] := Place_ok s hs k (ptF s k r) hk hk2 (ptF_lt s hs k r)

theorem lh_round (s : Int) (hs : Sort01 s) (k : Nat) (hk : 3 ≤ k) (hk2 : k ≤ 5) (xs ts a b zs : List Nat) (be ga : Nat) (r : Nat) (f5 : 2 ^ k ≤ 512) (hr : r < 2 ^ k) (z z' : Nat) (hz : zs[r]? = some z) (hz' : zs[(r + 1) % 2 ^ k]? = some z') (hm : (r + 2 ^ k - 1) % 2 ^ k ≤ 1000) (hC : FnOk PP n_lookup_Checks [vi s, spotOf s k r, .d (.agg (seekL ⟨atF s xs r, atF s ts r, atF s a r, atF s a ((r + 2 ^ k - 1) % 2 ^ k), atF s b r, z, z'⟩)), ve be, ve ga] [] (.ret (vl [0, 0, 0, 0, 0])) []) : T PP f_sigillaw17_LookupHolds.ntmps (loopOf f_sigillaw17_LookupHolds 0) (lhSt s k xs ts a b zs be ga r) .normal (lhSt s k xs ts a b zs be ga (r + 1)) :=
  T.by ({ o := { val := [(141, elem (ptF s k r)), (173, elem z), (180, elem z')], br := [(133, true)], call := [(143, callV (V.tup [spotOf s k r, vi (0 : Int)])), (149, callV (ve (atF s xs r))), (153, callV (ve (atF s ts r))), (157, callV (ve (atF s a r))), (166, callV (ve (atF s a ((r + (2 : Nat) ^ k - (1 : Nat)) % (2 : Nat) ^ k)))), (170, callV (ve (atF s b r))), (188, callV (vl [(0 : Nat), (0 : Nat), (0 : Nat), (0 : Nat), (0 : Nat)]))], set := [(162, i (↑(r + (2 : Nat) ^ k) : Int)), (163, i (↑(r + (2 : Nat) ^ k - (1 : Nat)) : Int)), (165, i (↑((r + (2 : Nat) ^ k - (1 : Nat)) % (2 : Nat) ^ k) : Int)), (177, i (↑(r + (1 : Nat)) : Int)), (179, i (↑((r + (1 : Nat)) % (2 : Nat) ^ k) : Int)), (135, i (↑(r + (1 : Nat)) : Int))] }, iter := [(2, [{}, {}, {}, {}, {}, {}])] }) 0 {} (
    pf (t_gt ((2 : Nat) ^ k) r hr) <|
    pf (nn_le r) <|
    pf (pts_get s k r hr) <|
    pf (PlaceP_ok s hs k r hk hk2) <|
    pf PP_mixed <|
    pf (at_ok s hs xs r (by omega)) <|
    pf (at_ok s hs ts r (by omega)) <|
    pf (at_ok s hs a r (by omega)) <|
    pf (i_add r ((2 : Nat) ^ k) (by omega)) <|
    pf (i_sub (r + (2 : Nat) ^ k) ((1 : Nat)) (by omega) (by omega)) <|
    pf (by omega : (↑((2 : Nat) ^ k) : Int) ≠ (↑(0 : Nat) : Int)) <|
    pf (i_mod (r + (2 : Nat) ^ k - (1 : Nat)) ((2 : Nat) ^ k)) <|
    pf (at_ok s hs a ((r + (2 : Nat) ^ k - (1 : Nat)) % (2 : Nat) ^ k) hm) <|
    pf (at_ok s hs b r (by omega)) <|
    pf (nn_le r) <|
    pf (es_get zs r z hz) <|
    pf (i_add r ((1 : Nat)) (by omega)) <|
    pf (by omega : (↑((2 : Nat) ^ k) : Int) ≠ (↑(0 : Nat) : Int)) <|
    pf (i_mod (r + (1 : Nat)) ((2 : Nat) ^ k)) <|
    pf (nn_le ((r + (1 : Nat)) % (2 : Nat) ^ k)) <|
    pf (es_get zs ((r + (1 : Nat)) % (2 : Nat) ^ k) z' hz') <|
    pf hC <|
    pf PP_mixed <|
    pf (by decide : (↑(0 : Nat) : Int) ≤ (↑(0 : Nat) : Int)) <|
    pf PP_mixed <|
    pf (by decide : (↑(0 : Nat) : Int) ≤ (↑(1 : Nat) : Int)) <|
    pf PP_mixed <|
    pf (by decide : (↑(0 : Nat) : Int) ≤ (↑(2 : Nat) : Int)) <|
    pf PP_mixed <|
    pf (by decide : (↑(0 : Nat) : Int) ≤ (↑(3 : Nat) : Int)) <|
    pf PP_mixed <|
    pf (by decide : (↑(0 : Nat) : Int) ≤ (↑(4 : Nat) : Int)) <|
    pf (i_add r ((1 : Nat)) (by omega)) <|
    pf (Eq.refl ((1 : Nat) : Nat)) <|
    pf (Eq.refl ([u (0 : Nat), u (0 : Nat), u (0 : Nat), u (0 : Nat)] : List D)) <|
    pf (Eq.refl ((1 : Nat) : Nat)) <|
    pf (Eq.refl ([u (limb (0 : Nat) ga), u (limb (1 : Nat) ga), u (limb (2 : Nat) ga), u (limb (3 : Nat) ga)] : List D)) <|
    pf (Eq.refl ((1 : Nat) : Nat)) <|
    pf (Eq.refl ([u (limb (0 : Nat) be), u (limb (1 : Nat) be), u (limb (2 : Nat) be), u (limb (3 : Nat) be)] : List D)) <|
    pf (DLe.r (i (↑(r + (1 : Nat)) : Int))) <|
    pf (DLe.r (D.sl (4 : Nat) (pts s k))) <|
    pf (Eq.refl ((0 : Nat) : Nat)) <|
    pf (Eq.refl ((0 : Nat) : Nat)) <|
    pf (DLe.r (D.sl (4 : Nat) (es zs))) <|
    pf (DLe.r (D.sl (4 : Nat) (es b))) <|
    pf (DLe.r (D.sl (4 : Nat) (es a))) <|
    pf (DLe.r (i (↑((2 : Nat) ^ k) : Int))) <|
    pf (DLe.r (D.bool false)) <|
    pf (Eq.refl ((0 : Nat) : Nat)) <|
    pf (Eq.refl ((0 : Nat) : Nat)) <|
    pf (Eq.refl ((0 : Nat) : Nat)) <|
    pf (Eq.refl ((0 : Nat) : Nat)) <|
    pf (DLe.r (i s)) <|
    pf (DLe.r (i (↑k : Int))) <|
    pf (DLe.r (D.sl (4 : Nat) (es xs))) <|
    pf (DLe.r (D.sl (4 : Nat) (es ts))) <|
    pz) (by kernel_rfl)

theorem lh_end (s : Int) (k : Nat) (xs ts a b zs : List Nat) (be ga : Nat) : T PP f_sigillaw17_LookupHolds.ntmps (loopOf f_sigillaw17_LookupHolds 0) (lhSt s k xs ts a b zs be ga (2 ^ k)) (.exit 0) (lhSt s k xs ts a b zs be ga (2 ^ k)) :=
  T.by ({ o := { br := [(133, false)] } }) 0 {} (
    pf (gt_test ((2 : Nat) ^ k) ((2 : Nat) ^ k) (by omega)) <|
    pf (Eq.refl ((1 : Nat) : Nat)) <|
    pf (Eq.refl ([u (0 : Nat), u (0 : Nat), u (0 : Nat), u (0 : Nat)] : List D)) <|
    pf (Eq.refl ((1 : Nat) : Nat)) <|
    pf (Eq.refl ([u (limb (0 : Nat) ga), u (limb (1 : Nat) ga), u (limb (2 : Nat) ga), u (limb (3 : Nat) ga)] : List D)) <|
    pf (Eq.refl ((1 : Nat) : Nat)) <|
    pf (Eq.refl ([u (limb (0 : Nat) be), u (limb (1 : Nat) be), u (limb (2 : Nat) be), u (limb (3 : Nat) be)] : List D)) <|
    pf (DLe.r (i (↑((2 : Nat) ^ k) : Int))) <|
    pf (DLe.r (D.sl (4 : Nat) (pts s k))) <|
    pf (Eq.refl ((0 : Nat) : Nat)) <|
    pf (Eq.refl ((0 : Nat) : Nat)) <|
    pf (DLe.r (D.sl (4 : Nat) (es zs))) <|
    pf (DLe.r (D.sl (4 : Nat) (es b))) <|
    pf (DLe.r (D.sl (4 : Nat) (es a))) <|
    pf (DLe.r (i (↑((2 : Nat) ^ k) : Int))) <|
    pf (DLe.r (D.bool false)) <|
    pf (Eq.refl ((0 : Nat) : Nat)) <|
    pf (Eq.refl ((0 : Nat) : Nat)) <|
    pf (Eq.refl ((0 : Nat) : Nat)) <|
    pf (Eq.refl ((0 : Nat) : Nat)) <|
    pf (DLe.r (i s)) <|
    pf (DLe.r (i (↑k : Int))) <|
    pf (DLe.r (D.sl (4 : Nat) (es xs))) <|
    pf (DLe.r (D.sl (4 : Nat) (es ts))) <|
    pz) (by kernel_rfl)

theorem LH_of (s : Int) (k : Nat) (xs ts cs cs' a b zs : List Nat) (be ga : Nat) (hs : Sort01 s) (h : 0 ≤ s) (h1 : s ≤ 1) (h2 : 3 ≤ k) (h3 : k ≤ 5) (h4 : (es xs).length ≤ 100) (h5 : (es ts).length ≤ 100) (fx : Fits xs) (ft : Fits ts) (fc : Fits cs) (f4 : 4 ≤ 2 ^ k) (f5 : 2 ^ k ≤ 512) (e : FnOk PP n_lookup_Permute [vi s, vl xs, vl ts] [] (.ret (.tup [vl a, vl b, vi 0])) []) (hu : (es xs).length = 2 ^ k - 4) (e2 : FnOk PP n_lookup_Product [vi s, vi k, vl xs, vl ts, vl a, vl b, ve be, ve ga, .ptr 100000 0 0] [(100000, .box [vl cs])] (.ret (.tup [vl zs, vi 0])) [(100000, .box [vl cs'])]) (hz : (es zs).length = 2 ^ k) (hzu : zs[2 ^ k - 4]? = some 1) (hp : (pts s k).length = 2 ^ k) (t : T PP f_sigillaw17_LookupHolds.ntmps (.loop (loopOf f_sigillaw17_LookupHolds 0)) (lhSt s k xs ts a b zs be ga 0) (.exit 0) (lhSt s k xs ts a b zs be ga (2 ^ k))) : FnOk PP n_sigillaw17_LookupHolds [vi s, vi k, vl xs, vl ts, ve be, ve ga, vl cs] [] (.ret (vb true)) [] :=
  FnOk.by at_sigillaw17_LookupHolds (by kernel_rfl) ({ o := { val := [(126, elem (1 : Nat))], br := [(35, false), (39, false), (43, false), (47, false), (52, false), (56, false), (79, false), (117, false), (123, false)], call := [(31, callV (vb true)), (65, callV (vl xs)), (67, callV (vl ts)), (68, callV (V.tup [vl a, vl b, vi (0 : Int)])), (81, callV (vl cs)), (82, { hin := [], res := V.ptr (20656 : Nat) (0 : Nat) (0 : Nat), hout := [((20656 : Nat), Blk.box [V.d (D.sl (4 : Nat) (es cs))])], pure := false }), (87, callV (vl xs)), (89, callV (vl ts)), (95, { hin := [(20656 : Nat)], res := V.tup [vl zs, vi (0 : Int)], hout := [((20656 : Nat), Blk.box [V.d (D.sl (4 : Nat) (es cs'))])], pure := false }), (110, callV (V.tup [V.d (D.sl (4 : Nat) (pts s k)), vi (0 : Int)]))], set := [(58, u k), (59, i (↑((2 : Nat) ^ k) : Int)), (61, i (↑((2 : Nat) ^ k - (4 : Nat)) : Int))] }, loop := [(0, { pre := lhSt s k xs ts a b zs be ga 0, e := .exit 0, post := lhSt s k xs ts a b zs be ga (2 ^ k) })] }) {} [vb true] rfl (
    pf alive_ok <|
    pf (i_lt s false (by simp; omega)) <|
    pf (i_lt s false (by simp; omega)) <|
    pf (i_lt s false (by simp; omega)) <|
    pf (fi_gt s ((↑(1 : Nat) : Int)) (by omega)) <|
    pf (fi_gt s ((↑(1 : Nat) : Int)) (by omega)) <|
    pf (fi_gt s ((↑(1 : Nat) : Int)) (by omega)) <|
    pf (gt_test ((3 : Nat)) k h2) <|
    pf (gt_test ((3 : Nat)) k h2) <|
    pf (gt_test ((3 : Nat)) k h2) <|
    pf (gt5_test k h3) <|
    pf (gt5_test k h3) <|
    pf (gt5_test k h3) <|
    pf (gt5_test k h3) <|
    pf (gt_test ((es xs).length) ((100 : Nat)) h4) <|
    pf (gt_test ((es xs).length) ((100 : Nat)) h4) <|
    pf (gt_test ((es xs).length) ((100 : Nat)) h4) <|
    pf (gt_test ((es xs).length) ((100 : Nat)) h4) <|
    pf (gt_test ((es ts).length) ((100 : Nat)) h5) <|
    pf (u_of_i k (by omega)) <|
    pf (nn_le k) <|
    pf (i_shl1' k (by omega)) <|
    pf (i_sub ((2 : Nat) ^ k) ((4 : Nat)) f4 (by omega)) <|
    pf (CopyElems_ok xs fx) <|
    pf (CopyElems_ok ts ft) <|
    pf e <|
    pf (f_ne ((es xs).length) ((2 : Nat) ^ k - (4 : Nat)) hu) <|
    pf (CopyElems_ok cs fc) <|
    pf (FnOk.ren [((6 : Nat), (20656 : Nat))] (Purse_ok cs fc)) <|
    pf PP_mixed <|
    pf (CopyElems_ok xs fx) <|
    pf (CopyElems_ok ts ft) <|
    pf (FnOk.ren [((100000 : Nat), (20656 : Nat))] e2) <|
    pf (by decide : (4 : Nat) ≤ (4 : Nat)) <|
    pf (Points_ok s hs k (by omega)) <|
    pf (f_ne ((es zs).length) ((2 : Nat) ^ k) hz) <|
    pf (f_ne ((es zs).length) ((2 : Nat) ^ k) hz) <|
    pf (f_ne ((es zs).length) ((2 : Nat) ^ k) hz) <|
    pf (f_ne ((es zs).length) ((2 : Nat) ^ k) hz) <|
    pf (f_ne ((es zs).length) ((2 : Nat) ^ k) hz) <|
    pf (f_ne ((pts s k).length) ((2 : Nat) ^ k) hp) <|
    pf (f_ne ((pts s k).length) ((2 : Nat) ^ k) hp) <|
    pf (f_ne ((pts s k).length) ((2 : Nat) ^ k) hp) <|
    pf (nn_le ((2 : Nat) ^ k - (4 : Nat))) <|
    pf (es_get zs ((2 : Nat) ^ k - (4 : Nat)) ((1 : Nat)) hzu) <|
    pf (f_ne ((pts s k).length) ((2 : Nat) ^ k) hp) <|
    pf (f_ne ((pts s k).length) ((2 : Nat) ^ k) hp) <|
    pf (f_ne ((pts s k).length) ((2 : Nat) ^ k) hp) <|
    pf (f_ne ((pts s k).length) ((2 : Nat) ^ k) hp) <|
    pf (Eq.refl ((1 : Nat) : Nat)) <|
    pf (Eq.refl ([u (0 : Nat), u (0 : Nat), u (0 : Nat), u (0 : Nat)] : List D)) <|
    pf (Eq.refl ((1 : Nat) : Nat)) <|
    pf (Eq.refl ([u (limb (0 : Nat) ga), u (limb (1 : Nat) ga), u (limb (2 : Nat) ga), u (limb (3 : Nat) ga)] : List D)) <|
    pf (Eq.refl ((1 : Nat) : Nat)) <|
    pf (Eq.refl ([u (limb (0 : Nat) be), u (limb (1 : Nat) be), u (limb (2 : Nat) be), u (limb (3 : Nat) be)] : List D)) <|
    pf (DLe.r (i (↑(0 : Nat) : Int))) <|
    pf (DLe.r (D.sl (4 : Nat) (pts s k))) <|
    pf (Eq.refl ((0 : Nat) : Nat)) <|
    pf (Eq.refl ((0 : Nat) : Nat)) <|
    pf (DLe.r (D.sl (4 : Nat) (es zs))) <|
    pf (DLe.r (D.sl (4 : Nat) (es b))) <|
    pf (DLe.r (D.sl (4 : Nat) (es a))) <|
    pf (DLe.r (i (↑((2 : Nat) ^ k) : Int))) <|
    pf (DLe.r (D.bool false)) <|
    pf (Eq.refl ((0 : Nat) : Nat)) <|
    pf (Eq.refl ((0 : Nat) : Nat)) <|
    pf (Eq.refl ((0 : Nat) : Nat)) <|
    pf (Eq.refl ((0 : Nat) : Nat)) <|
    pf (DLe.r (i s)) <|
    pf (DLe.r (i (↑k : Int))) <|
    pf (DLe.r (D.sl (4 : Nat) (es xs))) <|
    pf (DLe.r (D.sl (4 : Nat) (es ts))) <|
    pf (t) <|
    pf (DLe.r (D.bool true)) <|
    pz) (by kernel_rfl)

/-- What the plain law says of a lookup whose divisors aren't 0. -/
structure Law (s : Int) (k be ga : Nat) (xs ts a b cs : List Nat) : Prop where
  one : (prodF s k be ga xs ts a b cs)[2 ^ k - 4]? = some 1
  rows : ∀ r, r < 2 ^ k → ∃ z z', (prodF s k be ga xs ts a b cs)[r]? = some z ∧ (prodF s k be ga xs ts a b cs)[(r + 1) % 2 ^ k]? = some z' ∧ z < B ^ 4 ∧ z' < B ^ 4 ∧
    chk0 (pr s) (lagF s k 0 (ptF s k r)) z = 0 ∧ chk1 (pr s) (lagF s k (2 ^ k - 4) (ptF s k r)) z = 0 ∧
    chk2 (pr s) (usF s k (ptF s k r) (2 ^ k - 4)) be ga (atF s xs r) (atF s ts r) (atF s a r) (atF s b r) z z' = 0 ∧
    chk3 (pr s) (lagF s k 0 (ptF s k r)) (atF s a r) (atF s b r) = 0 ∧
    chk4 (pr s) (usF s k (ptF s k r) (2 ^ k - 4)) (atF s a r) (atF s b r) (atF s a ((r + 2 ^ k - 1) % 2 ^ k)) = 0

theorem atF_lt (s : Int) (hs : Sort01 s) (xs : List Nat) (hx : Nums xs) (r : Nat) : atF s xs r < B ^ 4 := by
  unfold atF
  by_cases h : r < xs.length
  · rw [if_pos h]; exact nums_at hx (at_of h)
  · rw [if_neg h]; exact addF_lt (little s hs) _ _

theorem lh_loop (s : Int) (hs : Sort01 s) (k : Nat) (hk : 3 ≤ k) (hk2 : k ≤ 5) (xs ts a b cs : List Nat) (be ga : Nat) (hbe : be < B ^ 4) (hga : ga < B ^ 4) (nx : Nums xs) (nt : Nums ts) (na : Nums a) (nb : Nums b) (law : Law s k be ga xs ts a b cs) :
    T PP f_sigillaw17_LookupHolds.ntmps (.loop (loopOf f_sigillaw17_LookupHolds 0)) (lhSt s k xs ts a b (prodF s k be ga xs ts a b cs) be ga 0) (.exit 0) (lhSt s k xs ts a b (prodF s k be ga xs ts a b cs) be ga (2 ^ k)) := by
  have h5 := two_le k (by omega)
  refine T.loopN (by simp) (fun r => lhSt s k xs ts a b (prodF s k be ga xs ts a b cs) be ga r) (2 ^ k) (fun r hr => ?_) (lh_end s k xs ts a b _ be ga)
  obtain ⟨z, z', hz, hz', z4, z4', c0, c1, c2, c3, c4⟩ := law.rows r hr
  have hm : (r + 2 ^ k - 1) % 2 ^ k ≤ 1000 := by
    have := Nat.mod_lt (r + 2 ^ k - 1) (show 0 < 2 ^ k by omega)
    omega
  refine lh_round s hs k hk hk2 xs ts a b _ be ga r h5 hr z z' hz hz' hm ?_
  have c := Checks_of s hs (addF (pr s) (ptF s k r) 0) (lagF s k 0 (ptF s k r)) (lagF s k (2 ^ k - 4) (ptF s k r)) (usF s k (ptF s k r) (2 ^ k - 4)) (atF s xs r) (atF s ts r) (atF s a r) (atF s a ((r + 2 ^ k - 1) % 2 ^ k)) (atF s b r) z z' be ga
    (lagF_lt s hs _ _ _) (lagF_lt s hs _ _ _) (usF_lt s hs _ _ _) (atF_lt s hs xs nx _) (atF_lt s hs ts nt _) (atF_lt s hs a na _) (atF_lt s hs a na _) (atF_lt s hs b nb _) z4 z4' hbe hga
  rw [c0, c1, c2, c3, c4] at c
  exact c

theorem prodF_len (s : Int) (k be ga : Nat) (hk : 3 ≤ k) (hk2 : k ≤ 9) (xs ts a b cs : List Nat) (hc : 3 ≤ cs.length) : (prodF s k be ga xs ts a b cs).length = 2 ^ k := by
  have h := four_le k hk hk2
  unfold prodF
  rw [List.length_append, zsF_len, List.length_map, List.length_take, Nat.min_eq_left hc]
  omega

theorem nums_of_at {xs : List Nat} (hs : ∀ x ∈ xs, x < B ^ 4) : Nums xs := hs

theorem placeL_nums {L : List Nat} (hL : Nums L) : ∀ (ps : List (Nat × Nat)) (b : List Nat), Nums b → (∀ p ∈ ps, p.2 ∈ L) → Nums (placeL b ps)
  | [], b, hb, _ => hb
  | p :: ps, b, hb, hp => by
    unfold placeL
    rw [List.foldl_cons]
    refine placeL_nums hL ps _ (fun x hx => ?_) (fun q hq => hp q (by simp [hq]))
    rcases List.mem_or_eq_of_mem_set hx with h | h
    · exact hb x h
    · rw [h]; exact hL _ (hp p (by simp))

theorem permF_some {s : Int} (hs : Sort01 s) {xs ts a b : List Nat} (hl : xs.length = ts.length) (h : permF s xs ts = some (a, b)) : ∃ left again, pmF (riseF s xs) (riseF s ts) ts.length = some (left, again) ∧ a = riseF s xs ∧ b = placeL (riseF s xs) (again.zip left) ∧ a.length = xs.length ∧ b.length = xs.length ∧ Nums a ∧ Nums b := by
  unfold permF at h
  split at h
  · cases h
  rename_i left again hp
  simp only [Option.some.injEq, Prod.mk.injEq] at h
  obtain ⟨rfl, rfl⟩ := h
  obtain ⟨_, i2, _, _, _⟩ := pmF_inv _ _ (riseF_rises s ts) (riseF_nums s hs ts) _ _ _ hp
  exact ⟨left, again, hp, rfl, rfl, riseF_len s xs, by rw [placeL_len, riseF_len], riseF_nums s hs xs, placeL_nums i2 _ _ (riseF_nums s hs xs) (fun p hp => (List.of_mem_zip hp).2)⟩

/-- The whole statement, given the plain law. -/
theorem LookupHolds_of (law : ∀ (s : Int) (k : Nat) (xs ts a b cs : List Nat) (be ga : Nat), Sort01 s → 3 ≤ k → k ≤ 5 → Nums xs → Nums ts → Nums cs → be < B ^ 4 → ga < B ^ 4 → xs.length = 2 ^ k - 4 → ts.length = 2 ^ k - 4 → permF s xs ts = some (a, b) → NoDeg (pr s) be ga a b (2 ^ k - 4) → 3 ≤ cs.length → Law s k be ga xs ts a b cs)
    (s k : Int) (xs ts cs : List Nat) (be ga : Nat) (hbe : be < B ^ 4) (hga : ga < B ^ 4) (nx : Nums xs) (nt : Nums ts) (nc : Nums cs) (fx : Fits xs) (ft : Fits ts) (fc : Fits cs) :
    FnOk PP n_sigillaw17_LookupHolds [vi s, vi k, vl xs, vl ts, ve be, ve ga, vl cs] [] (.ret (vb true)) [] := by
  by_cases h0 : s < 0
  · exact LH_s0 s k xs ts cs be ga h0
  by_cases h1 : 1 < s
  · exact LH_s1 s k xs ts cs be ga h1
  by_cases h2 : k < 3
  · exact LH_k0 s k xs ts cs be ga (by omega) (by omega) h2
  by_cases h3 : 5 < k
  · exact LH_k1 s k xs ts cs be ga (by omega) (by omega) h3
  by_cases h4 : 100 < xs.length
  · exact LH_x s k xs ts cs be ga (by omega) (by omega) (by omega) (by omega) (by rw [es_len]; exact h4)
  by_cases h5 : 100 < ts.length
  · exact LH_t s k xs ts cs be ga (by omega) (by omega) (by omega) (by omega) (by rw [es_len]; omega) (by rw [es_len]; exact h5)
  obtain ⟨k, rfl⟩ : ∃ n : Nat, k = n := ⟨k.toNat, by omega⟩
  have hs : Sort01 s := by
    rcases (show s = 0 ∨ s = 1 by omega) with e | e
    · exact .inl e
    · exact .inr e
  have hk : 3 ≤ k := by omega
  have hk2 : k ≤ 5 := by omega
  have f4 := four_le k hk (by omega)
  have lx : (es xs).length ≤ 100 := by rw [es_len]; omega
  have lt : (es ts).length ≤ 100 := by rw [es_len]; omega
  by_cases hl : xs.length = ts.length
  case neg =>
    exact LH_len s k xs ts cs be ga hs (by omega) (by omega) hk hk2 lx lt fx ft (by omega) f4.2 (Permute_len s hs xs ts (by rw [es_len, es_len]; exact hl))
  by_cases hbig : 64 < xs.length
  · exact LH_len s k xs ts cs be ga hs (by omega) (by omega) hk hk2 lx lt fx ft (by omega) f4.2 (Permute_big s hs xs ts (by rw [es_len, es_len]; exact hl) (by rw [es_len]; exact hbig))
  have P := Permute_ok s hs xs ts nx nt hl (by omega)
  cases hp : permF s xs ts with
  | none => exact LH_no s k xs ts cs be ga hs (by omega) (by omega) hk hk2 lx lt fx ft (by omega) f4.2 (P.2 hp)
  | some ab =>
    obtain ⟨a, b⟩ := ab
    have e1 := P.1 a b hp
    by_cases hu : xs.length = 2 ^ k - 4
    case neg => exact LH_u s k xs ts cs a b be ga hs (by omega) (by omega) hk hk2 lx lt fx ft (by omega) f4.2 e1 (by rw [es_len]; exact hu)
    obtain ⟨left, again, _, _, _, la, lb, na, nb⟩ := permF_some hs hl hp
    have ex : (es xs).length = 2 ^ k - 4 := by rw [es_len]; exact hu
    have et : (es ts).length = 2 ^ k - 4 := by rw [es_len]; omega
    have ea : (es a).length = 2 ^ k - 4 := by rw [es_len]; omega
    have eb : (es b).length = 2 ^ k - 4 := by rw [es_len]; omega
    have zl : (zsF (pr s) be ga xs ts a b (2 ^ k - 4 + 1)).length + 3 = 2 ^ k := by rw [zsF_len]; omega
    by_cases hd : NoDeg (pr s) be ga a b (2 ^ k - 4)
    case neg =>
      exact LH_deg s k xs ts cs a b be ga hs (by omega) (by omega) hk hk2 lx lt fx ft fc (by omega) f4.2 e1 ex
        (Product_deg s hs k hk hk2 xs ts a b cs be ga hbe hga ex et ea eb (by omega) f4.2 nx nt na nb nc hu (by omega) (by omega) (by omega) hd zl)
    by_cases hc : cs.length < 3
    · exact LH_tape s k xs ts cs a b be ga hs (by omega) (by omega) hk hk2 lx lt fx ft fc (by omega) f4.2 e1 ex
        (Product_tape s hs k hk hk2 xs ts a b cs be ga hbe hga ex et ea eb (by omega) f4.2 nx nt na nb nc hu (by omega) (by omega) (by omega) hd hc zl)
    have l := law s k xs ts a b cs be ga hs hk hk2 nx nt nc hbe hga hu (by omega) hp hd (by omega)
    exact LH_of s k xs ts cs (cs.drop 3) a b (prodF s k be ga xs ts a b cs) be ga hs (by omega) (by omega) hk hk2 lx lt fx ft fc (by omega) f4.2 e1 ex
      (Product_of s hs k hk hk2 xs ts a b cs be ga hbe hga ex et ea eb (by omega) f4.2 nx nt na nb nc hu (by omega) (by omega) (by omega) hd (by omega) zl)
      (by rw [es_len]; exact prodF_len s k be ga hk (by omega) xs ts a b cs (by omega)) l.one (pts_len s k) (lh_loop s hs k hk hk2 xs ts a b cs be ga hbe hga nx nt na nb l)

end Go.Sg
