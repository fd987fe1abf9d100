/-
Contracts: lookup.rising, slices.BinarySearchFunc at elements. (Laid by wip/tools/fill2.py out of a text of our own.)
-/
import Derived.Test.YtlaohcpkecmhnaaOwnSort

set_option linter.all false

namespace Go.Sg
open Go Go.Own
open Go.Own (V D Wy)

def rmF (s : Int) (xs : List Nat) : List Nat := xs.map fun x => addF (pr s) x 0
theorem rmF_nums (s : Int) (hs : Sort01 s) (xs : List Nat) : Nums (rmF s xs) := by
  intro y hy
  unfold rmF at hy
  obtain ⟨x, _, rfl⟩ := List.mem_map.1 hy
  exact addF_lt (little s hs) _ _
@[simp] theorem rmF_len (s : Int) (xs : List Nat) : (rmF s xs).length = xs.length := by simp [rmF]

theorem fold_app {α β : Type} (f : α → β) : ∀ (xs : List α) (b : List β), xs.foldl (fun b x => b ++ [f x]) b = b ++ xs.map f
  | [], b => by simp
  | x :: xs, b => by rw [List.foldl_cons, fold_app f xs]; simp

theorem ri_loop (s : Int) (hs : Sort01 s) (xs : List Nat) (hx : Nums xs) (hl : xs.length ≤ 64) : T PP f_lookup_rising.ntmps (.loop (loopOf f_lookup_rising 0)) (riSt s xs [] 0) (.exit 0) (riEn s xs (rmF s xs)) := by
  have t := T.loopN (P := PP) (n := f_lookup_rising.ntmps) (c := loopOf f_lookup_rising 0) (e := .exit 0) (by simp) (s' := riEn s xs (rmF s xs)) (fun j => riSt s xs (rmF s (xs.take j)) j) xs.length (fun j hj => ?_) ?_
  · simpa [rmF] using t
  · have h1 : xs[j]? = some xs[j] := List.getElem?_eq_getElem hj
    have := ri_round s hs xs (rmF s (xs.take j)) j xs[j] (by rw [es_len]; exact hj) (by omega) h1 (nums_at hx h1) (by rw [rmF_len, List.length_take]; omega) hj
    have e : rmF s (xs.take (j + 1)) = rmF s (xs.take j) ++ [addF (pr s) xs[j] 0] := by
      unfold rmF
      rw [List.take_add_one, h1, Option.toList_some, List.map_append]
      rfl
    rw [e]
    exact this
  · rw [List.take_length]
    exact ri_end s xs (rmF s xs)

def riseF (s : Int) (xs : List Nat) : List Nat := sortF (rmF s xs)
@[simp] theorem riseF_len (s : Int) (xs : List Nat) : (riseF s xs).length = xs.length := by unfold riseF; rw [sortF_len, rmF_len]

theorem rising_ok (s : Int) (hs : Sort01 s) (xs : List Nat) (hx : Nums xs) (hl : xs.length ≤ 64) : FnOk PP n_lookup_rising [vi s, vl xs] [] (.ret (vl (riseF s xs))) [] :=
  FnOk.by at_lookup_rising (by kernel_rfl) ({ o := { call := [(27, { hin := [(10 : Nat)], res := V.tup [], hout := renH (swaps [((100000 : Nat), (10 : Nat))]) [((100000 : Nat), Blk.row (4 : Nat) (es (sortF (rmF s xs))))], pure := false })] }, loop := [(0, { pre := riSt s xs [] (0 : Nat), e := AExit.exit (0 : Nat), post := riEn s xs (rmF s xs) })] }) {} [vl (riseF s xs)] rfl (
    pf (Eq.refl ((↑(es xs).length : Int) : Int)) <|
    pf (by simp; omega : (↑(0 : Nat) : Int) ≤ (↑(es xs).length : Int) ∧ (↑(es xs).length : Int) * (↑(32 : Nat) : Int) ≤ (↑(281474976710656 : Nat) : Int)) <|
    pf (Eq.refl ((4 : Nat) : Nat)) <|
    pf (by simp : List.replicate (es xs).length (elem (0 : Nat)) = List.replicate (xs.length - (0 : Nat)) (elem (0 : Nat))) <|
    pf (DLe.r (i (↑(0 : Nat) : Int))) <|
    pf (DLe.r (i (↑(es xs).length : Int))) <|
    pf (DLe.r (D.sl (4 : Nat) (es xs))) <|
    pf (Eq.refl ((0 : Nat) : Nat)) <|
    pf (Eq.refl ((es xs).length : Nat)) <|
    pf (DLe.r (i s)) <|
    pf (ri_loop s hs xs hx hl) <|
    pf (FnOk.ren [((100000 : Nat), (10 : Nat))] (Sort_ok (rmF s xs) (rmF_nums s hs xs) (by simp; omega) (some (es xs).length))) <|
    pf (DLe.r (D.sl (4 : Nat) (es (riseF s xs)))) <|
    pz) (by kernel_rfl)

theorem risingR_ok (s : Int) (hs : Sort01 s) (xs : List Nat) (hx : Nums xs) (hl : xs.length ≤ 64) : FnOk PP n_lookup_rising [vi s, vl xs] [] (.ret (.ref 10 0 none (some xs.length))) [(10, .row 4 (es (riseF s xs)))] :=
  FnOk.by at_lookup_rising (by kernel_rfl) ({ o := { call := [(27, { hin := [(10 : Nat)], res := V.tup [], hout := renH (swaps [((100000 : Nat), (10 : Nat))]) [((100000 : Nat), Blk.row (4 : Nat) (es (sortF (rmF s xs))))], pure := false })] }, loop := [(0, { pre := riSt s xs [] (0 : Nat), e := AExit.exit (0 : Nat), post := riEn s xs (rmF s xs) })] }) {} [.ref 10 0 none (some xs.length)] rfl (
    pf (Eq.refl ((↑(es xs).length : Int) : Int)) <|
    pf (by simp; omega : (↑(0 : Nat) : Int) ≤ (↑(es xs).length : Int) ∧ (↑(es xs).length : Int) * (↑(32 : Nat) : Int) ≤ (↑(281474976710656 : Nat) : Int)) <|
    pf (Eq.refl ((4 : Nat) : Nat)) <|
    pf (by simp : List.replicate (es xs).length (elem (0 : Nat)) = List.replicate (xs.length - (0 : Nat)) (elem (0 : Nat))) <|
    pf (DLe.r (i (↑(0 : Nat) : Int))) <|
    pf (DLe.r (i (↑(es xs).length : Int))) <|
    pf (DLe.r (D.sl (4 : Nat) (es xs))) <|
    pf (Eq.refl ((0 : Nat) : Nat)) <|
    pf (Eq.refl ((es xs).length : Nat)) <|
    pf (DLe.r (i s)) <|
    pf (ri_loop s hs xs hx hl) <|
    pf (FnOk.ren [((100000 : Nat), (10 : Nat))] (Sort_ok (rmF s xs) (rmF_nums s hs xs) (by simp; omega) (some (es xs).length))) <|
    pf (Eq.refl ((4 : Nat) : Nat)) <|
    pf (rfl : es (sortF (rmF s xs)) = es (riseF s xs)) <|
    pf (Eq.refl ((0 : Nat) : Nat)) <|
    pf (by simp : (es xs).length = xs.length) <|
    pz) (by kernel_rfl)

theorem fits_small (xs : List Nat) (h : xs.length ≤ 1000000) : Fits xs := by unfold Fits; omega

def bsSt (xs : List Nat) (v i j : Nat) : Own.St := { t := [(0, vl xs), (2, .d (.fn (.func n_lookup_compare) [] [])), (4, .ptr 4 0 0), (8, vi ((es xs).length : Int)), (9, vi (i : Int)), (10, vi (j : Int))], h := [(4, .row 1 (limbs v))] }

theorem bs_less (xs : List Nat) (v i j x : Nat) (hij : i < j) (hj : j ≤ 1000) (hx : xs[(i + j) / 2]? = some x) (hx4 : x < B ^ 4) (hv4 : v < B ^ 4) (h : x < v) : T PP f_slices_BinarySearchFunc.ntmps (loopOf f_slices_BinarySearchFunc 0) (bsSt xs v i j) .normal (bsSt xs v ((i + j) / 2 + 1) j) :=
  T.by ({ o := { val := [(27, elem x)], br := [(17, true)], call := [(30, callV (vi (-1 : Int)))], set := [(20, Sg.i (↑(i + j) : Int)), (21, u (i + j)), (23, Sg.i (↑((i + j) / (2 : Nat)) : Int)), (33, Sg.i (↑((i + j) / (2 : Nat) + (1 : Nat)) : Int))] } }) 0 {} (
    pf (t_gt j i hij) <|
    pf (i_add i j (by omega)) <|
    pf (u_of_i (i + j) (by omega)) <|
    pf (by decide : (↑(0 : Nat) : Int) ≤ (↑(1 : Nat) : Int)) <|
    pf (i_half (i + j) ((2 : Nat)) (by omega)) <|
    pf PP_mixed <|
    pf (nn_le ((i + j) / (2 : Nat))) <|
    pf (es_get xs ((i + j) / (2 : Nat)) x hx) <|
    pf (compare_lt x v hx4 hv4 h) <|
    pf (i_add ((i + j) / (2 : Nat)) ((1 : Nat)) (by omega)) <|
    pf (Eq.refl ((1 : Nat) : Nat)) <|
    pf (Eq.refl ([u (limb (0 : Nat) v), u (limb (1 : Nat) v), u (limb (2 : Nat) v), u (limb (3 : Nat) v)] : List D)) <|
    pf (DLe.r (D.sl (4 : Nat) (es xs))) <|
    pf (DLe.r (D.fn (Fn.func (19 : Nat)) [] [])) <|
    pf (Eq.refl ((0 : Nat) : Nat)) <|
    pf (Eq.refl ((0 : Nat) : Nat)) <|
    pf (DLe.r (Sg.i (↑(es xs).length : Int))) <|
    pf (DLe.r (Sg.i (↑((i + j) / (2 : Nat) + (1 : Nat)) : Int))) <|
    pf (DLe.r (Sg.i (↑j : Int))) <|
    pz) (by kernel_rfl)

theorem bs_ge (xs : List Nat) (v i j x : Nat) (hij : i < j) (hj : j ≤ 1000) (hx : xs[(i + j) / 2]? = some x) (hx4 : x < B ^ 4) (hv4 : v < B ^ 4) (h : v ≤ x) : T PP f_slices_BinarySearchFunc.ntmps (loopOf f_slices_BinarySearchFunc 0) (bsSt xs v i j) .normal (bsSt xs v i ((i + j) / 2)) :=
  T.by ({ o := { val := [(27, elem x)], br := [(17, true), (31, false)], call := [(30, callV (vi (cmpN x v)))], set := [(20, Sg.i (↑(i + j) : Int)), (21, u (i + j)), (23, Sg.i (↑((i + j) / (2 : Nat)) : Int))] } }) 0 {} (
    pf (t_gt j i hij) <|
    pf (i_add i j (by omega)) <|
    pf (u_of_i (i + j) (by omega)) <|
    pf (by decide : (↑(0 : Nat) : Int) ≤ (↑(1 : Nat) : Int)) <|
    pf (i_half (i + j) ((2 : Nat)) (by omega)) <|
    pf PP_mixed <|
    pf (nn_le ((i + j) / (2 : Nat))) <|
    pf (es_get xs ((i + j) / (2 : Nat)) x hx) <|
    pf (compare_ok x v hx4 hv4) <|
    pf (f_cmp x v h) <|
    pf (Eq.refl ((1 : Nat) : Nat)) <|
    pf (Eq.refl ([u (limb (0 : Nat) v), u (limb (1 : Nat) v), u (limb (2 : Nat) v), u (limb (3 : Nat) v)] : List D)) <|
    pf (DLe.r (D.sl (4 : Nat) (es xs))) <|
    pf (DLe.r (D.fn (Fn.func (19 : Nat)) [] [])) <|
    pf (Eq.refl ((0 : Nat) : Nat)) <|
    pf (Eq.refl ((0 : Nat) : Nat)) <|
    pf (DLe.r (Sg.i (↑(es xs).length : Int))) <|
    pf (DLe.r (Sg.i (↑i : Int))) <|
    pf (DLe.r (Sg.i (↑((i + j) / (2 : Nat)) : Int))) <|
    pz) (by kernel_rfl)

theorem bs_end (xs : List Nat) (v i : Nat) : T PP f_slices_BinarySearchFunc.ntmps (loopOf f_slices_BinarySearchFunc 0) (bsSt xs v i i) (.exit 0) (bsSt xs v i i) :=
  T.by ({ o := { br := [(17, false)] } }) 0 {} (
    pf (gt_test i i (by omega)) <|
    pf (Eq.refl ((1 : Nat) : Nat)) <|
    pf (Eq.refl ([u (limb (0 : Nat) v), u (limb (1 : Nat) v), u (limb (2 : Nat) v), u (limb (3 : Nat) v)] : List D)) <|
    pf (DLe.r (D.sl (4 : Nat) (es xs))) <|
    pf (DLe.r (D.fn (Fn.func (19 : Nat)) [] [])) <|
    pf (Eq.refl ((0 : Nat) : Nat)) <|
    pf (Eq.refl ((0 : Nat) : Nat)) <|
    pf (DLe.r (Sg.i (↑(es xs).length : Int))) <|
    pf (DLe.r (Sg.i (↑i : Int))) <|
    pf (DLe.r (Sg.i (↑i : Int))) <|
    pz) (by kernel_rfl)

/-! ### The place of a value in an ordered list -/
def Rises (xs : List Nat) : Prop := xs.Pairwise (· ≤ ·)
def rankF (xs : List Nat) (v : Nat) : Nat := xs.countP (fun x => decide (x < v))

theorem rank_le (xs : List Nat) (v : Nat) : rankF xs v ≤ xs.length := List.countP_le_length

theorem rank_at : ∀ {xs : List Nat}, Rises xs → ∀ {v h x : Nat}, xs[h]? = some x → (x < v ↔ h < rankF xs v)
  | [], _, v, h, x, hx => by simp at hx
  | y :: ys, hr, v, h, x, hx => by
    obtain ⟨h1, h2⟩ := List.pairwise_cons.1 hr
    have e : rankF (y :: ys) v = rankF ys v + if y < v then 1 else 0 := by
      unfold rankF
      rw [List.countP_cons]
      by_cases hy : y < v <;> simp [hy]
    rw [e]
    cases h with
    | zero =>
      simp at hx
      subst hx
      by_cases hy : y < v
      · simp [hy]
      · have : rankF ys v = 0 := by
          unfold rankF
          rw [List.countP_eq_zero]
          intro z hz
          have := h1 z hz
          simp; omega
        simp [hy, this]
    | succ h =>
      have hx' : ys[h]? = some x := by simpa using hx
      rw [rank_at h2 hx']
      by_cases hy : y < v
      · rw [if_pos hy]; omega
      · rw [if_neg hy]
        have : rankF ys v = 0 := by
          unfold rankF
          rw [List.countP_eq_zero]
          intro z hz
          have := h1 z hz
          simp; omega
        omega

theorem bs_loop (xs : List Nat) (hr : Rises xs) (hx : Nums xs) (hl : xs.length ≤ 1000) (v : Nat) (hv : v < B ^ 4) : ∀ (m i j : Nat), j - i = m → i ≤ rankF xs v → rankF xs v ≤ j → j ≤ xs.length →
    ∃ d, Un PP f_slices_BinarySearchFunc.ntmps (loopOf f_slices_BinarySearchFunc 0) (.exit 0) (bsSt xs v (rankF xs v) (rankF xs v)) d (bsSt xs v i j) := by
  intro m
  induction m using Nat.strongRecOn with
  | _ m ih =>
    intro i j hm hi hj hjl
    by_cases hij : i < j
    · have hh : (i + j) / 2 < xs.length := by omega
      have hat : xs[(i + j) / 2]? = some xs[(i + j) / 2] := List.getElem?_eq_getElem hh
      have hk := rank_at hr (v := v) hat
      by_cases hlt : xs[(i + j) / 2] < v
      · obtain ⟨d, t⟩ := ih (j - ((i + j) / 2 + 1)) (by omega) ((i + j) / 2 + 1) j rfl (hk.1 hlt) hj hjl
        exact ⟨d + 1, .step (bs_less xs v i j _ hij (by omega) hat (nums_at hx hat) hv hlt) t⟩
      · obtain ⟨d, t⟩ := ih ((i + j) / 2 - i) (by omega) i ((i + j) / 2) rfl hi (by have := mt hk.2 hlt; omega) (by omega)
        exact ⟨d + 1, .step (bs_ge xs v i j _ hij (by omega) hat (nums_at hx hat) hv (by omega)) t⟩
    · have e1 : i = rankF xs v := by omega
      have e2 : j = rankF xs v := by omega
      rw [e1, e2]
      exact ⟨0, .last (by simp) (bs_end xs v _)⟩

theorem bs_loop' (xs : List Nat) (hr : Rises xs) (hx : Nums xs) (hl : xs.length ≤ 1000) (v : Nat) (hv : v < B ^ 4) : T PP f_slices_BinarySearchFunc.ntmps (.loop (loopOf f_slices_BinarySearchFunc 0)) (bsSt xs v 0 (es xs).length) (.exit 0) (bsSt xs v (rankF xs v) (rankF xs v)) := by
  obtain ⟨d, t⟩ := bs_loop xs hr hx hl v hv _ 0 (es xs).length rfl (Nat.zero_le _) (by rw [es_len]; exact rank_le xs v) (by rw [es_len]; exact Nat.le_refl _)
  exact t.loop

theorem Search_in (xs : List Nat) (hr : Rises xs) (hx : Nums xs) (hl : xs.length ≤ 1000) (v : Nat) (hv : v < B ^ 4) (hk : rankF xs v < (es xs).length) (hat : xs[rankF xs v]? = some v) : FnOk PP n_slices_BinarySearchFunc [vl xs, ve v, .d (.fn (.func n_lookup_compare) [] [])] [] (.ret (.tup [vi (rankF xs v), vb true])) [] :=
  FnOk.by at_slices_BinarySearchFunc (by kernel_rfl) ({ o := { val := [(43, elem v)], br := [(39, true)], call := [(46, callV (vi (0 : Int)))] }, loop := [(0, { pre := bsSt xs v (0 : Nat) (es xs).length, e := AExit.exit (0 : Nat), post := bsSt xs v (rankF xs v) (rankF xs v) })] }) {} [vi (rankF xs v), vb true] rfl (
    pf (Eq.refl ((1 : Nat) : Nat)) <|
    pf (Eq.refl ([u (limb (0 : Nat) v), u (limb (1 : Nat) v), u (limb (2 : Nat) v), u (limb (3 : Nat) v)] : List D)) <|
    pf (DLe.r (D.sl (4 : Nat) (es xs))) <|
    pf (DLe.r (D.fn (Fn.func (19 : Nat)) [] [])) <|
    pf (Eq.refl ((0 : Nat) : Nat)) <|
    pf (Eq.refl ((0 : Nat) : Nat)) <|
    pf (DLe.r (i (↑(es xs).length : Int))) <|
    pf (DLe.r (i (↑(0 : Nat) : Int))) <|
    pf (DLe.r (i (↑(es xs).length : Int))) <|
    pf (bs_loop' xs hr hx hl v hv) <|
    pf PP_mixed <|
    pf (t_gt ((es xs).length) (rankF xs v) hk) <|
    pf (t_gt ((es xs).length) (rankF xs v) hk) <|
    pf (t_gt ((es xs).length) (rankF xs v) hk) <|
    pf (t_gt ((es xs).length) (rankF xs v) hk) <|
    pf (nn_le (rankF xs v)) <|
    pf (es_get xs (rankF xs v) v hat) <|
    pf (t_gt ((es xs).length) (rankF xs v) hk) <|
    pf (t_gt ((es xs).length) (rankF xs v) hk) <|
    pf (t_gt ((es xs).length) (rankF xs v) hk) <|
    pf (compare_eq v hv) <|
    pf (t_gt ((es xs).length) (rankF xs v) hk) <|
    pf (t_gt ((es xs).length) (rankF xs v) hk) <|
    pf (DLe.r (i (↑(rankF xs v) : Int))) <|
    pf (DLe.r (D.bool true)) <|
    pz) (by kernel_rfl)

theorem Search_other (xs : List Nat) (hr : Rises xs) (hx : Nums xs) (hl : xs.length ≤ 1000) (v x : Nat) (hv : v < B ^ 4) (hk : rankF xs v < (es xs).length) (hat : xs[rankF xs v]? = some x) (hx4 : x < B ^ 4) (hne : x ≠ v) : FnOk PP n_slices_BinarySearchFunc [vl xs, ve v, .d (.fn (.func n_lookup_compare) [] [])] [] (.ret (.tup [vi (rankF xs v), vb false])) [] :=
  FnOk.by at_slices_BinarySearchFunc (by kernel_rfl) ({ o := { val := [(43, elem x)], br := [(39, true)], call := [(46, callV (vi (cmpN x v)))] }, loop := [(0, { pre := bsSt xs v (0 : Nat) (es xs).length, e := AExit.exit (0 : Nat), post := bsSt xs v (rankF xs v) (rankF xs v) })] }) {} [vi (rankF xs v), vb false] rfl (
    pf (Eq.refl ((1 : Nat) : Nat)) <|
    pf (Eq.refl ([u (limb (0 : Nat) v), u (limb (1 : Nat) v), u (limb (2 : Nat) v), u (limb (3 : Nat) v)] : List D)) <|
    pf (DLe.r (D.sl (4 : Nat) (es xs))) <|
    pf (DLe.r (D.fn (Fn.func (19 : Nat)) [] [])) <|
    pf (Eq.refl ((0 : Nat) : Nat)) <|
    pf (Eq.refl ((0 : Nat) : Nat)) <|
    pf (DLe.r (i (↑(es xs).length : Int))) <|
    pf (DLe.r (i (↑(0 : Nat) : Int))) <|
    pf (DLe.r (i (↑(es xs).length : Int))) <|
    pf (bs_loop' xs hr hx hl v hv) <|
    pf PP_mixed <|
    pf (t_gt ((es xs).length) (rankF xs v) hk) <|
    pf (t_gt ((es xs).length) (rankF xs v) hk) <|
    pf (t_gt ((es xs).length) (rankF xs v) hk) <|
    pf (t_gt ((es xs).length) (rankF xs v) hk) <|
    pf (nn_le (rankF xs v)) <|
    pf (es_get xs (rankF xs v) x hat) <|
    pf (t_gt ((es xs).length) (rankF xs v) hk) <|
    pf (t_gt ((es xs).length) (rankF xs v) hk) <|
    pf (t_gt ((es xs).length) (rankF xs v) hk) <|
    pf (compare_ok x v hx4 hv) <|
    pf (t_gt ((es xs).length) (rankF xs v) hk) <|
    pf (t_gt ((es xs).length) (rankF xs v) hk) <|
    pf (DLe.r (i (↑(rankF xs v) : Int))) <|
    pf (bool_le (f_cmp0 x v hne)) <|
    pz) (by kernel_rfl)

theorem Search_end (xs : List Nat) (hr : Rises xs) (hx : Nums xs) (hl : xs.length ≤ 1000) (v : Nat) (hv : v < B ^ 4) (hk : (es xs).length ≤ rankF xs v) : FnOk PP n_slices_BinarySearchFunc [vl xs, ve v, .d (.fn (.func n_lookup_compare) [] [])] [] (.ret (.tup [vi (rankF xs v), vb false])) [] :=
  FnOk.by at_slices_BinarySearchFunc (by kernel_rfl) ({ o := { br := [(39, false)] }, loop := [(0, { pre := bsSt xs v (0 : Nat) (es xs).length, e := AExit.exit (0 : Nat), post := bsSt xs v (rankF xs v) (rankF xs v) })] }) {} [vi (rankF xs v), vb false] rfl (
    pf (Eq.refl ((1 : Nat) : Nat)) <|
    pf (Eq.refl ([u (limb (0 : Nat) v), u (limb (1 : Nat) v), u (limb (2 : Nat) v), u (limb (3 : Nat) v)] : List D)) <|
    pf (DLe.r (D.sl (4 : Nat) (es xs))) <|
    pf (DLe.r (D.fn (Fn.func (19 : Nat)) [] [])) <|
    pf (Eq.refl ((0 : Nat) : Nat)) <|
    pf (Eq.refl ((0 : Nat) : Nat)) <|
    pf (DLe.r (i (↑(es xs).length : Int))) <|
    pf (DLe.r (i (↑(0 : Nat) : Int))) <|
    pf (DLe.r (i (↑(es xs).length : Int))) <|
    pf (bs_loop' xs hr hx hl v hv) <|
    pf PP_mixed <|
    pf (gt_test ((es xs).length) (rankF xs v) hk) <|
    pf (gt_test ((es xs).length) (rankF xs v) hk) <|
    pf (gt_test ((es xs).length) (rankF xs v) hk) <|
    pf (gt_test ((es xs).length) (rankF xs v) hk) <|
    pf (gt_test ((es xs).length) (rankF xs v) hk) <|
    pf (gt_test ((es xs).length) (rankF xs v) hk) <|
    pf (gt_test ((es xs).length) (rankF xs v) hk) <|
    pf (gt_test ((es xs).length) (rankF xs v) hk) <|
    pf (gt_test ((es xs).length) (rankF xs v) hk) <|
    pf (DLe.r (i (↑(rankF xs v) : Int))) <|
    pf (DLe.r (D.bool false)) <|
    pz) (by kernel_rfl)

def foundF (xs : List Nat) (v : Nat) : Bool := decide (v ∈ xs)

theorem found_at {xs : List Nat} (hr : Rises xs) {v : Nat} (h : v ∈ xs) : xs[rankF xs v]? = some v := by
  obtain ⟨h0, hlt, he⟩ := List.getElem_of_mem h
  have hat : xs[h0]? = some v := by rw [List.getElem?_eq_getElem hlt, he]
  have h1 : ¬ h0 < rankF xs v := fun h => absurd ((rank_at hr hat).2 h) (Nat.lt_irrefl _)
  have hk : rankF xs v < xs.length := by omega
  have hat2 : xs[rankF xs v]? = some xs[rankF xs v] := List.getElem?_eq_getElem hk
  have h2 : ¬ xs[rankF xs v] < v := fun h => absurd ((rank_at hr hat2).1 h) (Nat.lt_irrefl _)
  have h3 : xs[rankF xs v] ≤ v := by
    rcases Nat.lt_or_ge (rankF xs v) h0 with h | h
    · have := List.pairwise_iff_getElem.1 hr (rankF xs v) h0 hk hlt h
      rw [he] at this; exact this
    · have : rankF xs v = h0 := by omega
      simp [this, he]
  rw [hat2]
  congr 1
  omega

theorem Search_ok (xs : List Nat) (hr : Rises xs) (hx : Nums xs) (hl : xs.length ≤ 1000) (v : Nat) (hv : v < B ^ 4) : FnOk PP n_slices_BinarySearchFunc [vl xs, ve v, .d (.fn (.func n_lookup_compare) [] [])] [] (.ret (.tup [vi (rankF xs v), vb (foundF xs v)])) [] := by
  unfold foundF
  by_cases h : v ∈ xs
  · rw [decide_eq_true h]
    have := found_at hr h
    exact Search_in xs hr hx hl v hv (by rw [es_len]; exact at_lt this) this
  · rw [decide_eq_false h]
    by_cases hk : rankF xs v < xs.length
    · have hat : xs[rankF xs v]? = some xs[rankF xs v] := List.getElem?_eq_getElem hk
      exact Search_other xs hr hx hl v _ hv (by rw [es_len]; exact hk) hat (nums_at hx hat) (fun e => h (e ▸ List.getElem_mem hk))
    · exact Search_end xs hr hx hl v hv (by rw [es_len]; omega)

end Go.Sg
