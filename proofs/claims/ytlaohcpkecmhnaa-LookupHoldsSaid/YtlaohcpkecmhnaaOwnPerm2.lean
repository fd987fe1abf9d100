/-
Contract of lookup.Permute, continued. (Laid by wip/tools/fill2.py out of a text of our own.)
-/
import Derived.Test.YtlaohcpkecmhnaaOwnPerm

set_option linter.all false

namespace Go.Sg
open Go Go.Own
open Go.Own (V D Wy)

theorem Permute_len (s : Int) (hs : Sort01 s) (xs ts : List Nat) (hl : (es xs).length ≠ (es ts).length) : FnOk PP n_lookup_Permute [vi s, vl xs, vl ts] [] (.ret (.tup [.nils, .nils, vi 50])) [] :=
  FnOk.by at_lookup_Permute (by kernel_rfl) ({ o := { br := [(34, true)], call := [(23, callV (V.tup [ve (pr s), vi (0 : Int)]))] } }) {} [.nils, .nils, vi 50] rfl (
    pf (Modulus_ok s hs) <|
    pf (by decide : (4 : Nat) ≤ (4 : Nat)) <|
    pf (t_ne ((es xs).length) ((es ts).length) hl) <|
    pf (t_ne ((es xs).length) ((es ts).length) hl) <|
    pf (t_ne ((es xs).length) ((es ts).length) hl) <|
    pf (t_ne ((es xs).length) ((es ts).length) hl) <|
    pf (DLe.r (i (↑(50 : Nat) : Int))) <|
    pz) (by kernel_rfl)

theorem Permute_big (s : Int) (hs : Sort01 s) (xs ts : List Nat) (hl : (es xs).length = (es ts).length) (hl2 : 64 < (es xs).length) : FnOk PP n_lookup_Permute [vi s, vl xs, vl ts] [] (.ret (.tup [.nils, .nils, vi 50])) [] :=
  FnOk.by at_lookup_Permute (by kernel_rfl) ({ o := { br := [(34, false), (38, true)], call := [(23, callV (V.tup [ve (pr s), vi (0 : Int)]))] } }) {} [.nils, .nils, vi 50] rfl (
    pf (Modulus_ok s hs) <|
    pf (by decide : (4 : Nat) ≤ (4 : Nat)) <|
    pf (f_ne ((es xs).length) ((es ts).length) hl) <|
    pf (f_ne ((es xs).length) ((es ts).length) hl) <|
    pf (f_ne ((es xs).length) ((es ts).length) hl) <|
    pf (f_ne ((es xs).length) ((es ts).length) hl) <|
    pf (t_gt ((es xs).length) ((64 : Nat)) hl2) <|
    pf (DLe.r (i (↑(50 : Nat) : Int))) <|
    pz) (by kernel_rfl)

theorem Permute_no (s : Int) (hs : Sort01 s) (xs ts : List Nat) (hx : Nums xs) (ht : Nums ts) (hl : (es xs).length = (es ts).length) (hl2 : xs.length ≤ 64) (hl3 : ts.length ≤ 64) (t : T PP f_lookup_Permute.ntmps (.loop (loopOf f_lookup_Permute 0)) (pmSt s (riseF s xs) (riseF s ts) ts.length 0 [] 0) .ret pmNo) : FnOk PP n_lookup_Permute [vi s, vl xs, vl ts] [] (.ret (.tup [.nils, .nils, vi 200])) [] :=
  FnOk.by at_lookup_Permute (by kernel_rfl) ({ o := { br := [(34, false), (38, false)], call := [(23, callV (V.tup [ve (pr s), vi (0 : Int)])), (41, callV (vl (riseF s xs))), (44, { hin := [], res := V.ref (20352 : Nat) (0 : Nat) none (some ts.length), hout := [((20352 : Nat), Blk.row (4 : Nat) (es (riseF s ts)))], pure := false }), (46, { hin := [], res := V.ref (20368 : Nat) (0 : Nat) none none, hout := [((20368 : Nat), Blk.row (4 : Nat) (es (riseF s xs)))], pure := false })] }, loop := [(0, { pre := pmSt s (riseF s xs) (riseF s ts) ts.length 0 [] 0, wk := { virt := [14] }, e := .ret, post := pmNo })] }) {} [.nils, .nils, vi 200] rfl (
    pf (Modulus_ok s hs) <|
    pf (by decide : (4 : Nat) ≤ (4 : Nat)) <|
    pf (f_ne ((es xs).length) ((es ts).length) hl) <|
    pf (f_ne ((es xs).length) ((es ts).length) hl) <|
    pf (f_ne ((es xs).length) ((es ts).length) hl) <|
    pf (f_ne ((es xs).length) ((es ts).length) hl) <|
    pf (gt_test ((es xs).length) ((64 : Nat)) (by simp; omega)) <|
    pf (rising_ok s hs xs hx hl2) <|
    pf (FnOk.ren [((10 : Nat), (20352 : Nat))] (risingR_ok s hs ts ht hl3)) <|
    pf (FnOk.ren [((7 : Nat), (20368 : Nat))] (CloneR_ok (riseF s xs) (fits_small (riseF s xs) (by simp; omega)))) <|
    pf (Eq.refl ((4 : Nat) : Nat)) <|
    pf (Eq.refl (es (riseF s xs) : List D)) <|
    pf (Eq.refl ((4 : Nat) : Nat)) <|
    pf (rowZ_0 (riseF s ts)) <|
    pf (Eq.refl ([] : List D)) <|
    pf (DLe.r (i (↑(0 : Nat) : Int))) <|
    pf (DLe.r (i (↑(es (riseF s xs)).length : Int))) <|
    pf (DLe.r (D.sl (4 : Nat) (es (riseF s xs)))) <|
    pf (Eq.refl ([] : List D)) <|
    pf (Eq.refl ((0 : Nat) : Nat)) <|
    pf (Eq.refl ((0 : Nat) : Nat)) <|
    pf (Eq.refl ((0 : Nat) : Nat)) <|
    pf (by simp : (es (riseF s ts)).length - (0 : Nat) = (riseF s ts).length) <|
    pf (Eq.refl (ts.length : Nat)) <|
    pf (DLe.r (D.sl (4 : Nat) (es (riseF s xs)))) <|
    pf (DLe.r (i (↑(0 : Nat) : Int))) <|
    pf (t) <|
    pf (DLe.r (i (↑(200 : Nat) : Int))) <|
    pz) (by kernel_rfl)

theorem rowZ_get (xs : List Nat) (d j x : Nat) (h : xs[j]? = some x) : (rowZ xs d)[j]? = some (elem x) := by
  unfold rowZ
  rw [List.getElem?_append_left (by rw [es_len]; exact at_lt h)]
  exact es_get xs j x h
theorem es_set (b : List Nat) (k x : Nat) : (es b).set k (elem x) = es (b.set k x) := by
  unfold es
  rw [List.map_set]

def p2St (a b left : List Nat) (n d : Nat) (again : List Nat) (j : Nat) : Own.St := { t := [(85, vi (j : Int)), (84, vi ((iis again).length : Int)), (83, .ref 14 0 none none), (13, .ref 20368 0 none none), (12, .ref 20352 0 (some left.length) (some n)), (11, vl a), (8, vi 0), (7, .nils), (6, .nils)], h := [(20368, .row 4 (es b)), (20352, .row 4 (rowZ left d)), (14, .row 1 (iis again))] }

theorem p2_round (a b left : List Nat) (n d : Nat) (again : List Nat) (j k x : Nat) (hj : j < (iis again).length) (hb : j ≤ 1000) (hk : again[j]? = some k) (hkb : k < (es b).length) (hx : left[j]? = some x) (hjl : j < left.length) : T PP f_lookup_Permute.ntmps (loopOf f_lookup_Permute 2) (p2St a b left n d again j) .normal (p2St a (b.set k x) left n d again (j + 1)) :=
  T.by ({ o := { val := [(89, i (↑k : Int)), (95, elem x)], br := [(86, true)], set := [(97, i (↑(j + (1 : Nat)) : Int))] } }) 2 {} (
    pf (t_gt ((iis again).length) j hj) <|
    pf (in_vc j ((iis again).length - (0 : Nat)) (by omega)) <|
    pf (iis_get again j k hk) <|
    pf (rfl : (i (↑k : Int)).isAgg = false) <|
    pf (in_vc j left.length hjl) <|
    pf (rowZ_get left d j x hx) <|
    pf (rfl : (elem x).isAgg = true) <|
    pf (in_vc k ((es b).length - (0 : Nat)) (by omega)) <|
    pf hkb <|
    pf (i_add j ((1 : Nat)) (by omega)) <|
    pf (Eq.refl ((4 : Nat) : Nat)) <|
    pf (es_set b k x) <|
    pf (Eq.refl ((4 : Nat) : Nat)) <|
    pf (Eq.refl (rowZ left d : List D)) <|
    pf (Eq.refl ((1 : Nat) : Nat)) <|
    pf (Eq.refl (iis again : List D)) <|
    pf (DLe.r (i (↑(j + (1 : Nat)) : Int))) <|
    pf (DLe.r (i (↑(iis again).length : Int))) <|
    pf (Eq.refl ((0 : Nat) : Nat)) <|
    pf (Eq.refl ((0 : Nat) : Nat)) <|
    pf (Eq.refl ((0 : Nat) : Nat)) <|
    pf (Eq.refl (left.length : Nat)) <|
    pf (Eq.refl (n : Nat)) <|
    pf (DLe.r (D.sl (4 : Nat) (es a))) <|
    pf (DLe.r (i (↑(0 : Nat) : Int))) <|
    pz) (by kernel_rfl)

theorem p2_end (a b left : List Nat) (n d : Nat) (again : List Nat) : T PP f_lookup_Permute.ntmps (loopOf f_lookup_Permute 2) (p2St a b left n d again again.length) (.exit 2) (p2St a b left n d again again.length) :=
  T.by ({ o := { br := [(86, false)] } }) 2 {} (
    pf (gt_test ((iis again).length) again.length (by simp)) <|
    pf (Eq.refl ((4 : Nat) : Nat)) <|
    pf (Eq.refl (es b : List D)) <|
    pf (Eq.refl ((4 : Nat) : Nat)) <|
    pf (Eq.refl (rowZ left d : List D)) <|
    pf (Eq.refl ((1 : Nat) : Nat)) <|
    pf (Eq.refl (iis again : List D)) <|
    pf (DLe.r (i (↑again.length : Int))) <|
    pf (DLe.r (i (↑(iis again).length : Int))) <|
    pf (Eq.refl ((0 : Nat) : Nat)) <|
    pf (Eq.refl ((0 : Nat) : Nat)) <|
    pf (Eq.refl ((0 : Nat) : Nat)) <|
    pf (Eq.refl (left.length : Nat)) <|
    pf (Eq.refl (n : Nat)) <|
    pf (DLe.r (D.sl (4 : Nat) (es a))) <|
    pf (DLe.r (i (↑(0 : Nat) : Int))) <|
    pz) (by kernel_rfl)

/-- What is left of the tables at the places of repeated values. -/
def placeL (b : List Nat) (ps : List (Nat × Nat)) : List Nat := ps.foldl (fun b p => b.set p.1 p.2) b
theorem placeL_len : ∀ (ps : List (Nat × Nat)) (b : List Nat), (placeL b ps).length = b.length
  | [], b => rfl
  | p :: ps, b => by unfold placeL; rw [List.foldl_cons]; exact (placeL_len ps _).trans (List.length_set ..)

theorem p2_loop (a left : List Nat) (n d : Nat) (again : List Nat) (hl : left.length = again.length) (hk : ∀ k ∈ again, k < a.length) (hb : again.length ≤ 1000) :
    T PP f_lookup_Permute.ntmps (.loop (loopOf f_lookup_Permute 2)) (p2St a a left n d again 0) (.exit 2) (p2St a (placeL a (again.zip left)) left n d again again.length) := by
  have hz : (again.zip left).length = again.length := by rw [List.length_zip, hl, Nat.min_self]
  refine T_fold (n := f_lookup_Permute.ntmps) (c := loopOf f_lookup_Permute 2) (e := .exit 2) (by simp) (again.zip left) (fun b p => b.set p.1 p.2) (fun b => b.length = a.length) (fun b j => p2St a b left n d again j) (fun b => p2St a b left n d again again.length) a rfl (fun b x h _ => by rw [List.length_set]; exact h) ?_ ?_
  · intro j x b hx hbl
    have hj := at_lt hx
    rw [hz] at hj
    obtain ⟨h1, h2⟩ := List.getElem?_zip_eq_some.1 hx
    exact p2_round a b left n d again j x.1 x.2 (by rw [iis_len]; exact hj) (by omega) h1 (by rw [es_len, hbl]; exact hk _ (List.mem_of_getElem? h1)) h2 (by omega)
  · intro b _
    rw [hz]
    exact p2_end a b left n d again

theorem Permute_of (s : Int) (hs : Sort01 s) (xs ts left again : List Nat) (d : Nat) (hx : Nums xs) (ht : Nums ts) (hl : (es xs).length = (es ts).length) (hl2 : xs.length ≤ 64) (hl3 : ts.length ≤ 64) (t : T PP f_lookup_Permute.ntmps (.loop (loopOf f_lookup_Permute 0)) (pmSt s (riseF s xs) (riseF s ts) ts.length 0 [] 0) (.exit 0) (pmSt s (riseF s xs) left ts.length d again (riseF s xs).length)) (hla : left.length = again.length) (hk : ∀ k ∈ again, k < (riseF s xs).length) (hb : again.length ≤ 1000) : FnOk PP n_lookup_Permute [vi s, vl xs, vl ts] [] (.ret (.tup [vl (riseF s xs), vl (placeL (riseF s xs) (again.zip left)), vi 0])) [] :=
  FnOk.by at_lookup_Permute (by kernel_rfl) ({ o := { br := [(34, false), (38, false)], call := [(23, callV (V.tup [ve (pr s), vi (0 : Int)])), (41, callV (vl (riseF s xs))), (44, { hin := [], res := V.ref (20352 : Nat) (0 : Nat) none (some ts.length), hout := [((20352 : Nat), Blk.row (4 : Nat) (es (riseF s ts)))], pure := false }), (46, { hin := [], res := V.ref (20368 : Nat) (0 : Nat) none none, hout := [((20368 : Nat), Blk.row (4 : Nat) (es (riseF s xs)))], pure := false })] }, loop := [(2, { pre := p2St (riseF s xs) (riseF s xs) left ts.length d again (0 : Nat), e := AExit.exit (2 : Nat), post := p2St (riseF s xs) (placeL (riseF s xs) (again.zip left)) left ts.length d again again.length }), (0, { pre := pmSt s (riseF s xs) (riseF s ts) ts.length 0 [] 0, wk := { virt := [14] }, e := .exit 0, post := pmSt s (riseF s xs) left ts.length d again (riseF s xs).length })] }) {} [vl (riseF s xs), vl (placeL (riseF s xs) (again.zip left)), vi 0] rfl (
    pf (Modulus_ok s hs) <|
    pf (by decide : (4 : Nat) ≤ (4 : Nat)) <|
    pf (f_ne ((es xs).length) ((es ts).length) hl) <|
    pf (f_ne ((es xs).length) ((es ts).length) hl) <|
    pf (f_ne ((es xs).length) ((es ts).length) hl) <|
    pf (f_ne ((es xs).length) ((es ts).length) hl) <|
    pf (gt_test ((es xs).length) ((64 : Nat)) (by simp; omega)) <|
    pf (rising_ok s hs xs hx hl2) <|
    pf (FnOk.ren [((10 : Nat), (20352 : Nat))] (risingR_ok s hs ts ht hl3)) <|
    pf (FnOk.ren [((7 : Nat), (20368 : Nat))] (CloneR_ok (riseF s xs) (fits_small (riseF s xs) (by simp; omega)))) <|
    pf (Eq.refl ((4 : Nat) : Nat)) <|
    pf (Eq.refl (es (riseF s xs) : List D)) <|
    pf (Eq.refl ((4 : Nat) : Nat)) <|
    pf (rowZ_0 (riseF s ts)) <|
    pf (Eq.refl ([] : List D)) <|
    pf (DLe.r (i (↑(0 : Nat) : Int))) <|
    pf (DLe.r (i (↑(es (riseF s xs)).length : Int))) <|
    pf (DLe.r (D.sl (4 : Nat) (es (riseF s xs)))) <|
    pf (Eq.refl ([] : List D)) <|
    pf (Eq.refl ((0 : Nat) : Nat)) <|
    pf (Eq.refl ((0 : Nat) : Nat)) <|
    pf (Eq.refl ((0 : Nat) : Nat)) <|
    pf (by simp : (es (riseF s ts)).length - (0 : Nat) = (riseF s ts).length) <|
    pf (Eq.refl (ts.length : Nat)) <|
    pf (DLe.r (D.sl (4 : Nat) (es (riseF s xs)))) <|
    pf (DLe.r (i (↑(0 : Nat) : Int))) <|
    pf (t) <|
    pf (Eq.refl ((4 : Nat) : Nat)) <|
    pf (Eq.refl (es (riseF s xs) : List D)) <|
    pf (Eq.refl ((4 : Nat) : Nat)) <|
    pf (Eq.refl (rowZ left d : List D)) <|
    pf (Eq.refl ((1 : Nat) : Nat)) <|
    pf (Eq.refl (iis again : List D)) <|
    pf (DLe.r (i (↑(0 : Nat) : Int))) <|
    pf (DLe.r (i (↑(iis again).length : Int))) <|
    pf (Eq.refl ((0 : Nat) : Nat)) <|
    pf (Eq.refl ((0 : Nat) : Nat)) <|
    pf (Eq.refl ((0 : Nat) : Nat)) <|
    pf (Eq.refl (left.length : Nat)) <|
    pf (Eq.refl (ts.length : Nat)) <|
    pf (DLe.r (D.sl (4 : Nat) (es (riseF s xs)))) <|
    pf (DLe.r (i (↑(0 : Nat) : Int))) <|
    pf (p2_loop (riseF s xs) left ts.length d again hla hk hb) <|
    pf (DLe.r (D.sl (4 : Nat) (es (riseF s xs)))) <|
    pf (DLe.r (D.sl (4 : Nat) (es (placeL (riseF s xs) (again.zip left))))) <|
    pf (DLe.r (i (↑(0 : Nat) : Int))) <|
    pz) (by kernel_rfl)

/-- What Permute answers: the sorted inputs and the tables beside them. -/
def permF (s : Int) (xs ts : List Nat) : Option (List Nat × List Nat) := match pmF (riseF s xs) (riseF s ts) ts.length with
  | none => none
  | some (left, again) => some (riseF s xs, placeL (riseF s xs) (again.zip left))

theorem riseF_nums (s : Int) (hs : Sort01 s) (xs : List Nat) : Nums (riseF s xs) := by
  intro x hx
  unfold riseF sortF at hx
  exact rmF_nums s hs xs x (List.mem_mergeSort.1 hx)
theorem riseF_rises (s : Int) (xs : List Nat) : Rises (riseF s xs) := by
  unfold riseF sortF Rises
  have := List.pairwise_mergeSort (le := fun x y : Nat => decide (x ≤ y)) (fun a b c h1 h2 => by simp at *; omega) (fun a b => by simp; omega) (rmF s xs)
  exact this.imp (fun h => by simpa using h)

/-- Permute of lists that are as long, and not too long. -/
theorem Permute_ok (s : Int) (hs : Sort01 s) (xs ts : List Nat) (hx : Nums xs) (ht : Nums ts) (hl : xs.length = ts.length) (hl2 : xs.length ≤ 64) :
    (∀ a b, permF s xs ts = some (a, b) → FnOk PP n_lookup_Permute [vi s, vl xs, vl ts] [] (.ret (.tup [vl a, vl b, vi 0])) []) ∧
    (permF s xs ts = none → FnOk PP n_lookup_Permute [vi s, vl xs, vl ts] [] (.ret (.tup [.nils, .nils, vi 200])) []) := by
  have hl' : (es xs).length = (es ts).length := by rw [es_len, es_len, hl]
  have w := pm_walk s (riseF s xs) (riseF s ts) ts.length (riseF_len s ts) (by omega) (riseF_nums s hs xs) (by rw [riseF_len, hl]) (riseF_rises s ts) (riseF_nums s hs ts) ts.length 0 (riseF s ts) [] 0 (by omega) (Nat.zero_le _) (by rw [riseF_len]; omega) rfl
  unfold permF
  cases h : pmF (riseF s xs) (riseF s ts) ts.length with
  | none =>
    refine ⟨fun a b h => (by cases h), fun _ => ?_⟩
    obtain ⟨m, t⟩ := w.2 h
    exact Permute_no s hs xs ts hx ht hl' hl2 (by omega) t.loop
  | some p =>
    obtain ⟨left, again⟩ := p
    refine ⟨fun a b h2 => ?_, fun h => (by cases h)⟩
    simp only [Option.some.injEq, Prod.mk.injEq] at h2
    obtain ⟨rfl, rfl⟩ := h2
    obtain ⟨m, d, hd, t⟩ := w.1 left again h
    obtain ⟨_, _, i3, i4, i5⟩ := pmF_inv _ _ (riseF_rises s ts) (riseF_nums s hs ts) _ _ _ h
    rw [riseF_len] at i3
    exact Permute_of s hs xs ts left again d hx ht hl' hl2 (by omega) t.loop (by omega) (fun k hk => by rw [riseF_len, hl]; exact i4 k hk) (by omega)

end Go.Sg
