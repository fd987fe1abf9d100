/-
Contract of lookup.Product. (Laid by wip/tools/fill2.py out of a text of our own.)
-/
import Derived.Test.YtlaohcpkecmhnaaOwnPerm2

set_option linter.all false

namespace Go.Sg
open Go Go.Own
open Go.Own (V D Wy)

def pairF (p be ga a b : Nat) : Nat := mulF p (addF p a be) (addF p b ga)
theorem pairF_lt {p : Nat} (l : Little p) (be ga a b : Nat) : pairF p be ga a b < B ^ 4 := mulF_lt l _ _
def pairD (s : Int) (be ga : Nat) : List D := [i s, u (limb 0 be), u (limb 1 be), u (limb 2 be), u (limb 3 be), u (limb 0 ga), u (limb 1 ga), u (limb 2 ga), u (limb 3 ga)]
theorem pairof_ok (s : Int) (hs : Sort01 s) (be ga a b : Nat) (hbe : be < B ^ 4) (hga : ga < B ^ 4) (ha : a < B ^ 4) (hb : b < B ^ 4) : FnOk PP n_lookup_pair_of [.d (.agg (pairD s be ga)), ve a, ve b] [] (.ret (ve (pairF (pr s) be ga a b))) [] := pair_of_ok s hs be ga a b hbe hga ha hb
def invF (p a : Nat) : Nat := expF p a (p - 2)
theorem invF_lt {p : Nat} (l : Little p) (a : Nat) : invF p a < B ^ 4 := l.mod4 _
theorem InvF_ok (s : Int) (hs : Sort01 s) (a : Nat) (ha : a < B ^ 4) (h : a % pr s ≠ 0) : FnOk PP n_field_Inv [vi s, ve a] [] (.ret (.tup [ve (invF (pr s) a), vi 0])) [] := Inv_ok s hs a ha h

theorem es_snoc (zs : List Nat) (y : Nat) : es zs ++ [elem y] = es (zs ++ [y]) := by
  unfold es
  rw [List.map_append]
  rfl
theorem one_elem_plain (y : Nat) : PlainE [elem y] := by
  intro e he
  simp only [List.mem_singleton] at he
  subst he
  rfl
def pairV (s : Int) (be ga : Nat) : List V := [vi s, vu (limb 0 be), vu (limb 1 be), vu (limb 2 be), vu (limb 3 be), vu (limb 0 ga), vu (limb 1 ga), vu (limb 2 ga), vu (limb 3 ga)]

def prSt (s : Int) (k : Nat) (xs ts a b cs : List Nat) (be ga : Nat) (zs : List Nat) (r : Nat) : Own.St := { t := [(74, vi (r : Int)), (73, vi ((es xs).length : Int)), (26, .ref 26 0 none none), (25, .ptr 25 0 0), (22, vi ((2 ^ k : Nat) : Int)), (19, vi 0), (18, .nils), (0, vi s), (2, vl xs), (3, vl ts), (4, vl a), (5, vl b), (8, .ptr 100000 0 0)], h := [(26, .row 4 (es zs)), (25, .box (pairV s be ga)), (100000, .box [vl cs])] }

def zNext (p be ga z x t a b : Nat) : Nat := mulF p (mulF p z (invF p (pairF p be ga a b))) (pairF p be ga x t)
theorem zNext_lt {p : Nat} (l : Little p) (be ga z x t a b : Nat) : zNext p be ga z x t a b < B ^ 4 := mulF_lt l _ _

theorem pr_round (s : Int) (hs : Sort01 s) (k : Nat) (xs ts a b cs : List Nat) (be ga : Nat) (zs : List Nat) (r x t av bv z : Nat) (hbe : be < B ^ 4) (hga : ga < B ^ 4) (hr : r < (es xs).length) (hb : r ≤ 1000) (hx : xs[r]? = some x) (ht : ts[r]? = some t) (ha : a[r]? = some av) (hbv : b[r]? = some bv) (hz : zs[r]? = some z) (hzl : r < (es zs).length) (hzb : (es zs).length ≤ 1000) (hx4 : x < B ^ 4) (ht4 : t < B ^ 4) (ha4 : av < B ^ 4) (hb4 : bv < B ^ 4) (hz4 : z < B ^ 4) (hd : pairF (pr s) be ga av bv % pr s ≠ 0) : T PP f_lookup_Product.ntmps (loopOf f_lookup_Product 3) (prSt s k xs ts a b cs be ga zs r) .normal (prSt s k xs ts a b cs be ga (zs ++ [zNext (pr s) be ga z x t av bv]) (r + 1)) :=
  T.by ({ o := { val := [(82, elem av), (86, elem bv), (100, elem z), (106, elem x), (110, elem t)], br := [(75, true)], call := [(88, callV (ve (pairF (pr s) be ga av bv))), (89, callV (V.tup [ve (invF (pr s) (pairF (pr s) be ga av bv)), vi (0 : Int)])), (102, callV (ve (mulF (pr s) z (invF (pr s) (pairF (pr s) be ga av bv))))), (112, callV (ve (pairF (pr s) be ga x t))), (113, callV (ve (mulF (pr s) (mulF (pr s) z (invF (pr s) (pairF (pr s) be ga av bv))) (pairF (pr s) be ga x t))))], set := [(116, i (↑(r + (1 : Nat)) : Int))] } }) 3 { σ := [(26, 115)] } (
    pf (t_gt ((es xs).length) r hr) <|
    pf PP_mixed <|
    pf (nn_le r) <|
    pf (es_get a r av ha) <|
    pf (nn_le r) <|
    pf (es_get b r bv hbv) <|
    pf (pairof_ok s hs be ga av bv hbe hga ha4 hb4) <|
    pf (InvF_ok s hs (pairF (pr s) be ga av bv) (pairF_lt (little s hs) be ga av bv) hd) <|
    pf (by decide : (4 : Nat) ≤ (4 : Nat)) <|
    pf PP_mixed <|
    pf (in_vc r ((es zs).length - (0 : Nat)) (by omega)) <|
    pf (es_get zs r z hz) <|
    pf (rfl : (elem z).isAgg = true) <|
    pf (Mul_ok s hs z (invF (pr s) (pairF (pr s) be ga av bv)) hz4 (invF_lt (little s hs) (pairF (pr s) be ga av bv))) <|
    pf (nn_le r) <|
    pf (es_get xs r x hx) <|
    pf (nn_le r) <|
    pf (es_get ts r t ht) <|
    pf (pairof_ok s hs be ga x t hbe hga hx4 ht4) <|
    pf (Mul_ok s hs (mulF (pr s) z (invF (pr s) (pairF (pr s) be ga av bv))) (pairF (pr s) be ga x t) (mulF_lt (little s hs) z (invF (pr s) (pairF (pr s) be ga av bv))) (pairF_lt (little s hs) be ga x t)) <|
    pf (one_elem_plain (mulF (pr s) (mulF (pr s) z (invF (pr s) (pairF (pr s) be ga av bv))) (pairF (pr s) be ga x t))) <|
    pf (by omega : ((es zs).length + (1 : Nat)) * (32 : Nat) ≤ (140737488355328 : Nat)) <|
    pf (i_add r ((1 : Nat)) (by omega)) <|
    pf (Eq.refl ((4 : Nat) : Nat)) <|
    pf (es_snoc zs (zNext (pr s) be ga z x t av bv)) <|
    pf (DLe.r (i s)) <|
    pf (DLe.r (u (limb (0 : Nat) be))) <|
    pf (DLe.r (u (limb (1 : Nat) be))) <|
    pf (DLe.r (u (limb (2 : Nat) be))) <|
    pf (DLe.r (u (limb (3 : Nat) be))) <|
    pf (DLe.r (u (limb (0 : Nat) ga))) <|
    pf (DLe.r (u (limb (1 : Nat) ga))) <|
    pf (DLe.r (u (limb (2 : Nat) ga))) <|
    pf (DLe.r (u (limb (3 : Nat) ga))) <|
    pf (DLe.r (D.sl (4 : Nat) (es cs))) <|
    pf (DLe.r (i (↑(r + (1 : Nat)) : Int))) <|
    pf (DLe.r (i (↑(es xs).length : Int))) <|
    pf (Eq.refl ((0 : Nat) : Nat)) <|
    pf (Eq.refl ((0 : Nat) : Nat)) <|
    pf (Eq.refl ((0 : Nat) : Nat)) <|
    pf (DLe.r (i (↑((2 : Nat) ^ k) : Int))) <|
    pf (DLe.r (i (↑(0 : Nat) : Int))) <|
    pf (DLe.r (i s)) <|
    pf (DLe.r (D.sl (4 : Nat) (es xs))) <|
    pf (DLe.r (D.sl (4 : Nat) (es ts))) <|
    pf (DLe.r (D.sl (4 : Nat) (es a))) <|
    pf (DLe.r (D.sl (4 : Nat) (es b))) <|
    pf (Eq.refl ((0 : Nat) : Nat)) <|
    pf (Eq.refl ((0 : Nat) : Nat)) <|
    pz) (by kernel_rfl)

def prNo (e : Int) (cs : List Nat) : Own.St := { t := [(18, .nils), (19, vi e)], h := [(100000, .box [vl cs])] }

theorem pr_no (s : Int) (hs : Sort01 s) (k : Nat) (xs ts a b cs : List Nat) (be ga : Nat) (zs : List Nat) (r av bv : Nat) (hbe : be < B ^ 4) (hga : ga < B ^ 4) (hr : r < (es xs).length) (hb : r ≤ 1000) (ha : a[r]? = some av) (hbv : b[r]? = some bv) (ha4 : av < B ^ 4) (hb4 : bv < B ^ 4) (hd : pairF (pr s) be ga av bv % pr s = 0) : T PP f_lookup_Product.ntmps (loopOf f_lookup_Product 3) (prSt s k xs ts a b cs be ga zs r) .ret (prNo 100 cs) :=
  T.by ({ o := { val := [(82, elem av), (86, elem bv)], br := [(75, true)], call := [(88, callV (ve (pairF (pr s) be ga av bv))), (89, callV (V.tup [ve (0 : Nat), vi (10 : Int)]))] } }) 3 {} (
    pf (t_gt ((es xs).length) r hr) <|
    pf PP_mixed <|
    pf (nn_le r) <|
    pf (es_get a r av ha) <|
    pf (nn_le r) <|
    pf (es_get b r bv hbv) <|
    pf (pairof_ok s hs be ga av bv hbe hga ha4 hb4) <|
    pf (Inv_zero s hs (pairF (pr s) be ga av bv) (pairF_lt (little s hs) be ga av bv) hd) <|
    pf (by decide : (4 : Nat) ≤ (4 : Nat)) <|
    pf (DLe.r (D.sl (4 : Nat) (es cs))) <|
    pf (DLe.r (i (↑(100 : Nat) : Int))) <|
    pz) (by kernel_rfl)

theorem pr_end (s : Int) (k : Nat) (xs ts a b cs : List Nat) (be ga : Nat) (zs : List Nat) : T PP f_lookup_Product.ntmps (loopOf f_lookup_Product 3) (prSt s k xs ts a b cs be ga zs xs.length) (.exit 3) (prSt s k xs ts a b cs be ga zs xs.length) :=
  T.by ({ o := { br := [(75, false)] } }) 3 {} (
    pf (gt_test ((es xs).length) xs.length (by simp)) <|
    pf (Eq.refl ((4 : Nat) : Nat)) <|
    pf (Eq.refl (es zs : List D)) <|
    pf (DLe.r (i s)) <|
    pf (DLe.r (u (limb (0 : Nat) be))) <|
    pf (DLe.r (u (limb (1 : Nat) be))) <|
    pf (DLe.r (u (limb (2 : Nat) be))) <|
    pf (DLe.r (u (limb (3 : Nat) be))) <|
    pf (DLe.r (u (limb (0 : Nat) ga))) <|
    pf (DLe.r (u (limb (1 : Nat) ga))) <|
    pf (DLe.r (u (limb (2 : Nat) ga))) <|
    pf (DLe.r (u (limb (3 : Nat) ga))) <|
    pf (DLe.r (D.sl (4 : Nat) (es cs))) <|
    pf (DLe.r (i (↑xs.length : Int))) <|
    pf (DLe.r (i (↑(es xs).length : Int))) <|
    pf (Eq.refl ((0 : Nat) : Nat)) <|
    pf (Eq.refl ((0 : Nat) : Nat)) <|
    pf (Eq.refl ((0 : Nat) : Nat)) <|
    pf (DLe.r (i (↑((2 : Nat) ^ k) : Int))) <|
    pf (DLe.r (i (↑(0 : Nat) : Int))) <|
    pf (DLe.r (i s)) <|
    pf (DLe.r (D.sl (4 : Nat) (es xs))) <|
    pf (DLe.r (D.sl (4 : Nat) (es ts))) <|
    pf (DLe.r (D.sl (4 : Nat) (es a))) <|
    pf (DLe.r (D.sl (4 : Nat) (es b))) <|
    pf (Eq.refl ((0 : Nat) : Nat)) <|
    pf (Eq.refl ((0 : Nat) : Nat)) <|
    pz) (by kernel_rfl)

/-! The coins behind the product. -/
def pcSt (s : Int) (k : Nat) (cs zs : List Nat) : Own.St := { t := [(26, .ref 26 0 none none), (22, vi ((2 ^ k : Nat) : Int)), (19, vi 0), (18, .nils), (0, vi s), (8, .ptr 100000 0 0)], h := [(26, .row 4 (es zs)), (100000, .box [vl cs])] }

theorem pc_round (s : Int) (hs : Sort01 s) (k : Nat) (c : Nat) (cs zs : List Nat) (hc : c < B ^ 4) (hl : (es zs).length < 2 ^ k) (hzb : (es zs).length ≤ 1000) : T PP f_lookup_Product.ntmps (loopOf f_lookup_Product 5) (pcSt s k (c :: cs) zs) .normal (pcSt s k cs (zs ++ [addF (pr s) c 0])) :=
  T.by ({ o := { br := [(120, true)], call := [(123, { hin := [(100000 : Nat)], res := V.tup [ve c, vi (0 : Int)], hout := [((100000 : Nat), Blk.box [vl cs])], pure := false }), (133, callV (ve (addF (pr s) c (0 : Nat))))] } }) 5 { σ := [(26, 135)] } (
    pf (t_gt ((2 : Nat) ^ k) ((es zs).length) hl) <|
    pf (Next_ok c cs) <|
    pf (by decide : (4 : Nat) ≤ (4 : Nat)) <|
    pf (add_zero' s hs c hc) <|
    pf (one_elem_plain (addF (pr s) c (0 : Nat))) <|
    pf (by omega : ((es zs).length + (1 : Nat)) * (32 : Nat) ≤ (140737488355328 : Nat)) <|
    pf (Eq.refl ((4 : Nat) : Nat)) <|
    pf (es_snoc zs (addF (pr s) c (0 : Nat))) <|
    pf (DLe.r (D.sl (4 : Nat) (es cs))) <|
    pf (Eq.refl ((0 : Nat) : Nat)) <|
    pf (DLe.r (i (↑((2 : Nat) ^ k) : Int))) <|
    pf (DLe.r (i (↑(0 : Nat) : Int))) <|
    pf (DLe.r (i s)) <|
    pf (Eq.refl ((0 : Nat) : Nat)) <|
    pf (Eq.refl ((0 : Nat) : Nat)) <|
    pz) (by kernel_rfl)

theorem pc_no (s : Int) (k : Nat) (zs : List Nat) (hl : (es zs).length < 2 ^ k) : T PP f_lookup_Product.ntmps (loopOf f_lookup_Product 5) (pcSt s k [] zs) .ret (prNo 81 []) :=
  T.by ({ o := { br := [(120, true)], call := [(123, { hin := [(100000 : Nat)], res := V.tup [ve (0 : Nat), vi (81 : Int)], hout := [((100000 : Nat), Blk.box [vl []])], pure := false })] } }) 5 {} (
    pf (t_gt ((2 : Nat) ^ k) ((es zs).length) hl) <|
    pf Next_no <|
    pf (by decide : (4 : Nat) ≤ (4 : Nat)) <|
    pf (DLe.r (D.sl (4 : Nat) [])) <|
    pf (DLe.r (i (↑(81 : Nat) : Int))) <|
    pz) (by kernel_rfl)

theorem pc_end (s : Int) (k : Nat) (cs zs : List Nat) (hl : 2 ^ k ≤ (es zs).length) : T PP f_lookup_Product.ntmps (loopOf f_lookup_Product 5) (pcSt s k cs zs) (.exit 5) (pcSt s k cs zs) :=
  T.by ({ o := { br := [(120, false)] } }) 5 {} (
    pf (gt_test ((2 : Nat) ^ k) ((es zs).length) hl) <|
    pf (Eq.refl ((4 : Nat) : Nat)) <|
    pf (Eq.refl (es zs : List D)) <|
    pf (DLe.r (D.sl (4 : Nat) (es cs))) <|
    pf (Eq.refl ((0 : Nat) : Nat)) <|
    pf (DLe.r (i (↑((2 : Nat) ^ k) : Int))) <|
    pf (DLe.r (i (↑(0 : Nat) : Int))) <|
    pf (DLe.r (i s)) <|
    pf (Eq.refl ((0 : Nat) : Nat)) <|
    pf (Eq.refl ((0 : Nat) : Nat)) <|
    pz) (by kernel_rfl)

/-! The walk along the rows. -/
def zF (p be ga : Nat) (xs ts a b : List Nat) : Nat → Nat
  | 0 => 1
  | r + 1 => zNext p be ga (zF p be ga xs ts a b r) (xs.getD r 0) (ts.getD r 0) (a.getD r 0) (b.getD r 0)
def zsF (p be ga : Nat) (xs ts a b : List Nat) (n : Nat) : List Nat := (List.range n).map (zF p be ga xs ts a b)
theorem zsF_len (p be ga : Nat) (xs ts a b : List Nat) (n : Nat) : (zsF p be ga xs ts a b n).length = n := by simp [zsF]
theorem zF_lt {p : Nat} (l : Little p) (be ga : Nat) (xs ts a b : List Nat) (r : Nat) : zF p be ga xs ts a b r < B ^ 4 := by
  cases r with
  | zero => exact (by decide : 1 < B ^ 4)
  | succ r => exact zNext_lt l _ _ _ _ _ _ _
theorem zsF_at (p be ga : Nat) (xs ts a b : List Nat) (n r : Nat) (h : r < n) : (zsF p be ga xs ts a b n)[r]? = some (zF p be ga xs ts a b r) := by
  unfold zsF
  rw [List.getElem?_map, List.getElem?_range h]
  rfl
theorem zsF_succ (p be ga : Nat) (xs ts a b : List Nat) (n : Nat) : zsF p be ga xs ts a b (n + 1) = zsF p be ga xs ts a b n ++ [zF p be ga xs ts a b n] := by
  unfold zsF
  rw [List.range_succ, List.map_append]
  rfl

/-- No divisor is 0. -/
def NoDeg (p be ga : Nat) (a b : List Nat) (u : Nat) : Prop := ∀ j, j < u → pairF p be ga (a.getD j 0) (b.getD j 0) % p ≠ 0
instance (p be ga : Nat) (a b : List Nat) (u : Nat) : Decidable (NoDeg p be ga a b u) := inferInstanceAs (Decidable (∀ j, j < u → _))

theorem getD_of {xs : List Nat} {j x : Nat} (h : xs[j]? = some x) : xs.getD j 0 = x := by rw [List.getD_eq_getElem?_getD, h]; rfl
theorem at_of {xs : List Nat} {j : Nat} (h : j < xs.length) : xs[j]? = some (xs.getD j 0) := by
  rw [List.getD_eq_getElem?_getD, List.getElem?_eq_getElem h]; rfl

theorem pr_walk (s : Int) (hs : Sort01 s) (k : Nat) (xs ts a b cs : List Nat) (be ga : Nat) (hbe : be < B ^ 4) (hga : ga < B ^ 4) (u : Nat) (hu : u ≤ 900) (hx : xs.length = u) (ht : ts.length = u) (ha : a.length = u) (hb : b.length = u) (nx : Nums xs) (nt : Nums ts) (na : Nums a) (nb : Nums b) :
    ∀ (m r : Nat), u - r = m → r ≤ u →
    ((∀ j, r ≤ j → j < u → pairF (pr s) be ga (a.getD j 0) (b.getD j 0) % pr s ≠ 0) → ∃ d, Un PP f_lookup_Product.ntmps (loopOf f_lookup_Product 3) (.exit 3) (prSt s k xs ts a b cs be ga (zsF (pr s) be ga xs ts a b (u + 1)) u) d (prSt s k xs ts a b cs be ga (zsF (pr s) be ga xs ts a b (r + 1)) r)) ∧
    ((∃ j, r ≤ j ∧ j < u ∧ pairF (pr s) be ga (a.getD j 0) (b.getD j 0) % pr s = 0) → ∃ d, Un PP f_lookup_Product.ntmps (loopOf f_lookup_Product 3) .ret (prNo 100 cs) d (prSt s k xs ts a b cs be ga (zsF (pr s) be ga xs ts a b (r + 1)) r))
  | 0, r, hm, hr => by
    obtain rfl : r = u := by omega
    refine ⟨fun _ => ⟨0, .last (by simp) ?_⟩, fun ⟨j, h1, h2, _⟩ => by omega⟩
    have := pr_end s k xs ts a b cs be ga (zsF (pr s) be ga xs ts a b (r + 1))
    rw [hx] at this
    exact this
  | m + 1, r, hm, hr => by
    have hru : r < u := by omega
    obtain ⟨w1, w2⟩ := pr_walk s hs k xs ts a b cs be ga hbe hga u hu hx ht ha hb nx nt na nb m (r + 1) (by omega) (by omega)
    have ax := at_of (xs := xs) (j := r) (by omega)
    have at' := at_of (xs := ts) (j := r) (by omega)
    have aa := at_of (xs := a) (j := r) (by omega)
    have ab := at_of (xs := b) (j := r) (by omega)
    by_cases hd : pairF (pr s) be ga (a.getD r 0) (b.getD r 0) % pr s = 0
    · refine ⟨fun h => absurd hd (h r (Nat.le_refl _) hru), fun _ => ⟨0, .last (by simp) ?_⟩⟩
      exact pr_no s hs k xs ts a b cs be ga _ r _ _ hbe hga (by rw [es_len]; omega) (by omega) aa ab (nums_at na aa) (nums_at nb ab) hd
    · have t := pr_round s hs k xs ts a b cs be ga (zsF (pr s) be ga xs ts a b (r + 1)) r _ _ _ _ _ hbe hga (by rw [es_len]; omega) (by omega) ax at' aa ab (zsF_at (pr s) be ga xs ts a b (r + 1) r (by omega)) (by rw [es_len, zsF_len]; omega) (by rw [es_len, zsF_len]; omega) (nums_at nx ax) (nums_at nt at') (nums_at na aa) (nums_at nb ab) (zF_lt (little s hs) _ _ _ _ _ _ _) hd
      have e : zsF (pr s) be ga xs ts a b (r + 1) ++ [zNext (pr s) be ga (zF (pr s) be ga xs ts a b r) (xs.getD r 0) (ts.getD r 0) (a.getD r 0) (b.getD r 0)] = zsF (pr s) be ga xs ts a b (r + 1 + 1) := (zsF_succ ..).symm
      rw [e] at t
      refine ⟨fun h => ?_, fun ⟨j, h1, h2, h3⟩ => ?_⟩
      · obtain ⟨d, q⟩ := w1 (fun j h1 h2 => h j (by omega) h2)
        exact ⟨d + 1, .step t q⟩
      · have : j ≠ r := fun e => hd (e ▸ h3)
        obtain ⟨d, q⟩ := w2 ⟨j, by omega, h2, h3⟩
        exact ⟨d + 1, .step t q⟩

theorem pr_loop_ok (s : Int) (hs : Sort01 s) (k : Nat) (xs ts a b cs : List Nat) (be ga : Nat) (hbe : be < B ^ 4) (hga : ga < B ^ 4) (u : Nat) (hu : u ≤ 900) (hx : xs.length = u) (ht : ts.length = u) (ha : a.length = u) (hb : b.length = u) (nx : Nums xs) (nt : Nums ts) (na : Nums a) (nb : Nums b) (hd : NoDeg (pr s) be ga a b u) :
    T PP f_lookup_Product.ntmps (.loop (loopOf f_lookup_Product 3)) (prSt s k xs ts a b cs be ga [1] 0) (.exit 3) (prSt s k xs ts a b cs be ga (zsF (pr s) be ga xs ts a b (u + 1)) u) := by
  obtain ⟨d, t⟩ := (pr_walk s hs k xs ts a b cs be ga hbe hga u hu hx ht ha hb nx nt na nb u 0 (by omega) (Nat.zero_le _)).1 (fun j _ h => hd j h)
  exact t.loop
theorem pr_loop_no (s : Int) (hs : Sort01 s) (k : Nat) (xs ts a b cs : List Nat) (be ga : Nat) (hbe : be < B ^ 4) (hga : ga < B ^ 4) (u : Nat) (hu : u ≤ 900) (hx : xs.length = u) (ht : ts.length = u) (ha : a.length = u) (hb : b.length = u) (nx : Nums xs) (nt : Nums ts) (na : Nums a) (nb : Nums b) (hd : ¬ NoDeg (pr s) be ga a b u) :
    T PP f_lookup_Product.ntmps (.loop (loopOf f_lookup_Product 3)) (prSt s k xs ts a b cs be ga [1] 0) .ret (prNo 100 cs) := by
  have : ∃ j, 0 ≤ j ∧ j < u ∧ pairF (pr s) be ga (a.getD j 0) (b.getD j 0) % pr s = 0 := by
    refine Classical.byContradiction fun h => hd fun j hj e => h ⟨j, Nat.zero_le _, hj, e⟩
  obtain ⟨d, t⟩ := (pr_walk s hs k xs ts a b cs be ga hbe hga u hu hx ht ha hb nx nt na nb u 0 (by omega) (Nat.zero_le _)).2 this
  exact t.loop

theorem pc_walk (s : Int) (hs : Sort01 s) (k : Nat) (hk : 2 ^ k ≤ 900) : ∀ (m : Nat) (cs zs : List Nat), Nums cs → zs.length + m = 2 ^ k →
    (m ≤ cs.length → ∃ d, Un PP f_lookup_Product.ntmps (loopOf f_lookup_Product 5) (.exit 5) (pcSt s k (cs.drop m) (zs ++ (cs.take m).map fun c => addF (pr s) c 0)) d (pcSt s k cs zs)) ∧
    (cs.length < m → ∃ d, Un PP f_lookup_Product.ntmps (loopOf f_lookup_Product 5) .ret (prNo 81 []) d (pcSt s k cs zs))
  | 0, cs, zs, hc, hl => by
    refine ⟨fun _ => ⟨0, .last (by simp) ?_⟩, fun h => by omega⟩
    simpa using pc_end s k cs zs (by rw [es_len]; omega)
  | m + 1, [], zs, hc, hl => by
    refine ⟨fun h => by simp at h, fun _ => ⟨0, .last (by simp) (pc_no s k zs (by rw [es_len]; omega))⟩⟩
  | m + 1, c :: cs, zs, hc, hl => by
    have t := pc_round s hs k c cs zs (hc c (by simp)) (by rw [es_len]; omega) (by rw [es_len]; omega)
    obtain ⟨w1, w2⟩ := pc_walk s hs k hk m cs (zs ++ [addF (pr s) c 0]) (fun x hx => hc x (by simp [hx])) (by simp; omega)
    refine ⟨fun h => ?_, fun h => ?_⟩
    · obtain ⟨d, q⟩ := w1 (by simpa using h)
      refine ⟨d + 1, ?_⟩
      have q2 := Un.step t q
      simpa using q2
    · obtain ⟨d, q⟩ := w2 (by simpa using h)
      exact ⟨d + 1, .step t q⟩

theorem pc_loop_ok (s : Int) (hs : Sort01 s) (k : Nat) (hk : 2 ^ k ≤ 900) (cs zs : List Nat) (hc : Nums cs) (m : Nat) (hl : zs.length + m = 2 ^ k) (hm : m ≤ cs.length) :
    T PP f_lookup_Product.ntmps (.loop (loopOf f_lookup_Product 5)) (pcSt s k cs zs) (.exit 5) (pcSt s k (cs.drop m) (zs ++ (cs.take m).map fun c => addF (pr s) c 0)) := by
  obtain ⟨d, t⟩ := (pc_walk s hs k hk m cs zs hc hl).1 hm
  exact t.loop
theorem pc_loop_no (s : Int) (hs : Sort01 s) (k : Nat) (hk : 2 ^ k ≤ 900) (cs zs : List Nat) (hc : Nums cs) (m : Nat) (hl : zs.length + m = 2 ^ k) (hm : cs.length < m) :
    T PP f_lookup_Product.ntmps (.loop (loopOf f_lookup_Product 5)) (pcSt s k cs zs) .ret (prNo 81 []) := by
  obtain ⟨d, t⟩ := (pc_walk s hs k hk m cs zs hc hl).2 hm
  exact t.loop

/-- The product along the rows, and the coins behind it. -/
def prodF (s : Int) (k be ga : Nat) (xs ts a b cs : List Nat) : List Nat := zsF (pr s) be ga xs ts a b (2 ^ k - 4 + 1) ++ (cs.take 3).map fun c => addF (pr s) c 0

theorem Product_of (s : Int) (hs : Sort01 s) (k : Nat) (hk : 3 ≤ k) (hk2 : k ≤ 5) (xs ts a b cs : List Nat) (be ga : Nat) (hbe : be < B ^ 4) (hga : ga < B ^ 4) (hx : (es xs).length = 2 ^ k - 4) (ht : (es ts).length = 2 ^ k - 4) (ha : (es a).length = 2 ^ k - 4) (hb : (es b).length = 2 ^ k - 4) (h4 : 4 ≤ 2 ^ k) (h5 : 2 ^ k ≤ 512) (nx : Nums xs) (nt : Nums ts) (na : Nums a) (nb : Nums b) (nc : Nums cs) (hx' : xs.length = 2 ^ k - 4) (ht' : ts.length = 2 ^ k - 4) (ha' : a.length = 2 ^ k - 4) (hb' : b.length = 2 ^ k - 4) (hd : NoDeg (pr s) be ga a b (2 ^ k - 4)) (hc : 3 ≤ cs.length) (hzl : (zsF (pr s) be ga xs ts a b (2 ^ k - 4 + 1)).length + 3 = 2 ^ k) : FnOk PP n_lookup_Product [vi s, vi k, vl xs, vl ts, vl a, vl b, ve be, ve ga, .ptr 100000 0 0] [(100000, .box [vl cs])] (.ret (.tup [vl (prodF s k be ga xs ts a b cs), vi 0])) [(100000, .box [vl (cs.drop 3)])] :=
  FnOk.by at_lookup_Product (by kernel_rfl) ({ o := { br := [(44, false), (41, false)], call := [(34, callV (V.tup [ve (pr s), vi (0 : Int)]))], ids := [(71, 26)], set := [(49, i (↑((2 : Nat) ^ k) : Int))] }, loop := [(3, { pre := prSt s k xs ts a b cs be ga [(1 : Nat)] (0 : Nat), e := AExit.exit (3 : Nat), post := prSt s k xs ts a b cs be ga (zsF (pr s) be ga xs ts a b ((2 : Nat) ^ k - (4 : Nat) + (1 : Nat))) ((2 : Nat) ^ k - (4 : Nat)) }), (5, { pre := pcSt s k cs (zsF (pr s) be ga xs ts a b ((2 : Nat) ^ k - (4 : Nat) + (1 : Nat))), e := AExit.exit (5 : Nat), post := pcSt s k (List.drop (3 : Nat) cs) (zsF (pr s) be ga xs ts a b ((2 : Nat) ^ k - (4 : Nat) + (1 : Nat)) ++ List.map (fun c => addF (pr s) c (0 : Nat)) (List.take (3 : Nat) cs)) })], iter := [(1, [{ o := { br := [(64, false)], set := [(63, i ((2 ^ k - 4 : Nat) : Int))] } }, { o := { br := [(64, false)], set := [(63, i ((2 ^ k - 4 : Nat) : Int))] } }, { o := { br := [(64, false)], set := [(63, i ((2 ^ k - 4 : Nat) : Int))] } }, { o := { br := [(64, false)], set := [(63, i ((2 ^ k - 4 : Nat) : Int))] } }, {}])] }) {} [vl (prodF s k be ga xs ts a b cs), vi 0] rfl (
    pf (Modulus_ok s hs) <|
    pf (by decide : (4 : Nat) ≤ (4 : Nat)) <|
    pf (gt_test ((3 : Nat)) k hk) <|
    pf (gt_test ((3 : Nat)) k hk) <|
    pf (gt_test ((3 : Nat)) k hk) <|
    pf (gt5_test k hk2) <|
    pf (nn_le k) <|
    pf (i_shl1' k (by omega)) <|
    pf (by decide : (↑(0 : Nat) : Int) ≤ (↑(0 : Nat) : Int) ∧ (↑(0 : Nat) : Int) < (↑((4 : Nat) - (0 : Nat)) : Int)) <|
    pf (i_sub ((2 : Nat) ^ k) ((4 : Nat)) h4 (by omega)) <|
    pf (f_ne ((es xs).length) ((2 : Nat) ^ k - (4 : Nat)) hx) <|
    pf (by decide : (↑(0 : Nat) : Int) ≤ (↑(1 : Nat) : Int) ∧ (↑(1 : Nat) : Int) < (↑((4 : Nat) - (0 : Nat)) : Int)) <|
    pf (i_sub ((2 : Nat) ^ k) ((4 : Nat)) h4 (by omega)) <|
    pf (f_ne ((es ts).length) ((2 : Nat) ^ k - (4 : Nat)) ht) <|
    pf (by decide : (↑(0 : Nat) : Int) ≤ (↑(2 : Nat) : Int) ∧ (↑(2 : Nat) : Int) < (↑((4 : Nat) - (0 : Nat)) : Int)) <|
    pf (i_sub ((2 : Nat) ^ k) ((4 : Nat)) h4 (by omega)) <|
    pf (f_ne ((es a).length) ((2 : Nat) ^ k - (4 : Nat)) ha) <|
    pf (by decide : (↑(0 : Nat) : Int) ≤ (↑(3 : Nat) : Int) ∧ (↑(3 : Nat) : Int) < (↑((4 : Nat) - (0 : Nat)) : Int)) <|
    pf (i_sub ((2 : Nat) ^ k) ((4 : Nat)) h4 (by omega)) <|
    pf (f_ne ((es b).length) ((2 : Nat) ^ k - (4 : Nat)) hb) <|
    pf (Eq.refl ((4 : Nat) : Nat)) <|
    pf (Eq.refl ([elem (1 : Nat)] : List D)) <|
    pf (DLe.r (i s)) <|
    pf (DLe.r (u (limb (0 : Nat) be))) <|
    pf (DLe.r (u (limb (1 : Nat) be))) <|
    pf (DLe.r (u (limb (2 : Nat) be))) <|
    pf (DLe.r (u (limb (3 : Nat) be))) <|
    pf (DLe.r (u (limb (0 : Nat) ga))) <|
    pf (DLe.r (u (limb (1 : Nat) ga))) <|
    pf (DLe.r (u (limb (2 : Nat) ga))) <|
    pf (DLe.r (u (limb (3 : Nat) ga))) <|
    pf (DLe.r (D.sl (4 : Nat) (es cs))) <|
    pf (DLe.r (i (↑(0 : Nat) : Int))) <|
    pf (DLe.r (i (↑(es xs).length : Int))) <|
    pf (Eq.refl ((0 : Nat) : Nat)) <|
    pf (Eq.refl ((0 : Nat) : Nat)) <|
    pf (Eq.refl ((0 : Nat) : Nat)) <|
    pf (DLe.r (i (↑((2 : Nat) ^ k) : Int))) <|
    pf (DLe.r (i (↑(0 : Nat) : Int))) <|
    pf (DLe.r (i s)) <|
    pf (DLe.r (D.sl (4 : Nat) (es xs))) <|
    pf (DLe.r (D.sl (4 : Nat) (es ts))) <|
    pf (DLe.r (D.sl (4 : Nat) (es a))) <|
    pf (DLe.r (D.sl (4 : Nat) (es b))) <|
    pf (Eq.refl ((0 : Nat) : Nat)) <|
    pf (Eq.refl ((0 : Nat) : Nat)) <|
    pf (pr_loop_ok s hs k xs ts a b cs be ga hbe hga ((2 : Nat) ^ k - (4 : Nat)) (by omega) hx' ht' ha' hb' nx nt na nb hd) <|
    pf (Eq.refl ((4 : Nat) : Nat)) <|
    pf (Eq.refl (es (zsF (pr s) be ga xs ts a b ((2 : Nat) ^ k - (4 : Nat) + (1 : Nat))) : List D)) <|
    pf (DLe.r (D.sl (4 : Nat) (es cs))) <|
    pf (Eq.refl ((0 : Nat) : Nat)) <|
    pf (DLe.r (i (↑((2 : Nat) ^ k) : Int))) <|
    pf (DLe.r (i (↑(0 : Nat) : Int))) <|
    pf (DLe.r (i s)) <|
    pf (Eq.refl ((0 : Nat) : Nat)) <|
    pf (Eq.refl ((0 : Nat) : Nat)) <|
    pf (pc_loop_ok s hs k (by omega) cs (zsF (pr s) be ga xs ts a b ((2 : Nat) ^ k - (4 : Nat) + (1 : Nat))) nc ((3 : Nat)) hzl hc) <|
    pf (DLe.r (D.sl (4 : Nat) (es (List.drop (3 : Nat) cs)))) <|
    pf (DLe.r (D.sl (4 : Nat) (es (prodF s k be ga xs ts a b cs)))) <|
    pf (DLe.r (i (↑(0 : Nat) : Int))) <|
    pz) (by kernel_rfl)


theorem Product_deg (s : Int) (hs : Sort01 s) (k : Nat) (hk : 3 ≤ k) (hk2 : k ≤ 5) (xs ts a b cs : List Nat) (be ga : Nat) (hbe : be < B ^ 4) (hga : ga < B ^ 4) (hx : (es xs).length = 2 ^ k - 4) (ht : (es ts).length = 2 ^ k - 4) (ha : (es a).length = 2 ^ k - 4) (hb : (es b).length = 2 ^ k - 4) (h4 : 4 ≤ 2 ^ k) (h5 : 2 ^ k ≤ 512) (nx : Nums xs) (nt : Nums ts) (na : Nums a) (nb : Nums b) (nc : Nums cs) (hx' : xs.length = 2 ^ k - 4) (ht' : ts.length = 2 ^ k - 4) (ha' : a.length = 2 ^ k - 4) (hb' : b.length = 2 ^ k - 4) (hd : ¬ NoDeg (pr s) be ga a b (2 ^ k - 4)) (hzl : (zsF (pr s) be ga xs ts a b (2 ^ k - 4 + 1)).length + 3 = 2 ^ k) : FnOk PP n_lookup_Product [vi s, vi k, vl xs, vl ts, vl a, vl b, ve be, ve ga, .ptr 100000 0 0] [(100000, .box [vl cs])] (.ret (.tup [.nils, vi 100])) [(100000, .box [vl cs])] :=
  FnOk.by at_lookup_Product (by kernel_rfl) ({ o := { br := [(44, false), (41, false)], call := [(34, callV (V.tup [ve (pr s), vi (0 : Int)]))], ids := [(71, 26)], set := [(49, i (↑((2 : Nat) ^ k) : Int))] }, loop := [(3, { pre := prSt s k xs ts a b cs be ga [(1 : Nat)] (0 : Nat), e := AExit.ret, post := prNo (100 : Int) cs })], iter := [(1, [{ o := { br := [(64, false)], set := [(63, i ((2 ^ k - 4 : Nat) : Int))] } }, { o := { br := [(64, false)], set := [(63, i ((2 ^ k - 4 : Nat) : Int))] } }, { o := { br := [(64, false)], set := [(63, i ((2 ^ k - 4 : Nat) : Int))] } }, { o := { br := [(64, false)], set := [(63, i ((2 ^ k - 4 : Nat) : Int))] } }, {}])] }) {} [.nils, vi 100] rfl (
    pf (Modulus_ok s hs) <|
    pf (by decide : (4 : Nat) ≤ (4 : Nat)) <|
    pf (gt_test ((3 : Nat)) k hk) <|
    pf (gt_test ((3 : Nat)) k hk) <|
    pf (gt_test ((3 : Nat)) k hk) <|
    pf (gt5_test k hk2) <|
    pf (nn_le k) <|
    pf (i_shl1' k (by omega)) <|
    pf (by decide : (↑(0 : Nat) : Int) ≤ (↑(0 : Nat) : Int) ∧ (↑(0 : Nat) : Int) < (↑((4 : Nat) - (0 : Nat)) : Int)) <|
    pf (i_sub ((2 : Nat) ^ k) ((4 : Nat)) h4 (by omega)) <|
    pf (f_ne ((es xs).length) ((2 : Nat) ^ k - (4 : Nat)) hx) <|
    pf (by decide : (↑(0 : Nat) : Int) ≤ (↑(1 : Nat) : Int) ∧ (↑(1 : Nat) : Int) < (↑((4 : Nat) - (0 : Nat)) : Int)) <|
    pf (i_sub ((2 : Nat) ^ k) ((4 : Nat)) h4 (by omega)) <|
    pf (f_ne ((es ts).length) ((2 : Nat) ^ k - (4 : Nat)) ht) <|
    pf (by decide : (↑(0 : Nat) : Int) ≤ (↑(2 : Nat) : Int) ∧ (↑(2 : Nat) : Int) < (↑((4 : Nat) - (0 : Nat)) : Int)) <|
    pf (i_sub ((2 : Nat) ^ k) ((4 : Nat)) h4 (by omega)) <|
    pf (f_ne ((es a).length) ((2 : Nat) ^ k - (4 : Nat)) ha) <|
    pf (by decide : (↑(0 : Nat) : Int) ≤ (↑(3 : Nat) : Int) ∧ (↑(3 : Nat) : Int) < (↑((4 : Nat) - (0 : Nat)) : Int)) <|
    pf (i_sub ((2 : Nat) ^ k) ((4 : Nat)) h4 (by omega)) <|
    pf (f_ne ((es b).length) ((2 : Nat) ^ k - (4 : Nat)) hb) <|
    pf (Eq.refl ((4 : Nat) : Nat)) <|
    pf (Eq.refl ([elem (1 : Nat)] : List D)) <|
    pf (DLe.r (i s)) <|
    pf (DLe.r (u (limb (0 : Nat) be))) <|
    pf (DLe.r (u (limb (1 : Nat) be))) <|
    pf (DLe.r (u (limb (2 : Nat) be))) <|
    pf (DLe.r (u (limb (3 : Nat) be))) <|
    pf (DLe.r (u (limb (0 : Nat) ga))) <|
    pf (DLe.r (u (limb (1 : Nat) ga))) <|
    pf (DLe.r (u (limb (2 : Nat) ga))) <|
    pf (DLe.r (u (limb (3 : Nat) ga))) <|
    pf (DLe.r (D.sl (4 : Nat) (es cs))) <|
    pf (DLe.r (i (↑(0 : Nat) : Int))) <|
    pf (DLe.r (i (↑(es xs).length : Int))) <|
    pf (Eq.refl ((0 : Nat) : Nat)) <|
    pf (Eq.refl ((0 : Nat) : Nat)) <|
    pf (Eq.refl ((0 : Nat) : Nat)) <|
    pf (DLe.r (i (↑((2 : Nat) ^ k) : Int))) <|
    pf (DLe.r (i (↑(0 : Nat) : Int))) <|
    pf (DLe.r (i s)) <|
    pf (DLe.r (D.sl (4 : Nat) (es xs))) <|
    pf (DLe.r (D.sl (4 : Nat) (es ts))) <|
    pf (DLe.r (D.sl (4 : Nat) (es a))) <|
    pf (DLe.r (D.sl (4 : Nat) (es b))) <|
    pf (Eq.refl ((0 : Nat) : Nat)) <|
    pf (Eq.refl ((0 : Nat) : Nat)) <|
    pf (pr_loop_no s hs k xs ts a b cs be ga hbe hga ((2 : Nat) ^ k - (4 : Nat)) (by omega) hx' ht' ha' hb' nx nt na nb hd) <|
    pf (DLe.r (D.sl (4 : Nat) (es cs))) <|
    pf (DLe.r (i (↑(100 : Nat) : Int))) <|
    pz) (by kernel_rfl)


theorem Product_tape (s : Int) (hs : Sort01 s) (k : Nat) (hk : 3 ≤ k) (hk2 : k ≤ 5) (xs ts a b cs : List Nat) (be ga : Nat) (hbe : be < B ^ 4) (hga : ga < B ^ 4) (hx : (es xs).length = 2 ^ k - 4) (ht : (es ts).length = 2 ^ k - 4) (ha : (es a).length = 2 ^ k - 4) (hb : (es b).length = 2 ^ k - 4) (h4 : 4 ≤ 2 ^ k) (h5 : 2 ^ k ≤ 512) (nx : Nums xs) (nt : Nums ts) (na : Nums a) (nb : Nums b) (nc : Nums cs) (hx' : xs.length = 2 ^ k - 4) (ht' : ts.length = 2 ^ k - 4) (ha' : a.length = 2 ^ k - 4) (hb' : b.length = 2 ^ k - 4) (hd : NoDeg (pr s) be ga a b (2 ^ k - 4)) (hc : cs.length < 3) (hzl : (zsF (pr s) be ga xs ts a b (2 ^ k - 4 + 1)).length + 3 = 2 ^ k) : FnOk PP n_lookup_Product [vi s, vi k, vl xs, vl ts, vl a, vl b, ve be, ve ga, .ptr 100000 0 0] [(100000, .box [vl cs])] (.ret (.tup [.nils, vi 81])) [(100000, .box [vl []])] :=
  FnOk.by at_lookup_Product (by kernel_rfl) ({ o := { br := [(44, false), (41, false)], call := [(34, callV (V.tup [ve (pr s), vi (0 : Int)]))], ids := [(71, 26)], set := [(49, i (↑((2 : Nat) ^ k) : Int))] }, loop := [(3, { pre := prSt s k xs ts a b cs be ga [(1 : Nat)] (0 : Nat), e := AExit.exit (3 : Nat), post := prSt s k xs ts a b cs be ga (zsF (pr s) be ga xs ts a b ((2 : Nat) ^ k - (4 : Nat) + (1 : Nat))) ((2 : Nat) ^ k - (4 : Nat)) }), (5, { pre := pcSt s k cs (zsF (pr s) be ga xs ts a b ((2 : Nat) ^ k - (4 : Nat) + (1 : Nat))), e := AExit.ret, post := prNo (81 : Int) [] })], iter := [(1, [{ o := { br := [(64, false)], set := [(63, i ((2 ^ k - 4 : Nat) : Int))] } }, { o := { br := [(64, false)], set := [(63, i ((2 ^ k - 4 : Nat) : Int))] } }, { o := { br := [(64, false)], set := [(63, i ((2 ^ k - 4 : Nat) : Int))] } }, { o := { br := [(64, false)], set := [(63, i ((2 ^ k - 4 : Nat) : Int))] } }, {}])] }) {} [.nils, vi 81] rfl (
    pf (Modulus_ok s hs) <|
    pf (by decide : (4 : Nat) ≤ (4 : Nat)) <|
    pf (gt_test ((3 : Nat)) k hk) <|
    pf (gt_test ((3 : Nat)) k hk) <|
    pf (gt_test ((3 : Nat)) k hk) <|
    pf (gt5_test k hk2) <|
    pf (nn_le k) <|
    pf (i_shl1' k (by omega)) <|
    pf (by decide : (↑(0 : Nat) : Int) ≤ (↑(0 : Nat) : Int) ∧ (↑(0 : Nat) : Int) < (↑((4 : Nat) - (0 : Nat)) : Int)) <|
    pf (i_sub ((2 : Nat) ^ k) ((4 : Nat)) h4 (by omega)) <|
    pf (f_ne ((es xs).length) ((2 : Nat) ^ k - (4 : Nat)) hx) <|
    pf (by decide : (↑(0 : Nat) : Int) ≤ (↑(1 : Nat) : Int) ∧ (↑(1 : Nat) : Int) < (↑((4 : Nat) - (0 : Nat)) : Int)) <|
    pf (i_sub ((2 : Nat) ^ k) ((4 : Nat)) h4 (by omega)) <|
    pf (f_ne ((es ts).length) ((2 : Nat) ^ k - (4 : Nat)) ht) <|
    pf (by decide : (↑(0 : Nat) : Int) ≤ (↑(2 : Nat) : Int) ∧ (↑(2 : Nat) : Int) < (↑((4 : Nat) - (0 : Nat)) : Int)) <|
    pf (i_sub ((2 : Nat) ^ k) ((4 : Nat)) h4 (by omega)) <|
    pf (f_ne ((es a).length) ((2 : Nat) ^ k - (4 : Nat)) ha) <|
    pf (by decide : (↑(0 : Nat) : Int) ≤ (↑(3 : Nat) : Int) ∧ (↑(3 : Nat) : Int) < (↑((4 : Nat) - (0 : Nat)) : Int)) <|
    pf (i_sub ((2 : Nat) ^ k) ((4 : Nat)) h4 (by omega)) <|
    pf (f_ne ((es b).length) ((2 : Nat) ^ k - (4 : Nat)) hb) <|
    pf (Eq.refl ((4 : Nat) : Nat)) <|
    pf (Eq.refl ([elem (1 : Nat)] : List D)) <|
    pf (DLe.r (i s)) <|
    pf (DLe.r (u (limb (0 : Nat) be))) <|
    pf (DLe.r (u (limb (1 : Nat) be))) <|
    pf (DLe.r (u (limb (2 : Nat) be))) <|
    pf (DLe.r (u (limb (3 : Nat) be))) <|
    pf (DLe.r (u (limb (0 : Nat) ga))) <|
    pf (DLe.r (u (limb (1 : Nat) ga))) <|
    pf (DLe.r (u (limb (2 : Nat) ga))) <|
    pf (DLe.r (u (limb (3 : Nat) ga))) <|
    pf (DLe.r (D.sl (4 : Nat) (es cs))) <|
    pf (DLe.r (i (↑(0 : Nat) : Int))) <|
    pf (DLe.r (i (↑(es xs).length : Int))) <|
    pf (Eq.refl ((0 : Nat) : Nat)) <|
    pf (Eq.refl ((0 : Nat) : Nat)) <|
    pf (Eq.refl ((0 : Nat) : Nat)) <|
    pf (DLe.r (i (↑((2 : Nat) ^ k) : Int))) <|
    pf (DLe.r (i (↑(0 : Nat) : Int))) <|
    pf (DLe.r (i s)) <|
    pf (DLe.r (D.sl (4 : Nat) (es xs))) <|
    pf (DLe.r (D.sl (4 : Nat) (es ts))) <|
    pf (DLe.r (D.sl (4 : Nat) (es a))) <|
    pf (DLe.r (D.sl (4 : Nat) (es b))) <|
    pf (Eq.refl ((0 : Nat) : Nat)) <|
    pf (Eq.refl ((0 : Nat) : Nat)) <|
    pf (pr_loop_ok s hs k xs ts a b cs be ga hbe hga ((2 : Nat) ^ k - (4 : Nat)) (by omega) hx' ht' ha' hb' nx nt na nb hd) <|
    pf (Eq.refl ((4 : Nat) : Nat)) <|
    pf (Eq.refl (es (zsF (pr s) be ga xs ts a b ((2 : Nat) ^ k - (4 : Nat) + (1 : Nat))) : List D)) <|
    pf (DLe.r (D.sl (4 : Nat) (es cs))) <|
    pf (Eq.refl ((0 : Nat) : Nat)) <|
    pf (DLe.r (i (↑((2 : Nat) ^ k) : Int))) <|
    pf (DLe.r (i (↑(0 : Nat) : Int))) <|
    pf (DLe.r (i s)) <|
    pf (Eq.refl ((0 : Nat) : Nat)) <|
    pf (Eq.refl ((0 : Nat) : Nat)) <|
    pf (pc_loop_no s hs k (by omega) cs (zsF (pr s) be ga xs ts a b ((2 : Nat) ^ k - (4 : Nat) + (1 : Nat))) nc ((3 : Nat)) hzl hc) <|
    pf (DLe.r (D.sl (4 : Nat) [])) <|
    pf (DLe.r (i (↑(81 : Nat) : Int))) <|
    pz) (by kernel_rfl)


end Go.Sg
