/-
The plain law of the lookup, second part: what Permute answers is a permutation; the product is one behind the rows; all checks are 0.
-/
import Derived.Test.YtlaohcpkecmhnaaOwnLaw1

set_option linter.all false

namespace Go.Sg

/-! ### The matched tables are the tables -/
theorem count_place (v : Nat) : ∀ (ps : List (Nat × Nat)) (b : List Nat), (ps.map (·.1)).Nodup → (∀ q ∈ ps, q.1 < b.length) →
    List.count v (placeL b ps) + List.count v (ps.map fun q => b.getD q.1 0) = List.count v b + List.count v (ps.map (·.2))
  | [], b, _, _ => by simp [placeL]
  | q :: ps, b, hn, hb => by
    obtain ⟨k, x⟩ := q
    have hn' := List.nodup_cons.1 hn
    have hk : k < b.length := hb (k, x) (by simp)
    have ih := count_place v ps (b.set k x) hn'.2 (fun q hq => by rw [List.length_set]; exact hb q (by simp [hq]))
    have e1 : (ps.map fun q => (b.set k x).getD q.1 0) = ps.map fun q => b.getD q.1 0 := by
      refine List.map_congr_left fun q hq => ?_
      have hne : k ≠ q.1 := fun e => hn'.1 (by rw [e]; exact List.mem_map.2 ⟨q, hq, rfl⟩)
      rw [List.getD_eq_getElem?_getD, List.getD_eq_getElem?_getD, List.getElem?_set_ne hne]
    rw [e1] at ih
    have e2 : placeL b ((k, x) :: ps) = placeL (b.set k x) ps := rfl
    have e3 : b.getD k 0 = b[k] := by rw [List.getD_eq_getElem?_getD, List.getElem?_eq_getElem hk]; rfl
    have hc := List.count_set (a := x) (b := v) hk
    have hpos : (if (b[k] == v) = true then 1 else 0) ≤ List.count v b := by
      split
      · rename_i e
        exact List.count_pos_iff.2 (by have := eq_of_beq e; rw [← this]; exact List.getElem_mem hk)
      · exact Nat.zero_le _
    rw [e2, List.map_cons, List.map_cons, List.count_cons, List.count_cons, e3]
    simp only
    generalize (if (b[k] == v) = true then 1 else 0) = i1 at hc hpos ⊢
    generalize (if (x == v) = true then 1 else 0) = i2 at hc ⊢
    omega

theorem count_eraseAt (v : Nat) (l : List Nat) (k : Nat) (h : k < l.length) : List.count v l = List.count v (l.eraseIdx k) + if (l[k] == v) = true then 1 else 0 := by
  have e : l = l.take k ++ l[k] :: l.drop (k + 1) := by rw [← List.drop_eq_getElem_cons h, List.take_append_drop]
  rw [List.eraseIdx_eq_take_drop_succ, List.count_append]
  conv => lhs; rw [e, List.count_append, List.count_cons]
  omega

structure PmInv (a l : List Nat) (j : Nat) (left again : List Nat) : Prop where
  nodup : again.Nodup
  rep : ∀ k ∈ again, 0 < k ∧ k < j ∧ a[k - 1]? = a[k]?
  count : ∀ v, List.count v l + List.count v (again.map fun k => a.getD k 0) = List.count v left + List.count v (a.take j)

theorem pm_inv (a l : List Nat) (hr : Rises l) (hx : Nums l) : ∀ (j : Nat), j ≤ a.length → ∀ (left again : List Nat), pmF a l j = some (left, again) → PmInv a l j left again
  | 0, _, left, again, h => by
    simp only [pmF, Option.some.injEq, Prod.mk.injEq] at h
    obtain ⟨rfl, rfl⟩ := h
    exact ⟨List.nodup_nil, by simp, by simp⟩
  | j + 1, hj, left, again, h => by
    simp only [pmF] at h
    split at h
    · cases h
    rename_i left0 again0 h0
    have inv := pm_inv a l hr hx j (by omega) left0 again0 h0
    obtain ⟨i1, _, _, _, _⟩ := pmF_inv a l hr hx j left0 again0 h0
    have hat : a[j]? = some (a.getD j 0) := at_of (by omega)
    have htake : a.take (j + 1) = a.take j ++ [a.getD j 0] := by rw [List.take_add_one, hat]; rfl
    split at h
    · rename_i hrep
      simp only [Option.some.injEq, Prod.mk.injEq] at h
      obtain ⟨rfl, rfl⟩ := h
      refine ⟨?_, fun k hk => ?_, fun v => ?_⟩
      · rw [List.nodup_append]
        refine ⟨inv.nodup, by simp, fun k hk k' hk' => ?_⟩
        simp at hk'
        have := (inv.rep k hk).2.1
        omega
      · rcases List.mem_append.1 hk with hk | hk
        · obtain ⟨r1, r2, r3⟩ := inv.rep k hk
          exact ⟨r1, by omega, r3⟩
        · simp at hk
          subst hk
          exact ⟨hrep.1, by omega, hrep.2⟩
      · have := inv.count v
        rw [List.map_append, List.count_append, htake, List.count_append]
        simp only [List.map_cons, List.map_nil]
        omega
    · split at h
      · rename_i hf
        simp only [Option.some.injEq, Prod.mk.injEq] at h
        obtain ⟨rfl, rfl⟩ := h
        refine ⟨inv.nodup, fun k hk => ?_, fun v => ?_⟩
        · obtain ⟨r1, r2, r3⟩ := inv.rep k hk
          exact ⟨r1, by omega, r3⟩
        · have hfa := found_at i1 (of_decide_eq_true hf)
          obtain ⟨hk, he⟩ := List.getElem?_eq_some_iff.1 hfa
          have hp := count_eraseAt v left0 _ hk
          rw [he] at hp
          have := inv.count v
          rw [htake, List.count_append, List.count_cons]
          simp only [List.count_nil]
          omega
      · cases h

theorem place_other (k : Nat) : ∀ (ps : List (Nat × Nat)) (b : List Nat), (∀ q ∈ ps, q.1 ≠ k) → (placeL b ps)[k]? = b[k]?
  | [], b, _ => rfl
  | q :: ps, b, h => by
    have e2 : placeL b (q :: ps) = placeL (b.set q.1 q.2) ps := rfl
    rw [e2, place_other k ps _ (fun q' hq => h q' (by simp [hq])), List.getElem?_set_ne (h q (by simp))]

/-- What Permute answers. -/
theorem perm_law {s : Int} (hs : Sort01 s) {xs ts a b : List Nat} (hl : xs.length = ts.length) (h : permF s xs ts = some (a, b)) :
    a.Perm (rmF s xs) ∧ b.Perm (rmF s ts) ∧ ∀ r, r < a.length → b[r]? = a[r]? ∨ (0 < r ∧ a[r - 1]? = a[r]?) := by
  obtain ⟨left, again, hp, rfl, rfl, la, lb, na, nb⟩ := permF_some hs hl h
  have hr := riseF_rises s ts
  have hx := riseF_nums s hs ts
  have inv := pm_inv _ _ hr hx ts.length (by omega) left again hp
  obtain ⟨_, _, i3, i4, i5⟩ := pmF_inv _ _ hr hx _ _ _ hp
  rw [riseF_len] at i3
  have hlen : left.length = again.length := by omega
  refine ⟨List.mergeSort_perm _ _, ?_, fun r hr => ?_⟩
  · refine List.Perm.trans ?_ (List.mergeSort_perm _ (fun x y => decide (x ≤ y)))
    rw [List.perm_iff_count]
    intro v
    have f1 : (again.zip left).map (·.1) = again := List.map_fst_zip (by omega)
    have f2 : (again.zip left).map (·.2) = left := List.map_snd_zip (by omega)
    have c := count_place v (again.zip left) (riseF s xs) (by rw [f1]; exact inv.nodup) (fun q hq => by have := (inv.rep q.1 (List.of_mem_zip hq).1).2.1; omega)
    have f3 : ((again.zip left).map fun q => (riseF s xs).getD q.1 0) = again.map fun k => (riseF s xs).getD k 0 := by
      conv => rhs; rw [← f1, List.map_map]
      rfl
    rw [f2, f3] at c
    have c2 := inv.count v
    rw [List.take_of_length_le (by omega)] at c2
    show List.count v (placeL (riseF s xs) (again.zip left)) = List.count v (riseF s ts)
    omega
  · by_cases hm : r ∈ again
    · exact .inr ⟨(inv.rep r hm).1, (inv.rep r hm).2.2⟩
    · left
      exact place_other r _ _ (fun q hq e => hm (e ▸ (List.of_mem_zip hq).1))

/-! ### The product along the rows -/
theorem add_red (p x c : Nat) : addF p (addF p x 0) c = addF p x c := by
  unfold addF
  simp

theorem prod_take_succ (f : Nat → Nat) (l : List Nat) (j : Nat) (h : j < l.length) : ((l.take (j + 1)).map f).prod = ((l.take j).map f).prod * f (l.getD j 0) := by
  rw [List.take_add_one, at_of h, Option.toList_some, List.map_append, List.prod_append_nat]
  simp

theorem inv_mul {p : Nat} (hp : IsPrime p) {d : Nat} (hd : d % p ≠ 0) : invF p d * d % p = 1 := by
  have h2 := hp.two
  unfold invF expF
  rw [Nat.mod_mul_mod, ← Nat.pow_succ, show (p - 2).succ = p - 1 by omega]
  exact hp.fermat (fun h => hd (Nat.mod_eq_zero_of_dvd h))

/-- One row on. -/
theorem z_step {p : Nat} (hp : IsPrime p) (be ga z x t a b : Nat) (hd : pairF p be ga a b % p ≠ 0) : zNext p be ga z x t a b * pairF p be ga a b % p = z * pairF p be ga x t % p := by
  have hi := inv_mul hp hd
  unfold zNext mulF
  generalize pairF p be ga a b = d at hd hi ⊢
  generalize pairF p be ga x t = n
  generalize invF p d = i at hi ⊢
  rw [Nat.mod_mul_mod, Nat.mul_assoc (z * i % p), Nat.mod_mul_mod]
  have e : z * i * (n * d) = z * n * (i * d) := by simp only [Nat.mul_comm, Nat.mul_left_comm, Nat.mul_assoc]
  rw [e, Nat.mul_mod, hi, Nat.mul_one, Nat.mod_mod]

theorem pair_mod (p be ga a b : Nat) : pairF p be ga a b = addF p a be * addF p b ga % p := rfl

theorem z_prod {p : Nat} (hp : IsPrime p) (be ga : Nat) (xs ts a b : List Nat) (u : Nat) (hx : xs.length = u) (ht : ts.length = u) (ha : a.length = u) (hb : b.length = u) (hd : NoDeg p be ga a b u) : ∀ j, j ≤ u →
    zF p be ga xs ts a b j * ((((a.take j).map fun x => addF p x be).prod) * (((b.take j).map fun x => addF p x ga).prod)) % p = ((((xs.take j).map fun x => addF p x be).prod) * (((ts.take j).map fun x => addF p x ga).prod)) % p
  | 0, _ => by simp [zF]
  | j + 1, hj => by
    have ih := z_prod hp be ga xs ts a b u hx ht ha hb hd j (by omega)
    have st := z_step hp be ga (zF p be ga xs ts a b j) (xs.getD j 0) (ts.getD j 0) (a.getD j 0) (b.getD j 0) (hd j (by omega))
    rw [prod_take_succ _ a j (by omega), prod_take_succ _ b j (by omega), prod_take_succ _ xs j (by omega), prod_take_succ _ ts j (by omega)]
    simp only [zF]
    rw [pair_mod, pair_mod] at st
    rw [Nat.mul_mod_mod, Nat.mul_mod_mod] at st
    generalize zNext p be ga (zF p be ga xs ts a b j) (xs.getD j 0) (ts.getD j 0) (a.getD j 0) (b.getD j 0) = z' at st ⊢
    generalize zF p be ga xs ts a b j = z at st ih
    generalize addF p (a.getD j 0) be = a1 at st ⊢
    generalize addF p (b.getD j 0) ga = b1 at st ⊢
    generalize addF p (xs.getD j 0) be = x1 at st ⊢
    generalize addF p (ts.getD j 0) ga = t1 at st ⊢
    generalize ((a.take j).map fun x => addF p x be).prod = A at ih ⊢
    generalize ((b.take j).map fun x => addF p x ga).prod = Bp at ih ⊢
    generalize ((xs.take j).map fun x => addF p x be).prod = X at ih ⊢
    generalize ((ts.take j).map fun x => addF p x ga).prod = Y at ih ⊢
    have e1 : z' * (A * a1 * (Bp * b1)) = z' * (a1 * b1) * (A * Bp) := by simp only [Nat.mul_comm, Nat.mul_left_comm, Nat.mul_assoc]
    have e2 : X * x1 * (Y * t1) = X * Y * (x1 * t1) := by simp only [Nat.mul_comm, Nat.mul_left_comm, Nat.mul_assoc]
    have e3 : z * (x1 * t1) * (A * Bp) = z * (A * Bp) * (x1 * t1) := by simp only [Nat.mul_comm, Nat.mul_left_comm, Nat.mul_assoc]
    rw [e1, e2, Nat.mul_mod, st, ← Nat.mul_mod, e3, Nat.mul_mod, ih, ← Nat.mul_mod]

theorem prod_perm_map {p c : Nat} {l xs : List Nat} {s : Int} (hp : pr s = p) (h : l.Perm (rmF s xs)) : (l.map fun x => addF p x c).prod = (xs.map fun x => addF p x c).prod := by
  subst hp
  rw [(h.map _).prod_nat]
  unfold rmF
  rw [List.map_map]
  refine congrArg List.prod (List.map_congr_left fun x _ => ?_)
  exact add_red _ _ _

/-- Behind the last usable row the product is 1. -/
theorem z_last {s : Int} (hs : Sort01 s) {be ga : Nat} {xs ts a b : List Nat} {u : Nat} (h0 : 0 < u) (hx : xs.length = u) (ht : ts.length = u) (ha : a.length = u) (hb : b.length = u) (hd : NoDeg (pr s) be ga a b u) (pa : a.Perm (rmF s xs)) (pb : b.Perm (rmF s ts)) : zF (pr s) be ga xs ts a b u = 1 := by
  have hp := prime_s s hs
  have h2 := hp.two
  have h := z_prod hp be ga xs ts a b u hx ht ha hb hd u (Nat.le_refl _)
  rw [List.take_of_length_le (by omega), List.take_of_length_le (by omega), List.take_of_length_le (by omega), List.take_of_length_le (by omega)] at h
  rw [← prod_perm_map (c := be) rfl pa, ← prod_perm_map (c := ga) rfl pb] at h
  have hA : ¬ pr s ∣ (a.map fun x => addF (pr s) x be).prod := hp.not_dvd_prod _ (fun i hi hdv => by
    obtain ⟨x, hx', rfl⟩ := List.mem_map.1 hi
    obtain ⟨j, hj, rfl⟩ := List.getElem_of_mem hx'
    refine hd j (by omega) ?_
    have e : a.getD j 0 = a[j] := by rw [List.getD_eq_getElem?_getD, List.getElem?_eq_getElem hj]; rfl
    rw [pair_mod, e, Nat.mod_mod, Nat.mul_mod, Nat.mod_eq_zero_of_dvd hdv, Nat.zero_mul, Nat.zero_mod])
  have hB : ¬ pr s ∣ (b.map fun x => addF (pr s) x ga).prod := hp.not_dvd_prod _ (fun i hi hdv => by
    obtain ⟨x, hx', rfl⟩ := List.mem_map.1 hi
    obtain ⟨j, hj, rfl⟩ := List.getElem_of_mem hx'
    refine hd j (by omega) ?_
    have e : b.getD j 0 = b[j] := by rw [List.getD_eq_getElem?_getD, List.getElem?_eq_getElem hj]; rfl
    rw [pair_mod, e, Nat.mod_mod, Nat.mul_mod, Nat.mod_eq_zero_of_dvd hdv, Nat.mul_zero, Nat.zero_mod])
  generalize (a.map fun x => addF (pr s) x be).prod = A at h hA
  generalize (b.map fun x => addF (pr s) x ga).prod = Bp at h hB
  have hz : zF (pr s) be ga xs ts a b u < pr s := by
    obtain ⟨v, rfl⟩ : ∃ v, u = v + 1 := ⟨u - 1, by omega⟩
    exact Nat.mod_lt _ (by omega)
  generalize zF (pr s) be ga xs ts a b u = z at h hz
  have hAB : ¬ pr s ∣ A * Bp := fun h => (hp.dvd_mul h).elim hA hB
  by_cases hz0 : z = 0
  · exfalso
    rw [hz0, Nat.zero_mul, Nat.zero_mod] at h
    exact hAB (Nat.dvd_of_mod_eq_zero h.symm)
  have hdv := dvd_sub_of_mod h
  have e : z * (A * Bp) - A * Bp = (z - 1) * (A * Bp) := by rw [Nat.sub_mul, Nat.one_mul]
  rw [e] at hdv
  rcases hp.dvd_mul hdv with h3 | h3
  · have : z - 1 = 0 := by
      refine Nat.eq_zero_of_not_pos fun hpos => ?_
      have := Nat.le_of_dvd hpos h3
      omega
    omega
  · exact absurd h3 hAB

end Go.Sg
