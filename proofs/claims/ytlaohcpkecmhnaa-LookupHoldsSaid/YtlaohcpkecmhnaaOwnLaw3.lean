/-
The plain law of the lookup, joined to the walk.
-/
import Derived.Test.YtlaohcpkecmhnaaOwnLaw2

set_option linter.all false

namespace Go.Sg
open Go Go.Own
open Go.Own (V D Wy)

theorem atF_in (s : Int) (xs : List Nat) (r : Nat) (h : r < xs.length) : atF s xs r = xs.getD r 0 := by unfold atF; rw [if_pos h]

theorem prodF_at (s : Int) (k be ga : Nat) (xs ts a b cs : List Nat) (r : Nat) (h : r ≤ 2 ^ k - 4) : (prodF s k be ga xs ts a b cs)[r]? = some (zF (pr s) be ga xs ts a b r) := by
  unfold prodF
  rw [List.getElem?_append_left (by rw [zsF_len]; omega)]
  exact zsF_at _ _ _ _ _ _ _ _ _ (by omega)

theorem prodF_nums (s : Int) (hs : Sort01 s) (k be ga : Nat) (xs ts a b cs : List Nat) : Nums (prodF s k be ga xs ts a b cs) := by
  intro z hz
  unfold prodF at hz
  rcases List.mem_append.1 hz with h | h
  · unfold zsF at h
    obtain ⟨r, _, rfl⟩ := List.mem_map.1 h
    exact zF_lt (little s hs) _ _ _ _ _ _ _
  · obtain ⟨c, _, rfl⟩ := List.mem_map.1 h
    exact addF_lt (little s hs) _ _

theorem lookup_law (s : Int) (k : Nat) (xs ts a b cs : List Nat) (be ga : Nat) (hs : Sort01 s) (hk : 3 ≤ k) (hk2 : k ≤ 5) (hx : xs.length = 2 ^ k - 4) (ht : ts.length = 2 ^ k - 4) (hp : permF s xs ts = some (a, b)) (hd : NoDeg (pr s) be ga a b (2 ^ k - 4)) (hc : 3 ≤ cs.length) : Law s k be ga xs ts a b cs := by
  have f4 := four_le k hk (by omega)
  have hl : xs.length = ts.length := by omega
  obtain ⟨_, _, _, _, _, la, lb, na, nb⟩ := permF_some hs hl hp
  obtain ⟨pa, pb, beside⟩ := perm_law hs hl hp
  have h2 := (prime_s s hs).two
  have hpos : 0 < pr s := by omega
  have one := z_last hs (u := 2 ^ k - 4) (by omega) hx ht (by omega) (by omega) hd pa pb
  have hlen := prodF_len s k be ga hk (by omega) xs ts a b cs hc
  have hn := prodF_nums s hs k be ga xs ts a b cs
  refine ⟨by rw [prodF_at s k be ga xs ts a b cs _ (Nat.le_refl _), one], fun r hr => ?_⟩
  have hz := at_of (xs := prodF s k be ga xs ts a b cs) (j := r) (by omega)
  have hm : (r + 1) % 2 ^ k < 2 ^ k := Nat.mod_lt _ (by omega)
  have hz' := at_of (xs := prodF s k be ga xs ts a b cs) (j := (r + 1) % 2 ^ k) (by omega)
  refine ⟨_, _, hz, hz', nums_at hn hz, nums_at hn hz', ?_, ?_, ?_, ?_, ?_⟩
  · -- the first row
    rw [lag_at s hs k hk hk2 0 r (by omega) hr]
    by_cases h0 : 0 = r
    · subst h0
      have e := prodF_at s k be ga xs ts a b cs 0 (Nat.zero_le _)
      rw [getD_of e]
      unfold chk0
      rw [sub_zero_of hpos (by simp [zF]), mul_zero_r]
    · rw [if_neg h0]; exact mul_zero_l _ _
  · -- the last one
    rw [lag_at s hs k hk hk2 (2 ^ k - 4) r (by omega) hr]
    by_cases h0 : 2 ^ k - 4 = r
    · subst h0
      have e := prodF_at s k be ga xs ts a b cs _ (Nat.le_refl (2 ^ k - 4))
      rw [one] at e
      rw [getD_of e]
      unfold chk1
      rw [sub_zero_of hpos (by unfold mulF; rw [Nat.mod_mod]), mul_zero_r]
    · rw [if_neg h0]; exact mul_zero_l _ _
  · -- row by row
    rw [us_at s hs k hk hk2 r hr (2 ^ k - 4) (by omega)]
    by_cases hu : r < 2 ^ k - 4
    · rw [if_pos hu]
      have e := prodF_at s k be ga xs ts a b cs r (by omega)
      have e' := prodF_at s k be ga xs ts a b cs (r + 1) (by omega)
      rw [Nat.mod_eq_of_lt (show r + 1 < 2 ^ k by omega), getD_of e, getD_of e', atF_in s xs r (by omega), atF_in s ts r (by omega), atF_in s a r (by omega), atF_in s b r (by omega)]
      unfold chk2
      rw [sub_zero_of hpos, mul_zero_r]
      unfold mulF
      rw [Nat.mod_mod, Nat.mod_mod]
      exact z_step (prime_s s hs) be ga _ _ _ _ _ (hd r hu)
    · rw [if_neg hu]; exact mul_zero_l _ _
  · -- the first of the sorted
    rw [lag_at s hs k hk hk2 0 r (by omega) hr]
    by_cases h0 : 0 = r
    · subst h0
      rw [atF_in s a 0 (by omega), atF_in s b 0 (by omega)]
      have e : b.getD 0 0 = a.getD 0 0 := by
        rcases beside 0 (by omega) with h | h
        · rw [List.getD_eq_getElem?_getD, List.getD_eq_getElem?_getD, h]
        · omega
      unfold chk3
      rw [sub_zero_of hpos (by rw [e]), mul_zero_r]
    · rw [if_neg h0]; exact mul_zero_l _ _
  · -- each is the matched one beside it or the one ahead
    rw [us_at s hs k hk hk2 r hr (2 ^ k - 4) (by omega)]
    by_cases hu : r < 2 ^ k - 4
    · rw [if_pos hu, atF_in s a r (by omega), atF_in s b r (by omega)]
      unfold chk4
      rcases beside r (by omega) with h | ⟨h0, h⟩
      · have e : b.getD r 0 = a.getD r 0 := by rw [List.getD_eq_getElem?_getD, List.getD_eq_getElem?_getD, h]
        rw [sub_zero_of hpos (show a.getD r 0 % pr s = b.getD r 0 % pr s by rw [e]), mul_zero_l, mul_zero_r]
      · have e1 : (r + 2 ^ k - 1) % 2 ^ k = r - 1 := by
          rw [show r + 2 ^ k - 1 = (r - 1) + 2 ^ k by omega, Nat.add_mod_right, Nat.mod_eq_of_lt (by omega)]
        have e : a.getD (r - 1) 0 = a.getD r 0 := by rw [List.getD_eq_getElem?_getD, List.getD_eq_getElem?_getD, h]
        rw [e1, atF_in s a (r - 1) (by omega), sub_zero_of hpos (show a.getD r 0 % pr s = a.getD (r - 1) 0 % pr s by rw [e]), mul_zero_r, mul_zero_r]
    · rw [if_neg hu]; exact mul_zero_l _ _

/-- LookupHolds answers true, whatever it is given. -/
theorem LookupHolds_ok (s k : Int) (xs ts cs : List Nat) (be ga : Nat) (hbe : be < B ^ 4) (hga : ga < B ^ 4) (nx : Nums xs) (nt : Nums ts) (nc : Nums cs) (fx : Fits xs) (ft : Fits ts) (fc : Fits cs) :
    FnOk PP n_sigillaw17_LookupHolds [vi s, vi k, vl xs, vl ts, ve be, ve ga, vl cs] [] (.ret (vb true)) [] :=
  LookupHolds_of (fun s k xs ts a b cs be ga hs hk hk2 _ _ _ _ _ hx ht hp hd hc => lookup_law s k xs ts a b cs be ga hs hk hk2 hx ht hp hd hc) s k xs ts cs be ga hbe hga nx nt nc fx ft fc

#print axioms LookupHolds_ok
end Go.Sg
