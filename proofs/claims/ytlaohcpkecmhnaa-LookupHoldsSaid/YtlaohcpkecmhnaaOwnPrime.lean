/-
Plain numbers: primes, Fermat's little theorem, the two little moduli.
-/

set_option linter.all false

namespace Go.Sg

/-- A prime number. -/
structure IsPrime (p : Nat) : Prop where
  two : 2 ≤ p
  only : ∀ d, d ∣ p → d = 1 ∨ d = p

theorem IsPrime.dvd_mul {p a b : Nat} (hp : IsPrime p) (h : p ∣ a * b) : p ∣ a ∨ p ∣ b := by
  by_cases ha : p ∣ a
  · exact .inl ha
  · right
    have : Nat.gcd p a = 1 := by
      rcases hp.only _ (Nat.gcd_dvd_left p a) with h1 | h1
      · exact h1
      · exact absurd (h1 ▸ Nat.gcd_dvd_right p a) ha
    exact Nat.Coprime.dvd_of_dvd_mul_left this h

theorem perm_of_sub {α : Type} [BEq α] [LawfulBEq α] : ∀ (M S : List α), M.Nodup → (∀ x ∈ M, x ∈ S) → S.length ≤ M.length → M.Perm S
  | [], S, _, _, hl => by
    have : S = [] := List.eq_nil_of_length_eq_zero (by simpa using hl)
    rw [this]
  | x :: M, S, hn, hs, hl => by
    have hx : x ∈ S := hs x (by simp)
    have hn' := List.nodup_cons.1 hn
    have hlen : (S.erase x).length = S.length - 1 := by rw [List.length_erase, if_pos (by simpa using hx)]
    have ih := perm_of_sub M (S.erase x) hn'.2 (fun y hy => (List.mem_erase_of_ne (fun (e : y = x) => hn'.1 (e ▸ hy))).2 (hs y (by simp [hy]))) (by simp at hl; omega)
    exact (ih.cons x).trans (List.perm_cons_erase hx).symm

theorem dvd_sub_of_mod {p x y : Nat} (h : x % p = y % p) : p ∣ x - y := Nat.dvd_of_mod_eq_zero (Nat.sub_mod_eq_zero_of_mod_eq h)

theorem prod_scale (p a : Nat) : ∀ S : List Nat, (S.map fun i => a * i % p).prod % p = (a ^ S.length * S.prod) % p
  | [] => by simp
  | x :: S => by
    simp only [List.map_cons, List.prod_cons, List.length_cons]
    rw [Nat.mul_mod, prod_scale p a S, Nat.mod_mod, ← Nat.mul_mod]
    congr 1
    rw [Nat.pow_succ]
    simp only [Nat.mul_comm, Nat.mul_left_comm, Nat.mul_assoc]

theorem IsPrime.not_dvd_prod {p : Nat} (hp : IsPrime p) : ∀ S : List Nat, (∀ i ∈ S, ¬ p ∣ i) → ¬ p ∣ S.prod
  | [], _, h => by
    have := hp.two
    simp at h
    omega
  | x :: S, hS, h => by
    rw [List.prod_cons] at h
    rcases hp.dvd_mul h with h | h
    · exact hS x (by simp) h
    · exact hp.not_dvd_prod S (fun i hi => hS i (by simp [hi])) h

/-- Fermat's little theorem. -/
theorem IsPrime.fermat {p a : Nat} (hp : IsPrime p) (ha : ¬ p ∣ a) : a ^ (p - 1) % p = 1 := by
  have h2 := hp.two
  have memS : ∀ i, i ∈ List.range' 1 (p - 1) ↔ 1 ≤ i ∧ i < p := fun i => by rw [List.mem_range'_1]; omega
  have small : ∀ i, 1 ≤ i → i < p → ¬ p ∣ i := fun i h1 h2 h => by have := Nat.le_of_dvd (by omega) h; omega
  have inj : ∀ i j, i < j → j < p → a * i % p ≠ a * j % p := by
    intro i j hij hj h
    have := dvd_sub_of_mod h.symm
    rw [← Nat.mul_sub] at this
    rcases hp.dvd_mul this with h | h
    · exact ha h
    · exact small (j - i) (by omega) (by omega) h
  have hn : ((List.range' 1 (p - 1)).map fun i => a * i % p).Nodup := by
    refine List.pairwise_map.2 (List.Pairwise.imp_of_mem ?_ (List.nodup_range' (s := 1) (n := p - 1) 1))
    intro i j hi hj hne
    rw [memS] at hi hj
    rcases Nat.lt_trichotomy i j with h | h | h
    · exact inj i j h hj.2
    · exact absurd h hne
    · exact fun e => inj j i h hi.2 e.symm
  have perm : ((List.range' 1 (p - 1)).map fun i => a * i % p).Perm (List.range' 1 (p - 1)) := by
    refine perm_of_sub _ _ hn (fun x hx => ?_) (by simp)
    obtain ⟨i, hi, rfl⟩ := List.mem_map.1 hx
    rw [memS] at hi ⊢
    refine ⟨?_, Nat.mod_lt _ (by omega)⟩
    refine Nat.pos_of_ne_zero fun h => ?_
    rcases hp.dvd_mul (Nat.dvd_of_mod_eq_zero h) with h | h
    · exact ha h
    · exact small i hi.1 hi.2 h
  have e := prod_scale p a (List.range' 1 (p - 1))
  rw [perm.prod_nat, List.length_range'] at e
  have hF := hp.not_dvd_prod (List.range' 1 (p - 1)) (fun i hi => by rw [memS] at hi; exact small i hi.1 hi.2)
  generalize (List.range' 1 (p - 1)).prod = F at e hF
  have hd := dvd_sub_of_mod e.symm
  have hpos : 1 ≤ a ^ (p - 1) := Nat.pos_of_ne_zero fun h => ha (by
    have : a = 0 := by
      rcases Nat.eq_zero_or_pos a with h0 | h0
      · exact h0
      · exact absurd h (Nat.ne_of_gt (Nat.pow_pos h0))
    rw [this]; exact Nat.dvd_zero p)
  have hd2 : p ∣ (a ^ (p - 1) - 1) * F := by rw [Nat.sub_mul, Nat.one_mul]; exact hd
  rcases hp.dvd_mul hd2 with h | h
  · obtain ⟨c, hc⟩ := h
    have : a ^ (p - 1) = p * c + 1 := by omega
    rw [this, Nat.mul_add_mod, Nat.mod_eq_of_lt (by omega)]
  · exact absurd h hF

/-! ### Trial division -/
/-- No number from lo on, 2^f of them, divides p (but 0 and 1). -/
def noDiv (p : Nat) : Nat → Nat → Bool
  | 0, lo => Nat.ble lo 1 || !Nat.beq (p % lo) 0
  | f + 1, lo => noDiv p f lo && noDiv p f (lo + 2 ^ f)

theorem noDiv_at (p : Nat) : ∀ (f lo : Nat), noDiv p f lo = true → ∀ d, lo ≤ d → d < lo + 2 ^ f → 2 ≤ d → ¬ d ∣ p
  | 0, lo, h, d, h1, h2, h3 => by
    obtain rfl : d = lo := by rw [Nat.pow_zero] at h2; omega
    intro hd
    have := Nat.mod_eq_zero_of_dvd hd
    simp only [noDiv, this] at h
    simp at h
    omega
  | f + 1, lo, h, d, h1, h2, h3 => by
    simp only [noDiv, Bool.and_eq_true] at h
    rw [Nat.pow_succ] at h2
    by_cases hd : d < lo + 2 ^ f
    · exact noDiv_at p f lo h.1 d h1 hd h3
    · exact noDiv_at p f (lo + 2 ^ f) h.2 d (by omega) (by omega) h3

theorem prime_of {p f : Nat} (h2 : 2 ≤ p) (hs : p < 2 ^ f * 2 ^ f) (h : noDiv p f 0 = true) : IsPrime p := by
  have no : ∀ d, 2 ≤ d → d < 2 ^ f → ¬ d ∣ p := fun d hd hl => noDiv_at p f 0 h d (Nat.zero_le _) (by omega) hd
  refine ⟨h2, fun d hd => ?_⟩
  obtain ⟨c, hc⟩ := hd
  by_cases h1 : d = 1
  · exact .inl h1
  right
  have hd0 : d ≠ 0 := fun e => by subst e; simp at hc; omega
  by_cases hl : d < 2 ^ f
  · exact absurd ⟨c, hc⟩ (no d (by omega) hl)
  · have hcl : c < 2 ^ f := by
      refine Classical.byContradiction fun hc2 => ?_
      have : 2 ^ f * 2 ^ f ≤ d * c := Nat.mul_le_mul (by omega) (by omega)
      omega
    by_cases hc1 : c = 1
    · subst hc1; omega
    · have hc0 : c ≠ 0 := fun e => by subst e; simp at hc; omega
      exact absurd ⟨d, by rw [Nat.mul_comm]; exact hc⟩ (no c (by omega) hcl)

set_option maxRecDepth 100000 in
theorem prime_0 : IsPrime 16513537 := prime_of (f := 13) (by decide) (by decide) (by decide +kernel)
set_option maxRecDepth 100000 in
theorem prime_1 : IsPrime 16521217 := prime_of (f := 13) (by decide) (by decide) (by decide +kernel)

end Go.Sg
