/-
The contracts of math/bits and of package word. (Laid by wip/tools/fill.py out of a text of our own.)
-/
import Derived.Test.YtlaohcpkecmhnaaOwnWord

set_option linter.all false

namespace Go.Sg
open Go Go.Own
open Go.Own (V D Wy)

theorem add64_ok (x y c z d : Nat) (hc : c ≤ 1) (hz : (x + y + c) % B = z) (hd : (x + y + c) / B = d) : PureOk PP n_bits_Add64 [vu x, vu y, vu c] (.tup [vu z, vu d]) := by
  intro w N ρ h vs hvs
  simp only [vu, u, VRelL, VRel, DRel] at hvs
  obtain ⟨_, _, e1, rfl, _, _, rfl, rfl, _, _, rfl, rfl, rfl⟩ := hvs
  obtain rfl : vs = #[.int .u64 x, .int .u64 y, .int .u64 c] := by cases vs; simpa using e1
  refine ⟨_, by rw [Go.run_callFunc_extern at_bits_Add64 (by kernel_rfl) (by kernel_rfl) (by kernel_rfl) (e := Go.add64Entry) (by kernel_rfl), Go.run_add64 x y c (by omega) (by omega) (by omega) (by omega)]; rfl, ?_⟩
  simp only [VRel, vu, u, VRelL, DRel]
  refine ⟨_, rfl, _, _, rfl, ?_, _, _, rfl, ?_, rfl⟩
  · congr 1; subst hz; simp only [B]; omega
  · congr 1; subst hd; simp only [B]; omega

theorem sub64_ok (x y c z d : Nat) (hc : c ≤ 1) (hz : (x + B - y - c) % B = z) (hd : (if x < y + c then 1 else 0) = d) : PureOk PP n_bits_Sub64 [vu x, vu y, vu c] (.tup [vu z, vu d]) := by
  intro w N ρ h vs hvs
  simp only [vu, u, VRelL, VRel, DRel] at hvs
  obtain ⟨_, _, e1, rfl, _, _, rfl, rfl, _, _, rfl, rfl, rfl⟩ := hvs
  obtain rfl : vs = #[.int .u64 x, .int .u64 y, .int .u64 c] := by cases vs; simpa using e1
  refine ⟨_, by rw [Go.run_callFunc_extern at_bits_Sub64 (by kernel_rfl) (by kernel_rfl) (by kernel_rfl) (e := Go.Proofs.sub64Entry) (by kernel_rfl), Go.Proofs.run_sub64 x y c hc]; rfl, ?_⟩
  simp only [VRel, vu, u, VRelL, DRel]
  refine ⟨_, rfl, _, _, rfl, ?_, _, _, rfl, ?_, rfl⟩
  · subst hz; rfl
  · subst hd; rfl

/-! ### word.Add, word.Sub, word.Less -/
theorem carry0 (a b : Nat) : carry 0 a b = 0 := by simp [carry, Nat.mod_one]
theorem borrow0 (a b : Nat) : borrow 0 a b = 0 := by simp [borrow, Nat.mod_one]

theorem add_round (a b j : Nat) : PureOk PP n_bits_Add64 [vu (limb j a), vu (limb j b), vu (carry j a b)] (.tup [vu (limb j (a + b)), vu (carry (j + 1) a b)]) :=
  add64_ok _ _ _ _ _ (carry_le _ _ _) (limb_add _ _ _).symm (carry_succ _ _ _).symm
theorem add_round0 (a b : Nat) : PureOk PP n_bits_Add64 [vu (limb 0 a), vu (limb 0 b), vu 0] (.tup [vu (limb 0 (a + b)), vu (carry 1 a b)]) := by
  have := add_round a b 0
  rwa [carry0] at this

def wordWay (z c : Nat → Nat) (t : Nat) : Wy :=
  let round (j : Nat) : Wy := { o := { call := [(t, { hin := [], res := .tup [vu (z j), vu (c (j + 1))], hout := [], pure := true })] } }
  { iter := [(0, [round 0, round 1, round 2, round 3, {}])] }

theorem carry4 (a b : Nat) (ha : a < B ^ 4) (hb : b < B ^ 4) : ((carry 4 a b : Int) != 0) = decide (B ^ 4 ≤ a + b) := by
  have h4 : carry 4 a b = if B ^ 4 ≤ a + b then 1 else 0 := by
    unfold carry
    rw [Nat.mod_eq_of_lt ha, Nat.mod_eq_of_lt hb]
    split
    · rw [Nat.div_eq_of_lt_le] <;> omega
    · rw [Nat.div_eq_of_lt]; omega
  rw [h4]
  split <;> rename_i h <;> simp [h]

theorem borrow4 (a b : Nat) (ha : a < B ^ 4) (hb : b < B ^ 4) : ((borrow 4 a b : Int) != 0) = decide (a < b) := by
  unfold borrow
  rw [Nat.mod_eq_of_lt ha, Nat.mod_eq_of_lt hb]
  split <;> rename_i h <;> simp [h]

theorem word_Add_ok (a b : Nat) (ha : a < B ^ 4) (hb : b < B ^ 4) : FnOk PP n_word_Add [ve a, ve b] [] (.ret (.tup [ve (a + b), vb (decide (B ^ 4 ≤ a + b))])) [] :=
  FnOk.by at_word_Add (by kernel_rfl) (wordWay (fun j => limb j (a + b)) (fun j => carry j a b) 21) {} [ve (a + b), vb (decide (B ^ 4 ≤ a + b))] rfl (
    pf PP_mixed <|
    pf (by decide : Int.ofNat (0 : Nat) ≤ Int.ofNat (0 : Nat) ∧ Int.ofNat (0 : Nat) < Int.ofNat (4 : Nat)) <|
    pf (by decide : Int.ofNat (0 : Nat) ≤ Int.ofNat (0 : Nat) ∧ Int.ofNat (0 : Nat) < Int.ofNat (4 : Nat)) <|
    pf (add_round0 a b) <|
    pf (by decide : Int.ofNat (0 : Nat) ≤ Int.ofNat (0 : Nat) ∧ Int.ofNat (0 : Nat) < Int.ofNat (4 : Nat)) <|
    pf (by decide : (0 : Nat) < (4 : Nat)) <|
    pf PP_mixed <|
    pf (by decide : Int.ofNat (0 : Nat) ≤ Int.ofNat (1 : Nat) ∧ Int.ofNat (1 : Nat) < Int.ofNat (4 : Nat)) <|
    pf (by decide : Int.ofNat (0 : Nat) ≤ Int.ofNat (1 : Nat) ∧ Int.ofNat (1 : Nat) < Int.ofNat (4 : Nat)) <|
    pf (add_round a b 1) <|
    pf (by decide : Int.ofNat (0 : Nat) ≤ Int.ofNat (1 : Nat) ∧ Int.ofNat (1 : Nat) < Int.ofNat (4 : Nat)) <|
    pf (by decide : (1 : Nat) < (4 : Nat)) <|
    pf PP_mixed <|
    pf (by decide : Int.ofNat (0 : Nat) ≤ Int.ofNat (2 : Nat) ∧ Int.ofNat (2 : Nat) < Int.ofNat (4 : Nat)) <|
    pf (by decide : Int.ofNat (0 : Nat) ≤ Int.ofNat (2 : Nat) ∧ Int.ofNat (2 : Nat) < Int.ofNat (4 : Nat)) <|
    pf (add_round a b 2) <|
    pf (by decide : Int.ofNat (0 : Nat) ≤ Int.ofNat (2 : Nat) ∧ Int.ofNat (2 : Nat) < Int.ofNat (4 : Nat)) <|
    pf (by decide : (2 : Nat) < (4 : Nat)) <|
    pf PP_mixed <|
    pf (by decide : Int.ofNat (0 : Nat) ≤ Int.ofNat (3 : Nat) ∧ Int.ofNat (3 : Nat) < Int.ofNat (4 : Nat)) <|
    pf (by decide : Int.ofNat (0 : Nat) ≤ Int.ofNat (3 : Nat) ∧ Int.ofNat (3 : Nat) < Int.ofNat (4 : Nat)) <|
    pf (add_round a b 3) <|
    pf (by decide : Int.ofNat (0 : Nat) ≤ Int.ofNat (3 : Nat) ∧ Int.ofNat (3 : Nat) < Int.ofNat (4 : Nat)) <|
    pf (by decide : (3 : Nat) < (4 : Nat)) <|
    pf (by decide : (4 : Nat) ≤ (4 : Nat)) <|
    pf (DLe.r (D.agg
  [D.int IntKind.u64 ↑(limb (0 : Nat) (a + b)), D.int IntKind.u64 ↑(limb (1 : Nat) (a + b)),
    D.int IntKind.u64 ↑(limb (2 : Nat) (a + b)), D.int IntKind.u64 ↑(limb (3 : Nat) (a + b))])) <|
    pf (DLe.of_eq (congrArg D.bool (carry4 a b ha hb))) <|
    pz) (by kernel_rfl)

/-- What word.Sub answers: the difference modulo 2^256. -/
def subW (a b : Nat) : Nat := (a + B ^ 4 - b) % B ^ 4

theorem limb_sub (j a b : Nat) (hj : j < 4) (ha : a < B ^ 4) (hb : b < B ^ 4) : limb j (subW a b) = (limb j a + B - limb j b - borrow j a b) % B := by
  have key : limb j a = (limb j b + limb j (subW a b) + borrow j a b) % B := by
    have h1 : limb j (b + subW a b) = limb j a := by
      rw [← limb_mod j (b + subW a b) hj, ← limb_mod j a hj]
      refine congrArg (limb j) ?_
      unfold subW
      rw [Nat.add_mod_mod, show b + (a + B ^ 4 - b) = a + B ^ 4 by omega, Nat.add_mod_right]
    rw [← h1, limb_add]
    have hc : carry j b (subW a b) = borrow j a b := by
      unfold carry borrow
      have hp : 0 < B ^ j := Nat.pow_pos (by decide)
      have hd : B ^ 4 = B ^ (4 - j) * B ^ j := by rw [← Nat.pow_add]; congr 1; omega
      have e : a % B ^ j = (b % B ^ j + subW a b % B ^ j) % B ^ j := by
        rw [← Nat.add_mod]
        unfold subW
        rw [Nat.add_mod, hd, Nat.mul_comm, Nat.mod_mul_right_mod, ← Nat.add_mod]
        rw [show b + (a + B ^ j * B ^ (4 - j) - b) = a + B ^ j * B ^ (4 - j) by rw [Nat.mul_comm, ← hd]; omega, Nat.add_mul_mod_self_left]
      have h2 := Nat.mod_lt b hp
      have h3 := Nat.mod_lt (subW a b) hp
      rw [e]
      generalize b % B ^ j = p at h2 ⊢
      generalize subW a b % B ^ j = q at h3 ⊢
      generalize B ^ j = m at hp h2 h3 ⊢
      by_cases h : p + q < m
      · rw [Nat.div_eq_of_lt h, Nat.mod_eq_of_lt h, if_neg (by omega)]
      · have : p + q = m + (p + q - m) := by omega
        rw [this, Nat.add_mod_left, Nat.mod_eq_of_lt (by omega), if_pos (by omega), Nat.add_div_left _ hp, Nat.div_eq_of_lt (by omega)]
    rw [hc]
  have h1 := limb_lt j b
  have h2 := limb_lt j (subW a b)
  have h3 := borrow_le j a b
  have h4 := limb_lt j a
  simp only [B] at *
  omega

theorem sub_round (a b j : Nat) (hj : j < 4) (ha : a < B ^ 4) (hb : b < B ^ 4) : PureOk PP n_bits_Sub64 [vu (limb j a), vu (limb j b), vu (borrow j a b)] (.tup [vu (limb j (subW a b)), vu (borrow (j + 1) a b)]) :=
  sub64_ok _ _ _ _ _ (borrow_le _ _ _) (limb_sub j a b hj ha hb).symm (borrow_succ _ _ _).symm
theorem sub_round0 (a b : Nat) (ha : a < B ^ 4) (hb : b < B ^ 4) : PureOk PP n_bits_Sub64 [vu (limb 0 a), vu (limb 0 b), vu 0] (.tup [vu (limb 0 (subW a b)), vu (borrow 1 a b)]) := by
  have := sub_round a b 0 (by omega) ha hb
  rwa [borrow0] at this

theorem word_Sub_ok (a b : Nat) (ha : a < B ^ 4) (hb : b < B ^ 4) : FnOk PP n_word_Sub [ve a, ve b] [] (.ret (.tup [ve (subW a b), vb (decide (a < b))])) [] :=
  FnOk.by at_word_Sub (by kernel_rfl) (wordWay (fun j => limb j (subW a b)) (fun j => borrow j a b) 21) {} [ve (subW a b), vb (decide (a < b))] rfl (
    pf PP_mixed <|
    pf (by decide : Int.ofNat (0 : Nat) ≤ Int.ofNat (0 : Nat) ∧ Int.ofNat (0 : Nat) < Int.ofNat (4 : Nat)) <|
    pf (by decide : Int.ofNat (0 : Nat) ≤ Int.ofNat (0 : Nat) ∧ Int.ofNat (0 : Nat) < Int.ofNat (4 : Nat)) <|
    pf (sub_round0 a b ha hb) <|
    pf (by decide : Int.ofNat (0 : Nat) ≤ Int.ofNat (0 : Nat) ∧ Int.ofNat (0 : Nat) < Int.ofNat (4 : Nat)) <|
    pf (by decide : (0 : Nat) < (4 : Nat)) <|
    pf PP_mixed <|
    pf (by decide : Int.ofNat (0 : Nat) ≤ Int.ofNat (1 : Nat) ∧ Int.ofNat (1 : Nat) < Int.ofNat (4 : Nat)) <|
    pf (by decide : Int.ofNat (0 : Nat) ≤ Int.ofNat (1 : Nat) ∧ Int.ofNat (1 : Nat) < Int.ofNat (4 : Nat)) <|
    pf (sub_round a b 1 (by omega) ha hb) <|
    pf (by decide : Int.ofNat (0 : Nat) ≤ Int.ofNat (1 : Nat) ∧ Int.ofNat (1 : Nat) < Int.ofNat (4 : Nat)) <|
    pf (by decide : (1 : Nat) < (4 : Nat)) <|
    pf PP_mixed <|
    pf (by decide : Int.ofNat (0 : Nat) ≤ Int.ofNat (2 : Nat) ∧ Int.ofNat (2 : Nat) < Int.ofNat (4 : Nat)) <|
    pf (by decide : Int.ofNat (0 : Nat) ≤ Int.ofNat (2 : Nat) ∧ Int.ofNat (2 : Nat) < Int.ofNat (4 : Nat)) <|
    pf (sub_round a b 2 (by omega) ha hb) <|
    pf (by decide : Int.ofNat (0 : Nat) ≤ Int.ofNat (2 : Nat) ∧ Int.ofNat (2 : Nat) < Int.ofNat (4 : Nat)) <|
    pf (by decide : (2 : Nat) < (4 : Nat)) <|
    pf PP_mixed <|
    pf (by decide : Int.ofNat (0 : Nat) ≤ Int.ofNat (3 : Nat) ∧ Int.ofNat (3 : Nat) < Int.ofNat (4 : Nat)) <|
    pf (by decide : Int.ofNat (0 : Nat) ≤ Int.ofNat (3 : Nat) ∧ Int.ofNat (3 : Nat) < Int.ofNat (4 : Nat)) <|
    pf (sub_round a b 3 (by omega) ha hb) <|
    pf (by decide : Int.ofNat (0 : Nat) ≤ Int.ofNat (3 : Nat) ∧ Int.ofNat (3 : Nat) < Int.ofNat (4 : Nat)) <|
    pf (by decide : (3 : Nat) < (4 : Nat)) <|
    pf (by decide : (4 : Nat) ≤ (4 : Nat)) <|
    pf (DLe.r (D.agg
  [D.int IntKind.u64 ↑(limb (0 : Nat) (subW a b)), D.int IntKind.u64 ↑(limb (1 : Nat) (subW a b)),
    D.int IntKind.u64 ↑(limb (2 : Nat) (subW a b)), D.int IntKind.u64 ↑(limb (3 : Nat) (subW a b))])) <|
    pf (DLe.of_eq (congrArg D.bool (borrow4 a b ha hb))) <|
    pz) (by kernel_rfl)

theorem word_Less_ok (a b : Nat) (ha : a < B ^ 4) (hb : b < B ^ 4) : FnOk PP n_word_Less [ve a, ve b] [] (.ret (vb (decide (a < b)))) [] :=
  FnOk.by at_word_Less (by kernel_rfl) ({ o := { call := [(10, { hin := [], res := .tup [ve (subW a b), vb (decide (a < b))], hout := [], pure := false })] } }) {} [vb (decide (a < b))] rfl (
    pf (word_Sub_ok a b ha hb) <|
    pf (by decide : (4 : Nat) ≤ (4 : Nat)) <|
    pf (DLe.r (D.bool (decide (a < b)))) <|
    pz) (by kernel_rfl)

end Go.Sg
