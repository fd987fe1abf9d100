/-
Contracts of package field: the little fields. (Laid by wip/tools/fill.py out of a text of our own.)
-/
import Derived.Test.YtlaohcpkecmhnaaOwnDiv

set_option linter.all false

namespace Go.Sg
open Go Go.Own
open Go.Own (V D Wy)

/-- A field's numbers, for a little field. -/
def nums (p ad : Nat) : D := .agg [u (limb 0 p), u (limb 1 p), u (limb 2 p), u (limb 3 p), i ad, u p, u 0, u 0, u 0, u 0, u 0]

def pr (s : Int) : Nat := if s = 0 then 16513537 else 16521217
def ad (s : Int) : Nat := if s = 0 then 9 else 11

theorem of_0  : FnOk PP n_field_of [vi 0] [] (.ret (.tup [.d (nums 16513537 9), vi 0])) [] :=
  FnOk.by at_field_of (by kernel_rfl) ({}) {} [.d (nums 16513537 9), vi 0] rfl (
    pf (DLe.r (D.agg
  [D.int IntKind.u64 (Int.ofNat (16513537 : Nat)), D.int IntKind.u64 (Int.ofNat (0 : Nat)),
    D.int IntKind.u64 (Int.ofNat (0 : Nat)), D.int IntKind.u64 (Int.ofNat (0 : Nat)),
    D.int IntKind.i64 (Int.ofNat (9 : Nat)), D.int IntKind.u64 (Int.ofNat (16513537 : Nat)),
    D.int IntKind.u64 (Int.ofNat (0 : Nat)), D.int IntKind.u64 (Int.ofNat (0 : Nat)),
    D.int IntKind.u64 (Int.ofNat (0 : Nat)), D.int IntKind.u64 (Int.ofNat (0 : Nat)),
    D.int IntKind.u64 (Int.ofNat (0 : Nat))])) <|
    pf (DLe.r (D.int IntKind.i64 (Int.ofNat (0 : Nat)))) <|
    pz) (by kernel_rfl)

theorem of_1  : FnOk PP n_field_of [vi 1] [] (.ret (.tup [.d (nums 16521217 11), vi 0])) [] :=
  FnOk.by at_field_of (by kernel_rfl) ({}) {} [.d (nums 16521217 11), vi 0] rfl (
    pf (DLe.r (D.agg
  [D.int IntKind.u64 (Int.ofNat (16521217 : Nat)), D.int IntKind.u64 (Int.ofNat (0 : Nat)),
    D.int IntKind.u64 (Int.ofNat (0 : Nat)), D.int IntKind.u64 (Int.ofNat (0 : Nat)),
    D.int IntKind.i64 (Int.ofNat (11 : Nat)), D.int IntKind.u64 (Int.ofNat (16521217 : Nat)),
    D.int IntKind.u64 (Int.ofNat (0 : Nat)), D.int IntKind.u64 (Int.ofNat (0 : Nat)),
    D.int IntKind.u64 (Int.ofNat (0 : Nat)), D.int IntKind.u64 (Int.ofNat (0 : Nat)),
    D.int IntKind.u64 (Int.ofNat (0 : Nat))])) <|
    pf (DLe.r (D.int IntKind.i64 (Int.ofNat (0 : Nat)))) <|
    pz) (by kernel_rfl)

theorem of_ok (s : Int) (hs : s = 0 ∨ s = 1) : FnOk PP n_field_of [vi s] [] (.ret (.tup [.d (nums (pr s) (ad s)), vi 0])) [] := by
  rcases hs with rfl | rfl
  · exact of_0
  · exact of_1

theorem high_test (a : Nat) (ha : a < B ^ 4) (b : Bool) (hb : decide (a < B) = b) : V.d (.bool (IntKind.u64.wrap (((BitVec.ofInt 64 (IntKind.u64.wrap (((BitVec.ofInt 64 (limb 1 a : Int) ||| BitVec.ofInt 64 (limb 2 a : Int)).toNat : Nat) : Int)) ||| BitVec.ofInt 64 (limb 3 a : Int)).toNat : Nat) : Int) == Int.ofNat 0)) = V.d (.bool b) := by
  rw [wor _ _ (limb_lt _ _) (limb_lt _ _), wor _ _ (or_lt _ _ (limb_lt _ _) (limb_lt _ _)) (limb_lt _ _), show Int.ofNat 0 = ((0 : Nat) : Int) from rfl, beqN]
  refine vbool ?_
  rw [← hb]
  exact decide_eq_decide.2 (high_zero a ha)

theorem p_test (p : Nat) (hp : 0 < p) : V.d (.bool ((p : Int) != Int.ofNat 0)) = V.d (.bool true) := by
  rw [show Int.ofNat 0 = ((0 : Nat) : Int) from rfl, bneN]
  refine vbool ?_
  simp; omega

theorem small_elem (x p : Nat) (hp : 0 < p) (hpB : p < B) (hx : x < B) : DLe (.agg [.int .u64 ((limb 0 x : Int).tmod (p : Int)), u 0, u 0, u 0]) (elem (x % p)) := by
  refine DLe.of_eq ?_
  have : x % p < B := Nat.lt_trans (Nat.mod_lt _ hp) hpB
  rw [tmodN, (limb_small x hx).1, elem_small _ this]
  rfl

theorem reduce_small (p ad a : Nat) (hp : 0 < p) (hpB : p < B) (ha : a < B) (ha4 : a < B ^ 4) : FnOk PP n_field_numbers_reduce [.d (nums p ad), ve a] [] (.ret (ve (a % p))) [] :=
  FnOk.by at_field_numbers_reduce (by kernel_rfl) ({ o := { br := [(11, true), (20, true)] } }) {} [ve (a % p)] rfl (
    pf (p_test p hp) <|
    pf (by decide : Int.ofNat (0 : Nat) ≤ Int.ofNat (1 : Nat) ∧ Int.ofNat (1 : Nat) < Int.ofNat (4 : Nat)) <|
    pf (by decide : Int.ofNat (0 : Nat) ≤ Int.ofNat (2 : Nat) ∧ Int.ofNat (2 : Nat) < Int.ofNat (4 : Nat)) <|
    pf (by decide : Int.ofNat (0 : Nat) ≤ Int.ofNat (3 : Nat) ∧ Int.ofNat (3 : Nat) < Int.ofNat (4 : Nat)) <|
    pf (high_test a ha4 true (by simp [ha])) <|
    pf (by decide : Int.ofNat (0 : Nat) ≤ Int.ofNat (0 : Nat) ∧ Int.ofNat (0 : Nat) < Int.ofNat (4 : Nat)) <|
    pf (p_ne p hp) <|
    pf (by decide : (4 : Nat) ≤ (4 : Nat)) <|
    pf (small_elem a p hp hpB ha) <|
    pz) (by kernel_rfl)

/-! The great way: word by word. -/
def rd3 (a p : Nat) : Nat := (0 * B + limb 3 a) % p
def rd2 (a p : Nat) : Nat := (rd3 a p * B + limb 2 a) % p
def rd1 (a p : Nat) : Nat := (rd2 a p * B + limb 1 a) % p
def rd0 (a p : Nat) : Nat := (rd1 a p * B + limb 0 a) % p

theorem rd0_eq (a p : Nat) (ha : a < B ^ 4) : rd0 a p = a % p := by
  have e := elem_num a
  rw [Nat.mod_eq_of_lt ha] at e
  have step : ∀ x y : Nat, (x % p * B + y) % p = (x * B + y) % p := fun x y => by
    rw [Nat.add_mod, Nat.mul_mod, Nat.mod_mod, ← Nat.mul_mod, ← Nat.add_mod]
  have r2 : rd2 a p = ((0 * B + limb 3 a) * B + limb 2 a) % p := by unfold rd2 rd3; rw [step]
  have r1 : rd1 a p = (((0 * B + limb 3 a) * B + limb 2 a) * B + limb 1 a) % p := by unfold rd1; rw [r2, step]
  have r0 : rd0 a p = ((((0 * B + limb 3 a) * B + limb 2 a) * B + limb 1 a) * B + limb 0 a) % p := by unfold rd0; rw [r1, step]
  rw [r0]
  refine congrArg (· % p) ?_
  refine Eq.trans ?_ e.symm
  generalize limb 0 a = x0
  generalize limb 1 a = x1
  generalize limb 2 a = x2
  generalize limb 3 a = x3
  simp only [Nat.pow_succ, Nat.pow_zero, Nat.one_mul, Nat.zero_mul, Nat.zero_add, Nat.add_mul]
  simp only [Nat.mul_assoc]
  omega

theorem rd_elem (a p : Nat) (hp : 0 < p) (hpB : p < B) (ha : a < B ^ 4) : DLe (.agg [u (rd0 a p), u 0, u 0, u 0]) (elem (a % p)) := by
  refine DLe.of_eq ?_
  rw [rd0_eq a p ha, elem_small _ (Nat.lt_trans (Nat.mod_lt _ hp) hpB)]

def redRound (q r : Nat) : Wy := { o := { call := [(38, { hin := [], res := .tup [vu q, vu r], hout := [], pure := false })] } }

theorem reduce_big (p ad a : Nat) (hp : 0 < p) (hp2 : p < 16777216) (ha : ¬ a < B) (ha4 : a < B ^ 4) (hlz : FnOk PP n_bits_LeadingZeros64 [vu p] [] (.ret (vi 40)) []) : FnOk PP n_field_numbers_reduce [.d (nums p ad), ve a] [] (.ret (ve (a % p))) [] :=
  FnOk.by at_field_numbers_reduce (by kernel_rfl) ({ o := { br := [(11, true), (20, false)] }, iter := [(0, [redRound (dQ 0 (limb 3 a) p) (rd3 a p), redRound (dQ (rd3 a p) (limb 2 a) p) (rd2 a p), redRound (dQ (rd2 a p) (limb 1 a) p) (rd1 a p), redRound (dQ (rd1 a p) (limb 0 a) p) (rd0 a p), {}])] }) {} [ve (a % p)] rfl (
    pf (p_test p hp) <|
    pf (by decide : Int.ofNat (0 : Nat) ≤ Int.ofNat (1 : Nat) ∧ Int.ofNat (1 : Nat) < Int.ofNat (4 : Nat)) <|
    pf (by decide : Int.ofNat (0 : Nat) ≤ Int.ofNat (2 : Nat) ∧ Int.ofNat (2 : Nat) < Int.ofNat (4 : Nat)) <|
    pf (by decide : Int.ofNat (0 : Nat) ≤ Int.ofNat (3 : Nat) ∧ Int.ofNat (3 : Nat) < Int.ofNat (4 : Nat)) <|
    pf (high_test a ha4 false (by simp [ha])) <|
    pf PP_mixed <|
    pf (by decide : Int.ofNat (0 : Nat) ≤ Int.ofNat (3 : Nat) ∧ Int.ofNat (3 : Nat) < Int.ofNat (4 : Nat)) <|
    pf (div_ok 0 (limb 3 a) p hp (limb_lt _ _) hp2 hlz) <|
    pf PP_mixed <|
    pf (by decide : Int.ofNat (0 : Nat) ≤ Int.ofNat (2 : Nat) ∧ Int.ofNat (2 : Nat) < Int.ofNat (4 : Nat)) <|
    pf (div_ok (rd3 a p) (limb 2 a) p (Nat.mod_lt _ hp) (limb_lt _ _) hp2 hlz) <|
    pf PP_mixed <|
    pf (by decide : Int.ofNat (0 : Nat) ≤ Int.ofNat (1 : Nat) ∧ Int.ofNat (1 : Nat) < Int.ofNat (4 : Nat)) <|
    pf (div_ok (rd2 a p) (limb 1 a) p (Nat.mod_lt _ hp) (limb_lt _ _) hp2 hlz) <|
    pf PP_mixed <|
    pf (by decide : Int.ofNat (0 : Nat) ≤ Int.ofNat (0 : Nat) ∧ Int.ofNat (0 : Nat) < Int.ofNat (4 : Nat)) <|
    pf (div_ok (rd1 a p) (limb 0 a) p (Nat.mod_lt _ hp) (limb_lt _ _) hp2 hlz) <|
    pf (by decide : (4 : Nat) ≤ (4 : Nat)) <|
    pf (rd_elem a p hp (Nat.lt_trans hp2 (by decide)) ha4) <|
    pz) (by kernel_rfl)

/-- A little modulus. -/
structure Little (p : Nat) : Prop where
  pos : 0 < p
  lt : p < 16777216
  lz : FnOk PP n_bits_LeadingZeros64 [vu p] [] (.ret (vi 40)) []

theorem Little.ltB {p : Nat} (l : Little p) : p < B := Nat.lt_trans l.lt (by decide)
theorem Little.lt4 {p : Nat} (l : Little p) : p < B ^ 4 := Nat.lt_trans l.lt (by decide)
theorem Little.mod {p : Nat} (l : Little p) (a : Nat) : a % p < p := Nat.mod_lt _ l.pos
theorem Little.mod4 {p : Nat} (l : Little p) (a : Nat) : a % p < B ^ 4 := Nat.lt_trans (l.mod a) l.lt4

theorem little (s : Int) (hs : s = 0 ∨ s = 1) : Little (pr s) := by
  rcases hs with rfl | rfl
  · exact ⟨by decide, by decide, lz_0⟩
  · exact ⟨by decide, by decide, lz_1⟩

theorem reduce_ok {p : Nat} (l : Little p) (ad a : Nat) (ha : a < B ^ 4) : FnOk PP n_field_numbers_reduce [.d (nums p ad), ve a] [] (.ret (ve (a % p))) [] := by
  by_cases h : a < B
  · exact reduce_small p ad a l.pos l.ltB h ha
  · exact reduce_big p ad a l.pos l.lt h ha l.lz

theorem mul_elem (p a b : Nat) (l : Little p) : DLe (.agg [.int .u64 ((IntKind.u64.wrap ((limb 0 (a % p) : Int) * (limb 0 (b % p) : Int))).tmod (p : Int)), u 0, u 0, u 0]) (elem (a * b % p)) := by
  refine DLe.of_eq ?_
  have h1 := l.mod a
  have h2 := l.mod b
  have h3 := l.lt
  rw [(limb_small (a % p) (Nat.lt_trans h1 l.ltB)).1, (limb_small (b % p) (Nat.lt_trans h2 l.ltB)).1, ← Int.natCast_mul]
  have h4 : a % p * (b % p) < B := Nat.lt_of_lt_of_le (Nat.mul_lt_mul'' (Nat.lt_trans h1 h3) (Nat.lt_trans h2 h3)) (by decide)
  rw [wrapU_lt _ h4, tmodN, ← Nat.mul_mod, elem_small _ (Nat.lt_trans (Nat.mod_lt _ l.pos) l.ltB)]
  rfl

theorem numbers_mul_ok {p : Nat} (l : Little p) (ad a b : Nat) (ha : a < B ^ 4) (hb : b < B ^ 4) : FnOk PP n_field_numbers_mul [.d (nums p ad), ve a, ve b] [] (.ret (ve (a * b % p))) [] :=
  FnOk.by at_field_numbers_mul (by kernel_rfl) ({ o := { br := [(15, true)], call := [(9, { hin := [], res := ve (a % p), hout := [], pure := false }), (12, { hin := [], res := ve (b % p), hout := [], pure := false })] } }) {} [ve (a * b % p)] rfl (
    pf PP_mixed <|
    pf (reduce_ok l ad a ha) <|
    pf (reduce_ok l ad b hb) <|
    pf (by decide : (4 : Nat) ≤ (4 : Nat)) <|
    pf (by decide : (4 : Nat) ≤ (4 : Nat)) <|
    pf (p_test p l.pos) <|
    pf (by decide : Int.ofNat (0 : Nat) ≤ Int.ofNat (0 : Nat) ∧ Int.ofNat (0 : Nat) < Int.ofNat (4 : Nat)) <|
    pf (by decide : Int.ofNat (0 : Nat) ≤ Int.ofNat (0 : Nat) ∧ Int.ofNat (0 : Nat) < Int.ofNat (4 : Nat)) <|
    pf (p_ne p l.pos) <|
    pf (by decide : (4 : Nat) ≤ (4 : Nat)) <|
    pf (mul_elem p a b l) <|
    pz) (by kernel_rfl)

theorem numbers_add_ok {p : Nat} (l : Little p) (ad a b : Nat) (ha : a < B ^ 4) (hb : b < B ^ 4) : FnOk PP n_field_numbers_add [.d (nums p ad), ve a, ve b] [] (.ret (ve ((a % p + b % p) % p))) [] :=
  FnOk.by at_field_numbers_add (by kernel_rfl) ({ o := { call := [(12, { hin := [], res := ve (a % p), hout := [], pure := false }), (15, { hin := [], res := ve (b % p), hout := [], pure := false }), (16, { hin := [], res := .tup [ve (a % p + b % p), vb (decide (B ^ 4 ≤ a % p + b % p))], hout := [], pure := false }), (21, { hin := [], res := ve ((a % p + b % p) % p), hout := [], pure := false })] } }) {} [ve ((a % p + b % p) % p)] rfl (
    pf PP_mixed <|
    pf (reduce_ok l ad a ha) <|
    pf (reduce_ok l ad b hb) <|
    pf (word_Add_ok (a % p) (b % p) (l.mod4 a) (l.mod4 b)) <|
    pf (by decide : (4 : Nat) ≤ (4 : Nat)) <|
    pf (reduce_ok l ad (a % p + b % p) (Nat.lt_trans (Nat.add_lt_add (Nat.lt_trans (l.mod a) l.lt) (Nat.lt_trans (l.mod b) l.lt)) (by decide))) <|
    pf (by decide : (4 : Nat) ≤ (4 : Nat)) <|
    pf (DLe.r (D.agg
  [D.int IntKind.u64 ↑(limb (0 : Nat) ((a % p + b % p) % p)), D.int IntKind.u64 ↑(limb (1 : Nat) ((a % p + b % p) % p)),
    D.int IntKind.u64 ↑(limb (2 : Nat) ((a % p + b % p) % p)),
    D.int IntKind.u64 ↑(limb (3 : Nat) ((a % p + b % p) % p))])) <|
    pz) (by kernel_rfl)

theorem word_Sub_le (a b : Nat) (ha : a < B ^ 4) (h : b ≤ a) : FnOk PP n_word_Sub [ve a, ve b] [] (.ret (.tup [ve (a - b), vb false])) [] := by
  have := word_Sub_ok a b ha (Nat.lt_of_le_of_lt h ha)
  have e1 : subW a b = a - b := by
    unfold subW
    rw [Nat.add_comm, Nat.add_sub_assoc h, Nat.add_mod_left, Nat.mod_eq_of_lt (Nat.lt_of_le_of_lt (Nat.sub_le a b) ha)]
  have e2 : decide (a < b) = false := decide_eq_false (Nat.not_lt.2 h)
  rw [e1, e2] at this
  exact this

theorem numbers_neg0_ok {p : Nat} (l : Little p) (ad a : Nat) (ha : a < B ^ 4) : FnOk PP n_field_numbers_neg0 [.d (nums p ad), ve a] [] (.ret (ve ((p - a % p) % p))) [] :=
  FnOk.by at_field_numbers_neg0 (by kernel_rfl) ({ o := { call := [(12, { hin := [], res := ve (a % p), hout := [], pure := false }), (13, { hin := [], res := .tup [ve (p - a % p), vb false], hout := [], pure := false }), (18, { hin := [], res := ve ((p - a % p) % p), hout := [], pure := false })] } }) {} [ve ((p - a % p) % p)] rfl (
    pf PP_mixed <|
    pf (reduce_ok l ad a ha) <|
    pf (word_Sub_le p (a % p) l.lt4 (Nat.le_of_lt (l.mod a))) <|
    pf (by decide : (4 : Nat) ≤ (4 : Nat)) <|
    pf (reduce_ok l ad (p - a % p) (Nat.lt_of_le_of_lt (Nat.sub_le p _) l.lt4)) <|
    pf (by decide : (4 : Nat) ≤ (4 : Nat)) <|
    pf (DLe.r (D.agg
  [D.int IntKind.u64 ↑(limb (0 : Nat) ((p - a % p) % p)), D.int IntKind.u64 ↑(limb (1 : Nat) ((p - a % p) % p)),
    D.int IntKind.u64 ↑(limb (2 : Nat) ((p - a % p) % p)), D.int IntKind.u64 ↑(limb (3 : Nat) ((p - a % p) % p))])) <|
    pz) (by kernel_rfl)

end Go.Sg
