/-
Contracts: math/bits.Len64, LeadingZeros64, Div64 for the little moduli. (Laid by wip/tools/fill.py out of a text of our own.)
-/
import Derived.Test.YtlaohcpkecmhnaaOwnArith

set_option linter.all false

namespace Go.Sg
open Go Go.Own
open Go.Own (V D Wy)

theorem p_ne (p : Nat) (hp : 0 < p) : (p : Int) ≠ Int.ofNat 0 := by
  have : Int.ofNat 0 = (0 : Int) := rfl
  rw [this]; omega
theorem dv_pne (p : Nat) (hp : 0 < p) : V.d (.bool ((p : Int) == Int.ofNat 0)) = V.d (.bool false) := by
  rw [show Int.ofNat 0 = ((0 : Nat) : Int) from rfl, beqN]
  refine vbool ?_
  simp; omega
theorem dv_ple (p : Nat) (hp : 0 < p) : V.d (.bool (decide ((p : Int) ≤ ((0 : Nat) : Int)))) = V.d (.bool false) := by
  refine vbool ?_
  simp; omega
theorem dv_plt (p hi : Nat) (hp : hi < p) : V.d (.bool (decide ((p : Int) ≤ (hi : Int)))) = V.d (.bool false) := by
  refine vbool ?_
  simp; omega
theorem uLe {x : Int} {y : Nat} (h : x = (y : Int)) : DLe (.int .u64 x) (u y) := by subst h; exact DLe.r _
theorem tdivN (x p : Nat) : (x : Int).tdiv (p : Int) = ((x / p : Nat) : Int) := rfl
theorem dv_quo (lo p : Nat) (h : lo < B) : DLe (.int .u64 (IntKind.u64.wrap ((lo : Int).tdiv (p : Int)))) (u (lo / p)) := by
  refine uLe ?_
  rw [tdivN, wrapU_lt _ (Nat.lt_of_le_of_lt (Nat.div_le_self _ _) h)]
theorem dv_rem (lo p : Nat) : DLe (.int .u64 ((lo : Int).tmod (p : Int))) (u (lo % p)) := uLe rfl

theorem len_0  : FnOk PP n_bits_Len64 [vu 16513537] [] (.ret (vi 24)) [] :=
  FnOk.by at_bits_Len64 (by kernel_rfl) ({}) {} [vi 24] rfl (
    pf (by decide : Int.ofNat (0 : Nat) ≤ Int.ofNat (16 : Nat)) <|
    pf (by decide : Int.ofNat (0 : Nat) ≤ Int.ofNat (251 : Nat) ∧ Int.ofNat (251 : Nat) < Int.ofNat (256 : Nat)) <|
    pf (DLe.r (D.int IntKind.i64 (Int.ofNat (24 : Nat)))) <|
    pz) (by kernel_rfl)

theorem len_1  : FnOk PP n_bits_Len64 [vu 16521217] [] (.ret (vi 24)) [] :=
  FnOk.by at_bits_Len64 (by kernel_rfl) ({}) {} [vi 24] rfl (
    pf (by decide : Int.ofNat (0 : Nat) ≤ Int.ofNat (16 : Nat)) <|
    pf (by decide : Int.ofNat (0 : Nat) ≤ Int.ofNat (252 : Nat) ∧ Int.ofNat (252 : Nat) < Int.ofNat (256 : Nat)) <|
    pf (DLe.r (D.int IntKind.i64 (Int.ofNat (24 : Nat)))) <|
    pz) (by kernel_rfl)

theorem lz_0  : FnOk PP n_bits_LeadingZeros64 [vu 16513537] [] (.ret (vi 40)) [] :=
  FnOk.by at_bits_LeadingZeros64 (by kernel_rfl) ({ o := { call := [(4, { hin := [], res := vi 24, hout := [], pure := false })] } }) {} [vi 40] rfl (
    pf (len_0) <|
    pf (DLe.r (D.int IntKind.i64 (Int.ofNat (40 : Nat)))) <|
    pz) (by kernel_rfl)

theorem lz_1  : FnOk PP n_bits_LeadingZeros64 [vu 16521217] [] (.ret (vi 40)) [] :=
  FnOk.by at_bits_LeadingZeros64 (by kernel_rfl) ({ o := { call := [(4, { hin := [], res := vi 24, hout := [], pure := false })] } }) {} [vi 40] rfl (
    pf (len_1) <|
    pf (DLe.r (D.int IntKind.i64 (Int.ofNat (40 : Nat)))) <|
    pz) (by kernel_rfl)

theorem div_0 (lo p : Nat) (hp : 0 < p) (hlo : lo < B) : FnOk PP n_bits_Div64 [vu 0, vu lo, vu p] [] (.ret (.tup [vu (lo / p), vu (lo % p)])) [] :=
  FnOk.by at_bits_Div64 (by kernel_rfl) ({ o := { br := [(20, false), (24, false)] } }) {} [vu (lo / p), vu (lo % p)] rfl (
    pf (dv_pne p hp) <|
    pf (dv_ple p hp) <|
    pf PP_mixed <|
    pf (p_ne p hp) <|
    pf (p_ne p hp) <|
    pf (dv_quo lo p hlo) <|
    pf (dv_rem lo p) <|
    pz) (by kernel_rfl)

def dUn32 (hi lo : Nat) : Nat := hi * 1099511627776 + lo / 16777216
def dUn1 (lo : Nat) : Nat := lo % 16777216 * 256
def dQ1 (hi lo p : Nat) : Nat := dUn32 hi lo / (p * 256)
def dR1 (hi lo p : Nat) : Nat := dUn32 hi lo % (p * 256)
def dUn21 (hi lo p : Nat) : Nat := dR1 hi lo p * 4294967296 + dUn1 lo
def dQ0 (hi lo p : Nat) : Nat := dUn21 hi lo p / (p * 256)
def dR0 (hi lo p : Nat) : Nat := dUn21 hi lo p % (p * 256)

theorem dY (p : Nat) (hp : p < 16777216) : IntKind.u64.wrap ((p : Int) * Int.ofNat 1099511627776) = ((p * 1099511627776 : Nat) : Int) := by
  rw [IntKind.wrap_u64, show Int.ofNat 1099511627776 = (1099511627776 : Int) from rfl]
  omega
theorem dYn (p : Nat) (hp : p < 16777216) : (IntKind.u64.wrap ((p : Int) * Int.ofNat 1099511627776)).fdiv (Int.ofNat 4294967296) = ((p * 256 : Nat) : Int) := by
  rw [dY p hp, show Int.ofNat 4294967296 = (4294967296 : Int) from rfl, Int.fdiv_eq_ediv_of_nonneg _ (by omega)]
  omega
theorem mask32 (x : Nat) (hx : x < B) : IntKind.u64.wrap (((BitVec.ofInt 64 (x : Int) &&& BitVec.ofInt 64 (Int.ofNat 4294967295)).toNat : Nat) : Int) = ((x % 4294967296 : Nat) : Int) := by
  rw [show Int.ofNat 4294967295 = ((4294967295 : Nat) : Int) from rfl, wand x 4294967295 hx (by decide), show (4294967295 : Nat) = 2 ^ 32 - 1 from rfl, Nat.and_two_pow_sub_one_eq_mod]
theorem dYz (p : Nat) (hp : p < 16777216) : IntKind.u64.wrap (((BitVec.ofInt 64 (IntKind.u64.wrap ((p : Int) * Int.ofNat 1099511627776)) &&& BitVec.ofInt 64 (Int.ofNat 4294967295)).toNat : Nat) : Int) = ((0 : Nat) : Int) := by
  rw [dY p hp, mask32 _ (by simp only [B]; omega)]
  omega
theorem dHi (hi lo : Nat) (h : hi < 16777216) (hlo : lo < B) : IntKind.u64.wrap (((BitVec.ofInt 64 (IntKind.u64.wrap ((hi : Int) * Int.ofNat 1099511627776)) ||| BitVec.ofInt 64 ((lo : Int).fdiv (Int.ofNat 16777216))).toNat : Nat) : Int) = ((dUn32 hi lo : Nat) : Int) := by
  rw [dY hi h, show (lo : Int).fdiv (Int.ofNat 16777216) = ((lo / 16777216 : Nat) : Int) by rw [show Int.ofNat 16777216 = (16777216 : Int) from rfl, Int.fdiv_eq_ediv_of_nonneg _ (by omega)]; omega]
  simp only [B] at hlo
  rw [wor _ _ (by simp only [B]; omega) (by simp only [B]; omega)]
  have := Nat.two_pow_add_eq_or_of_lt (i := 40) (b := lo / 16777216) (by omega) hi
  unfold dUn32
  rw [show hi * 1099511627776 = 2 ^ 40 * hi by omega, ← this]
theorem dLo (lo : Nat) : IntKind.u64.wrap ((lo : Int) * Int.ofNat 1099511627776) = ((lo % 16777216 * 1099511627776 : Nat) : Int) := by
  rw [IntKind.wrap_u64, show Int.ofNat 1099511627776 = (1099511627776 : Int) from rfl]
  omega
theorem dLo1 (lo : Nat) : (IntKind.u64.wrap ((lo : Int) * Int.ofNat 1099511627776)).fdiv (Int.ofNat 4294967296) = ((dUn1 lo : Nat) : Int) := by
  rw [dLo, show Int.ofNat 4294967296 = (4294967296 : Int) from rfl, Int.fdiv_eq_ediv_of_nonneg _ (by omega)]
  unfold dUn1
  omega
theorem dLo0 (lo : Nat) : IntKind.u64.wrap (((BitVec.ofInt 64 (IntKind.u64.wrap ((lo : Int) * Int.ofNat 1099511627776)) &&& BitVec.ofInt 64 (Int.ofNat 4294967295)).toNat : Nat) : Int) = ((0 : Nat) : Int) := by
  rw [dLo, mask32 _ (by simp only [B]; omega)]
  omega
theorem dP (p : Nat) (hp : 0 < p) : ((p * 256 : Nat) : Int) ≠ Int.ofNat 0 := p_ne _ (by omega)

/-- U by Y, both small. -/
theorem q_w (U Y : Nat) (hU : U < B) : IntKind.u64.wrap ((U : Int).tdiv (Y : Int)) = ((U / Y : Nat) : Int) := by
  rw [tdivN, wrapU_lt _ (Nat.lt_of_le_of_lt (Nat.div_le_self _ _) hU)]
theorem r_w (U Y : Nat) (hU : U < B) : IntKind.u64.wrap ((U : Int) - IntKind.u64.wrap (IntKind.u64.wrap ((U : Int).tdiv (Y : Int)) * (Y : Int))) = ((U % Y : Nat) : Int) := by
  rw [q_w U Y hU, ← Int.natCast_mul]
  have h1 := Nat.div_add_mod U Y
  rw [Nat.mul_comm] at h1
  rw [wrapU_lt _ (by omega), IntKind.wrap_u64]
  simp only [B] at hU
  omega
theorem q_small (U p : Nat) (hU : U < p * 256 * 4294967296) : V.d (.bool (decide (((U / (p * 256) : Nat) : Int) ≥ (4294967296 : Int)))) = V.d (.bool false) := by
  refine vbool ?_
  have : U / (p * 256) < 4294967296 := Nat.div_lt_of_lt_mul hU
  generalize U / (p * 256) = q at this
  exact decide_eq_false (by omega)
theorem mulx (q p a b c : Nat) (h : c = a * b) : q * (p * c) = p * a * q * b := by
  subst h
  simp only [Nat.mul_comm, Nat.mul_left_comm]
theorem mulY (q p : Nat) : (q : Int) * ((p * 1099511627776 : Nat) : Int) = ((p * 256 * q * 4294967296 : Nat) : Int) := by
  rw [← Int.natCast_mul, mulx q p 256 4294967296 1099511627776 (by decide)]
theorem q_zero (q : Nat) (x : Int) (hx : 0 ≤ x) : V.d (.bool (decide (IntKind.u64.wrap ((q : Int) * ((0 : Nat) : Int)) > x))) = V.d (.bool false) := by
  refine vbool ?_
  rw [show ((0 : Nat) : Int) = 0 from rfl, Int.mul_zero, IntKind.wrap_u64]
  simp; omega
theorem wrap_nonneg (x : Int) : 0 ≤ IntKind.u64.wrap x := by rw [IntKind.wrap_u64]; omega

theorem un32_lt (hi lo p : Nat) (hhi : hi < p) (hlo : lo < B) : dUn32 hi lo < p * 256 * 4294967296 := by
  unfold dUn32; simp only [B] at hlo; omega
theorem un32_ltB (hi lo p : Nat) (hhi : hi < p) (hlo : lo < B) (hp : p < 16777216) : dUn32 hi lo < B := by
  have := un32_lt hi lo p hhi hlo
  simp only [B] at *; omega
theorem un21_lt (hi lo p : Nat) (hp : 0 < p) : dUn21 hi lo p < p * 256 * 4294967296 := by
  have := Nat.mod_lt (dUn32 hi lo) (show 0 < p * 256 by omega)
  unfold dUn21 dR1 dUn1
  omega
theorem un21_ltB (hi lo p : Nat) (hp : 0 < p) (hp2 : p < 16777216) : dUn21 hi lo p < B := by
  have := un21_lt hi lo p hp
  simp only [B]; omega
theorem un21_ar (U W M r : Nat) (h1 : M + r = U) (h2 : r * 4294967296 + W < B) : IntKind.u64.wrap (IntKind.u64.wrap (IntKind.u64.wrap ((U : Int) * Int.ofNat 4294967296) + (W : Int)) - IntKind.u64.wrap ((M * 4294967296 : Nat) : Int)) = ((r * 4294967296 + W : Nat) : Int) := by
  simp only [B] at h2
  rw [IntKind.wrap_u64, IntKind.wrap_u64, IntKind.wrap_u64, IntKind.wrap_u64, show Int.ofNat 4294967296 = (4294967296 : Int) from rfl]
  omega
theorem un21_w (hi lo p : Nat) (hhi : hi < p) (hp : p < 16777216) : IntKind.u64.wrap (IntKind.u64.wrap (IntKind.u64.wrap ((dUn32 hi lo : Int) * Int.ofNat 4294967296) + (dUn1 lo : Int)) - IntKind.u64.wrap ((dQ1 hi lo p : Int) * ((p * 1099511627776 : Nat) : Int))) = ((dUn21 hi lo p : Nat) : Int) := by
  have h2 := un21_ltB hi lo p (by omega) hp
  unfold dQ1
  rw [mulY]
  exact un21_ar _ _ _ _ (Nat.div_add_mod (dUn32 hi lo) (p * 256)) h2
theorem r0_ar (U W M r X : Nat) (h1 : M + r = U) (h2 : U * 4294967296 + W = X * 256) : r * 4294967296 + W + M * 4294967296 = X * 256 := by
  subst h1
  rw [Nat.add_mul] at h2
  rw [← h2, Nat.add_comm, Nat.add_assoc]
theorem r0_eq (hi lo p : Nat) : dR0 hi lo p = (hi * B + lo) % p * 256 := by
  have h2 : dUn32 hi lo * 4294967296 + dUn1 lo = (hi * B + lo) * 256 := by unfold dUn32 dUn1; simp only [B]; omega
  have h3 := r0_ar _ _ _ _ _ (Nat.div_add_mod (dUn32 hi lo) (p * 256)) h2
  rw [Nat.mul_assoc (p * 256)] at h3
  have h5 := Nat.mul_mod_mul_right 256 (hi * B + lo) p
  rw [← h5, ← h3, Nat.add_mul_mod_self_left]
  rfl
theorem quo_w (hi lo p : Nat) (hhi : hi < p) (hlo : lo < B) : IntKind.u64.wrap (IntKind.u64.wrap ((dQ1 hi lo p : Int) * Int.ofNat 4294967296) + (dQ0 hi lo p : Int)) = ((dQ1 hi lo p * 4294967296 + dQ0 hi lo p : Nat) : Int) := by
  have h1 : dQ1 hi lo p < 4294967296 := Nat.div_lt_of_lt_mul (un32_lt hi lo p hhi hlo)
  have h2 : dQ0 hi lo p < 4294967296 := Nat.div_lt_of_lt_mul (un21_lt hi lo p (by omega))
  rw [IntKind.wrap_u64, IntKind.wrap_u64, show Int.ofNat 4294967296 = (4294967296 : Int) from rfl]
  omega
theorem rem_w (hi lo p : Nat) (hp0 : 0 < p) (hp : p < 16777216) : (IntKind.u64.wrap (IntKind.u64.wrap (IntKind.u64.wrap ((dUn21 hi lo p : Int) * Int.ofNat 4294967296) + Int.ofNat 0) - IntKind.u64.wrap ((dQ0 hi lo p : Int) * ((p * 1099511627776 : Nat) : Int)))).fdiv (Int.ofNat 1099511627776) = (((hi * B + lo) % p : Nat) : Int) := by
  have h1 := Nat.div_add_mod (dUn21 hi lo p) (p * 256)
  have h2 := r0_eq hi lo p
  have h4 := Nat.mod_lt (hi * B + lo) hp0
  unfold dR0 at h2
  unfold dQ0
  rw [mulY (dUn21 hi lo p / (p * 256)) p]
  generalize p * 256 * (dUn21 hi lo p / (p * 256)) = M at *
  generalize dUn21 hi lo p % (p * 256) = r at *
  generalize dUn21 hi lo p = U at *
  generalize (hi * B + lo) % p = z at *
  rw [IntKind.wrap_u64, IntKind.wrap_u64, IntKind.wrap_u64, IntKind.wrap_u64, show Int.ofNat 4294967296 = (4294967296 : Int) from rfl, show Int.ofNat 1099511627776 = (1099511627776 : Int) from rfl, show Int.ofNat 0 = (0 : Int) from rfl, Int.fdiv_eq_ediv_of_nonneg _ (by omega)]
  omega

theorem div_1 (hi lo p : Nat) (h0 : 0 < hi) (hhi : hi < p) (hlo : lo < B) (hp : p < 16777216) (hlz : FnOk PP n_bits_LeadingZeros64 [vu p] [] (.ret (vi 40)) []) : FnOk PP n_bits_Div64 [vu hi, vu lo, vu p] [] (.ret (.tup [vu (dQ1 hi lo p * 4294967296 + dQ0 hi lo p), vu ((hi * B + lo) % p)])) [] :=
  FnOk.by at_bits_Div64 (by kernel_rfl) ({ o := { br := [(20, false), (24, false), (27, false), (68, false), (69, false), (78, false), (103, false), (104, false), (113, false)], call := [(35, { hin := [], res := vi 40, hout := [], pure := false })] }, weak := [(15, { s := { t := [(2, vu (p * 1099511627776)), (8, vu 40), (9, vu (p * 256)), (10, vu 0), (11, vu (dUn32 hi lo)), (13, vu (dUn1 lo)), (14, vu 0)], h := [] } }), (17, { s := { t := [(2, vu (p * 1099511627776)), (8, vu 40), (9, vu (p * 256)), (10, vu 0), (11, vu (dUn32 hi lo)), (13, vu (dUn1 lo)), (14, vu 0), (15, vu (dQ1 hi lo p)), (16, vu (dR1 hi lo p))], h := [] } }), (22, { s := { t := [(2, vu (p * 1099511627776)), (8, vu 40), (9, vu (p * 256)), (10, vu 0), (13, vu (dUn1 lo)), (14, vu 0), (15, vu (dQ1 hi lo p)), (17, vu (dUn21 hi lo p))], h := [] } }), (24, { s := { t := [(2, vu (p * 1099511627776)), (8, vu 40), (9, vu (p * 256)), (10, vu 0), (13, vu (dUn1 lo)), (14, vu 0), (15, vu (dQ1 hi lo p)), (17, vu (dUn21 hi lo p)), (18, vu (dQ0 hi lo p)), (16, vu (dR0 hi lo p))], h := [] } })], iter := [(0, [{ o := { br := [(68, false), (69, false), (78, false)] }, weak := [(17, { s := { t := [(2, vu (p * 1099511627776)), (8, vu 40), (9, vu (p * 256)), (10, vu 0), (11, vu (dUn32 hi lo)), (13, vu (dUn1 lo)), (14, vu 0), (15, vu (dQ1 hi lo p)), (16, vu (dR1 hi lo p))], h := [] } })] }]), (2, [{ o := { br := [(103, false), (104, false), (113, false)] }, weak := [(24, { s := { t := [(2, vu (p * 1099511627776)), (8, vu 40), (9, vu (p * 256)), (10, vu 0), (13, vu (dUn1 lo)), (14, vu 0), (15, vu (dQ1 hi lo p)), (17, vu (dUn21 hi lo p)), (18, vu (dQ0 hi lo p)), (16, vu (dR0 hi lo p))], h := [] } })] }])] }) {} [vu (dQ1 hi lo p * 4294967296 + dQ0 hi lo p), vu ((hi * B + lo) % p)] rfl (
    pf (dv_pne p (by omega)) <|
    pf (dv_plt p hi hhi) <|
    pf (dv_pne hi h0) <|
    pf (hlz) <|
    pf (by decide : Int.ofNat (0 : Nat) ≤ Int.ofNat (40 : Nat)) <|
    pf (by decide : Int.ofNat (0 : Nat) ≤ Int.ofNat (32 : Nat)) <|
    pf (by decide : Int.ofNat (0 : Nat) ≤ Int.ofNat (40 : Nat)) <|
    pf (by decide : Int.ofNat (0 : Nat) ≤ Int.ofNat (24 : Nat)) <|
    pf (by decide : Int.ofNat (0 : Nat) ≤ Int.ofNat (40 : Nat)) <|
    pf (by decide : Int.ofNat (0 : Nat) ≤ Int.ofNat (32 : Nat)) <|
    pf (uLe (dY p hp)) <|
    pf (DLe.r (D.int IntKind.u64 (Int.ofNat (40 : Nat)))) <|
    pf (uLe (dYn p hp)) <|
    pf (uLe (dYz p hp)) <|
    pf (uLe (dHi hi lo (by omega) hlo)) <|
    pf (uLe (dLo1 lo)) <|
    pf (uLe (dLo0 lo)) <|
    pf (dP p (by omega)) <|
    pf (DLe.r (D.int IntKind.u64 ↑(p * (1099511627776 : Nat)))) <|
    pf (DLe.r (D.int IntKind.u64 (Int.ofNat (40 : Nat)))) <|
    pf (DLe.r (D.int IntKind.u64 ↑(p * (256 : Nat)))) <|
    pf (DLe.r (D.int IntKind.u64 (Int.ofNat (0 : Nat)))) <|
    pf (DLe.r (D.int IntKind.u64 ↑(dUn32 hi lo))) <|
    pf (DLe.r (D.int IntKind.u64 ↑(dUn1 lo))) <|
    pf (DLe.r (D.int IntKind.u64 (Int.ofNat (0 : Nat)))) <|
    pf (uLe (q_w _ (p * 256) (un32_ltB hi lo p hhi hlo hp))) <|
    pf (uLe (r_w _ (p * 256) (un32_ltB hi lo p hhi hlo hp))) <|
    pf (q_small _ p (un32_lt hi lo p hhi hlo)) <|
    pf (q_small _ p (un32_lt hi lo p hhi hlo)) <|
    pf (q_small _ p (un32_lt hi lo p hhi hlo)) <|
    pf (q_small _ p (un32_lt hi lo p hhi hlo)) <|
    pf (q_small _ p (un32_lt hi lo p hhi hlo)) <|
    pf (q_small _ p (un32_lt hi lo p hhi hlo)) <|
    pf (q_small _ p (un32_lt hi lo p hhi hlo)) <|
    pf (q_small _ p (un32_lt hi lo p hhi hlo)) <|
    pf (q_small _ p (un32_lt hi lo p hhi hlo)) <|
    pf (q_zero (dQ1 hi lo p) _ (wrap_nonneg (IntKind.u64.wrap ((4294967296 : Int) * (dR1 hi lo p : Int)) + (dUn1 lo : Int)))) <|
    pf (DLe.r (D.int IntKind.u64 ↑(p * (1099511627776 : Nat)))) <|
    pf (DLe.r (D.int IntKind.u64 (Int.ofNat (40 : Nat)))) <|
    pf (DLe.r (D.int IntKind.u64 ↑(p * (256 : Nat)))) <|
    pf (DLe.r (D.int IntKind.u64 (Int.ofNat (0 : Nat)))) <|
    pf (DLe.r (D.int IntKind.u64 ↑(dUn1 lo))) <|
    pf (DLe.r (D.int IntKind.u64 (Int.ofNat (0 : Nat)))) <|
    pf (DLe.r (D.int IntKind.u64 ↑(dQ1 hi lo p))) <|
    pf (uLe (un21_w hi lo p hhi hp)) <|
    pf (dP p (by omega)) <|
    pf (DLe.r (D.int IntKind.u64 ↑(p * (1099511627776 : Nat)))) <|
    pf (DLe.r (D.int IntKind.u64 (Int.ofNat (40 : Nat)))) <|
    pf (DLe.r (D.int IntKind.u64 ↑(p * (256 : Nat)))) <|
    pf (DLe.r (D.int IntKind.u64 (Int.ofNat (0 : Nat)))) <|
    pf (DLe.r (D.int IntKind.u64 ↑(dUn1 lo))) <|
    pf (DLe.r (D.int IntKind.u64 (Int.ofNat (0 : Nat)))) <|
    pf (DLe.r (D.int IntKind.u64 ↑(dQ1 hi lo p))) <|
    pf (DLe.r (D.int IntKind.u64 ↑(dUn21 hi lo p))) <|
    pf (uLe (q_w _ (p * 256) (un21_ltB hi lo p (by omega) hp))) <|
    pf (uLe (r_w _ (p * 256) (un21_ltB hi lo p (by omega) hp))) <|
    pf (q_small _ p (un21_lt hi lo p (by omega))) <|
    pf (q_small _ p (un21_lt hi lo p (by omega))) <|
    pf (q_small _ p (un21_lt hi lo p (by omega))) <|
    pf (q_small _ p (un21_lt hi lo p (by omega))) <|
    pf (q_small _ p (un21_lt hi lo p (by omega))) <|
    pf (q_small _ p (un21_lt hi lo p (by omega))) <|
    pf (q_small _ p (un21_lt hi lo p (by omega))) <|
    pf (q_small _ p (un21_lt hi lo p (by omega))) <|
    pf (q_small _ p (un21_lt hi lo p (by omega))) <|
    pf (q_zero (dQ0 hi lo p) _ (wrap_nonneg (IntKind.u64.wrap ((4294967296 : Int) * (dR0 hi lo p : Int)) + ((0 : Nat) : Int)))) <|
    pf (by decide : Int.ofNat (0 : Nat) ≤ Int.ofNat (40 : Nat)) <|
    pf (uLe (quo_w hi lo p hhi hlo)) <|
    pf (uLe (rem_w hi lo p (by omega) hp)) <|
    pz) (by kernel_rfl)

def dQ (hi lo p : Nat) : Nat := if hi = 0 then lo / p else dQ1 hi lo p * 4294967296 + dQ0 hi lo p

theorem div_ok (hi lo p : Nat) (hhi : hi < p) (hlo : lo < B) (hp : p < 16777216) (hlz : FnOk PP n_bits_LeadingZeros64 [vu p] [] (.ret (vi 40)) []) :
    FnOk PP n_bits_Div64 [vu hi, vu lo, vu p] [] (.ret (.tup [vu (dQ hi lo p), vu ((hi * B + lo) % p)])) [] := by
  unfold dQ
  by_cases h : hi = 0
  · subst h
    rw [if_pos rfl, Nat.zero_mul, Nat.zero_add]
    exact div_0 lo p hhi hlo
  · rw [if_neg h]
    exact div_1 hi lo p (by omega) hhi hlo hp hlz

end Go.Sg
